/- Regions whose order is drawn (1): what one operation hangs on. -/
import Derived.Test.YtcaaljlhljemoaaGreatMO
namespace Go.Mini
universe u
section
variable {α β γ δ:Type}
theorem z39 (a:α) (k:α→M β):bd (ret a) k=k a:=rfl
theorem z3e (k:α→M β):bd fail k=fail:=rfl
theorem bd_bd (m:M α) (f:α→M β) (k:β→M γ):bd (bd m f) k=bd m fun a=>bd (f a) k:=by
 funext h
 simp only [bd]
 cases m h with
 | none=>rfl
 | some r=>rfl
theorem bd_ite (c:Prop) [Decidable c] (a b:M α) (k:α→M β):bd (if c then a else b) k=if c then bd a k else bd b k:=by
 split<;>rfl
theorem bd_okOf {ε:Type u} (x:Option ε) (f:ε→M α) (k:α→M β):bd (okOf x f) k=okOf x fun v=>bd (f v) k:=by cases x<;>rfl
theorem zee (x:Option MV) (f:IntKind→Int→M α) (k:α→M β):bd (wInt x f) k=wInt x fun a b=>bd (f a b) k:=by
 unfold wInt;split<;>rfl
theorem zkc (x:Option MV) (f:List UInt8→M α) (k:α→M β):bd (wStr x f) k=wStr x fun a=>bd (f a) k:=by
 unfold wStr;split<;>rfl
theorem zne (x:Option MV) (f:Option MA→Nat→Nat→M α) (k:α→M β):bd (wSl x f) k=wSl x fun a b c=>bd (f a b c) k:=by
 unfold wSl;split<;>rfl
theorem zkd (x:Option MV) (f:List MV→M α) (k:α→M β):bd (wTup x f) k=wTup x fun a=>bd (f a) k:=by
 unfold wTup;split<;>rfl
theorem z3f (x:Option MV) (f:List MV→M α) (k:α→M β):bd (wAgg x f) k=wAgg x fun a=>bd (f a) k:=by
 unfold wAgg;split<;>rfl
theorem zke (x:Option MV) (f:Option Nat→M α) (k:α→M β):bd (wMap x f) k=wMap x fun a=>bd (f a) k:=by
 unfold wMap;split<;>rfl
theorem zkf (x:Option MV) (f:Option MA→M α) (k:α→M β):bd (wPtr x f) k=wPtr x fun a=>bd (f a) k:=by
 unfold wPtr;split<;>rfl
theorem znf (x:Option MV) (f:FuncId→List MV→M α) (k:α→M β):bd (wFn x f) k=wFn x fun a b=>bd (f a b) k:=by
 unfold wFn;split<;>rfl
theorem z9s (x:Option FV) (f:Option MA→M α) (g:Nat→Nat→M α) (k:α→M β):bd (wPlace x f g) k=wPlace x (fun a=>bd (f a) k) fun a b=>bd (g a b) k:=by
 unfold wPlace;split<;>rfl
theorem zh0 (b:Bool) (m:M α) (k:α→M β):bd (wIf b m) k=wIf b (bd m k):=by
 unfold wIf;split<;>rfl
theorem zh1 (x:Option FV) (f:FV→M α) (k:α→M β):bd (wLive x f) k=wLive x fun a=>bd (f a) k:=by
 unfold wLive;split<;>rfl
theorem zh2 (fr:Fr) (x:Option Opd) (e:Int) (f:Int→M α) (k:α→M β):bd (intOf fr x e f) k=intOf fr x e fun a=>bd (f a) k:=by
 unfold intOf;split
 ·rfl
 ·rw [zee]
theorem zqu (p q:Option MA) (f:Bool→M α) (k:α→M β):bd (evPtr p q f) k=evPtr p q fun a=>bd (f a) k:=by
 unfold evPtr;split
 ·rfl
 ·rw [bd_bd]
theorem zkg (op:UnOp) (x:MV) (f:MV→M α) (k:α→M β):bd (evUn op x f) k=evUn op x fun a=>bd (f a) k:=by
 unfold evUn;split<;>rfl
theorem zh3 (op:BinOp) (x y:MV) (f:MV→M α) (k:α→M β):bd (evBin op x y f) k=evBin op x y fun a=>bd (f a) k:=by
 unfold evBin
 split
 ·rw [bd_ite,z3e]
 ·rw [bd_ite,z3e]
 ·rw [bd_ite,z3e]
  congr 1
  split<;>first | rfl | (rw [bd_ite,z3e])
 all_goals first | rfl | (rw [zqu])
theorem zh4 (pv:PV) (t:Ty) (o:Nat) (f:MV→M α) (k:α→M β):bd (pload pv t o f) k=pload pv t o fun a=>bd (f a) k:=by
 unfold pload
 split<;>simp only [bd_okOf,bd_ite,z3e,bd_bd]
theorem z4z (pv:PV) (n:Option Nat) (o:Nat) (x:MV) (f:PV→M α) (k:α→M β):bd (pstore pv n o x f) k=pstore pv n o x fun a=>bd (f a) k:=by
 unfold pstore
 split<;>simp only [bd_okOf,bd_ite,z3e,bd_bd]
theorem zng (e:Entry) (vs:List MV) (f:MV→M α) (k:α→M β):bd (e.run vs f) k=e.run vs fun a=>bd (f a) k:=by
 unfold Entry.run
 split
 ·rw [bd_bd]
 ·rfl
theorem zkh (e:Entry) (vs:List MV) (f:MV→M α) (k:α→M β):bd (e.runz vs f) k=e.runz vs fun a=>bd (f a) k:=by
 unfold Entry.runz
 split
 ·rw [bd_bd]
 ·rfl
variable {C:List (Nat×Entry)}
theorem znh (x:Ins) (fr:Fr) (k:Fr→M β):evIns C x fr k=bd (evIns C x fr ret) k:=by
 cases x with
 | box d a x=>cases a<;>simp only [evIns,bd_okOf,z3f,bd_bd,z39]
 | boxA d b a x=>cases a<;>simp only [evIns,bd_okOf,z3f,bd_bd,z39]
 | pbox d n x=>
  match n with
  | 0=>simp only [evIns,bd_okOf,bd_ite,z3e,z39]
  | 1=>simp only [evIns,z3f,z39]
  | n+2=>simp only [evIns,z3f,z39]
 | fldV d off t x=>cases t<;>simp only [evIns,bd_okOf,z3f,bd_ite,z39,z3e]
 | store n p x=>cases n<;>simp only [evIns,z9s,bd_okOf,z3f,zh0,bd_bd,z4z,z39]
 | _=>simp only [evIns,bd_okOf,zee,zkc,zne,zkd,z3f,zke,zkf,znf,z9s,zh0,zh1,zh2,zkg,zh3,zh4,z4z,zng,zkh,bd_ite,z3e,bd_bd,z39]
theorem zj0 {x:Ins} {fr:Fr} {k:Fr→M β} {h:Hp} {res:β×Hp} (e:evIns C x fr k h=some res):∃fr' h',evIns C x fr ret h=some (fr',h')∧k fr' h'=some res:=by
 rw [znh] at e
 exact z0d e
def Up (A B:Fr) (l:List Opd):Prop:=∀o∈l,∀v,o.val A=some v→v=.gone∨o.val B=some v
def Psub (p q:List (Nat×PV×Bool)):Prop:=∀n pv b,look p n=some (pv,b)→∃b',look q n=some (pv,b')∧(b=true→b'=true)
theorem Psub.refl (p:List (Nat×PV×Bool)):Psub p p:=fun _ _ b h=>⟨b,h,id⟩
theorem Psub.trans {p q r:List (Nat×PV×Bool)} (h:Psub p q) (k:Psub q r):Psub p r:=fun n pv b e=>by
 obtain ⟨b1,e1,f1⟩:=h n pv b e
 obtain ⟨b2,e2,f2⟩:=k n pv b1 e1
 exact ⟨b2,e2,fun hb=>f2 (f1 hb)⟩
section
variable {A B:Fr} {l:List Opd} {h:Hp} {res:β×Hp}
theorem Up.mv (up:Up A B l) {o:Opd} (ho:o∈l) {v:MV} (hv:o.mv A=some v):o.mv B=some v:=by
 unfold Opd.mv at hv ⊢
 split at hv
 ·rename_i v' hl
  cases hv
  rcases up o ho _ hl with h | h
  ·cases h
  ·rw [h]
 ·cases hv
theorem Up.vals (up:Up A B l):∀ {xs:List Opd},(∀o∈xs,o∈l)→∀ {vs:List MV},valsOf A xs=some vs→valsOf B xs=some vs
 | [],_,vs,e=>e
 | x::r,hm,vs,e=>by
  simp only [valsOf] at e ⊢
  split at e
  ·rename_i v ws h1 h2
   cases e
   rw [up.mv (hm x (by simp)) h1,Up.vals up (fun o ho=>hm o (by simp [ho])) h2]
  ·cases e
theorem Up.parts (up:Up A B l):∀ {xs:List (Nat×Option Nat×Opd)},(∀o∈xs,o.2.2∈l)→∀ {vs:List (Nat×Option Nat×MV)},partsOf A xs=some vs→partsOf B xs=some vs
 | [],_,vs,e=>e
 | (o,n,x)::r,hm,vs,e=>by
  simp only [partsOf] at e ⊢
  split at e
  ·rename_i v ws h1 h2
   cases e
   rw [up.mv (hm (o,n,x) (by simp)) h1,Up.parts up (fun o ho=>hm o (by simp [ho])) h2]
  ·cases e
theorem m_mv {f f':MV→M β} {o:Opd} (e:okOf (o.mv A) f h=some res) (up:Up A B l) (ho:o∈l) (hf:∀v,f v h=some res→f' v h=some res):okOf (o.mv B) f' h=some res:=by
 obtain ⟨v,hv,e⟩:=z0f e
 rw [up.mv ho hv]
 exact hf v e
theorem z9t {f f':List MV→M β} {xs:List Opd} (e:okOf (valsOf A xs) f h=some res) (up:Up A B l) (ho:∀o∈xs,o∈l) (hf:∀v,f v h=some res→f' v h=some res):okOf (valsOf B xs) f' h=some res:=by
 obtain ⟨v,hv,e⟩:=z0f e
 rw [up.vals ho hv]
 exact hf v e
theorem zef {f f':List (Nat×Option Nat×MV)→M β} {xs:List (Nat×Option Nat×Opd)} (e:okOf (partsOf A xs) f h=some res) (up:Up A B l) (ho:∀o∈xs,o.2.2∈l) (hf:∀v,f v h=some res→f' v h=some res):okOf (partsOf B xs) f' h=some res:=by
 obtain ⟨v,hv,e⟩:=z0f e
 rw [up.parts ho hv]
 exact hf v e
theorem zct {f f':IntKind→Int→M β} {o:Opd} (e:wInt (o.mv A) f h=some res) (up:Up A B l) (ho:o∈l) (hf:∀a b,f a b h=some res→f' a b h=some res):wInt (o.mv B) f' h=some res:=by
 obtain ⟨a,b,hv,e⟩:=z1m e
 rw [up.mv ho hv]
 exact hf a b e
theorem zni {f f':List UInt8→M β} {o:Opd} (e:wStr (o.mv A) f h=some res) (up:Up A B l) (ho:o∈l) (hf:∀a,f a h=some res→f' a h=some res):wStr (o.mv B) f' h=some res:=by
 obtain ⟨a,hv,e⟩:=z2c e
 rw [up.mv ho hv]
 exact hf a e
theorem zsd {f f':Option MA→Nat→Nat→M β} {o:Opd} (e:wSl (o.mv A) f h=some res) (up:Up A B l) (ho:o∈l) (hf:∀a b c,f a b c h=some res→f' a b c h=some res):wSl (o.mv B) f' h=some res:=by
 obtain ⟨a,b,c,hv,e⟩:=z17 e
 rw [up.mv ho hv]
 exact hf a b c e
theorem zus {f f':List MV→M β} {o:Opd} (e:wTup (o.mv A) f h=some res) (up:Up A B l) (ho:o∈l) (hf:∀a,f a h=some res→f' a h=some res):wTup (o.mv B) f' h=some res:=by
 obtain ⟨a,hv,e⟩:=zf4 e
 rw [up.mv ho hv]
 exact hf a e
theorem zcu {f f':List MV→M β} {o:Opd} (e:wAgg (o.mv A) f h=some res) (up:Up A B l) (ho:o∈l) (hf:∀a,f a h=some res→f' a h=some res):wAgg (o.mv B) f' h=some res:=by
 obtain ⟨a,hv,e⟩:=z1g e
 rw [up.mv ho hv]
 exact hf a e
theorem zut {f f':Option Nat→M β} {o:Opd} (e:wMap (o.mv A) f h=some res) (up:Up A B l) (ho:o∈l) (hf:∀a,f a h=some res→f' a h=some res):wMap (o.mv B) f' h=some res:=by
 obtain ⟨a,hv,e⟩:=z1n e
 rw [up.mv ho hv]
 exact hf a e
theorem znj {f f':Option MA→M β} {o:Opd} (e:wPtr (o.mv A) f h=some res) (up:Up A B l) (ho:o∈l) (hf:∀a,f a h=some res→f' a h=some res):wPtr (o.mv B) f' h=some res:=by
 obtain ⟨a,hv,e⟩:=zf5 e
 rw [up.mv ho hv]
 exact hf a e
theorem zla {f f':FuncId→List MV→M β} {o:Opd} (e:wFn (o.mv A) f h=some res) (up:Up A B l) (ho:o∈l) (hf:∀a b,f a b h=some res→f' a b h=some res):wFn (o.mv B) f' h=some res:=by
 obtain ⟨a,b,hv,e⟩:=z8m e
 rw [up.mv ho hv]
 exact hf a b e
theorem zh5 {f f':Option MA→M β} {g g':Nat→Nat→M β} {o:Opd} (e:wPlace (o.val A) f g h=some res) (up:Up A B l) (ho:o∈l) (hf:∀a,f a h=some res→f' a h=some res) (hg:∀a b,g a b h=some res→g' a b h=some res):wPlace (o.val B) f' g' h=some res:=by
 rcases z1k e with ⟨q,hv,e⟩ | ⟨n,p,hv,e⟩
 ·rcases up o ho _ hv with hh | hh
  ·cases hh
  ·rw [hh];exact hf q e
 ·rcases up o ho _ hv with hh | hh
  ·cases hh
  ·rw [hh];exact hg n p e
theorem zt9 {f f':FV→M β} {o:Opd} (e:wLive (o.val A) f h=some res) (up:Up A B l) (ho:o∈l) (hf:∀a,f a h=some res→f' a h=some res):wLive (o.val B) f' h=some res:=by
 cases hv:o.val A with
 | none=>rw [hv] at e;cases e
 | some v=>
  rw [hv] at e
  have key:v≠.gone∧f v h=some res:=by cases v<;>first | exact ⟨by simp,e⟩ | cases e
  rw [(up o ho _ hv).resolve_left key.1]
  cases v with
  | gone=>exact absurd rfl key.1
  | _=>exact hf _ key.2
theorem z6z {f f':Int→M β} {x:Option Opd} {els:Int} (e:intOf A x els f h=some res) (up:Up A B l) (ho:∀o∈x.toList,o∈l) (hf:∀a,f a h=some res→f' a h=some res):intOf B x els f' h=some res:=by
 cases x with
 | none=>exact hf _ e
 | some o=>exact zct (l:=l) e up (ho o (by simp)) fun _ b e=>hf b e
theorem zvg {b:Bool} {m m':M β} (e:wIf b m h=some res) (hf:m h=some res→m' h=some res):wIf b m' h=some res:=by
 obtain ⟨rfl,e⟩:=z1h e
 exact hf e
def Psee (A B:Fr) (x:Ins):Prop:=∀p,x.pl=some p→∀s o,p.val A=some (.loc s o)→∀pv b,look A.p s=some (pv,b)→∃b',look B.p s=some (pv,b')∧(b=true→b'=true)
theorem zuu {f f':PV×Bool→M β} {n:Nat} (e:okOf (look A.p n) f h=some res) (ps:∀pv b,look A.p n=some (pv,b)→∃b',look B.p n=some (pv,b')∧(b=true→b'=true)) (hf:∀pv b b',(b=true→b'=true)→f (pv,b) h=some res→f' (pv,b') h=some res):okOf (look B.p n) f' h=some res:=by
 obtain ⟨⟨pv,b⟩,hv,e⟩:=z0f e
 obtain ⟨b',h1,h2⟩:=ps pv b hv
 rw [h1]
 exact hf pv b b' h2 e
theorem m_if {c:Prop} [Decidable c] {m m' n:M β} (e:(if c then m else n) h=some res) (hn:n=fail) (hf:m h=some res→m' h=some res):(if c then m' else n) h=some res:=by
 split at e
 ·rw [if_pos (by assumption)];exact hf e
 ·rw [hn] at e;cases e
end
def tp:Fr→M FV:=fun fr=>match fr.v with
 | (_,x)::_=>ret x
 | []=>fail
theorem z0v (fr:Fr) (d:Nat) (v:MV):tp (fr.set d v)=ret (.v v):=rfl
theorem zau (fr:Fr) (d:Nat) (v:FV):tp (fr.setF d v)=ret v:=rfl
theorem z80 (fr:Fr) (d a b:Nat):tp (fr.setL d a b)=ret (.loc a b):=rfl
theorem zcv (fr:Fr) (d:Nat) (v:MV):fr.setF d (.v v)=fr.set d v:=rfl
theorem zqv (fr:Fr) (d a b:Nat):fr.setF d (.loc a b)=fr.setL d a b:=rfl
def Ins.val:Ins→Option Nat
 | .palloc _ _ | .pbox _ _ _=>none
 | x=>match x.dst with
  | [d]=>some d
  | _=>none
theorem z6f {x:Ins} {d:Nat} (hd:x.val=some d) (fr:Fr) (k:Fr→M β):evIns C x fr k=bd (evIns C x fr tp) fun V=>k (fr.setF d V):=by
 cases x with
 | palloc d pv=>cases hd
 | pbox d n x=>cases hd
 | store n p x=>cases hd
 | mapPut kt m k x=>cases hd
 | mapDel kt m k=>cases hd
 | mapClr m=>cases hd
 | slClr e z x=>cases hd
 | box d' a x=>
  obtain rfl:d'=d:=by simpa [Ins.val,Ins.dst] using hd
  cases a<;>simp only [evIns,bd_okOf,z3f,bd_bd,z39,z0v,zcv]
 | boxA d' b a x=>
  obtain rfl:d'=d:=by simpa [Ins.val,Ins.dst] using hd
  cases a<;>simp only [evIns,bd_okOf,z3f,bd_bd,z39,z0v,zcv]
 | fldV d' off t x=>
  obtain rfl:d'=d:=by simpa [Ins.val,Ins.dst] using hd
  cases t<;>simp only [evIns,bd_okOf,z3f,bd_ite,z39,z3e,z0v,zcv]
 | _=>
  cases hd
  simp only [evIns,bd_okOf,zee,zkc,zne,zkd,z3f,zke,zkf,znf,z9s,zh0,zh1,zh2,zkg,zh3,zh4,z4z,zng,zkh,bd_ite,z3e,bd_bd,z39,z0v,zau,z80,zcv,zqv]
theorem z8l {x:Ins} {d:Nat} (hd:x.val=some d) (hc:x.cls<5) {A B:Fr} (up:Up A B x.opds) (ps:x.cls=1→Psee A B x) {h:Hp} {res:FV×Hp} (e:evIns C x A tp h=some res):evIns C x B tp h=some res:=by
 cases x with
 | palloc d pv=>cases hd
 | pbox d n x=>cases hd
 | store n p x=>cases hd
 | mapPut kt m k x=>cases hd
 | mapDel kt m k=>cases hd
 | mapClr m=>cases hd
 | slClr e z x=>cases hd
 | mv d x=>simp [Ins.cls] at hc
 | alloc d z=>exact e
 | mkMap d=>exact e
 | box d' a x=>cases a<;>simp only [evIns,z0v,Ins.opds] at e up ⊢ <;> first | exact m_mv e up (by simp) fun v e=>e | exact zcu e up (by simp) fun v e=>e
 | allocA d b z=>exact e
 | mkMapA d b=>exact e
 | boxA d' b a x=>cases a<;>simp only [evIns,z0v,Ins.opds] at e up ⊢ <;> first | exact m_mv e up (by simp) fun v e=>e | exact zcu e up (by simp) fun v e=>e
 | bsliceA d a b c z parts=>
  simp only [evIns,z0v,Ins.opds] at e up ⊢
  exact zef e up (by intro o ho;exact List.mem_map_of_mem ho) fun v e=>e
 | fldV d' off t x=>cases t<;>simp only [evIns,z0v,Ins.opds] at e up ⊢ <;> first | exact e | exact zcu e up (by simp) fun v e=>e
 | load d t p=>
  simp only [evIns,z0v,Ins.opds] at e up ⊢
  rcases z1k e with ⟨q,hv,e1⟩ | ⟨s,o,hv,e1⟩
  ·rcases up p (by simp) _ hv with c | c
   ·cases c
   ·rw [c];exact e1
  ·rcases up p (by simp) _ hv with c | c
   ·cases c
   ·rw [c]
    exact zuu e1 (ps rfl p rfl s o hv) fun _ _ _ _ e=>e
 | build d z parts=>
  simp only [evIns,z0v,Ins.opds] at e up ⊢
  exact zef e up (by intro o ho;exact List.mem_map_of_mem ho) fun v e=>e
 | bslice d a b z parts=>
  simp only [evIns,z0v,Ins.opds] at e up ⊢
  exact zef e up (by intro o ho;exact List.mem_map_of_mem ho) fun v e=>e
 | slc d a s lo hi=>
  simp only [evIns,z0v,Ins.opds] at e up ⊢
  exact zsd e up (by simp) fun _ _ _ e=>m_if e rfl fun e=>z6z e up (by intro o ho;simp [ho]) fun _ e=>z6z e up (by intro o ho;simp [ho]) fun _ e=>e
 | slcS d s lo hi=>
  simp only [evIns,z0v,Ins.opds] at e up ⊢
  exact zni e up (by simp) fun _ e=>z6z e up (by intro o ho;simp [ho]) fun _ e=>z6z e up (by intro o ho;simp [ho]) fun _ e=>e
 | slcA d n a s lo hi=>
  simp only [evIns,z0v,Ins.opds] at e up ⊢
  exact znj e up (by simp) fun _ e=>z6z e up (by intro o ho;simp [ho]) fun _ e=>z6z e up (by intro o ho;simp [ho]) fun _ e=>e
 | call d f args=>
  simp only [evIns,z0v,Ins.opds] at e up ⊢
  exact z9t e up (fun _ ho=>ho) fun _ e=>e
 | callz d f args=>
  simp only [evIns,z0v,Ins.opds] at e up ⊢
  exact z9t e up (fun _ ho=>ho) fun _ e=>e
 | mkFn d f args=>
  simp only [evIns,z0v,Ins.opds] at e up ⊢
  exact z9t e up (fun _ ho=>ho) fun _ e=>e
 | callv d f args=>
  simp only [evIns,z0v,Ins.opds] at e up ⊢
  exact zla e up (by simp) fun _ _ e=>z9t e up (fun _ ho=>by simp [ho]) fun _ e=>e
 | callvz d f args=>
  simp only [evIns,z0v,Ins.opds] at e up ⊢
  exact zla e up (by simp) fun _ _ e=>z9t e up (fun _ ho=>by simp [ho]) fun _ e=>e
 | idxA d n a p i=>
  simp only [evIns,z0v,z80,Ins.opds] at e up ⊢
  exact zh5 e up (by simp) (fun _ e=>zct e up (by simp) fun _ _ e=>e) fun _ _ e=>zct e up (by simp) fun _ _ e=>e
 | _=>
  simp only [evIns,z0v,zau,z80,Ins.opds] at e up ⊢
  repeat (first
   | exact e
   | refine m_mv e up (by simp) fun v e=>?_
   | refine zct e up (by simp) fun _ v e=>?_
   | refine zni e up (by simp) fun v e=>?_
   | refine zsd e up (by simp) fun v _ _ e=>?_
   | refine zus e up (by simp) fun v e=>?_
   | refine zcu e up (by simp) fun v e=>?_
   | refine zut e up (by simp) fun v e=>?_
   | refine znj e up (by simp) fun v e=>?_
   | refine zla e up (by simp) fun v _ e=>?_
   | refine zt9 e up (by simp) fun v e=>?_
   | refine zh5 e up (by simp) (fun _ e=>e) (fun _ _ e=>e)
   | refine zvg e fun e=>?_)
end
end Go.Mini
