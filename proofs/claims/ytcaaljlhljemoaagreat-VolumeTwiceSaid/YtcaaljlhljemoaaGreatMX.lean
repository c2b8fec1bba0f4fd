/- Regions whose order is drawn (1): what one operation hangs on. -/
import Derived.Test.YtcaaljlhljemoaaGreatMO
namespace Go.Mini
universe u
section
variable{α β γ δ:Type}
theorem z65(a:α)(k:α→M β):bd (ret a) k=k a:=rfl
theorem z6k(k:α→M β):bd z0d k=z0d:=rfl
theorem bd_bd(m:M α)(f:α→M β)(k:β→M γ):bd (bd m f) k=bd m fun a=>bd (f a) k:=by
 funext h;simp only[bd];cases m h with
 | none=>rfl
 | some r=>rfl
theorem z7t(c:Prop)[Decidable c](a b:M α)(k:α→M β):bd (if c then a else b) k=if c then bd a k else bd b k:=by
 split<;>rfl
theorem z62{ε:Type u}(x:Option ε)(f:ε→M α)(k:α→M β):bd (z19 x f) k=z19 x fun v=>bd (f v) k:=by cases x<;>rfl
theorem zln(x:Option MV)(f:IntKind→Int→M α)(k:α→M β):bd (z3l x f) k=z3l x fun a b=>bd (f a b) k:=by
 unfold z3l;split<;>rfl
theorem zsb(x:Option MV)(f:List UInt8→M α)(k:α→M β):bd (z52 x f) k=z52 x fun a=>bd (f a) k:=by
 unfold z52;split<;>rfl
theorem zvp(x:Option MV)(f:Option MA→Nat→Nat→M α)(k:α→M β):bd (wSl x f) k=wSl x fun a b c=>bd (f a b c) k:=by
 unfold wSl;split<;>rfl
theorem zsc(x:Option MV)(f:List MV→M α)(k:α→M β):bd (zag x f) k=zag x fun a=>bd (f a) k:=by
 unfold zag;split<;>rfl
theorem z6l(x:Option MV)(f:List MV→M α)(k:α→M β):bd (z4h x f) k=z4h x fun a=>bd (f a) k:=by
 unfold z4h;split<;>rfl
theorem zsd(x:Option MV)(f:Option Nat→M α)(k:α→M β):bd (z78 x f) k=z78 x fun a=>bd (f a) k:=by
 unfold z78;split<;>rfl
theorem zse(x:Option MV)(f:Option MA→M α)(k:α→M β):bd (zbw x f) k=zbw x fun a=>bd (f a) k:=by
 unfold zbw;split<;>rfl
theorem zvq(x:Option MV)(f:FuncId→List MV→M α)(k:α→M β):bd (wFn x f) k=wFn x fun a b=>bd (f a b) k:=by
 unfold wFn;split<;>rfl
theorem zg8(x:Option FV)(f:Option MA→M α)(g:Nat→Nat→M α)(k:α→M β):bd (z3e x f g) k=z3e x (fun a=>bd (f a) k) fun a b=>bd (g a b) k:=by
 unfold z3e;split<;>rfl
theorem zoh(b:Bool)(m:M α)(k:α→M β):bd (wIf b m) k=wIf b (bd m k):=by
 unfold wIf;split<;>rfl
theorem zoi(x:Option FV)(f:FV→M α)(k:α→M β):bd (z8y x f) k=z8y x fun a=>bd (f a) k:=by
 unfold z8y;split<;>rfl
theorem zoj(fr:Fr)(x:Option Opd)(e:Int)(f:Int→M α)(k:α→M β):bd (intOf fr x e f) k=intOf fr x e fun a=>bd (f a) k:=by
 unfold intOf;split
 ·rfl
 ·rw[zln]
theorem zzc(p q:Option MA)(f:Bool→M α)(k:α→M β):bd (z9x p q f) k=z9x p q fun a=>bd (f a) k:=by
 unfold z9x;split
 ·rfl
 ·rw[bd_bd]
theorem zsf(op:UnOp)(x:MV)(f:MV→M α)(k:α→M β):bd (zcj op x f) k=zcj op x fun a=>bd (f a) k:=by
 unfold zcj;split<;>rfl
theorem zok(op:BinOp)(x y:MV)(f:MV→M α)(k:α→M β):bd (z77 op x y f) k=z77 op x y fun a=>bd (f a) k:=by
 unfold z77;split
 ·rw[z7t,z6k]
 ·rw[z7t,z6k]
 ·rw[z7t,z6k];congr 1;split<;>first | rfl | (rw[z7t,z6k])
 all_goals first | rfl | (rw[zzc])
theorem zol(pv:PV)(t:Ty)(o:Nat)(f:MV→M α)(k:α→M β):bd (z6g pv t o f) k=z6g pv t o fun a=>bd (f a) k:=by
 unfold z6g;split<;>simp only[z62,z7t,z6k,bd_bd]
theorem z99(pv:PV)(n:Option Nat)(o:Nat)(x:MV)(f:PV→M α)(k:α→M β):bd (z5r pv n o x f) k=z5r pv n o x fun a=>bd (f a) k:=by
 unfold z5r;split<;>simp only[z62,z7t,z6k,bd_bd]
theorem zvr(e:Entry)(vs:List MV)(f:MV→M α)(k:α→M β):bd (e.run vs f) k=e.run vs fun a=>bd (f a) k:=by
 unfold Entry.run;split
 ·rw[bd_bd]
 ·rfl
theorem zsg(e:Entry)(vs:List MV)(f:MV→M α)(k:α→M β):bd (e.runz vs f) k=e.runz vs fun a=>bd (f a) k:=by
 unfold Entry.runz;split
 ·rw[bd_bd]
 ·rfl
variable{C:List (Nat×Entry)}
theorem zvs(x:Ins)(fr:Fr)(k:Fr→M β):z0a C x fr k=bd (z0a C x fr ret) k:=by
 cases x with
 | box d a x=>cases a<;>simp only[z0a,z62,z6l,bd_bd,z65]
 | boxA d b a x=>cases a<;>simp only[z0a,z62,z6l,bd_bd,z65]
 | pbox d n x=>
  match n with
  | 0=>simp only[z0a,z62,z7t,z6k,z65]
  | 1=>simp only[z0a,z6l,z65]
  | n+2=>simp only[z0a,z6l,z65]
 | fldV d off t x=>cases t<;>simp only[z0a,z62,z6l,z7t,z65,z6k]
 | store n p x=>cases n<;>simp only[z0a,zg8,z62,z6l,zoh,bd_bd,z99,z65]
 | _=>simp only[z0a,z62,zln,zsb,zvp,zsc,z6l,zsd,zse,zvq,zg8,zoh,zoi,zoj,zsf,zok,zol,z99,zvr,zsg,z7t,z6k,bd_bd,z65]
theorem zr5{x:Ins}{fr:Fr}{k:Fr→M β}{h:Hp}{res:β×Hp}(e:z0a C x fr k h=some res):∃fr' h',z0a C x fr ret h=some (fr',h')∧k fr' h'=some res:=by
 rw[zvs]at e;exact z0f e
def Up(A B:Fr)(l:List Opd):Prop:=∀o∈l,∀v,o.val A=some v→v=.gone∨o.val B=some v
def zac(p q:List (Nat×PV×Bool)):Prop:=∀n pv b,z0g p n=some (pv,b)→∃b',z0g q n=some (pv,b')∧(b=true→b'=true)
theorem zac.refl(p:List (Nat×PV×Bool)):zac p p:=fun _ _ b h=>⟨b,h,id⟩
theorem zac.trans{p q r:List (Nat×PV×Bool)}(h:zac p q)(k:zac q r):zac p r:=fun n pv b e=>by
 obtain⟨b1,e1,f1⟩:=h n pv b e;obtain⟨b2,e2,f2⟩:=k n pv b1 e1;exact⟨b2,e2,fun hb=>f2 (f1 hb)⟩
section
variable{A B:Fr}{l:List Opd}{h:Hp}{res:β×Hp}
theorem Up.mv(up:Up A B l){o:Opd}(ho:o∈l){v:MV}(hv:o.mv A=some v):o.mv B=some v:=by
 unfold Opd.mv at hv ⊢;split at hv
 ·rename_i v' hl;cases hv;rcases up o ho _ hl with h | h
  ·cases h
  ·rw[h]
 ·cases hv
theorem Up.vals(up:Up A B l):∀{xs:List Opd},(∀o∈xs,o∈l)→∀{vs:List MV},z6p A xs=some vs→z6p B xs=some vs
 | [],_,vs,e=>e
 | x::r,hm,vs,e=>by
  simp only[z6p]at e ⊢;split at e
  ·rename_i v ws h1 h2;cases e;rw[up.mv (hm x (by simp)) h1,Up.vals up (fun o ho=>hm o (by simp[ho])) h2]
  ·cases e
theorem Up.parts(up:Up A B l):∀{xs:List (Nat×Option Nat×Opd)},(∀o∈xs,o.2.2∈l)→∀{vs:List (Nat×Option Nat×MV)},z4s A xs=some vs→z4s B xs=some vs
 | [],_,vs,e=>e
 | (o,n,x)::r,hm,vs,e=>by
  simp only[z4s]at e ⊢;split at e
  ·rename_i v ws h1 h2;cases e;rw[up.mv (hm (o,n,x) (by simp)) h1,Up.parts up (fun o ho=>hm o (by simp[ho])) h2]
  ·cases e
theorem zzd{f f':MV→M β}{o:Opd}(e:z19 (o.mv A) f h=some res)(up:Up A B l)(ho:o∈l)(hf:∀v,f v h=some res→f' v h=some res):z19 (o.mv B) f' h=some res:=by
 obtain⟨v,hv,e⟩:=z0j e;rw[up.mv ho hv];exact hf v e
theorem zg9{f f':List MV→M β}{xs:List Opd}(e:z19 (z6p A xs) f h=some res)(up:Up A B l)(ho:∀o∈xs,o∈l)(hf:∀v,f v h=some res→f' v h=some res):z19 (z6p B xs) f' h=some res:=by
 obtain⟨v,hv,e⟩:=z0j e;rw[up.vals ho hv];exact hf v e
theorem zlo{f f':List (Nat×Option Nat×MV)→M β}{xs:List (Nat×Option Nat×Opd)}(e:z19 (z4s A xs) f h=some res)(up:Up A B l)(ho:∀o∈xs,o.2.2∈l)(hf:∀v,f v h=some res→f' v h=some res):z19 (z4s B xs) f' h=some res:=by
 obtain⟨v,hv,e⟩:=z0j e;rw[up.parts ho hv];exact hf v e
theorem zju{f f':IntKind→Int→M β}{o:Opd}(e:z3l (o.mv A) f h=some res)(up:Up A B l)(ho:o∈l)(hf:∀a b,f a b h=some res→f' a b h=some res):z3l (o.mv B) f' h=some res:=by
 obtain⟨a,b,hv,e⟩:=z2r e;rw[up.mv ho hv];exact hf a b e
theorem zvt{f f':List UInt8→M β}{o:Opd}(e:z52 (o.mv A) f h=some res)(up:Up A B l)(ho:o∈l)(hf:∀a,f a h=some res→f' a h=some res):z52 (o.mv B) f' h=some res:=by
 obtain⟨a,hv,e⟩:=z42 e;rw[up.mv ho hv];exact hf a e
theorem z11e{f f':Option MA→Nat→Nat→M β}{o:Opd}(e:wSl (o.mv A) f h=some res)(up:Up A B l)(ho:o∈l)(hf:∀a b c,f a b c h=some res→f' a b c h=some res):wSl (o.mv B) f' h=some res:=by
 obtain⟨a,b,c,hv,e⟩:=z21 e;rw[up.mv ho hv];exact hf a b c e
theorem z149{f f':List MV→M β}{o:Opd}(e:zag (o.mv A) f h=some res)(up:Up A B l)(ho:o∈l)(hf:∀a,f a h=some res→f' a h=some res):zag (o.mv B) f' h=some res:=by
 obtain⟨a,hv,e⟩:=zmc e;rw[up.mv ho hv];exact hf a e
theorem zjv{f f':List MV→M β}{o:Opd}(e:z4h (o.mv A) f h=some res)(up:Up A B l)(ho:o∈l)(hf:∀a,f a h=some res→f' a h=some res):z4h (o.mv B) f' h=some res:=by
 obtain⟨a,hv,e⟩:=z2k e;rw[up.mv ho hv];exact hf a e
theorem z14a{f f':Option Nat→M β}{o:Opd}(e:z78 (o.mv A) f h=some res)(up:Up A B l)(ho:o∈l)(hf:∀a,f a h=some res→f' a h=some res):z78 (o.mv B) f' h=some res:=by
 obtain⟨a,hv,e⟩:=z2s e;rw[up.mv ho hv];exact hf a e
theorem zvu{f f':Option MA→M β}{o:Opd}(e:zbw (o.mv A) f h=some res)(up:Up A B l)(ho:o∈l)(hf:∀a,f a h=some res→f' a h=some res):zbw (o.mv B) f' h=some res:=by
 obtain⟨a,hv,e⟩:=zmd e;rw[up.mv ho hv];exact hf a e
theorem ztk{f f':FuncId→List MV→M β}{o:Opd}(e:wFn (o.mv A) f h=some res)(up:Up A B l)(ho:o∈l)(hf:∀a b,f a b h=some res→f' a b h=some res):wFn (o.mv B) f' h=some res:=by
 obtain⟨a,b,hv,e⟩:=zel e;rw[up.mv ho hv];exact hf a b e
theorem zom{f f':Option MA→M β}{g g':Nat→Nat→M β}{o:Opd}(e:z3e (o.val A) f g h=some res)(up:Up A B l)(ho:o∈l)(hf:∀a,f a h=some res→f' a h=some res)(hg:∀a b,g a b h=some res→g' a b h=some res):z3e (o.val B) f' g' h=some res:=by
 rcases z2p e with⟨q,hv,e⟩ | ⟨n,p,hv,e⟩
 ·rcases up o ho _ hv with hh | hh
  ·cases hh
  ·rw[hh];exact hf q e
 ·rcases up o ho _ hv with hh | hh
  ·cases hh
  ·rw[hh];exact hg n p e
theorem z127{f f':FV→M β}{o:Opd}(e:z8y (o.val A) f h=some res)(up:Up A B l)(ho:o∈l)(hf:∀a,f a h=some res→f' a h=some res):z8y (o.val B) f' h=some res:=by
 cases hv:o.val A with
 | none=>rw[hv]at e;cases e
 | some v=>
  rw[hv]at e;have key:v≠.gone∧f v h=some res:=by cases v<;>first | exact⟨by simp,e⟩ | cases e
  rw[(up o ho _ hv).resolve_left key.1];cases v with
  | gone=>exact absurd rfl key.1
  | _=>exact hf _ key.2
theorem zc9{f f':Int→M β}{x:Option Opd}{els:Int}(e:intOf A x els f h=some res)(up:Up A B l)(ho:∀o∈x.toList,o∈l)(hf:∀a,f a h=some res→f' a h=some res):intOf B x els f' h=some res:=by
 cases x with
 | none=>exact hf _ e
 | some o=>exact zju (l:=l) e up (ho o (by simp)) fun _ b e=>hf b e
theorem z15d{b:Bool}{m m':M β}(e:wIf b m h=some res)(hf:m h=some res→m' h=some res):wIf b m' h=some res:=by
 obtain⟨rfl,e⟩:=z2l e;exact hf e
def Psee(A B:Fr)(x:Ins):Prop:=∀p,x.pl=some p→∀s o,p.val A=some (.loc s o)→∀pv b,z0g A.p s=some (pv,b)→∃b',z0g B.p s=some (pv,b')∧(b=true→b'=true)
theorem z14b{f f':PV×Bool→M β}{n:Nat}(e:z19 (z0g A.p n) f h=some res)(ps:∀pv b,z0g A.p n=some (pv,b)→∃b',z0g B.p n=some (pv,b')∧(b=true→b'=true))(hf:∀pv b b',(b=true→b'=true)→f (pv,b) h=some res→f' (pv,b') h=some res):z19 (z0g B.p n) f' h=some res:=by
 obtain⟨⟨pv,b⟩,hv,e⟩:=z0j e;obtain⟨b',h1,h2⟩:=ps pv b hv;rw[h1];exact hf pv b b' h2 e
theorem m_if{c:Prop}[Decidable c]{m m' n:M β}(e:(if c then m else n) h=some res)(hn:n=z0d)(hf:m h=some res→m' h=some res):(if c then m' else n) h=some res:=by
 split at e
 ·rw[if_pos (by assumption)];exact hf e
 ·rw[hn]at e;cases e
end
def tp:Fr→M FV:=fun fr=>match fr.v with
 | (_,x)::_=>ret x
 | []=>z0d
theorem z1h(fr:Fr)(d:Nat)(v:MV):tp (fr.set d v)=ret (.v v):=rfl
theorem zhm(fr:Fr)(d:Nat)(v:FV):tp (fr.setF d v)=ret v:=rfl
theorem zdo(fr:Fr)(d a b:Nat):tp (fr.setL d a b)=ret (.loc a b):=rfl
theorem zjw(fr:Fr)(d:Nat)(v:MV):fr.setF d (.v v)=fr.set d v:=rfl
theorem zze(fr:Fr)(d a b:Nat):fr.setF d (.loc a b)=fr.setL d a b:=rfl
def Ins.val:Ins→Option Nat
 | .palloc _ _ | .pbox _ _ _=>none
 | x=>match x.dst with
  | [d]=>some d
  | _=>none
theorem zbd{x:Ins}{d:Nat}(hd:x.val=some d)(fr:Fr)(k:Fr→M β):z0a C x fr k=bd (z0a C x fr tp) fun V=>k (fr.setF d V):=by
 cases x with
 | palloc d pv=>cases hd
 | pbox d n x=>cases hd
 | store n p x=>cases hd
 | mapPut kt m k x=>cases hd
 | mapDel kt m k=>cases hd
 | mapClr m=>cases hd
 | slClr e z x=>cases hd
 | box d' a x=>
  obtain rfl:d'=d:=by simpa[Ins.val,Ins.dst]using hd
  cases a<;>simp only[z0a,z62,z6l,bd_bd,z65,z1h,zjw]
 | boxA d' b a x=>
  obtain rfl:d'=d:=by simpa[Ins.val,Ins.dst]using hd
  cases a<;>simp only[z0a,z62,z6l,bd_bd,z65,z1h,zjw]
 | fldV d' off t x=>
  obtain rfl:d'=d:=by simpa[Ins.val,Ins.dst]using hd
  cases t<;>simp only[z0a,z62,z6l,z7t,z65,z6k,z1h,zjw]
 | _=>
  cases hd;simp only[z0a,z62,zln,zsb,zvp,zsc,z6l,zsd,zse,zvq,zg8,zoh,zoi,zoj,zsf,zok,zol,z99,zvr,zsg,z7t,z6k,bd_bd,z65,z1h,zhm,zdo,zjw,zze]
theorem zek{x:Ins}{d:Nat}(hd:x.val=some d)(hc:x.cls<5){A B:Fr}(up:Up A B x.opds)(ps:x.cls=1→Psee A B x){h:Hp}{res:FV×Hp}(e:z0a C x A tp h=some res):z0a C x B tp h=some res:=by
 cases x with
 | palloc d pv=>cases hd
 | pbox d n x=>cases hd
 | store n p x=>cases hd
 | mapPut kt m k x=>cases hd
 | mapDel kt m k=>cases hd
 | mapClr m=>cases hd
 | slClr e z x=>cases hd
 | mv d x=>simp[Ins.cls]at hc
 | alloc d z=>exact e
 | mkMap d=>exact e
 | box d' a x=>cases a<;>simp only[z0a,z1h,Ins.opds]at e up ⊢ <;> first | exact zzd e up (by simp) fun v e=>e | exact zjv e up (by simp) fun v e=>e
 | allocA d b z=>exact e
 | mkMapA d b=>exact e
 | boxA d' b a x=>cases a<;>simp only[z0a,z1h,Ins.opds]at e up ⊢ <;> first | exact zzd e up (by simp) fun v e=>e | exact zjv e up (by simp) fun v e=>e
 | bsliceA d a b c z parts=>
  simp only[z0a,z1h,Ins.opds]at e up ⊢;exact zlo e up (by intro o ho;exact List.mem_map_of_mem ho) fun v e=>e
 | fldV d' off t x=>cases t<;>simp only[z0a,z1h,Ins.opds]at e up ⊢ <;> first | exact e | exact zjv e up (by simp) fun v e=>e
 | load d t p=>
  simp only[z0a,z1h,Ins.opds]at e up ⊢;rcases z2p e with⟨q,hv,e1⟩ | ⟨s,o,hv,e1⟩
  ·rcases up p (by simp) _ hv with c | c
   ·cases c
   ·rw[c];exact e1
  ·rcases up p (by simp) _ hv with c | c
   ·cases c
   ·rw[c];exact z14b e1 (ps rfl p rfl s o hv) fun _ _ _ _ e=>e
 | build d z parts=>
  simp only[z0a,z1h,Ins.opds]at e up ⊢;exact zlo e up (by intro o ho;exact List.mem_map_of_mem ho) fun v e=>e
 | bslice d a b z parts=>
  simp only[z0a,z1h,Ins.opds]at e up ⊢;exact zlo e up (by intro o ho;exact List.mem_map_of_mem ho) fun v e=>e
 | slc d a s lo hi=>
  simp only[z0a,z1h,Ins.opds]at e up ⊢;exact z11e e up (by simp) fun _ _ _ e=>m_if e rfl fun e=>zc9 e up (by intro o ho;simp[ho]) fun _ e=>zc9 e up (by intro o ho;simp[ho]) fun _ e=>e
 | slcS d s lo hi=>
  simp only[z0a,z1h,Ins.opds]at e up ⊢;exact zvt e up (by simp) fun _ e=>zc9 e up (by intro o ho;simp[ho]) fun _ e=>zc9 e up (by intro o ho;simp[ho]) fun _ e=>e
 | slcA d n a s lo hi=>
  simp only[z0a,z1h,Ins.opds]at e up ⊢;exact zvu e up (by simp) fun _ e=>zc9 e up (by intro o ho;simp[ho]) fun _ e=>zc9 e up (by intro o ho;simp[ho]) fun _ e=>e
 | call d f args=>
  simp only[z0a,z1h,Ins.opds]at e up ⊢;exact zg9 e up (fun _ ho=>ho) fun _ e=>e
 | callz d f args=>
  simp only[z0a,z1h,Ins.opds]at e up ⊢;exact zg9 e up (fun _ ho=>ho) fun _ e=>e
 | mkFn d f args=>
  simp only[z0a,z1h,Ins.opds]at e up ⊢;exact zg9 e up (fun _ ho=>ho) fun _ e=>e
 | callv d f args=>
  simp only[z0a,z1h,Ins.opds]at e up ⊢;exact ztk e up (by simp) fun _ _ e=>zg9 e up (fun _ ho=>by simp[ho]) fun _ e=>e
 | callvz d f args=>
  simp only[z0a,z1h,Ins.opds]at e up ⊢;exact ztk e up (by simp) fun _ _ e=>zg9 e up (fun _ ho=>by simp[ho]) fun _ e=>e
 | idxA d n a p i=>
  simp only[z0a,z1h,zdo,Ins.opds]at e up ⊢;exact zom e up (by simp) (fun _ e=>zju e up (by simp) fun _ _ e=>e) fun _ _ e=>zju e up (by simp) fun _ _ e=>e
 | _=>
  simp only[z0a,z1h,zhm,zdo,Ins.opds]at e up ⊢;repeat (first
   | exact e
   | refine zzd e up (by simp) fun v e=>?_
   | refine zju e up (by simp) fun _ v e=>?_
   | refine zvt e up (by simp) fun v e=>?_
   | refine z11e e up (by simp) fun v _ _ e=>?_
   | refine z149 e up (by simp) fun v e=>?_
   | refine zjv e up (by simp) fun v e=>?_
   | refine z14a e up (by simp) fun v e=>?_
   | refine zvu e up (by simp) fun v e=>?_
   | refine ztk e up (by simp) fun v _ e=>?_
   | refine z127 e up (by simp) fun v e=>?_
   | refine zom e up (by simp) (fun _ e=>e) (fun _ _ e=>e)
   | refine z15d e fun e=>?_)
end
end Go.Mini

/- Regions whose order is drawn (2): what an operation reads, and what it leaves. -/
namespace Go.Mini
universe u
section
variable{α β γ:Type}
def Pu(m:M α):Prop:=∀h a h',m h=some (a,h')→h'=h∧∀h2,m h2=some (a,h2)
def Rd(T:Nat→Prop)(m:M α):Prop:=∀h a h',m h=some (a,h')→h'=h∧∃ob:Option Nat,(∀b,ob=some b→h.get b≠.dead∧T b)∧∀h2,(∀b,ob=some b→h2.get b=h.get b)→m h2=some (a,h2)
def Gr(m:M α):Prop:=∀h a h',m h=some (a,h')→z4a h h'
theorem Pu.rd{T:Nat→Prop}{m:M α}(k:Pu m):Rd T m:=fun h a h' e=>by
 obtain⟨h1,h2⟩:=k h a h' e;exact⟨h1,none,(by intro b hb;cases hb),fun h2' _=>h2 h2'⟩
theorem z1n(a:α):Pu (ret a):=fun h x h' e=>by cases e;exact⟨rfl,fun _=>rfl⟩
theorem z0x:Pu (z0d:M α):=fun h x h' e=>by cases e
theorem z3n{m:M α}{f:α→M β}(k:Pu m)(kf:∀a,Pu (f a)):Pu (bd m f):=fun h x h' e=>by
 obtain⟨a,h1,e1,e2⟩:=z0f e;obtain⟨rfl,k1⟩:=k _ _ _ e1;obtain⟨rfl,k2⟩:=kf a _ _ _ e2;exact⟨rfl,fun h2=>by simp only[bd,k1 h2];exact k2 h2⟩
theorem z2j{c:Prop}[Decidable c]{m n:M α}(k:Pu m)(l:Pu n):Pu (if c then m else n):=by
 split
 ·exact k
 ·exact l
theorem zhs{ε:Type u}{x:Option ε}{f:ε→M β}(k:∀v,Pu (f v)):Pu (z19 x f):=by
 cases x with
 | none=>exact z0x
 | some v=>exact k v
theorem z3u(o:Option α):Pu (z09 o):=by
 cases o with
 | none=>exact fun h x h' e=>by cases e
 | some a=>exact fun h x h' e=>by cases e;exact⟨rfl,fun _=>rfl⟩
theorem zsm{x:Option MV}{f:IntKind→Int→M β}(k:∀a b,Pu (f a b)):Pu (z3l x f):=by
 unfold z3l;split
 ·exact k _ _
 ·exact z0x
theorem z12k{x:Option MV}{f:List UInt8→M β}(k:∀a,Pu (f a)):Pu (z52 x f):=by
 unfold z52;split
 ·exact k _
 ·exact z0x
theorem z14i{x:Option MV}{f:Option MA→Nat→Nat→M β}(k:∀a b c,Pu (f a b c)):Pu (wSl x f):=by
 unfold wSl;split
 ·exact k _ _ _
 ·exact z0x
theorem z12l{x:Option MV}{f:List MV→M β}(k:∀a,Pu (f a)):Pu (zag x f):=by
 unfold zag;split
 ·exact k _
 ·exact z0x
theorem zht{x:Option MV}{f:List MV→M β}(k:∀a,Pu (f a)):Pu (z4h x f):=by
 unfold z4h;split
 ·exact k _
 ·exact z0x
theorem z14j{x:Option MV}{f:FuncId→List MV→M β}(k:∀a b,Pu (f a b)):Pu (wFn x f):=by
 unfold wFn;split
 ·exact k _ _
 ·exact z0x
theorem zwg{x:Option FV}{f:Option MA→M β}{g:Nat→Nat→M β}(k:∀a,Pu (f a))(l:∀a b,Pu (g a b)):Pu (z3e x f g):=by
 unfold z3e;split
 ·exact k _
 ·exact l _ _
 ·exact z0x
theorem z14k{b:Bool}{m:M β}(k:Pu m):Pu (wIf b m):=by
 unfold wIf;split
 ·exact k
 ·exact z0x
theorem zzq{x:Option FV}{f:FV→M β}(k:∀a,Pu (f a)):Pu (z8y x f):=by
 unfold z8y;split
 ·exact k _
 ·exact k _
 ·exact z0x
theorem zzr{fr:Fr}{x:Option Opd}{e:Int}{f:Int→M β}(k:∀a,Pu (f a)):Pu (intOf fr x e f):=by
 unfold intOf;split
 ·exact k _
 ·exact zsm fun _ _=>k _
theorem zzs(p q:Option MA):Pu (zb5 p q):=by
 intro h a h' e;cases p with
 | none=>cases e;exact⟨rfl,fun _=>rfl⟩
 | some x=>
  cases q with
  | none=>cases e;exact⟨rfl,fun _=>rfl⟩
  | some y=>
   simp only[zb5]at e ⊢;split at e
   ·cases e;refine⟨rfl,fun h2=>?_⟩;rw[if_pos (by assumption)]
   ·cases e
theorem zzt{p q:Option MA}{f:Bool→M β}(k:∀b,Pu (f b)):Pu (z9x p q f):=by
 unfold z9x;split
 ·exact k _
 ·exact z3n (zzs _ _) k
theorem z12m{op:UnOp}{x:MV}{f:MV→M β}(k:∀a,Pu (f a)):Pu (zcj op x f):=by
 unfold zcj;split<;>first | exact k _ | exact z0x
theorem zzu{op:BinOp}{x y:MV}{f:MV→M β}(k:∀a,Pu (f a)):Pu (z77 op x y f):=by
 unfold z77;split
 ·exact z2j z0x (k _)
 ·exact z2j z0x (k _)
 ·refine z2j ?_ z0x;split<;>first | exact k _ | exact z2j z0x (k _)
 all_goals first | exact k _ | exact zzt fun _=>k _ | exact z0x
theorem zpe{pv:PV}{t:Ty}{o:Nat}{f:MV→M β}(k:∀a,Pu (f a)):Pu (z6g pv t o f):=by
 unfold z6g;split
 ·exact zhs k
 ·exact z2j (k _) z0x
 ·exact z2j (z3n (z3u _) fun _=>k _) z0x
 ·exact z3n (z3u _) fun _=>z3n (z3u _) fun _=>k _
 ·exact z3n (z2j (z1n _) z0x) fun _=>z3n (z3u _) fun _=>k _
 ·exact z3n (z2j (z1n _) z0x) fun _=>k _
 ·exact z0x
theorem zwh(p:Option MA):Pu (nonNil p):=by cases p<;>first | exact z1n _ | exact z0x
theorem z14l(p:Option MA)(n:Nat):Pu (fld p n):=by cases p<;>first | exact z1n _ | exact z0x
theorem z14m(e:Nat)(s:Sl)(i:Int):Pu (idx e s i):=by
 unfold idx;split
 ·exact z2j (z1n _) z0x
 ·exact z0x
theorem zzv(n:Nat)(s:Sl):Pu (arrAt n s):=by
 unfold arrAt;split
 ·exact z1n _
 ·exact z0x
theorem z12n(n e:Nat)(p:Option MA)(i:Int):Pu (idxA n e p i):=by
 unfold idxA;split
 ·exact z2j (z1n _) z0x
 ·exact z0x
theorem z12o(n:Nat)(cs:List MV)(i:Int):Pu (idxV n cs i):=z2j (z3u _) z0x
theorem zzw(n e:Nat)(cs:List MV)(i:Int):Pu (idxVn n e cs i):=z2j (z2j (z1n _) z0x) z0x
theorem z12p(s:List UInt8)(i:Int):Pu (idxS s i):=z2j (z3n (z3u _) fun _=>z1n _) z0x
theorem z14n(e:Nat)(s:Sl)(a b:Int):Pu (slc e s a b):=z2j (z1n _) z0x
theorem z12q(s:List UInt8)(a b:Int):Pu (slcS s a b):=z2j (z1n _) z0x
theorem z12r(s t:List UInt8):Pu (zzk s t):=z2j (z1n _) z0x
theorem zwi(v:MV):Pu (zgi v):=by unfold zgi;split<;>first | exact z1n _ | exact z0x
theorem z8k{T:Nat→Prop}{m:M α}{f:α→M β}(k:Rd T m)(kf:∀a,Pu (f a)):Rd T (bd m f):=fun h x h' e=>by
 obtain⟨a,h1,e1,e2⟩:=z0f e;obtain⟨rfl,ob,k1,k2⟩:=k _ _ _ e1;obtain⟨rfl,k3⟩:=kf a _ _ _ e2;exact⟨rfl,ob,k1,fun h2 hb=>by simp only[bd,k2 h2 hb];exact k3 h2⟩
theorem zwj{T:Nat→Prop}{q:Option MA}(ht:∀a,q=some a→T a.blk):Rd T (ldc q):=by
 intro h v h' e;cases q with
 | none=>cases e
 | some a=>
  simp only[ldc]at e ⊢;split at e
  ·rename_i cs ro hg;split at e
   ·rename_i u hu;cases e;refine⟨rfl,some a.blk,fun b hb=>?_,fun h2 hb=>?_⟩
    ·cases hb;exact⟨by rw[hg];simp,ht a rfl⟩
    ·rw[hb _ rfl,hg];simp only[hu]
   ·cases e
  ·cases e
theorem zpf{T:Nat→Prop}{n:Nat}{q:Option MA}(ht:∀a,q=some a→T a.blk):Rd T (ldn n q):=by
 intro h v h' e;cases q with
 | none=>cases e
 | some a=>
  simp only[ldn]at e ⊢;split at e
  ·rename_i cs ro hg;split at e
   ·rename_i hu;cases e;refine⟨rfl,some a.blk,fun b hb=>?_,fun h2 hb=>?_⟩
    ·cases hb;exact⟨by rw[hg];simp,ht a rfl⟩
    ·rw[hb _ rfl,hg];simp only[hu,if_true]
   ·cases e
  ·cases e
theorem z15i{T:Nat→Prop}{t:Ty}{q:Option MA}(ht:∀a,q=some a→T a.blk):Rd T (ld t q):=by
 cases t with
 | c c=>
  simp only[ld,zot];exact z8k (zwj ht) fun _=>z3u _
 | st ts=>exact z8k (zpf ht) fun _=>z3u _
 | agg n=>exact zpf ht
 | arr k=>exact z0x.rd
 | fnc f cp=>
  simp only[ld,zot];exact z8k (z8k (zwj ht) fun _=>z3u _) fun _=>z3u _
theorem z12s{T:Nat→Prop}{n e:Nat}{q:Option MA}{lo hi:Int}(ht:∀a,q=some a→T a.blk):Rd T (slcA n e q lo hi):=by
 intro h v h' e;cases q with
 | none=>cases e
 | some a=>
  simp only[slcA]at e ⊢;split at e
  ·rename_i cs ro hg;split at e
   ·rename_i hu;cases e;refine⟨rfl,some a.blk,fun b hb=>?_,fun h2 hb=>?_⟩
    ·cases hb;exact⟨by rw[hg];simp,ht a rfl⟩
    ·rw[hb _ rfl,hg];dsimp only;rw[if_pos hu]
   ·cases e
  ·cases e
theorem zkm{T:Nat→Prop}{e:Nat}{s:Sl}(ht:∀a,s.p=some a→T a.blk):Rd T (cellsOf e s):=by
 unfold cellsOf;split
 ·exact(z2j (z1n _) z0x).rd
 ·exact zpf ht
theorem zmm{T:Nat→Prop}{r:Option Nat}(ht:∀b,r=some b→T b):Rd T (z7w r):=by
 intro h v h' e;cases r with
 | none=>cases e;exact⟨rfl,none,(by intro b hb;cases hb),fun _ _=>rfl⟩
 | some b=>
  simp only[z7w]at e ⊢;split at e
  ·rename_i es hg;cases e;refine⟨rfl,some b,fun b' hb=>?_,fun h2 hb=>?_⟩
   ·cases hb;exact⟨by rw[hg];simp,ht b rfl⟩
   ·rw[hb _ rfl,hg]
  ·cases e
theorem zwk{T:Nat→Prop}{x:Option FV}{f:Option MA→M β}{g:Nat→Nat→M β}(k:∀q,x=some (.v (.ptr q))→Rd T (f q))(l:∀a b,Rd T (g a b)):Rd T (z3e x f g):=by
 unfold z3e;split
 ·exact k _ rfl
 ·exact l _ _
 ·exact z0x.rd
theorem z12t{T:Nat→Prop}{x:Option MV}{f:Option MA→M β}(k:∀q,x=some (.ptr q)→Rd T (f q)):Rd T (zbw x f):=by
 unfold zbw;split
 ·exact k _ rfl
 ·exact z0x.rd
theorem z14o{T:Nat→Prop}{x:Option MV}{f:Option MA→Nat→Nat→M β}(k:∀p l e,x=some (.sl p l e)→Rd T (f p l e)):Rd T (wSl x f):=by
 unfold wSl;split
 ·exact k _ _ _ rfl
 ·exact z0x.rd
theorem zlv{T:Nat→Prop}{x:Option MV}{f:Option Nat→M β}(k:∀r,x=some (.map r)→Rd T (f r)):Rd T (z78 x f):=by
 unfold z78;split
 ·exact k _ rfl
 ·exact z0x.rd
theorem z14p{T:Nat→Prop}{c:Prop}[Decidable c]{m n:M α}(k:Rd T m)(l:Rd T n):Rd T (if c then m else n):=by
 split
 ·exact k
 ·exact l
theorem zsn{T:Nat→Prop}{ε:Type u}{x:Option ε}{f:ε→M β}(k:∀v,Rd T (f v)):Rd T (z19 x f):=by
 cases x with
 | none=>exact z0x.rd
 | some v=>exact k v
theorem zwl{T:Nat→Prop}{b:Bool}{m:M β}(k:Rd T m):Rd T (wIf b m):=by
 unfold wIf;split
 ·exact k
 ·exact z0x.rd
theorem zpg{T:Nat→Prop}{fr:Fr}{x:Option Opd}{e:Int}{f:Int→M β}(k:∀a,Rd T (f a)):Rd T (intOf fr x e f):=by
 unfold intOf;split
 ·exact k _
 ·unfold z3l;split
  ·exact k _
  ·exact z0x.rd
theorem zkn{T:Nat→Prop}{r:Option Nat}{k:MV}(ht:∀b,r=some b→T b):Rd T (z8j r k):=z8k (zmm ht) fun _=>by
 split<;>first | exact z1n _ | exact z0x
def zex:MV→Option Nat
 | .ptr (some a)=>some a.blk
 | .sl (some a) _ _=>some a.blk
 | .map (some b)=>some b
 | _=>none
def bsOf(A:Fr)(x:Ins)(b:Nat):Prop:=∃o,x.pl=some o∧∃v,o.mv A=some v∧zex v=some b
theorem z12u{v:MV}{b:Nat}(h:zex v=some b):z79 v=some b:=by
 unfold zex at h;split at h<;>first | exact h | cases h
theorem zlw{x:Ins}{p:Opd}(h:x.pl=some p):p∈x.opds:=by
 cases x<;>first | (cases h;done) | (cases h;simp[Ins.opds])
theorem zbi{A:Fr}{o:Opd}{v:MV}(h:o.val A=some (.v v)):o.mv A=some v:=by simp only[Opd.mv,h]
variable{C:List (Nat×Entry)}
theorem zwm{x:Ins}{d:Nat}(hd:x.val=some d)(hc:x.cls=0)(A:Fr):Pu (z0a C x A tp):=by
 cases x with
 | fldV d' off t x=>
  cases t<;>simp only[z0a,z1h]
  ·exact zht fun _=>zhs fun _=>z1n _
  ·exact zht fun _=>z2j (z1n _) z0x
  ·exact zht fun _=>z2j (z1n _) z0x
  ·exact z0x
  ·exact z0x
 | mv | box | alloc | load | store | call | callz | callv | callvz | palloc | pbox | bslice | slcA | toStr | toBytes | look1 | look2 | mapLen | mkMap | mapPut | mapDel | app | appS | copy | copyS | mkSl | markB | mapClr | slClr | allocA | boxA | bsliceA | mkSlA | toBytesA | mkMapA=>simp[Ins.cls]at hc
 | _=>
  simp only[z0a,z1h,zhm,zdo];repeat (first
   | refine z3n (zzv _ _) fun _=>?_
   | exact z1n _
   | exact z0x
   | refine zhs fun _=>?_
   | refine zsm fun _ _=>?_
   | refine z12k fun _=>?_
   | refine z14i fun _ _ _=>?_
   | refine z12l fun _=>?_
   | refine zht fun _=>?_
   | refine z14j fun _ _=>?_
   | refine zzq fun _=>?_
   | refine z14k ?_
   | refine zzu fun _=>?_
   | refine z12m fun _=>?_
   | refine zpe fun _=>?_
   | refine zzr fun _=>?_
   | refine z2j ?_ ?_
   | refine z3n (z3u _) fun _=>?_
   | refine z3n (zwh _) fun _=>?_
   | refine z3n (z14l _ _) fun _=>?_
   | refine z3n (z14m _ _ _) fun _=>?_
   | refine z3n (z12n _ _ _ _) fun _=>?_
   | refine z3n (z12o _ _ _) fun _=>?_
   | refine z3n (zzw _ _ _ _) fun _=>?_
   | refine z3n (z12p _ _) fun _=>?_
   | refine z3n (z14n _ _ _ _) fun _=>?_
   | refine z3n (z12q _ _ _) fun _=>?_
   | refine z3n (z12r _ _) fun _=>?_
   | refine z3n (zwi _) fun _=>?_
   | refine z3n (z2j (z1n _) z0x) fun _=>?_
   | refine zwg (fun _=>?_) (fun _ _=>?_))
theorem zwn{x:Ins}{d:Nat}(hd:x.val=some d)(hc:x.cls<2)(A:Fr):Rd (bsOf A x) (z0a C x A tp):=by
 by_cases h0:x.cls=0
 ·exact(zwm hd h0 A).rd
 cases x with
 | load d t p=>
  simp only[z0a,z1h];refine zwk (fun q hq=>z8k (z15i fun a ha=>?_) fun _=>z1n _) fun _ _=>(zhs fun _=>zpe fun _=>z1n _).rd;subst ha;exact⟨p,rfl,_,zbi hq,rfl⟩
 | slcA d n e p lo hi=>
  simp only[z0a,z1h];refine z12t fun q hq=>zpg fun _=>zpg fun _=>z8k (z12s fun a ha=>?_) fun _=>z1n _;subst ha;exact⟨p,rfl,_,hq,rfl⟩
 | toStr d s=>
  simp only[z0a,z1h];refine z14o fun p l e hq=>z14p (z8k (z8k (zkm fun a ha=>?_) fun _=>z3u _) fun _=>z1n _) z0x.rd;subst ha;exact⟨s,rfl,_,hq,rfl⟩
 | look1 d kt t z m kk=>
  simp only[z0a,z1h];refine zlv fun r hq=>zsn fun _=>zwl (z8k (zkn fun b hb=>?_) fun _=>z3n (z3u _) fun _=>z1n _);subst hb;exact⟨m,rfl,_,hq,rfl⟩
 | look2 d kt t z m kk=>
  simp only[z0a,z1h];refine zlv fun r hq=>zsn fun _=>zwl (z8k (zkn fun b hb=>?_) fun _=>z3n (z3u _) fun _=>z1n _);subst hb;exact⟨m,rfl,_,hq,rfl⟩
 | mapLen d m=>
  simp only[z0a,z1h];refine zlv fun r hq=>z8k (z8k (zmm fun b hb=>?_) fun _=>z1n _) fun _=>z1n _;subst hb;exact⟨m,rfl,_,hq,rfl⟩
 | _=>first | exact absurd rfl h0 | (simp[Ins.cls]at hc)
theorem z9y(a:α):Gr (ret a):=fun h x h' e=>by cases e;exact z4a.refl _
theorem z9d:Gr (z0d:M α):=fun h x h' e=>by cases e
theorem zd3{m:M α}{f:α→M β}(k:Gr m)(kf:∀a,Gr (f a)):Gr (bd m f):=fun h x h' e=>by
 obtain⟨a,h1,e1,e2⟩:=z0f e;exact(k _ _ _ e1).trans (kf a _ _ _ e2)
theorem zak{ε:Type u}{x:Option ε}{f:ε→M β}(k:∀v,Gr (f v)):Gr (z19 x f):=by
 cases x with
 | none=>exact z9d
 | some v=>exact k v
theorem zj4(cs:List MV):Gr (alloc cs):=fun h x h' e=>by cases e;exact z4a.push _ _
theorem zwo(v:MV):Gr (zbg v):=fun h x h' e=>by
 unfold zbg at e;split at e
 ·cases e;exact z4a.push _ _
 ·cases e
theorem z14q(m:M α):Gr (frz m):=fun h x h' e=>(zp4 e).2
theorem zso(e:Entry)(vs:List MV){f:MV→M β}(k:∀v,Gr (f v)):Gr (e.runz vs f):=by
 unfold Entry.runz;split
 ·exact zd3 (z14q _) fun _=>k _
 ·exact z9d
theorem zsp{x:Option MV}{f:IntKind→Int→M β}(k:∀a b,Gr (f a b)):Gr (z3l x f):=by
 unfold z3l;split
 ·exact k _ _
 ·exact z9d
theorem z12v(e bytes:Nat)(z:List MV)(l c:Int):Gr (mkSl e bytes z l c):=by
 unfold mkSl;split
 ·exact fun h x h' e=>by cases e;exact z4a.push _ _
 ·exact z9d
theorem zu5(s:List UInt8):Gr (toBytes s):=by
 unfold toBytes;split
 ·exact fun h x h' e=>by cases e;exact z4a.push _ _
 ·exact z9d
theorem z14r{x:Ins}{d:Nat}(hd:x.val=some d)(hc:x.cls=3)(A:Fr):Gr (z0a C x A tp):=by
 cases x with
 | alloc d z=>simp only[z0a,z1h];exact zd3 (zj4 _) fun _=>z9y _
 | box d a x=>
  cases a<;>simp only[z0a,z1h]
  ·exact zak fun _=>zd3 (zwo _) fun _=>z9y _
  ·unfold z4h;split
   ·exact zd3 (zj4 _) fun _=>z9y _
   ·exact z9d
 | bslice d e len z parts=>simp only[z0a,z1h];exact zak fun _=>zak fun _=>zd3 (zj4 _) fun _=>z9y _
 | mkSl d e bytes z len cap=>simp only[z0a,z1h];exact zsp fun _ _=>zsp fun _ _=>zd3 (z12v _ _ _ _ _) fun _=>z9y _
 | toBytes d x=>
  simp only[z0a,z1h];unfold z52;split
  ·exact zd3 (zu5 _) fun _=>z9y _
  ·exact z9d
 | mkMap d=>simp only[z0a,z1h];exact zd3 (fun h x h' e=>by cases e;exact z4a.push _ _) fun _=>z9y _
 | callz d f args=>simp only[z0a,z1h];exact zak fun _=>zak fun _=>zso _ _ fun _=>z9y _
 | callvz d f args=>
  simp only[z0a,z1h];unfold wFn;split
  ·exact zak fun _=>zak fun _=>zso _ _ fun _=>z9y _
  ·exact z9d
 | _=>simp[Ins.cls]at hc
end
end Go.Mini
