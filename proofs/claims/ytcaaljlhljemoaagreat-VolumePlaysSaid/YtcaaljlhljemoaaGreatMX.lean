/- Regions whose order is drawn (1): what one operation hangs on. -/
import Derived.Test.YtcaaljlhljemoaaGreatMO
namespace Go.Mini
universe u
section
variable{α β γ δ:Type}
theorem z6f(a:α)(k:α→M β):bd (ret a) k=k a:=rfl
theorem z6y(k:α→M β):bd z0d k=z0d:=rfl
theorem bd_bd(m:M α)(f:α→M β)(k:β→M γ):bd (bd m f) k=bd m fun a=>bd (f a) k:=by
 funext h;simp only[bd];cases m h with
 | none=>rfl
 | some r=>rfl
theorem z86(c:Prop)[Decidable c](a b:M α)(k:α→M β):bd (if c then a else b) k=if c then bd a k else bd b k:=by
 split<;>rfl
theorem z6c{ε:Type u}(x:Option ε)(f:ε→M α)(k:α→M β):bd (z1c x f) k=z1c x fun v=>bd (f v) k:=by cases x<;>rfl
theorem zm0(x:Option MV)(f:IntKind→Int→M α)(k:α→M β):bd (z3r x f) k=z3r x fun a b=>bd (f a b) k:=by
 unfold z3r;split<;>rfl
theorem zsf(x:Option MV)(f:List UInt8→M α)(k:α→M β):bd (z56 x f) k=z56 x fun a=>bd (f a) k:=by
 unfold z56;split<;>rfl
theorem zvn(x:Option MV)(f:Option MA→Nat→Nat→M α)(k:α→M β):bd (wSl x f) k=wSl x fun a b c=>bd (f a b c) k:=by
 unfold wSl;split<;>rfl
theorem zsg(x:Option MV)(f:List MV→M α)(k:α→M β):bd (zan x f) k=zan x fun a=>bd (f a) k:=by
 unfold zan;split<;>rfl
theorem z6z(x:Option MV)(f:List MV→M α)(k:α→M β):bd (z4p x f) k=z4p x fun a=>bd (f a) k:=by
 unfold z4p;split<;>rfl
theorem zsh(x:Option MV)(f:Option Nat→M α)(k:α→M β):bd (z7i x f) k=z7i x fun a=>bd (f a) k:=by
 unfold z7i;split<;>rfl
theorem zsi(x:Option MV)(f:Option MA→M α)(k:α→M β):bd (zc5 x f) k=zc5 x fun a=>bd (f a) k:=by
 unfold zc5;split<;>rfl
theorem zvo(x:Option MV)(f:FuncId→List MV→M α)(k:α→M β):bd (wFn x f) k=wFn x fun a b=>bd (f a b) k:=by
 unfold wFn;split<;>rfl
theorem zg5(x:Option FV)(f:Option MA→M α)(g:Nat→Nat→M α)(k:α→M β):bd (z3m x f g) k=z3m x (fun a=>bd (f a) k) fun a b=>bd (g a b) k:=by
 unfold z3m;split<;>rfl
theorem zor(b:Bool)(m:M α)(k:α→M β):bd (wIf b m) k=wIf b (bd m k):=by
 unfold wIf;split<;>rfl
theorem zos(x:Option FV)(f:FV→M α)(k:α→M β):bd (z94 x f) k=z94 x fun a=>bd (f a) k:=by
 unfold z94;split<;>rfl
theorem zot(fr:Fr)(x:Option Opd)(e:Int)(f:Int→M α)(k:α→M β):bd (intOf fr x e f) k=intOf fr x e fun a=>bd (f a) k:=by
 unfold intOf;split
 ·rfl
 ·rw[zm0]
theorem zzf(p q:Option MA)(f:Bool→M α)(k:α→M β):bd (za4 p q f) k=za4 p q fun a=>bd (f a) k:=by
 unfold za4;split
 ·rfl
 ·rw[bd_bd]
theorem zsj(op:UnOp)(x:MV)(f:MV→M α)(k:α→M β):bd (zcv op x f) k=zcv op x fun a=>bd (f a) k:=by
 unfold zcv;split<;>rfl
theorem zou(op:BinOp)(x y:MV)(f:MV→M α)(k:α→M β):bd (z7h op x y f) k=z7h op x y fun a=>bd (f a) k:=by
 unfold z7h;split
 ·rw[z86,z6y]
 ·rw[z86,z6y]
 ·rw[z86,z6y];congr 1;split<;>first | rfl | (rw[z86,z6y])
 all_goals first | rfl | (rw[zzf])
theorem zov(pv:PV)(t:Ty)(o:Nat)(f:MV→M α)(k:α→M β):bd (z6v pv t o f) k=z6v pv t o fun a=>bd (f a) k:=by
 unfold z6v;split<;>simp only[z6c,z86,z6y,bd_bd]
theorem z9h(pv:PV)(n:Option Nat)(o:Nat)(x:MV)(f:PV→M α)(k:α→M β):bd (z60 pv n o x f) k=z60 pv n o x fun a=>bd (f a) k:=by
 unfold z60;split<;>simp only[z6c,z86,z6y,bd_bd]
theorem zvp(e:Entry)(vs:List MV)(f:MV→M α)(k:α→M β):bd (e.run vs f) k=e.run vs fun a=>bd (f a) k:=by
 unfold Entry.run;split
 ·rw[bd_bd]
 ·rfl
theorem zsk(e:Entry)(vs:List MV)(f:MV→M α)(k:α→M β):bd (e.runz vs f) k=e.runz vs fun a=>bd (f a) k:=by
 unfold Entry.runz;split
 ·rw[bd_bd]
 ·rfl
variable{C:List (Nat×Entry)}
theorem zvq(x:Ins)(fr:Fr)(k:Fr→M β):z0b C x fr k=bd (z0b C x fr ret) k:=by
 cases x with
 | box d a x=>cases a<;>simp only[z0b,z6c,z6z,bd_bd,z6f]
 | boxA d b a x=>cases a<;>simp only[z0b,z6c,z6z,bd_bd,z6f]
 | pbox d n x=>
  match n with
  | 0=>simp only[z0b,z6c,z86,z6y,z6f]
  | 1=>simp only[z0b,z6z,z6f]
  | n+2=>simp only[z0b,z6z,z6f]
 | fldV d off t x=>cases t<;>simp only[z0b,z6c,z6z,z86,z6f,z6y]
 | store n p x=>cases n<;>simp only[z0b,zg5,z6c,z6z,zor,bd_bd,z9h,z6f]
 | _=>simp only[z0b,z6c,zm0,zsf,zvn,zsg,z6z,zsh,zsi,zvo,zg5,zor,zos,zot,zsj,zou,zov,z9h,zvp,zsk,z86,z6y,bd_bd,z6f]
theorem zr5{x:Ins}{fr:Fr}{k:Fr→M β}{h:Hp}{res:β×Hp}(e:z0b C x fr k h=some res):∃fr' h',z0b C x fr ret h=some (fr',h')∧k fr' h'=some res:=by
 rw[zvq]at e;exact z0j e
def Up(A B:Fr)(l:List Opd):Prop:=∀o∈l,∀v,o.val A=some v→v=.gone∨o.val B=some v
def zaj(p q:List (Nat×PV×Bool)):Prop:=∀n pv b,z0k p n=some (pv,b)→∃b',z0k q n=some (pv,b')∧(b=true→b'=true)
theorem zaj.refl(p:List (Nat×PV×Bool)):zaj p p:=fun _ _ b h=>⟨b,h,id⟩
theorem zaj.trans{p q r:List (Nat×PV×Bool)}(h:zaj p q)(k:zaj q r):zaj p r:=fun n pv b e=>by
 obtain⟨b1,e1,f1⟩:=h n pv b e;obtain⟨b2,e2,f2⟩:=k n pv b1 e1;exact⟨b2,e2,fun hb=>f2 (f1 hb)⟩
section
variable{A B:Fr}{l:List Opd}{h:Hp}{res:β×Hp}
theorem Up.mv(up:Up A B l){o:Opd}(ho:o∈l){v:MV}(hv:o.mv A=some v):o.mv B=some v:=by
 unfold Opd.mv at hv ⊢;split at hv
 ·rename_i v' hl;cases hv;rcases up o ho _ hl with h | h
  ·cases h
  ·rw[h]
 ·cases hv
theorem Up.vals(up:Up A B l):∀{xs:List Opd},(∀o∈xs,o∈l)→∀{vs:List MV},z73 A xs=some vs→z73 B xs=some vs
 | [],_,vs,e=>e
 | x::r,hm,vs,e=>by
  simp only[z73]at e ⊢;split at e
  ·rename_i v ws h1 h2;cases e;rw[up.mv (hm x (by simp)) h1,Up.vals up (fun o ho=>hm o (by simp[ho])) h2]
  ·cases e
theorem Up.parts(up:Up A B l):∀{xs:List (Nat×Option Nat×Opd)},(∀o∈xs,o.2.2∈l)→∀{vs:List (Nat×Option Nat×MV)},z4x A xs=some vs→z4x B xs=some vs
 | [],_,vs,e=>e
 | (o,n,x)::r,hm,vs,e=>by
  simp only[z4x]at e ⊢;split at e
  ·rename_i v ws h1 h2;cases e;rw[up.mv (hm (o,n,x) (by simp)) h1,Up.parts up (fun o ho=>hm o (by simp[ho])) h2]
  ·cases e
theorem zzg{f f':MV→M β}{o:Opd}(e:z1c (o.mv A) f h=some res)(up:Up A B l)(ho:o∈l)(hf:∀v,f v h=some res→f' v h=some res):z1c (o.mv B) f' h=some res:=by
 obtain⟨v,hv,e⟩:=z0m e;rw[up.mv ho hv];exact hf v e
theorem zg6{f f':List MV→M β}{xs:List Opd}(e:z1c (z73 A xs) f h=some res)(up:Up A B l)(ho:∀o∈xs,o∈l)(hf:∀v,f v h=some res→f' v h=some res):z1c (z73 B xs) f' h=some res:=by
 obtain⟨v,hv,e⟩:=z0m e;rw[up.vals ho hv];exact hf v e
theorem zm1{f f':List (Nat×Option Nat×MV)→M β}{xs:List (Nat×Option Nat×Opd)}(e:z1c (z4x A xs) f h=some res)(up:Up A B l)(ho:∀o∈xs,o.2.2∈l)(hf:∀v,f v h=some res→f' v h=some res):z1c (z4x B xs) f' h=some res:=by
 obtain⟨v,hv,e⟩:=z0m e;rw[up.parts ho hv];exact hf v e
theorem zk1{f f':IntKind→Int→M β}{o:Opd}(e:z3r (o.mv A) f h=some res)(up:Up A B l)(ho:o∈l)(hf:∀a b,f a b h=some res→f' a b h=some res):z3r (o.mv B) f' h=some res:=by
 obtain⟨a,b,hv,e⟩:=z2y e;rw[up.mv ho hv];exact hf a b e
theorem zvr{f f':List UInt8→M β}{o:Opd}(e:z56 (o.mv A) f h=some res)(up:Up A B l)(ho:o∈l)(hf:∀a,f a h=some res→f' a h=some res):z56 (o.mv B) f' h=some res:=by
 obtain⟨a,hv,e⟩:=z4a e;rw[up.mv ho hv];exact hf a e
theorem z11e{f f':Option MA→Nat→Nat→M β}{o:Opd}(e:wSl (o.mv A) f h=some res)(up:Up A B l)(ho:o∈l)(hf:∀a b c,f a b c h=some res→f' a b c h=some res):wSl (o.mv B) f' h=some res:=by
 obtain⟨a,b,c,hv,e⟩:=wSl_some e;rw[up.mv ho hv];exact hf a b c e
theorem z147{f f':List MV→M β}{o:Opd}(e:zan (o.mv A) f h=some res)(up:Up A B l)(ho:o∈l)(hf:∀a,f a h=some res→f' a h=some res):zan (o.mv B) f' h=some res:=by
 obtain⟨a,hv,e⟩:=zmr e;rw[up.mv ho hv];exact hf a e
theorem zk2{f f':List MV→M β}{o:Opd}(e:z4p (o.mv A) f h=some res)(up:Up A B l)(ho:o∈l)(hf:∀a,f a h=some res→f' a h=some res):z4p (o.mv B) f' h=some res:=by
 obtain⟨a,hv,e⟩:=z2o e;rw[up.mv ho hv];exact hf a e
theorem z148{f f':Option Nat→M β}{o:Opd}(e:z7i (o.mv A) f h=some res)(up:Up A B l)(ho:o∈l)(hf:∀a,f a h=some res→f' a h=some res):z7i (o.mv B) f' h=some res:=by
 obtain⟨a,hv,e⟩:=z2z e;rw[up.mv ho hv];exact hf a e
theorem zvs{f f':Option MA→M β}{o:Opd}(e:zc5 (o.mv A) f h=some res)(up:Up A B l)(ho:o∈l)(hf:∀a,f a h=some res→f' a h=some res):zc5 (o.mv B) f' h=some res:=by
 obtain⟨a,hv,e⟩:=zms e;rw[up.mv ho hv];exact hf a e
theorem ztn{f f':FuncId→List MV→M β}{o:Opd}(e:wFn (o.mv A) f h=some res)(up:Up A B l)(ho:o∈l)(hf:∀a b,f a b h=some res→f' a b h=some res):wFn (o.mv B) f' h=some res:=by
 obtain⟨a,b,hv,e⟩:=zeo e;rw[up.mv ho hv];exact hf a b e
theorem zow{f f':Option MA→M β}{g g':Nat→Nat→M β}{o:Opd}(e:z3m (o.val A) f g h=some res)(up:Up A B l)(ho:o∈l)(hf:∀a,f a h=some res→f' a h=some res)(hg:∀a b,g a b h=some res→g' a b h=some res):z3m (o.val B) f' g' h=some res:=by
 rcases z2w e with⟨q,hv,e⟩ | ⟨n,p,hv,e⟩
 ·rcases up o ho _ hv with hh | hh
  ·cases hh
  ·rw[hh];exact hf q e
 ·rcases up o ho _ hv with hh | hh
  ·cases hh
  ·rw[hh];exact hg n p e
theorem z124{f f':FV→M β}{o:Opd}(e:z94 (o.val A) f h=some res)(up:Up A B l)(ho:o∈l)(hf:∀a,f a h=some res→f' a h=some res):z94 (o.val B) f' h=some res:=by
 cases hv:o.val A with
 | none=>rw[hv]at e;cases e
 | some v=>
  rw[hv]at e;have key:v≠.gone∧f v h=some res:=by cases v<;>first | exact⟨by simp,e⟩ | cases e
  rw[(up o ho _ hv).resolve_left key.1];cases v with
  | gone=>exact absurd rfl key.1
  | _=>exact hf _ key.2
theorem zck{f f':Int→M β}{x:Option Opd}{els:Int}(e:intOf A x els f h=some res)(up:Up A B l)(ho:∀o∈x.toList,o∈l)(hf:∀a,f a h=some res→f' a h=some res):intOf B x els f' h=some res:=by
 cases x with
 | none=>exact hf _ e
 | some o=>exact zk1 (l:=l) e up (ho o (by simp)) fun _ b e=>hf b e
theorem z15d{b:Bool}{m m':M β}(e:wIf b m h=some res)(hf:m h=some res→m' h=some res):wIf b m' h=some res:=by
 obtain⟨rfl,e⟩:=z2q e;exact hf e
def Psee(A B:Fr)(x:Ins):Prop:=∀p,x.pl=some p→∀s o,p.val A=some (.loc s o)→∀pv b,z0k A.p s=some (pv,b)→∃b',z0k B.p s=some (pv,b')∧(b=true→b'=true)
theorem z149{f f':PV×Bool→M β}{n:Nat}(e:z1c (z0k A.p n) f h=some res)(ps:∀pv b,z0k A.p n=some (pv,b)→∃b',z0k B.p n=some (pv,b')∧(b=true→b'=true))(hf:∀pv b b',(b=true→b'=true)→f (pv,b) h=some res→f' (pv,b') h=some res):z1c (z0k B.p n) f' h=some res:=by
 obtain⟨⟨pv,b⟩,hv,e⟩:=z0m e;obtain⟨b',h1,h2⟩:=ps pv b hv;rw[h1];exact hf pv b b' h2 e
theorem m_if{c:Prop}[Decidable c]{m m' n:M β}(e:(if c then m else n) h=some res)(hn:n=z0d)(hf:m h=some res→m' h=some res):(if c then m' else n) h=some res:=by
 split at e
 ·rw[if_pos (by assumption)];exact hf e
 ·rw[hn]at e;cases e
end
def tp:Fr→M FV:=fun fr=>match fr.v with
 | (_,x)::_=>ret x
 | []=>z0d
theorem z1k(fr:Fr)(d:Nat)(v:MV):tp (fr.set d v)=ret (.v v):=rfl
theorem zhm(fr:Fr)(d:Nat)(v:FV):tp (fr.setF d v)=ret v:=rfl
theorem zdw(fr:Fr)(d a b:Nat):tp (fr.setL d a b)=ret (.loc a b):=rfl
theorem zk3(fr:Fr)(d:Nat)(v:MV):fr.setF d (.v v)=fr.set d v:=rfl
theorem zzh(fr:Fr)(d a b:Nat):fr.setF d (.loc a b)=fr.setL d a b:=rfl
def Ins.val:Ins→Option Nat
 | .palloc _ _ | .pbox _ _ _=>none
 | x=>match x.dst with
  | [d]=>some d
  | _=>none
theorem zbi{x:Ins}{d:Nat}(hd:x.val=some d)(fr:Fr)(k:Fr→M β):z0b C x fr k=bd (z0b C x fr tp) fun V=>k (fr.setF d V):=by
 cases x with
 | palloc d pv=>cases hd
 | pbox d n x=>cases hd
 | store n p x=>cases hd
 | mapPut kt m k x=>cases hd
 | mapDel kt m k=>cases hd
 | mapClr m=>cases hd
 | slClr e z x=>cases hd
 | box d' a x=>
  obtain rfl:d'=d:=by simpa[Ins.val,Ins.dst]using hd
  cases a<;>simp only[z0b,z6c,z6z,bd_bd,z6f,z1k,zk3]
 | boxA d' b a x=>
  obtain rfl:d'=d:=by simpa[Ins.val,Ins.dst]using hd
  cases a<;>simp only[z0b,z6c,z6z,bd_bd,z6f,z1k,zk3]
 | fldV d' off t x=>
  obtain rfl:d'=d:=by simpa[Ins.val,Ins.dst]using hd
  cases t<;>simp only[z0b,z6c,z6z,z86,z6f,z6y,z1k,zk3]
 | _=>
  cases hd;simp only[z0b,z6c,zm0,zsf,zvn,zsg,z6z,zsh,zsi,zvo,zg5,zor,zos,zot,zsj,zou,zov,z9h,zvp,zsk,z86,z6y,bd_bd,z6f,z1k,zhm,zdw,zk3,zzh]
theorem zen{x:Ins}{d:Nat}(hd:x.val=some d)(hc:x.cls<5){A B:Fr}(up:Up A B x.opds)(ps:x.cls=1→Psee A B x){h:Hp}{res:FV×Hp}(e:z0b C x A tp h=some res):z0b C x B tp h=some res:=by
 cases x with
 | palloc d pv=>cases hd
 | pbox d n x=>cases hd
 | store n p x=>cases hd
 | mapPut kt m k x=>cases hd
 | mapDel kt m k=>cases hd
 | mapClr m=>cases hd
 | slClr e z x=>cases hd
 | mv d x=>simp[Ins.cls]at hc
 | alloc d z=>exact e
 | mkMap d=>exact e
 | box d' a x=>cases a<;>simp only[z0b,z1k,Ins.opds]at e up ⊢ <;> first | exact zzg e up (by simp) fun v e=>e | exact zk2 e up (by simp) fun v e=>e
 | allocA d b z=>exact e
 | mkMapA d b=>exact e
 | boxA d' b a x=>cases a<;>simp only[z0b,z1k,Ins.opds]at e up ⊢ <;> first | exact zzg e up (by simp) fun v e=>e | exact zk2 e up (by simp) fun v e=>e
 | bsliceA d a b c z parts=>
  simp only[z0b,z1k,Ins.opds]at e up ⊢;exact zm1 e up (by intro o ho;exact List.mem_map_of_mem ho) fun v e=>e
 | fldV d' off t x=>cases t<;>simp only[z0b,z1k,Ins.opds]at e up ⊢ <;> first | exact e | exact zk2 e up (by simp) fun v e=>e
 | load d t p=>
  simp only[z0b,z1k,Ins.opds]at e up ⊢;rcases z2w e with⟨q,hv,e1⟩ | ⟨s,o,hv,e1⟩
  ·rcases up p (by simp) _ hv with c | c
   ·cases c
   ·rw[c];exact e1
  ·rcases up p (by simp) _ hv with c | c
   ·cases c
   ·rw[c];exact z149 e1 (ps rfl p rfl s o hv) fun _ _ _ _ e=>e
 | build d z parts=>
  simp only[z0b,z1k,Ins.opds]at e up ⊢;exact zm1 e up (by intro o ho;exact List.mem_map_of_mem ho) fun v e=>e
 | bslice d a b z parts=>
  simp only[z0b,z1k,Ins.opds]at e up ⊢;exact zm1 e up (by intro o ho;exact List.mem_map_of_mem ho) fun v e=>e
 | slc d a s lo hi=>
  simp only[z0b,z1k,Ins.opds]at e up ⊢;exact z11e e up (by simp) fun _ _ _ e=>m_if e rfl fun e=>zck e up (by intro o ho;simp[ho]) fun _ e=>zck e up (by intro o ho;simp[ho]) fun _ e=>e
 | slcS d s lo hi=>
  simp only[z0b,z1k,Ins.opds]at e up ⊢;exact zvr e up (by simp) fun _ e=>zck e up (by intro o ho;simp[ho]) fun _ e=>zck e up (by intro o ho;simp[ho]) fun _ e=>e
 | slcA d n a s lo hi=>
  simp only[z0b,z1k,Ins.opds]at e up ⊢;exact zvs e up (by simp) fun _ e=>zck e up (by intro o ho;simp[ho]) fun _ e=>zck e up (by intro o ho;simp[ho]) fun _ e=>e
 | call d f args=>
  simp only[z0b,z1k,Ins.opds]at e up ⊢;exact zg6 e up (fun _ ho=>ho) fun _ e=>e
 | callz d f args=>
  simp only[z0b,z1k,Ins.opds]at e up ⊢;exact zg6 e up (fun _ ho=>ho) fun _ e=>e
 | mkFn d f args=>
  simp only[z0b,z1k,Ins.opds]at e up ⊢;exact zg6 e up (fun _ ho=>ho) fun _ e=>e
 | callv d f args=>
  simp only[z0b,z1k,Ins.opds]at e up ⊢;exact ztn e up (by simp) fun _ _ e=>zg6 e up (fun _ ho=>by simp[ho]) fun _ e=>e
 | callvz d f args=>
  simp only[z0b,z1k,Ins.opds]at e up ⊢;exact ztn e up (by simp) fun _ _ e=>zg6 e up (fun _ ho=>by simp[ho]) fun _ e=>e
 | idxA d n a p i=>
  simp only[z0b,z1k,zdw,Ins.opds]at e up ⊢;exact zow e up (by simp) (fun _ e=>zk1 e up (by simp) fun _ _ e=>e) fun _ _ e=>zk1 e up (by simp) fun _ _ e=>e
 | _=>
  simp only[z0b,z1k,zhm,zdw,Ins.opds]at e up ⊢;repeat (first
   | exact e
   | refine zzg e up (by simp) fun v e=>?_
   | refine zk1 e up (by simp) fun _ v e=>?_
   | refine zvr e up (by simp) fun v e=>?_
   | refine z11e e up (by simp) fun v _ _ e=>?_
   | refine z147 e up (by simp) fun v e=>?_
   | refine zk2 e up (by simp) fun v e=>?_
   | refine z148 e up (by simp) fun v e=>?_
   | refine zvs e up (by simp) fun v e=>?_
   | refine ztn e up (by simp) fun v _ e=>?_
   | refine z124 e up (by simp) fun v e=>?_
   | refine zow e up (by simp) (fun _ e=>e) (fun _ _ e=>e)
   | refine z15d e fun e=>?_)
end
end Go.Mini

/- Regions whose order is drawn (2): what an operation reads, and what it leaves. -/
namespace Go.Mini
universe u
section
variable{α β γ:Type}
def Pu(m:M α):Prop:=∀h a h',m h=some (a,h')→h'=h∧∀h2,m h2=some (a,h2)
def Rd(T:Nat→Prop)(m:M α):Prop:=∀h a h',m h=some (a,h')→h'=h∧∃ob:Option Nat,(∀b,ob=some b→h.get b≠.dead∧T b)∧∀h2,(∀b,ob=some b→h2.get b=h.get b)→m h2=some (a,h2)
def Gr(m:M α):Prop:=∀h a h',m h=some (a,h')→z4h h h'
theorem Pu.rd{T:Nat→Prop}{m:M α}(k:Pu m):Rd T m:=fun h a h' e=>by
 obtain⟨h1,h2⟩:=k h a h' e;exact⟨h1,none,(by intro b hb;cases hb),fun h2' _=>h2 h2'⟩
theorem z1q(a:α):Pu (ret a):=fun h x h' e=>by cases e;exact⟨rfl,fun _=>rfl⟩
theorem z10:Pu (z0d:M α):=fun h x h' e=>by cases e
theorem z3t{m:M α}{f:α→M β}(k:Pu m)(kf:∀a,Pu (f a)):Pu (bd m f):=fun h x h' e=>by
 obtain⟨a,h1,e1,e2⟩:=z0j e;obtain⟨rfl,k1⟩:=k _ _ _ e1;obtain⟨rfl,k2⟩:=kf a _ _ _ e2;exact⟨rfl,fun h2=>by simp only[bd,k1 h2];exact k2 h2⟩
theorem z2m{c:Prop}[Decidable c]{m n:M α}(k:Pu m)(l:Pu n):Pu (if c then m else n):=by
 split
 ·exact k
 ·exact l
theorem zhs{ε:Type u}{x:Option ε}{f:ε→M β}(k:∀v,Pu (f v)):Pu (z1c x f):=by
 cases x with
 | none=>exact z10
 | some v=>exact k v
theorem pu_someOr(o:Option α):Pu (z09 o):=by
 cases o with
 | none=>exact fun h x h' e=>by cases e
 | some a=>exact fun h x h' e=>by cases e;exact⟨rfl,fun _=>rfl⟩
theorem zsq{x:Option MV}{f:IntKind→Int→M β}(k:∀a b,Pu (f a b)):Pu (z3r x f):=by
 unfold z3r;split
 ·exact k _ _
 ·exact z10
theorem z12h{x:Option MV}{f:List UInt8→M β}(k:∀a,Pu (f a)):Pu (z56 x f):=by
 unfold z56;split
 ·exact k _
 ·exact z10
theorem z14g{x:Option MV}{f:Option MA→Nat→Nat→M β}(k:∀a b c,Pu (f a b c)):Pu (wSl x f):=by
 unfold wSl;split
 ·exact k _ _ _
 ·exact z10
theorem z12i{x:Option MV}{f:List MV→M β}(k:∀a,Pu (f a)):Pu (zan x f):=by
 unfold zan;split
 ·exact k _
 ·exact z10
theorem zht{x:Option MV}{f:List MV→M β}(k:∀a,Pu (f a)):Pu (z4p x f):=by
 unfold z4p;split
 ·exact k _
 ·exact z10
theorem z14h{x:Option MV}{f:FuncId→List MV→M β}(k:∀a b,Pu (f a b)):Pu (wFn x f):=by
 unfold wFn;split
 ·exact k _ _
 ·exact z10
theorem zwe{x:Option FV}{f:Option MA→M β}{g:Nat→Nat→M β}(k:∀a,Pu (f a))(l:∀a b,Pu (g a b)):Pu (z3m x f g):=by
 unfold z3m;split
 ·exact k _
 ·exact l _ _
 ·exact z10
theorem z14i{b:Bool}{m:M β}(k:Pu m):Pu (wIf b m):=by
 unfold wIf;split
 ·exact k
 ·exact z10
theorem zzt{x:Option FV}{f:FV→M β}(k:∀a,Pu (f a)):Pu (z94 x f):=by
 unfold z94;split
 ·exact k _
 ·exact k _
 ·exact z10
theorem zzu{fr:Fr}{x:Option Opd}{e:Int}{f:Int→M β}(k:∀a,Pu (f a)):Pu (intOf fr x e f):=by
 unfold intOf;split
 ·exact k _
 ·exact zsq fun _ _=>k _
theorem zzv(p q:Option MA):Pu (zbb p q):=by
 intro h a h' e;cases p with
 | none=>cases e;exact⟨rfl,fun _=>rfl⟩
 | some x=>
  cases q with
  | none=>cases e;exact⟨rfl,fun _=>rfl⟩
  | some y=>
   simp only[zbb]at e ⊢;split at e
   ·cases e;refine⟨rfl,fun h2=>?_⟩;rw[if_pos (by assumption)]
   ·cases e
theorem zzw{p q:Option MA}{f:Bool→M β}(k:∀b,Pu (f b)):Pu (za4 p q f):=by
 unfold za4;split
 ·exact k _
 ·exact z3t (zzv _ _) k
theorem z12j{op:UnOp}{x:MV}{f:MV→M β}(k:∀a,Pu (f a)):Pu (zcv op x f):=by
 unfold zcv;split<;>first | exact k _ | exact z10
theorem zzx{op:BinOp}{x y:MV}{f:MV→M β}(k:∀a,Pu (f a)):Pu (z7h op x y f):=by
 unfold z7h;split
 ·exact z2m z10 (k _)
 ·exact z2m z10 (k _)
 ·refine z2m ?_ z10;split<;>first | exact k _ | exact z2m z10 (k _)
 all_goals first | exact k _ | exact zzw fun _=>k _ | exact z10
theorem zpo{pv:PV}{t:Ty}{o:Nat}{f:MV→M β}(k:∀a,Pu (f a)):Pu (z6v pv t o f):=by
 unfold z6v;split
 ·exact zhs k
 ·exact z2m (k _) z10
 ·exact z2m (z3t (pu_someOr _) fun _=>k _) z10
 ·exact z3t (pu_someOr _) fun _=>z3t (pu_someOr _) fun _=>k _
 ·exact z3t (z2m (z1q _) z10) fun _=>z3t (pu_someOr _) fun _=>k _
 ·exact z3t (z2m (z1q _) z10) fun _=>k _
 ·exact z10
theorem zwf(p:Option MA):Pu (nonNil p):=by cases p<;>first | exact z1q _ | exact z10
theorem z14j(p:Option MA)(n:Nat):Pu (fld p n):=by cases p<;>first | exact z1q _ | exact z10
theorem z14k(e:Nat)(s:Sl)(i:Int):Pu (idx e s i):=by
 unfold idx;split
 ·exact z2m (z1q _) z10
 ·exact z10
theorem zzy(n:Nat)(s:Sl):Pu (arrAt n s):=by
 unfold arrAt;split
 ·exact z1q _
 ·exact z10
theorem z12k(n e:Nat)(p:Option MA)(i:Int):Pu (idxA n e p i):=by
 unfold idxA;split
 ·exact z2m (z1q _) z10
 ·exact z10
theorem z12l(n:Nat)(cs:List MV)(i:Int):Pu (idxV n cs i):=z2m (pu_someOr _) z10
theorem zzz(n e:Nat)(cs:List MV)(i:Int):Pu (idxVn n e cs i):=z2m (z2m (z1q _) z10) z10
theorem z12m(s:List UInt8)(i:Int):Pu (idxS s i):=z2m (z3t (pu_someOr _) fun _=>z1q _) z10
theorem z14l(e:Nat)(s:Sl)(a b:Int):Pu (slc e s a b):=z2m (z1q _) z10
theorem z12n(s:List UInt8)(a b:Int):Pu (slcS s a b):=z2m (z1q _) z10
theorem z12o(s t:List UInt8):Pu (zzn s t):=z2m (z1q _) z10
theorem zwg(v:MV):Pu (zgf v):=by unfold zgf;split<;>first | exact z1q _ | exact z10
theorem z8t{T:Nat→Prop}{m:M α}{f:α→M β}(k:Rd T m)(kf:∀a,Pu (f a)):Rd T (bd m f):=fun h x h' e=>by
 obtain⟨a,h1,e1,e2⟩:=z0j e;obtain⟨rfl,ob,k1,k2⟩:=k _ _ _ e1;obtain⟨rfl,k3⟩:=kf a _ _ _ e2;exact⟨rfl,ob,k1,fun h2 hb=>by simp only[bd,k2 h2 hb];exact k3 h2⟩
theorem zwh{T:Nat→Prop}{q:Option MA}(ht:∀a,q=some a→T a.blk):Rd T (ldc q):=by
 intro h v h' e;cases q with
 | none=>cases e
 | some a=>
  simp only[ldc]at e ⊢;split at e
  ·rename_i cs ro hg;split at e
   ·rename_i u hu;cases e;refine⟨rfl,some a.blk,fun b hb=>?_,fun h2 hb=>?_⟩
    ·cases hb;exact⟨by rw[hg];simp,ht a rfl⟩
    ·rw[hb _ rfl,hg];simp only[hu]
   ·cases e
  ·cases e
theorem zpp{T:Nat→Prop}{n:Nat}{q:Option MA}(ht:∀a,q=some a→T a.blk):Rd T (ldn n q):=by
 intro h v h' e;cases q with
 | none=>cases e
 | some a=>
  simp only[ldn]at e ⊢;split at e
  ·rename_i cs ro hg;split at e
   ·rename_i hu;cases e;refine⟨rfl,some a.blk,fun b hb=>?_,fun h2 hb=>?_⟩
    ·cases hb;exact⟨by rw[hg];simp,ht a rfl⟩
    ·rw[hb _ rfl,hg];simp only[hu,if_true]
   ·cases e
  ·cases e
theorem z15i{T:Nat→Prop}{t:Ty}{q:Option MA}(ht:∀a,q=some a→T a.blk):Rd T (ld t q):=by
 cases t with
 | c c=>
  simp only[ld,zp3];exact z8t (zwh ht) fun _=>pu_someOr _
 | st ts=>exact z8t (zpp ht) fun _=>pu_someOr _
 | agg n=>exact zpp ht
 | arr k=>exact z10.rd
 | fnc f cp=>
  simp only[ld,zp3];exact z8t (z8t (zwh ht) fun _=>pu_someOr _) fun _=>pu_someOr _
theorem z12p{T:Nat→Prop}{n e:Nat}{q:Option MA}{lo hi:Int}(ht:∀a,q=some a→T a.blk):Rd T (slcA n e q lo hi):=by
 intro h v h' e;cases q with
 | none=>cases e
 | some a=>
  simp only[slcA]at e ⊢;split at e
  ·rename_i cs ro hg;split at e
   ·rename_i hu;cases e;refine⟨rfl,some a.blk,fun b hb=>?_,fun h2 hb=>?_⟩
    ·cases hb;exact⟨by rw[hg];simp,ht a rfl⟩
    ·rw[hb _ rfl,hg];dsimp only;rw[if_pos hu]
   ·cases e
  ·cases e
theorem zks{T:Nat→Prop}{e:Nat}{s:Sl}(ht:∀a,s.p=some a→T a.blk):Rd T (cellsOf e s):=by
 unfold cellsOf;split
 ·exact(z2m (z1q _) z10).rd
 ·exact zpp ht
theorem zn1{T:Nat→Prop}{r:Option Nat}(ht:∀b,r=some b→T b):Rd T (z88 r):=by
 intro h v h' e;cases r with
 | none=>cases e;exact⟨rfl,none,(by intro b hb;cases hb),fun _ _=>rfl⟩
 | some b=>
  simp only[z88]at e ⊢;split at e
  ·rename_i es hg;cases e;refine⟨rfl,some b,fun b' hb=>?_,fun h2 hb=>?_⟩
   ·cases hb;exact⟨by rw[hg];simp,ht b rfl⟩
   ·rw[hb _ rfl,hg]
  ·cases e
theorem zwi{T:Nat→Prop}{x:Option FV}{f:Option MA→M β}{g:Nat→Nat→M β}(k:∀q,x=some (.v (.ptr q))→Rd T (f q))(l:∀a b,Rd T (g a b)):Rd T (z3m x f g):=by
 unfold z3m;split
 ·exact k _ rfl
 ·exact l _ _
 ·exact z10.rd
theorem z12q{T:Nat→Prop}{x:Option MV}{f:Option MA→M β}(k:∀q,x=some (.ptr q)→Rd T (f q)):Rd T (zc5 x f):=by
 unfold zc5;split
 ·exact k _ rfl
 ·exact z10.rd
theorem z14m{T:Nat→Prop}{x:Option MV}{f:Option MA→Nat→Nat→M β}(k:∀p l e,x=some (.sl p l e)→Rd T (f p l e)):Rd T (wSl x f):=by
 unfold wSl;split
 ·exact k _ _ _ rfl
 ·exact z10.rd
theorem zm8{T:Nat→Prop}{x:Option MV}{f:Option Nat→M β}(k:∀r,x=some (.map r)→Rd T (f r)):Rd T (z7i x f):=by
 unfold z7i;split
 ·exact k _ rfl
 ·exact z10.rd
theorem z14n{T:Nat→Prop}{c:Prop}[Decidable c]{m n:M α}(k:Rd T m)(l:Rd T n):Rd T (if c then m else n):=by
 split
 ·exact k
 ·exact l
theorem zsr{T:Nat→Prop}{ε:Type u}{x:Option ε}{f:ε→M β}(k:∀v,Rd T (f v)):Rd T (z1c x f):=by
 cases x with
 | none=>exact z10.rd
 | some v=>exact k v
theorem zwj{T:Nat→Prop}{b:Bool}{m:M β}(k:Rd T m):Rd T (wIf b m):=by
 unfold wIf;split
 ·exact k
 ·exact z10.rd
theorem zpq{T:Nat→Prop}{fr:Fr}{x:Option Opd}{e:Int}{f:Int→M β}(k:∀a,Rd T (f a)):Rd T (intOf fr x e f):=by
 unfold intOf;split
 ·exact k _
 ·unfold z3r;split
  ·exact k _
  ·exact z10.rd
theorem zkt{T:Nat→Prop}{r:Option Nat}{k:MV}(ht:∀b,r=some b→T b):Rd T (z7x r k):=z8t (zn1 ht) fun _=>by
 split<;>first | exact z1q _ | exact z10
def zf0:MV→Option Nat
 | .ptr (some a)=>some a.blk
 | .sl (some a) _ _=>some a.blk
 | .map (some b)=>some b
 | _=>none
def bsOf(A:Fr)(x:Ins)(b:Nat):Prop:=∃o,x.pl=some o∧∃v,o.mv A=some v∧zf0 v=some b
theorem z12r{v:MV}{b:Nat}(h:zf0 v=some b):z7j v=some b:=by
 unfold zf0 at h;split at h<;>first | exact h | cases h
theorem zm9{x:Ins}{p:Opd}(h:x.pl=some p):p∈x.opds:=by
 cases x<;>first | (cases h;done) | (cases h;simp[Ins.opds])
theorem zbn{A:Fr}{o:Opd}{v:MV}(h:o.val A=some (.v v)):o.mv A=some v:=by simp only[Opd.mv,h]
variable{C:List (Nat×Entry)}
theorem zwk{x:Ins}{d:Nat}(hd:x.val=some d)(hc:x.cls=0)(A:Fr):Pu (z0b C x A tp):=by
 cases x with
 | fldV d' off t x=>
  cases t<;>simp only[z0b,z1k]
  ·exact zht fun _=>zhs fun _=>z1q _
  ·exact zht fun _=>z2m (z1q _) z10
  ·exact zht fun _=>z2m (z1q _) z10
  ·exact z10
  ·exact z10
 | mv | box | alloc | load | store | call | callz | callv | callvz | palloc | pbox | bslice | slcA | toStr | toBytes | look1 | look2 | mapLen | mkMap | mapPut | mapDel | app | appS | copy | copyS | mkSl | markB | mapClr | slClr | allocA | boxA | bsliceA | mkSlA | toBytesA | mkMapA=>simp[Ins.cls]at hc
 | _=>
  simp only[z0b,z1k,zhm,zdw];repeat (first
   | refine z3t (zzy _ _) fun _=>?_
   | exact z1q _
   | exact z10
   | refine zhs fun _=>?_
   | refine zsq fun _ _=>?_
   | refine z12h fun _=>?_
   | refine z14g fun _ _ _=>?_
   | refine z12i fun _=>?_
   | refine zht fun _=>?_
   | refine z14h fun _ _=>?_
   | refine zzt fun _=>?_
   | refine z14i ?_
   | refine zzx fun _=>?_
   | refine z12j fun _=>?_
   | refine zpo fun _=>?_
   | refine zzu fun _=>?_
   | refine z2m ?_ ?_
   | refine z3t (pu_someOr _) fun _=>?_
   | refine z3t (zwf _) fun _=>?_
   | refine z3t (z14j _ _) fun _=>?_
   | refine z3t (z14k _ _ _) fun _=>?_
   | refine z3t (z12k _ _ _ _) fun _=>?_
   | refine z3t (z12l _ _ _) fun _=>?_
   | refine z3t (zzz _ _ _ _) fun _=>?_
   | refine z3t (z12m _ _) fun _=>?_
   | refine z3t (z14l _ _ _ _) fun _=>?_
   | refine z3t (z12n _ _ _) fun _=>?_
   | refine z3t (z12o _ _) fun _=>?_
   | refine z3t (zwg _) fun _=>?_
   | refine z3t (z2m (z1q _) z10) fun _=>?_
   | refine zwe (fun _=>?_) (fun _ _=>?_))
theorem zwl{x:Ins}{d:Nat}(hd:x.val=some d)(hc:x.cls<2)(A:Fr):Rd (bsOf A x) (z0b C x A tp):=by
 by_cases h0:x.cls=0
 ·exact(zwk hd h0 A).rd
 cases x with
 | load d t p=>
  simp only[z0b,z1k];refine zwi (fun q hq=>z8t (z15i fun a ha=>?_) fun _=>z1q _) fun _ _=>(zhs fun _=>zpo fun _=>z1q _).rd;subst ha;exact⟨p,rfl,_,zbn hq,rfl⟩
 | slcA d n e p lo hi=>
  simp only[z0b,z1k];refine z12q fun q hq=>zpq fun _=>zpq fun _=>z8t (z12p fun a ha=>?_) fun _=>z1q _;subst ha;exact⟨p,rfl,_,hq,rfl⟩
 | toStr d s=>
  simp only[z0b,z1k];refine z14m fun p l e hq=>z14n (z8t (z8t (zks fun a ha=>?_) fun _=>pu_someOr _) fun _=>z1q _) z10.rd;subst ha;exact⟨s,rfl,_,hq,rfl⟩
 | look1 d kt t z m kk=>
  simp only[z0b,z1k];refine zm8 fun r hq=>zsr fun _=>zwj (z8t (zkt fun b hb=>?_) fun _=>z3t (pu_someOr _) fun _=>z1q _);subst hb;exact⟨m,rfl,_,hq,rfl⟩
 | look2 d kt t z m kk=>
  simp only[z0b,z1k];refine zm8 fun r hq=>zsr fun _=>zwj (z8t (zkt fun b hb=>?_) fun _=>z3t (pu_someOr _) fun _=>z1q _);subst hb;exact⟨m,rfl,_,hq,rfl⟩
 | mapLen d m=>
  simp only[z0b,z1k];refine zm8 fun r hq=>z8t (z8t (zn1 fun b hb=>?_) fun _=>z1q _) fun _=>z1q _;subst hb;exact⟨m,rfl,_,hq,rfl⟩
 | _=>first | exact absurd rfl h0 | (simp[Ins.cls]at hc)
theorem za5(a:α):Gr (ret a):=fun h x h' e=>by cases e;exact z4h.refl _
theorem z9l:Gr (z0d:M α):=fun h x h' e=>by cases e
theorem zdc{m:M α}{f:α→M β}(k:Gr m)(kf:∀a,Gr (f a)):Gr (bd m f):=fun h x h' e=>by
 obtain⟨a,h1,e1,e2⟩:=z0j e;exact(k _ _ _ e1).trans (kf a _ _ _ e2)
theorem zar{ε:Type u}{x:Option ε}{f:ε→M β}(k:∀v,Gr (f v)):Gr (z1c x f):=by
 cases x with
 | none=>exact z9l
 | some v=>exact k v
theorem zj8(cs:List MV):Gr (alloc cs):=fun h x h' e=>by cases e;exact z4h.push _ _
theorem zwm(v:MV):Gr (zbl v):=fun h x h' e=>by
 unfold zbl at e;split at e
 ·cases e;exact z4h.push _ _
 ·cases e
theorem z14o(m:M α):Gr (frz m):=fun h x h' e=>(zpe e).2
theorem zss(e:Entry)(vs:List MV){f:MV→M β}(k:∀v,Gr (f v)):Gr (e.runz vs f):=by
 unfold Entry.runz;split
 ·exact zdc (z14o _) fun _=>k _
 ·exact z9l
theorem zst{x:Option MV}{f:IntKind→Int→M β}(k:∀a b,Gr (f a b)):Gr (z3r x f):=by
 unfold z3r;split
 ·exact k _ _
 ·exact z9l
theorem z12s(e bytes:Nat)(z:List MV)(l c:Int):Gr (mkSl e bytes z l c):=by
 unfold mkSl;split
 ·exact fun h x h' e=>by cases e;exact z4h.push _ _
 ·exact z9l
theorem zu8(s:List UInt8):Gr (toBytes s):=by
 unfold toBytes;split
 ·exact fun h x h' e=>by cases e;exact z4h.push _ _
 ·exact z9l
theorem z14p{x:Ins}{d:Nat}(hd:x.val=some d)(hc:x.cls=3)(A:Fr):Gr (z0b C x A tp):=by
 cases x with
 | alloc d z=>simp only[z0b,z1k];exact zdc (zj8 _) fun _=>za5 _
 | box d a x=>
  cases a<;>simp only[z0b,z1k]
  ·exact zar fun _=>zdc (zwm _) fun _=>za5 _
  ·unfold z4p;split
   ·exact zdc (zj8 _) fun _=>za5 _
   ·exact z9l
 | bslice d e len z parts=>simp only[z0b,z1k];exact zar fun _=>zar fun _=>zdc (zj8 _) fun _=>za5 _
 | mkSl d e bytes z len cap=>simp only[z0b,z1k];exact zst fun _ _=>zst fun _ _=>zdc (z12s _ _ _ _ _) fun _=>za5 _
 | toBytes d x=>
  simp only[z0b,z1k];unfold z56;split
  ·exact zdc (zu8 _) fun _=>za5 _
  ·exact z9l
 | mkMap d=>simp only[z0b,z1k];exact zdc (fun h x h' e=>by cases e;exact z4h.push _ _) fun _=>za5 _
 | callz d f args=>simp only[z0b,z1k];exact zar fun _=>zar fun _=>zss _ _ fun _=>za5 _
 | callvz d f args=>
  simp only[z0b,z1k];unfold wFn;split
  ·exact zar fun _=>zar fun _=>zss _ _ fun _=>za5 _
  ·exact z9l
 | _=>simp[Ins.cls]at hc
end
end Go.Mini
