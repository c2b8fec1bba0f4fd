/- Regions whose order is drawn (1): what one operation hangs on. -/
import Derived.Test.YtfieiaijdalkbaaGreatMO
namespace Go.Mini
universe u
section
variable{α β γ δ:Type}
theorem bd_ret(a:α)(k:α→M β):bd (ret a) k=k a:=rfl
theorem z6z(k:α→M β):bd z0h k=z0h:=rfl
theorem bd_bd(m:M α)(f:α→M β)(k:β→M γ):bd (bd m f) k=bd m fun a=>bd (f a) k:=by
 funext h;simp only[bd];cases m h with
 | none=>rfl
 | some r=>rfl
theorem z8b(c:Prop)[Decidable c](a b:M α)(k:α→M β):bd (if c then a else b) k=if c then bd a k else bd b k:=by
 split<;>rfl
theorem z6h{ε:Type u}(x:Option ε)(f:ε→M α)(k:α→M β):bd (z19 x f) k=z19 x fun v=>bd (f v) k:=by cases x<;>rfl
theorem zo6(x:Option MV)(f:IntKind→Int→M α)(k:α→M β):bd (z3o x f) k=z3o x fun a b=>bd (f a b) k:=by
 unfold z3o;split<;>rfl
theorem zwd(x:Option MV)(f:List UInt8→M α)(k:α→M β):bd (z58 x f) k=z58 x fun a=>bd (f a) k:=by
 unfold z58;split<;>rfl
theorem z103(x:Option MV)(f:Option MA→Nat→Nat→M α)(k:α→M β):bd (wSl x f) k=wSl x fun a b c=>bd (f a b c) k:=by
 unfold wSl;split<;>rfl
theorem zwe(x:Option MV)(f:List MV→M α)(k:α→M β):bd (zbd x f) k=zbd x fun a=>bd (f a) k:=by
 unfold zbd;split<;>rfl
theorem z70(x:Option MV)(f:List MV→M α)(k:α→M β):bd (z4s x f) k=z4s x fun a=>bd (f a) k:=by
 unfold z4s;split<;>rfl
theorem zwf(x:Option MV)(f:Option Nat→M α)(k:α→M β):bd (z7o x f) k=z7o x fun a=>bd (f a) k:=by
 unfold z7o;split<;>rfl
theorem zwg(x:Option MV)(f:Option MA→M α)(k:α→M β):bd (zd3 x f) k=zd3 x fun a=>bd (f a) k:=by
 unfold zd3;split<;>rfl
theorem z104(x:Option MV)(f:FuncId→List MV→M α)(k:α→M β):bd (wFn x f) k=wFn x fun a b=>bd (f a b) k:=by
 unfold wFn;split<;>rfl
theorem zht(x:Option FV)(f:Option MA→M α)(g:Nat→Nat→M α)(k:α→M β):bd (z3e x f g) k=z3e x (fun a=>bd (f a) k) fun a b=>bd (g a b) k:=by
 unfold z3e;split<;>rfl
theorem zry(b:Bool)(m:M α)(k:α→M β):bd (wIf b m) k=wIf b (bd m k):=by
 unfold wIf;split<;>rfl
theorem zrz(x:Option FV)(f:FV→M α)(k:α→M β):bd (z9l x f) k=z9l x fun a=>bd (f a) k:=by
 unfold z9l;split<;>rfl
theorem zs0(fr:Fr)(x:Option Opd)(e:Int)(f:Int→M α)(k:α→M β):bd (intOf fr x e f) k=intOf fr x e fun a=>bd (f a) k:=by
 unfold intOf;split
 ·rfl
 ·rw[zo6]
theorem z14b(p q:Option MA)(f:Bool→M α)(k:α→M β):bd (zao p q f) k=zao p q fun a=>bd (f a) k:=by
 unfold zao;split
 ·rfl
 ·rw[bd_bd]
theorem zwh(op:UnOp)(x:MV)(f:MV→M α)(k:α→M β):bd (zdx op x f) k=zdx op x fun a=>bd (f a) k:=by
 unfold zdx;split<;>rfl
theorem zs1(op:BinOp)(x y:MV)(f:MV→M α)(k:α→M β):bd (z7n op x y f) k=z7n op x y fun a=>bd (f a) k:=by
 unfold z7n;split
 ·rw[z8b,z6z]
 ·rw[z8b,z6z]
 ·rw[z8b,z6z];congr 1;split<;>first | rfl | (rw[z8b,z6z])
 all_goals first | rfl | (rw[z14b])
theorem zs2(pv:PV)(t:Ty)(o:Nat)(f:MV→M α)(k:α→M β):bd (z6l pv t o f) k=z6l pv t o fun a=>bd (f a) k:=by
 unfold z6l;split<;>simp only[z6h,z8b,z6z,bd_bd]
theorem z9z(pv:PV)(n:Option Nat)(o:Nat)(x:MV)(f:PV→M α)(k:α→M β):bd (pstore pv n o x f) k=pstore pv n o x fun a=>bd (f a) k:=by
 unfold pstore;split<;>simp only[z6h,z8b,z6z,bd_bd]
theorem z105(e:Entry)(vs:List MV)(f:MV→M α)(k:α→M β):bd (e.run vs f) k=e.run vs fun a=>bd (f a) k:=by
 unfold Entry.run;split
 ·rw[bd_bd]
 ·rfl
theorem zwi(e:Entry)(vs:List MV)(f:MV→M α)(k:α→M β):bd (e.runz vs f) k=e.runz vs fun a=>bd (f a) k:=by
 unfold Entry.runz;split
 ·rw[bd_bd]
 ·rfl
variable{C:List (Nat×Entry)}
theorem z106(x:Ins)(fr:Fr)(k:Fr→M β):z08 C x fr k=bd (z08 C x fr ret) k:=by
 cases x with
 | box d a x=>cases a<;>simp only[z08,z6h,z70,bd_bd,bd_ret]
 | boxA d b a x=>cases a<;>simp only[z08,z6h,z70,bd_bd,bd_ret]
 | pbox d n x=>
  match n with
  | 0=>simp only[z08,z6h,z8b,z6z,bd_ret]
  | 1=>simp only[z08,z70,bd_ret]
  | n+2=>simp only[z08,z70,bd_ret]
 | fldV d off t x=>cases t<;>simp only[z08,z6h,z70,z8b,bd_ret,z6z]
 | store n p x=>cases n<;>simp only[z08,zht,z6h,z70,zry,bd_bd,z9z,bd_ret]
 | _=>simp only[z08,z6h,zo6,zwd,z103,zwe,z70,zwf,zwg,z104,zht,zry,zrz,zs0,zwh,zs1,zs2,z9z,z105,zwi,z8b,z6z,bd_bd,bd_ret]
theorem zv2{x:Ins}{fr:Fr}{k:Fr→M β}{h:Hp}{res:β×Hp}(e:z08 C x fr k h=some res):∃fr' h',z08 C x fr ret h=some (fr',h')∧k fr' h'=some res:=by
 rw[z106]at e;exact z0f e
def Up(A B:Fr)(l:List Opd):Prop:=∀o∈l,∀v,o.val A=some v→v=.gone∨o.val B=some v
def zb8(p q:List (Nat×PV×Bool)):Prop:=∀n pv b,z0g p n=some (pv,b)→∃b',z0g q n=some (pv,b')∧(b=true→b'=true)
theorem zb8.refl(p:List (Nat×PV×Bool)):zb8 p p:=fun _ _ b h=>⟨b,h,id⟩
theorem zb8.trans{p q r:List (Nat×PV×Bool)}(h:zb8 p q)(k:zb8 q r):zb8 p r:=fun n pv b e=>by
 obtain⟨b1,e1,f1⟩:=h n pv b e;obtain⟨b2,e2,f2⟩:=k n pv b1 e1;exact⟨b2,e2,fun hb=>f2 (f1 hb)⟩
section
variable{A B:Fr}{l:List Opd}{h:Hp}{res:β×Hp}
theorem Up.mv(up:Up A B l){o:Opd}(ho:o∈l){v:MV}(hv:o.mv A=some v):o.mv B=some v:=by
 unfold Opd.mv at hv ⊢;split at hv
 ·rename_i v' hl;cases hv;rcases up o ho _ hl with h | h
  ·cases h
  ·rw[h]
 ·cases hv
theorem Up.vals(up:Up A B l):∀{xs:List Opd},(∀o∈xs,o∈l)→∀{vs:List MV},z74 A xs=some vs→z74 B xs=some vs
 | [],_,vs,e=>e
 | x::r,hm,vs,e=>by
  simp only[z74]at e ⊢;split at e
  ·rename_i v ws h1 h2;cases e;rw[up.mv (hm x (by simp)) h1,Up.vals up (fun o ho=>hm o (by simp[ho])) h2]
  ·cases e
theorem Up.parts(up:Up A B l):∀{xs:List (Nat×Option Nat×Opd)},(∀o∈xs,o.2.2∈l)→∀{vs:List (Nat×Option Nat×MV)},z4x A xs=some vs→z4x B xs=some vs
 | [],_,vs,e=>e
 | (o,n,x)::r,hm,vs,e=>by
  simp only[z4x]at e ⊢;split at e
  ·rename_i v ws h1 h2;cases e;rw[up.mv (hm (o,n,x) (by simp)) h1,Up.parts up (fun o ho=>hm o (by simp[ho])) h2]
  ·cases e
theorem m_mv{f f':MV→M β}{o:Opd}(e:z19 (o.mv A) f h=some res)(up:Up A B l)(ho:o∈l)(hf:∀v,f v h=some res→f' v h=some res):z19 (o.mv B) f' h=some res:=by
 obtain⟨v,hv,e⟩:=z0i e;rw[up.mv ho hv];exact hf v e
theorem zhu{f f':List MV→M β}{xs:List Opd}(e:z19 (z74 A xs) f h=some res)(up:Up A B l)(ho:∀o∈xs,o∈l)(hf:∀v,f v h=some res→f' v h=some res):z19 (z74 B xs) f' h=some res:=by
 obtain⟨v,hv,e⟩:=z0i e;rw[up.vals ho hv];exact hf v e
theorem zo7{f f':List (Nat×Option Nat×MV)→M β}{xs:List (Nat×Option Nat×Opd)}(e:z19 (z4x A xs) f h=some res)(up:Up A B l)(ho:∀o∈xs,o.2.2∈l)(hf:∀v,f v h=some res→f' v h=some res):z19 (z4x B xs) f' h=some res:=by
 obtain⟨v,hv,e⟩:=z0i e;rw[up.parts ho hv];exact hf v e
theorem zm3{f f':IntKind→Int→M β}{o:Opd}(e:z3o (o.mv A) f h=some res)(up:Up A B l)(ho:o∈l)(hf:∀a b,f a b h=some res→f' a b h=some res):z3o (o.mv B) f' h=some res:=by
 obtain⟨a,b,hv,e⟩:=z30 e;rw[up.mv ho hv];exact hf a b e
theorem z107{f f':List UInt8→M β}{o:Opd}(e:z58 (o.mv A) f h=some res)(up:Up A B l)(ho:o∈l)(hf:∀a,f a h=some res→f' a h=some res):z58 (o.mv B) f' h=some res:=by
 obtain⟨a,hv,e⟩:=z49 e;rw[up.mv ho hv];exact hf a e
theorem z16j{f f':Option MA→Nat→Nat→M β}{o:Opd}(e:wSl (o.mv A) f h=some res)(up:Up A B l)(ho:o∈l)(hf:∀a b c,f a b c h=some res→f' a b c h=some res):wSl (o.mv B) f' h=some res:=by
 obtain⟨a,b,c,hv,e⟩:=z2b e;rw[up.mv ho hv];exact hf a b c e
theorem z19j{f f':List MV→M β}{o:Opd}(e:zbd (o.mv A) f h=some res)(up:Up A B l)(ho:o∈l)(hf:∀a,f a h=some res→f' a h=some res):zbd (o.mv B) f' h=some res:=by
 obtain⟨a,hv,e⟩:=zp7 e;rw[up.mv ho hv];exact hf a e
theorem zm4{f f':List MV→M β}{o:Opd}(e:z4s (o.mv A) f h=some res)(up:Up A B l)(ho:o∈l)(hf:∀a,f a h=some res→f' a h=some res):z4s (o.mv B) f' h=some res:=by
 obtain⟨a,hv,e⟩:=z2t e;rw[up.mv ho hv];exact hf a e
theorem z19k{f f':Option Nat→M β}{o:Opd}(e:z7o (o.mv A) f h=some res)(up:Up A B l)(ho:o∈l)(hf:∀a,f a h=some res→f' a h=some res):z7o (o.mv B) f' h=some res:=by
 obtain⟨a,hv,e⟩:=z31 e;rw[up.mv ho hv];exact hf a e
theorem z108{f f':Option MA→M β}{o:Opd}(e:zd3 (o.mv A) f h=some res)(up:Up A B l)(ho:o∈l)(hf:∀a,f a h=some res→f' a h=some res):zd3 (o.mv B) f' h=some res:=by
 obtain⟨a,hv,e⟩:=zp8 e;rw[up.mv ho hv];exact hf a e
theorem zxr{f f':FuncId→List MV→M β}{o:Opd}(e:wFn (o.mv A) f h=some res)(up:Up A B l)(ho:o∈l)(hf:∀a b,f a b h=some res→f' a b h=some res):wFn (o.mv B) f' h=some res:=by
 obtain⟨a,b,hv,e⟩:=zgb e;rw[up.mv ho hv];exact hf a b e
theorem zs3{f f':Option MA→M β}{g g':Nat→Nat→M β}{o:Opd}(e:z3e (o.val A) f g h=some res)(up:Up A B l)(ho:o∈l)(hf:∀a,f a h=some res→f' a h=some res)(hg:∀a b,g a b h=some res→g' a b h=some res):z3e (o.val B) f' g' h=some res:=by
 rcases z2f e with⟨q,hv,e⟩ | ⟨n,p,hv,e⟩
 ·rcases up o ho _ hv with hh | hh
  ·cases hh
  ·rw[hh];exact hf q e
 ·rcases up o ho _ hv with hh | hh
  ·cases hh
  ·rw[hh];exact hg n p e
theorem z17a{f f':FV→M β}{o:Opd}(e:z9l (o.val A) f h=some res)(up:Up A B l)(ho:o∈l)(hf:∀a,f a h=some res→f' a h=some res):z9l (o.val B) f' h=some res:=by
 cases hv:o.val A with
 | none=>rw[hv]at e;cases e
 | some v=>
  rw[hv]at e;have key:v≠.gone∧f v h=some res:=by cases v<;>first | exact⟨by simp,e⟩ | cases e
  rw[(up o ho _ hv).resolve_left key.1];cases v with
  | gone=>exact absurd rfl key.1
  | _=>exact hf _ key.2
theorem zdk{f f':Int→M β}{x:Option Opd}{els:Int}(e:intOf A x els f h=some res)(up:Up A B l)(ho:∀o∈x.toList,o∈l)(hf:∀a,f a h=some res→f' a h=some res):intOf B x els f' h=some res:=by
 cases x with
 | none=>exact hf _ e
 | some o=>exact zm3 (l:=l) e up (ho o (by simp)) fun _ b e=>hf b e
theorem z1as{b:Bool}{m m':M β}(e:wIf b m h=some res)(hf:m h=some res→m' h=some res):wIf b m' h=some res:=by
 obtain⟨rfl,e⟩:=z2u e;exact hf e
def Psee(A B:Fr)(x:Ins):Prop:=∀p,x.pl=some p→∀s o,p.val A=some (.loc s o)→∀pv b,z0g A.p s=some (pv,b)→∃b',z0g B.p s=some (pv,b')∧(b=true→b'=true)
theorem z109{f f':PV×Bool→M β}{n:Nat}(e:z19 (z0g A.p n) f h=some res)(ps:∀pv b,z0g A.p n=some (pv,b)→∃b',z0g B.p n=some (pv,b')∧(b=true→b'=true))(hf:∀pv b b',(b=true→b'=true)→f (pv,b) h=some res→f' (pv,b') h=some res):z19 (z0g B.p n) f' h=some res:=by
 obtain⟨⟨pv,b⟩,hv,e⟩:=z0i e;obtain⟨b',h1,h2⟩:=ps pv b hv;rw[h1];exact hf pv b b' h2 e
theorem m_if{c:Prop}[Decidable c]{m m' n:M β}(e:(if c then m else n) h=some res)(hn:n=z0h)(hf:m h=some res→m' h=some res):(if c then m' else n) h=some res:=by
 split at e
 ·rw[if_pos (by assumption)];exact hf e
 ·rw[hn]at e;cases e
end
def tp:Fr→M FV:=fun fr=>match fr.v with
 | (_,x)::_=>ret x
 | []=>z0h
theorem z1f(fr:Fr)(d:Nat)(v:MV):tp (fr.set d v)=ret (.v v):=rfl
theorem zjh(fr:Fr)(d:Nat)(v:FV):tp (fr.setF d v)=ret v:=rfl
theorem zfe(fr:Fr)(d a b:Nat):tp (fr.setL d a b)=ret (.loc a b):=rfl
theorem zm5(fr:Fr)(d:Nat)(v:MV):fr.setF d (.v v)=fr.set d v:=rfl
theorem z14d(fr:Fr)(d a b:Nat):fr.setF d (.loc a b)=fr.setL d a b:=rfl
def Ins.val:Ins→Option Nat
 | .palloc _ _ | .pbox _ _ _=>none
 | x=>match x.dst with
  | [d]=>some d
  | _=>none
theorem zci{x:Ins}{d:Nat}(hd:x.val=some d)(fr:Fr)(k:Fr→M β):z08 C x fr k=bd (z08 C x fr tp) fun V=>k (fr.setF d V):=by
 cases x with
 | palloc d pv=>cases hd
 | pbox d n x=>cases hd
 | store n p x=>cases hd
 | mapPut kt m k x=>cases hd
 | mapDel kt m k=>cases hd
 | mapClr m=>cases hd
 | slClr e z x=>cases hd
 | box d' a x=>
  obtain rfl:d'=d:=by simpa[Ins.val,Ins.dst]using hd
  cases a<;>simp only[z08,z6h,z70,bd_bd,bd_ret,z1f,zm5]
 | boxA d' b a x=>
  obtain rfl:d'=d:=by simpa[Ins.val,Ins.dst]using hd
  cases a<;>simp only[z08,z6h,z70,bd_bd,bd_ret,z1f,zm5]
 | fldV d' off t x=>
  obtain rfl:d'=d:=by simpa[Ins.val,Ins.dst]using hd
  cases t<;>simp only[z08,z6h,z70,z8b,bd_ret,z6z,z1f,zm5]
 | _=>
  cases hd;simp only[z08,z6h,zo6,zwd,z103,zwe,z70,zwf,zwg,z104,zht,zry,zrz,zs0,zwh,zs1,zs2,z9z,z105,zwi,z8b,z6z,bd_bd,bd_ret,z1f,zjh,zfe,zm5,z14d]
theorem zga{x:Ins}{d:Nat}(hd:x.val=some d)(hc:x.cls<5){A B:Fr}(up:Up A B x.opds)(ps:x.cls=1→Psee A B x){h:Hp}{res:FV×Hp}(e:z08 C x A tp h=some res):z08 C x B tp h=some res:=by
 cases x with
 | palloc d pv=>cases hd
 | pbox d n x=>cases hd
 | store n p x=>cases hd
 | mapPut kt m k x=>cases hd
 | mapDel kt m k=>cases hd
 | mapClr m=>cases hd
 | slClr e z x=>cases hd
 | mv d x=>simp[Ins.cls]at hc
 | alloc d z=>exact e
 | mkMap d=>exact e
 | box d' a x=>cases a<;>simp only[z08,z1f,Ins.opds]at e up ⊢ <;> first | exact m_mv e up (by simp) fun v e=>e | exact zm4 e up (by simp) fun v e=>e
 | allocA d b z=>exact e
 | mkMapA d b=>exact e
 | boxA d' b a x=>cases a<;>simp only[z08,z1f,Ins.opds]at e up ⊢ <;> first | exact m_mv e up (by simp) fun v e=>e | exact zm4 e up (by simp) fun v e=>e
 | bsliceA d a b c z parts=>
  simp only[z08,z1f,Ins.opds]at e up ⊢;exact zo7 e up (by intro o ho;exact List.mem_map_of_mem ho) fun v e=>e
 | fldV d' off t x=>cases t<;>simp only[z08,z1f,Ins.opds]at e up ⊢ <;> first | exact e | exact zm4 e up (by simp) fun v e=>e
 | load d t p=>
  simp only[z08,z1f,Ins.opds]at e up ⊢;rcases z2f e with⟨q,hv,e1⟩ | ⟨s,o,hv,e1⟩
  ·rcases up p (by simp) _ hv with c | c
   ·cases c
   ·rw[c];exact e1
  ·rcases up p (by simp) _ hv with c | c
   ·cases c
   ·rw[c];exact z109 e1 (ps rfl p rfl s o hv) fun _ _ _ _ e=>e
 | loadz d t p=>
  simp only[z08,z1f,Ins.opds]at e up ⊢;rcases z2f e with⟨q,hv,e1⟩ | ⟨s,o,hv,e1⟩
  ·cases e1
  ·rcases up p (by simp) _ hv with c | c
   ·cases c
   ·rw[c];exact z109 e1 (ps rfl p rfl s o hv) fun _ _ _ _ e=>e
 | build d z parts=>
  simp only[z08,z1f,Ins.opds]at e up ⊢;exact zo7 e up (by intro o ho;exact List.mem_map_of_mem ho) fun v e=>e
 | bslice d a b z parts=>
  simp only[z08,z1f,Ins.opds]at e up ⊢;exact zo7 e up (by intro o ho;exact List.mem_map_of_mem ho) fun v e=>e
 | slc d a s lo hi=>
  simp only[z08,z1f,Ins.opds]at e up ⊢;exact z16j e up (by simp) fun _ _ _ e=>m_if e rfl fun e=>zdk e up (by intro o ho;simp[ho]) fun _ e=>zdk e up (by intro o ho;simp[ho]) fun _ e=>e
 | slcS d s lo hi=>
  simp only[z08,z1f,Ins.opds]at e up ⊢;exact z107 e up (by simp) fun _ e=>zdk e up (by intro o ho;simp[ho]) fun _ e=>zdk e up (by intro o ho;simp[ho]) fun _ e=>e
 | slcA d n a s lo hi=>
  simp only[z08,z1f,Ins.opds]at e up ⊢;exact z108 e up (by simp) fun _ e=>zdk e up (by intro o ho;simp[ho]) fun _ e=>zdk e up (by intro o ho;simp[ho]) fun _ e=>e
 | call d f args=>
  simp only[z08,z1f,Ins.opds]at e up ⊢;exact zhu e up (fun _ ho=>ho) fun _ e=>e
 | callz d f args=>
  simp only[z08,z1f,Ins.opds]at e up ⊢;exact zhu e up (fun _ ho=>ho) fun _ e=>e
 | mkFn d f args=>
  simp only[z08,z1f,Ins.opds]at e up ⊢;exact zhu e up (fun _ ho=>ho) fun _ e=>e
 | callv d f args=>
  simp only[z08,z1f,Ins.opds]at e up ⊢;exact zxr e up (by simp) fun _ _ e=>zhu e up (fun _ ho=>by simp[ho]) fun _ e=>e
 | callvz d f args=>
  simp only[z08,z1f,Ins.opds]at e up ⊢;exact zxr e up (by simp) fun _ _ e=>zhu e up (fun _ ho=>by simp[ho]) fun _ e=>e
 | idxA d n a p i=>
  simp only[z08,z1f,zfe,Ins.opds]at e up ⊢;exact zs3 e up (by simp) (fun _ e=>zm3 e up (by simp) fun _ _ e=>e) fun _ _ e=>zm3 e up (by simp) fun _ _ e=>e
 | _=>
  simp only[z08,z1f,zjh,zfe,Ins.opds]at e up ⊢;repeat (first
   | exact e
   | refine m_mv e up (by simp) fun v e=>?_
   | refine zm3 e up (by simp) fun _ v e=>?_
   | refine z107 e up (by simp) fun v e=>?_
   | refine z16j e up (by simp) fun v _ _ e=>?_
   | refine z19j e up (by simp) fun v e=>?_
   | refine zm4 e up (by simp) fun v e=>?_
   | refine z19k e up (by simp) fun v e=>?_
   | refine z108 e up (by simp) fun v e=>?_
   | refine zxr e up (by simp) fun v _ e=>?_
   | refine z17a e up (by simp) fun v e=>?_
   | refine zs3 e up (by simp) (fun _ e=>e) (fun _ _ e=>e)
   | refine z1as e fun e=>?_)
end
end Go.Mini

/- Regions whose order is drawn (2): what an operation reads, and what it leaves. -/
namespace Go.Mini
universe u
section
variable{α β γ:Type}
def Pu(m:M α):Prop:=∀h a h',m h=some (a,h')→h'=h∧∀h2,m h2=some (a,h2)
def Rd(T:Nat→Prop)(m:M α):Prop:=∀h a h',m h=some (a,h')→h'=h∧∃ob:Option Nat,(∀b,ob=some b→h.get b≠.dead∧T b)∧∀h2,(∀b,ob=some b→h2.get b=h.get b)→m h2=some (a,h2)
def Gr(m:M α):Prop:=∀h a h',m h=some (a,h')→z4g h h'
theorem Pu.rd{T:Nat→Prop}{m:M α}(k:Pu m):Rd T m:=fun h a h' e=>by
 obtain⟨h1,h2⟩:=k h a h' e;exact⟨h1,none,(by intro b hb;cases hb),fun h2' _=>h2 h2'⟩
theorem z1p(a:α):Pu (ret a):=fun h x h' e=>by cases e;exact⟨rfl,fun _=>rfl⟩
theorem z0z:Pu (z0h:M α):=fun h x h' e=>by cases e
theorem z3q{m:M α}{f:α→M β}(k:Pu m)(kf:∀a,Pu (f a)):Pu (bd m f):=fun h x h' e=>by
 obtain⟨a,h1,e1,e2⟩:=z0f e;obtain⟨rfl,k1⟩:=k _ _ _ e1;obtain⟨rfl,k2⟩:=kf a _ _ _ e2;exact⟨rfl,fun h2=>by simp only[bd,k1 h2];exact k2 h2⟩
theorem z2q{c:Prop}[Decidable c]{m n:M α}(k:Pu m)(l:Pu n):Pu (if c then m else n):=by
 split
 ·exact k
 ·exact l
theorem zfq{ε:Type u}{x:Option ε}{f:ε→M β}(k:∀v,Pu (f v)):Pu (z19 x f):=by
 cases x with
 | none=>exact z0z
 | some v=>exact k v
theorem z3y(o:Option α):Pu (z0p o):=by
 cases o with
 | none=>exact fun h x h' e=>by cases e
 | some a=>exact fun h x h' e=>by cases e;exact⟨rfl,fun _=>rfl⟩
theorem zwo{x:Option MV}{f:IntKind→Int→M β}(k:∀a b,Pu (f a b)):Pu (z3o x f):=by
 unfold z3o;split
 ·exact k _ _
 ·exact z0z
theorem z17n{x:Option MV}{f:List UInt8→M β}(k:∀a,Pu (f a)):Pu (z58 x f):=by
 unfold z58;split
 ·exact k _
 ·exact z0z
theorem z19r{x:Option MV}{f:Option MA→Nat→Nat→M β}(k:∀a b c,Pu (f a b c)):Pu (wSl x f):=by
 unfold wSl;split
 ·exact k _ _ _
 ·exact z0z
theorem z17o{x:Option MV}{f:List MV→M β}(k:∀a,Pu (f a)):Pu (zbd x f):=by
 unfold zbd;split
 ·exact k _
 ·exact z0z
theorem zjn{x:Option MV}{f:List MV→M β}(k:∀a,Pu (f a)):Pu (z4s x f):=by
 unfold z4s;split
 ·exact k _
 ·exact z0z
theorem z19s{x:Option MV}{f:FuncId→List MV→M β}(k:∀a b,Pu (f a b)):Pu (wFn x f):=by
 unfold wFn;split
 ·exact k _ _
 ·exact z0z
theorem z10w{x:Option FV}{f:Option MA→M β}{g:Nat→Nat→M β}(k:∀a,Pu (f a))(l:∀a b,Pu (g a b)):Pu (z3e x f g):=by
 unfold z3e;split
 ·exact k _
 ·exact l _ _
 ·exact z0z
theorem z19t{b:Bool}{m:M β}(k:Pu m):Pu (wIf b m):=by
 unfold wIf;split
 ·exact k
 ·exact z0z
theorem z14o{x:Option FV}{f:FV→M β}(k:∀a,Pu (f a)):Pu (z9l x f):=by
 unfold z9l;split
 ·exact k _
 ·exact k _
 ·exact z0z
theorem z14p{fr:Fr}{x:Option Opd}{e:Int}{f:Int→M β}(k:∀a,Pu (f a)):Pu (intOf fr x e f):=by
 unfold intOf;split
 ·exact k _
 ·exact zwo fun _ _=>k _
theorem z14q(p q:Option MA):Pu (zc3 p q):=by
 intro h a h' e;cases p with
 | none=>cases e;exact⟨rfl,fun _=>rfl⟩
 | some x=>
  cases q with
  | none=>cases e;exact⟨rfl,fun _=>rfl⟩
  | some y=>
   simp only[zc3]at e ⊢;split at e
   ·cases e;refine⟨rfl,fun h2=>?_⟩;rw[if_pos (by assumption)]
   ·cases e
theorem z14r{p q:Option MA}{f:Bool→M β}(k:∀b,Pu (f b)):Pu (zao p q f):=by
 unfold zao;split
 ·exact k _
 ·exact z3q (z14q _ _) k
theorem z17p{op:UnOp}{x:MV}{f:MV→M β}(k:∀a,Pu (f a)):Pu (zdx op x f):=by
 unfold zdx;split<;>first | exact k _ | exact z0z
theorem z14s{op:BinOp}{x y:MV}{f:MV→M β}(k:∀a,Pu (f a)):Pu (z7n op x y f):=by
 unfold z7n;split
 ·exact z2q z0z (k _)
 ·exact z2q z0z (k _)
 ·refine z2q ?_ z0z;split<;>first | exact k _ | exact z2q z0z (k _)
 all_goals first | exact k _ | exact z14r fun _=>k _ | exact z0z
theorem zl4{pv:PV}{t:Ty}{o:Nat}{f:MV→M β}(k:∀a,Pu (f a)):Pu (z6l pv t o f):=by
 unfold z6l;split
 ·exact zfq k
 ·exact z2q (k _) z0z
 ·exact z2q (z3q (z3y _) fun _=>k _) z0z
 ·exact z3q (z3y _) fun _=>z3q (z3y _) fun _=>k _
 ·exact z3q (z2q (z1p _) z0z) fun _=>z3q (z3y _) fun _=>k _
 ·exact z3q (z2q (z1p _) z0z) fun _=>k _
 ·exact z0z
theorem z10x(p:Option MA):Pu (nonNil p):=by cases p<;>first | exact z1p _ | exact z0z
theorem z19u(p:Option MA)(n:Nat):Pu (fld p n):=by cases p<;>first | exact z1p _ | exact z0z
theorem z19v(e:Nat)(s:Sl)(i:Int):Pu (idx e s i):=by
 unfold idx;split
 ·exact z2q (z1p _) z0z
 ·exact z0z
theorem z14t(n:Nat)(s:Sl):Pu (arrAt n s):=by
 unfold arrAt;split
 ·exact z1p _
 ·exact z0z
theorem z17q(n e:Nat)(p:Option MA)(i:Int):Pu (idxA n e p i):=by
 unfold idxA;split
 ·exact z2q (z1p _) z0z
 ·exact z0z
theorem z17r(n:Nat)(cs:List MV)(i:Int):Pu (idxV n cs i):=z2q (z3y _) z0z
theorem z14u(n e:Nat)(cs:List MV)(i:Int):Pu (idxVn n e cs i):=z2q (z2q (z1p _) z0z) z0z
theorem z17s(s:List UInt8)(i:Int):Pu (idxS s i):=z2q (z3q (z3y _) fun _=>z1p _) z0z
theorem z19w(e:Nat)(s:Sl)(a b:Int):Pu (slc e s a b):=z2q (z1p _) z0z
theorem z17t(s:List UInt8)(a b:Int):Pu (slcS s a b):=z2q (z1p _) z0z
theorem z17u(s t:List UInt8):Pu (zgk s t):=z2q (z1p _) z0z
theorem z10y(v:MV):Pu (zi3 v):=by unfold zi3;split<;>first | exact z1p _ | exact z0z
theorem z8z{T:Nat→Prop}{m:M α}{f:α→M β}(k:Rd T m)(kf:∀a,Pu (f a)):Rd T (bd m f):=fun h x h' e=>by
 obtain⟨a,h1,e1,e2⟩:=z0f e;obtain⟨rfl,ob,k1,k2⟩:=k _ _ _ e1;obtain⟨rfl,k3⟩:=kf a _ _ _ e2;exact⟨rfl,ob,k1,fun h2 hb=>by simp only[bd,k2 h2 hb];exact k3 h2⟩
theorem z10z{T:Nat→Prop}{q:Option MA}(ht:∀a,q=some a→T a.blk):Rd T (ldc q):=by
 intro h v h' e;cases q with
 | none=>cases e
 | some a=>
  simp only[ldc]at e ⊢;split at e
  ·rename_i cs ro hg;split at e
   ·rename_i u hu;cases e;refine⟨rfl,some a.blk,fun b hb=>?_,fun h2 hb=>?_⟩
    ·cases hb;exact⟨by rw[hg];simp,ht a rfl⟩
    ·rw[hb _ rfl,hg];simp only[hu]
   ·cases e
  ·cases e
theorem zsv{T:Nat→Prop}{n:Nat}{q:Option MA}(ht:∀a,q=some a→T a.blk):Rd T (ldn n q):=by
 intro h v h' e;cases q with
 | none=>cases e
 | some a=>
  simp only[ldn]at e ⊢;split at e
  ·rename_i cs ro hg;split at e
   ·rename_i hu;cases e;refine⟨rfl,some a.blk,fun b hb=>?_,fun h2 hb=>?_⟩
    ·cases hb;exact⟨by rw[hg];simp,ht a rfl⟩
    ·rw[hb _ rfl,hg];simp only[hu,if_true]
   ·cases e
  ·cases e
theorem z1ax{T:Nat→Prop}{t:Ty}{q:Option MA}(ht:∀a,q=some a→T a.blk):Rd T (ld t q):=by
 cases t with
 | c c=>
  simp only[ld,zsa];exact z8z (z10z ht) fun _=>z3y _
 | st ts=>exact z8z (zsv ht) fun _=>z3y _
 | agg n=>exact zsv ht
 | arr k=>exact z0z.rd
 | fnc f cp=>
  simp only[ld,zsa];exact z8z (z8z (z10z ht) fun _=>z3y _) fun _=>z3y _
theorem z17v{T:Nat→Prop}{n e:Nat}{q:Option MA}{lo hi:Int}(ht:∀a,q=some a→T a.blk):Rd T (slcA n e q lo hi):=by
 intro h v h' e;cases q with
 | none=>cases e
 | some a=>
  simp only[slcA]at e ⊢;split at e
  ·rename_i cs ro hg;split at e
   ·rename_i hu;cases e;refine⟨rfl,some a.blk,fun b hb=>?_,fun h2 hb=>?_⟩
    ·cases hb;exact⟨by rw[hg];simp,ht a rfl⟩
    ·rw[hb _ rfl,hg];dsimp only;rw[if_pos hu]
   ·cases e
  ·cases e
theorem zmv{T:Nat→Prop}{e:Nat}{s:Sl}(ht:∀a,s.p=some a→T a.blk):Rd T (cellsOf e s):=by
 unfold cellsOf;split
 ·exact(z2q (z1p _) z0z).rd
 ·exact zsv ht
theorem zph{T:Nat→Prop}{r:Option Nat}(ht:∀b,r=some b→T b):Rd T (z8e r):=by
 intro h v h' e;cases r with
 | none=>cases e;exact⟨rfl,none,(by intro b hb;cases hb),fun _ _=>rfl⟩
 | some b=>
  simp only[z8e]at e ⊢;split at e
  ·rename_i es hg;cases e;refine⟨rfl,some b,fun b' hb=>?_,fun h2 hb=>?_⟩
   ·cases hb;exact⟨by rw[hg];simp,ht b rfl⟩
   ·rw[hb _ rfl,hg]
  ·cases e
theorem zpi{T:Nat→Prop}{x:Option FV}{f:Option MA→M β}{g:Nat→Nat→M β}(k:∀q,x=some (.v (.ptr q))→Rd T (f q))(l:∀a b,Rd T (g a b)):Rd T (z3e x f g):=by
 unfold z3e;split
 ·exact k _ rfl
 ·exact l _ _
 ·exact z0z.rd
theorem z17w{T:Nat→Prop}{x:Option MV}{f:Option MA→M β}(k:∀q,x=some (.ptr q)→Rd T (f q)):Rd T (zd3 x f):=by
 unfold zd3;split
 ·exact k _ rfl
 ·exact z0z.rd
theorem z19x{T:Nat→Prop}{x:Option MV}{f:Option MA→Nat→Nat→M β}(k:∀p l e,x=some (.sl p l e)→Rd T (f p l e)):Rd T (wSl x f):=by
 unfold wSl;split
 ·exact k _ _ _ rfl
 ·exact z0z.rd
theorem zoe{T:Nat→Prop}{x:Option MV}{f:Option Nat→M β}(k:∀r,x=some (.map r)→Rd T (f r)):Rd T (z7o x f):=by
 unfold z7o;split
 ·exact k _ rfl
 ·exact z0z.rd
theorem z19y{T:Nat→Prop}{c:Prop}[Decidable c]{m n:M α}(k:Rd T m)(l:Rd T n):Rd T (if c then m else n):=by
 split
 ·exact k
 ·exact l
theorem zwp{T:Nat→Prop}{ε:Type u}{x:Option ε}{f:ε→M β}(k:∀v,Rd T (f v)):Rd T (z19 x f):=by
 cases x with
 | none=>exact z0z.rd
 | some v=>exact k v
theorem z110{T:Nat→Prop}{b:Bool}{m:M β}(k:Rd T m):Rd T (wIf b m):=by
 unfold wIf;split
 ·exact k
 ·exact z0z.rd
theorem zsw{T:Nat→Prop}{fr:Fr}{x:Option Opd}{e:Int}{f:Int→M β}(k:∀a,Rd T (f a)):Rd T (intOf fr x e f):=by
 unfold intOf;split
 ·exact k _
 ·unfold z3o;split
  ·exact k _
  ·exact z0z.rd
theorem zmw{T:Nat→Prop}{r:Option Nat}{k:MV}(ht:∀b,r=some b→T b):Rd T (z84 r k):=z8z (zph ht) fun _=>by
 split<;>first | exact z1p _ | exact z0z
def zgo:MV→Option Nat
 | .ptr (some a)=>some a.blk
 | .sl (some a) _ _=>some a.blk
 | .map (some b)=>some b
 | _=>none
def bsOf(A:Fr)(x:Ins)(b:Nat):Prop:=∃o,x.pl=some o∧∃v,o.mv A=some v∧zgo v=some b
theorem z17x{v:MV}{b:Nat}(h:zgo v=some b):z7p v=some b:=by
 unfold zgo at h;split at h<;>first | exact h | cases h
theorem zof{x:Ins}{p:Opd}(h:x.pl=some p):p∈x.opds:=by
 cases x<;>first | (cases h;done) | (cases h;simp[Ins.opds])
theorem zcm{A:Fr}{o:Opd}{v:MV}(h:o.val A=some (.v v)):o.mv A=some v:=by simp only[Opd.mv,h]
variable{C:List (Nat×Entry)}
theorem z111{x:Ins}{d:Nat}(hd:x.val=some d)(hc:x.cls=0)(A:Fr):Pu (z08 C x A tp):=by
 cases x with
 | fldV d' off t x=>
  cases t<;>simp only[z08,z1f]
  ·exact zjn fun _=>zfq fun _=>z1p _
  ·exact zjn fun _=>z2q (z1p _) z0z
  ·exact zjn fun _=>z2q (z1p _) z0z
  ·exact z0z
  ·exact z0z
 | mv | box | alloc | load | loadz | store | call | callz | callv | callvz | palloc | pbox | bslice | slcA | toStr | toBytes | look1 | look2 | mapLen | mkMap | mapPut | mapDel | app | appS | copy | copyS | mkSl | markB | mapClr | slClr | allocA | boxA | bsliceA | mkSlA | toBytesA | mkMapA=>simp[Ins.cls]at hc
 | _=>
  simp only[z08,z1f,zjh,zfe];repeat (first
   | refine z3q (z14t _ _) fun _=>?_
   | exact z1p _
   | exact z0z
   | refine zfq fun _=>?_
   | refine zwo fun _ _=>?_
   | refine z17n fun _=>?_
   | refine z19r fun _ _ _=>?_
   | refine z17o fun _=>?_
   | refine zjn fun _=>?_
   | refine z19s fun _ _=>?_
   | refine z14o fun _=>?_
   | refine z19t ?_
   | refine z14s fun _=>?_
   | refine z17p fun _=>?_
   | refine zl4 fun _=>?_
   | refine z14p fun _=>?_
   | refine z2q ?_ ?_
   | refine z3q (z3y _) fun _=>?_
   | refine z3q (z10x _) fun _=>?_
   | refine z3q (z19u _ _) fun _=>?_
   | refine z3q (z19v _ _ _) fun _=>?_
   | refine z3q (z17q _ _ _ _) fun _=>?_
   | refine z3q (z17r _ _ _) fun _=>?_
   | refine z3q (z14u _ _ _ _) fun _=>?_
   | refine z3q (z17s _ _) fun _=>?_
   | refine z3q (z19w _ _ _ _) fun _=>?_
   | refine z3q (z17t _ _ _) fun _=>?_
   | refine z3q (z17u _ _) fun _=>?_
   | refine z3q (z10y _) fun _=>?_
   | refine z3q (z2q (z1p _) z0z) fun _=>?_
   | refine z10w (fun _=>?_) (fun _ _=>?_))
theorem z112{x:Ins}{d:Nat}(hd:x.val=some d)(hc:x.cls<2)(A:Fr):Rd (bsOf A x) (z08 C x A tp):=by
 by_cases h0:x.cls=0
 ·exact(z111 hd h0 A).rd
 cases x with
 | load d t p=>
  simp only[z08,z1f];refine zpi (fun q hq=>z8z (z1ax fun a ha=>?_) fun _=>z1p _) fun _ _=>(zfq fun _=>zl4 fun _=>z1p _).rd;subst ha;exact⟨p,rfl,_,zcm hq,rfl⟩
 | loadz d t p=>
  simp only[z08,z1f];exact zpi (fun _ _=>z0z.rd) fun _ _=>(zfq fun _=>zl4 fun _=>z1p _).rd
 | slcA d n e p lo hi=>
  simp only[z08,z1f];refine z17w fun q hq=>zsw fun _=>zsw fun _=>z8z (z17v fun a ha=>?_) fun _=>z1p _;subst ha;exact⟨p,rfl,_,hq,rfl⟩
 | toStr d s=>
  simp only[z08,z1f];refine z19x fun p l e hq=>z19y (z8z (z8z (zmv fun a ha=>?_) fun _=>z3y _) fun _=>z1p _) z0z.rd;subst ha;exact⟨s,rfl,_,hq,rfl⟩
 | look1 d kt t z m kk=>
  simp only[z08,z1f];refine zoe fun r hq=>zwp fun _=>z110 (z8z (zmw fun b hb=>?_) fun _=>z3q (z3y _) fun _=>z1p _);subst hb;exact⟨m,rfl,_,hq,rfl⟩
 | look2 d kt t z m kk=>
  simp only[z08,z1f];refine zoe fun r hq=>zwp fun _=>z110 (z8z (zmw fun b hb=>?_) fun _=>z3q (z3y _) fun _=>z1p _);subst hb;exact⟨m,rfl,_,hq,rfl⟩
 | mapLen d m=>
  simp only[z08,z1f];refine zoe fun r hq=>z8z (z8z (zph fun b hb=>?_) fun _=>z1p _) fun _=>z1p _;subst hb;exact⟨m,rfl,_,hq,rfl⟩
 | _=>first | exact absurd rfl h0 | (simp[Ins.cls]at hc)
theorem zap(a:α):Gr (ret a):=fun h x h' e=>by cases e;exact z4g.refl _
theorem za3:Gr (z0h:M α):=fun h x h' e=>by cases e
theorem zen{m:M α}{f:α→M β}(k:Gr m)(kf:∀a,Gr (f a)):Gr (bd m f):=fun h x h' e=>by
 obtain⟨a,h1,e1,e2⟩:=z0f e;exact(k _ _ _ e1).trans (kf a _ _ _ e2)
theorem zbh{ε:Type u}{x:Option ε}{f:ε→M β}(k:∀v,Gr (f v)):Gr (z19 x f):=by
 cases x with
 | none=>exact za3
 | some v=>exact k v
theorem zl5(cs:List MV):Gr (alloc cs):=fun h x h' e=>by cases e;exact z4g.push _ _
theorem z113(v:MV):Gr (z8d v):=fun h x h' e=>by
 unfold z8d at e;split at e
 ·cases e;exact z4g.push _ _
 ·cases e
theorem z19z(m:M α):Gr (frz m):=fun h x h' e=>(zsm e).2
theorem zwq(e:Entry)(vs:List MV){f:MV→M β}(k:∀v,Gr (f v)):Gr (e.runz vs f):=by
 unfold Entry.runz;split
 ·exact zen (z19z _) fun _=>k _
 ·exact za3
theorem zwr{x:Option MV}{f:IntKind→Int→M β}(k:∀a b,Gr (f a b)):Gr (z3o x f):=by
 unfold z3o;split
 ·exact k _ _
 ·exact za3
theorem z17y(e bytes:Nat)(z:List MV)(l c:Int):Gr (mkSl e bytes z l c):=by
 unfold mkSl;split
 ·exact fun h x h' e=>by cases e;exact z4g.push _ _
 ·exact za3
theorem zyc(s:List UInt8):Gr (toBytes s):=by
 unfold toBytes;split
 ·exact fun h x h' e=>by cases e;exact z4g.push _ _
 ·exact za3
theorem z1a0{x:Ins}{d:Nat}(hd:x.val=some d)(hc:x.cls=3)(A:Fr):Gr (z08 C x A tp):=by
 cases x with
 | alloc d z=>simp only[z08,z1f];exact zen (zl5 _) fun _=>zap _
 | box d a x=>
  cases a<;>simp only[z08,z1f]
  ·exact zbh fun _=>zen (z113 _) fun _=>zap _
  ·unfold z4s;split
   ·exact zen (zl5 _) fun _=>zap _
   ·exact za3
 | bslice d e len z parts=>simp only[z08,z1f];exact zbh fun _=>zbh fun _=>zen (zl5 _) fun _=>zap _
 | mkSl d e bytes z len cap=>simp only[z08,z1f];exact zwr fun _ _=>zwr fun _ _=>zen (z17y _ _ _ _ _) fun _=>zap _
 | toBytes d x=>
  simp only[z08,z1f];unfold z58;split
  ·exact zen (zyc _) fun _=>zap _
  ·exact za3
 | mkMap d=>simp only[z08,z1f];exact zen (fun h x h' e=>by cases e;exact z4g.push _ _) fun _=>zap _
 | callz d f args=>simp only[z08,z1f];exact zbh fun _=>zbh fun _=>zwq _ _ fun _=>zap _
 | callvz d f args=>
  simp only[z08,z1f];unfold wFn;split
  ·exact zbh fun _=>zbh fun _=>zwq _ _ fun _=>zap _
  ·exact za3
 | _=>simp[Ins.cls]at hc
end
end Go.Mini
