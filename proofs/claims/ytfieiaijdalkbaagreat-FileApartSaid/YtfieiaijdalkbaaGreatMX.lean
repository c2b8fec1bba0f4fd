/- Regions whose order is drawn (1): what one operation hangs on. -/
import Derived.Test.YtfieiaijdalkbaaGreatMO
namespace Go.Mini
universe u
section
variable{α β γ δ:Type}
theorem bd_ret(a:α)(k:α→M β):bd (ret a) k=k a:=rfl
theorem z6x(k:α→M β):bd z0h k=z0h:=rfl
theorem bd_bd(m:M α)(f:α→M β)(k:β→M γ):bd (bd m f) k=bd m fun a=>bd (f a) k:=by
 funext h;simp only[bd];cases m h with
 | none=>rfl
 | some r=>rfl
theorem z82(c:Prop)[Decidable c](a b:M α)(k:α→M β):bd (if c then a else b) k=if c then bd a k else bd b k:=by
 split<;>rfl
theorem z6b{ε:Type u}(x:Option ε)(f:ε→M α)(k:α→M β):bd (z19 x f) k=z19 x fun v=>bd (f v) k:=by cases x<;>rfl
theorem znm(x:Option MV)(f:IntKind→Int→M α)(k:α→M β):bd (z3l x f) k=z3l x fun a b=>bd (f a b) k:=by
 unfold z3l;split<;>rfl
theorem zv5(x:Option MV)(f:List UInt8→M α)(k:α→M β):bd (wStr x f) k=wStr x fun a=>bd (f a) k:=by
 unfold wStr;split<;>rfl
theorem zyp(x:Option MV)(f:Option MA→Nat→Nat→M α)(k:α→M β):bd (wSl x f) k=wSl x fun a b c=>bd (f a b c) k:=by
 unfold wSl;split<;>rfl
theorem zv6(x:Option MV)(f:List MV→M α)(k:α→M β):bd (zb2 x f) k=zb2 x fun a=>bd (f a) k:=by
 unfold zb2;split<;>rfl
theorem z6y(x:Option MV)(f:List MV→M α)(k:α→M β):bd (z4o x f) k=z4o x fun a=>bd (f a) k:=by
 unfold z4o;split<;>rfl
theorem zv7(x:Option MV)(f:Option Nat→M α)(k:α→M β):bd (z7i x f) k=z7i x fun a=>bd (f a) k:=by
 unfold z7i;split<;>rfl
theorem zv8(x:Option MV)(f:Option MA→M α)(k:α→M β):bd (zcs x f) k=zcs x fun a=>bd (f a) k:=by
 unfold zcs;split<;>rfl
theorem zyq(x:Option MV)(f:FuncId→List MV→M α)(k:α→M β):bd (wFn x f) k=wFn x fun a b=>bd (f a b) k:=by
 unfold wFn;split<;>rfl
theorem zhb(x:Option FV)(f:Option MA→M α)(g:Nat→Nat→M α)(k:α→M β):bd (z3h x f g) k=z3h x (fun a=>bd (f a) k) fun a b=>bd (g a b) k:=by
 unfold z3h;split<;>rfl
theorem zr3(b:Bool)(m:M α)(k:α→M β):bd (wIf b m) k=wIf b (bd m k):=by
 unfold wIf;split<;>rfl
theorem zr4(x:Option FV)(f:FV→M α)(k:α→M β):bd (z98 x f) k=z98 x fun a=>bd (f a) k:=by
 unfold z98;split<;>rfl
theorem zr5(fr:Fr)(x:Option Opd)(e:Int)(f:Int→M α)(k:α→M β):bd (intOf fr x e f) k=intOf fr x e fun a=>bd (f a) k:=by
 unfold intOf;split
 ·rfl
 ·rw[znm]
theorem z12u(p q:Option MA)(f:Bool→M α)(k:α→M β):bd (zad p q f) k=zad p q fun a=>bd (f a) k:=by
 unfold zad;split
 ·rfl
 ·rw[bd_bd]
theorem zv9(op:UnOp)(x:MV)(f:MV→M α)(k:α→M β):bd (zdk op x f) k=zdk op x fun a=>bd (f a) k:=by
 unfold zdk;split<;>rfl
theorem zr6(op:BinOp)(x y:MV)(f:MV→M α)(k:α→M β):bd (z7h op x y f) k=z7h op x y fun a=>bd (f a) k:=by
 unfold z7h;split
 ·rw[z82,z6x]
 ·rw[z82,z6x]
 ·rw[z82,z6x];congr 1;split<;>first | rfl | (rw[z82,z6x])
 all_goals first | rfl | (rw[z12u])
theorem zr7(pv:PV)(t:Ty)(o:Nat)(f:MV→M α)(k:α→M β):bd (z6t pv t o f) k=z6t pv t o fun a=>bd (f a) k:=by
 unfold z6t;split<;>simp only[z6b,z82,z6x,bd_bd]
theorem z9o(pv:PV)(n:Option Nat)(o:Nat)(x:MV)(f:PV→M α)(k:α→M β):bd (z5y pv n o x f) k=z5y pv n o x fun a=>bd (f a) k:=by
 unfold z5y;split<;>simp only[z6b,z82,z6x,bd_bd]
theorem zyr(e:Entry)(vs:List MV)(f:MV→M α)(k:α→M β):bd (e.run vs f) k=e.run vs fun a=>bd (f a) k:=by
 unfold Entry.run;split
 ·rw[bd_bd]
 ·rfl
theorem zva(e:Entry)(vs:List MV)(f:MV→M α)(k:α→M β):bd (e.runz vs f) k=e.runz vs fun a=>bd (f a) k:=by
 unfold Entry.runz;split
 ·rw[bd_bd]
 ·rfl
variable{C:List (Nat×Entry)}
theorem zys(x:Ins)(fr:Fr)(k:Fr→M β):z08 C x fr k=bd (z08 C x fr ret) k:=by
 cases x with
 | box d a x=>cases a<;>simp only[z08,z6b,z6y,bd_bd,bd_ret]
 | boxA d b a x=>cases a<;>simp only[z08,z6b,z6y,bd_bd,bd_ret]
 | pbox d n x=>
  match n with
  | 0=>simp only[z08,z6b,z82,z6x,bd_ret]
  | 1=>simp only[z08,z6y,bd_ret]
  | n+2=>simp only[z08,z6y,bd_ret]
 | fldV d off t x=>cases t<;>simp only[z08,z6b,z6y,z82,bd_ret,z6x]
 | store n p x=>cases n<;>simp only[z08,zhb,z6b,z6y,zr3,bd_bd,z9o,bd_ret]
 | _=>simp only[z08,z6b,znm,zv5,zyp,zv6,z6y,zv7,zv8,zyq,zhb,zr3,zr4,zr5,zv9,zr6,zr7,z9o,zyr,zva,z82,z6x,bd_bd,bd_ret]
theorem ztt{x:Ins}{fr:Fr}{k:Fr→M β}{h:Hp}{res:β×Hp}(e:z08 C x fr k h=some res):∃fr' h',z08 C x fr ret h=some (fr',h')∧k fr' h'=some res:=by
 rw[zys]at e;exact z0f e
def Up(A B:Fr)(l:List Opd):Prop:=∀o∈l,∀v,o.val A=some v→v=.gone∨o.val B=some v
def zax(p q:List (Nat×PV×Bool)):Prop:=∀n pv b,z0g p n=some (pv,b)→∃b',z0g q n=some (pv,b')∧(b=true→b'=true)
theorem zax.refl(p:List (Nat×PV×Bool)):zax p p:=fun _ _ b h=>⟨b,h,id⟩
theorem zax.trans{p q r:List (Nat×PV×Bool)}(h:zax p q)(k:zax q r):zax p r:=fun n pv b e=>by
 obtain⟨b1,e1,f1⟩:=h n pv b e;obtain⟨b2,e2,f2⟩:=k n pv b1 e1;exact⟨b2,e2,fun hb=>f2 (f1 hb)⟩
section
variable{A B:Fr}{l:List Opd}{h:Hp}{res:β×Hp}
theorem Up.mv(up:Up A B l){o:Opd}(ho:o∈l){v:MV}(hv:o.mv A=some v):o.mv B=some v:=by
 unfold Opd.mv at hv ⊢;split at hv
 ·rename_i v' hl;cases hv;rcases up o ho _ hl with h | h
  ·cases h
  ·rw[h]
 ·cases hv
theorem Up.vals(up:Up A B l):∀{xs:List Opd},(∀o∈xs,o∈l)→∀{vs:List MV},z72 A xs=some vs→z72 B xs=some vs
 | [],_,vs,e=>e
 | x::r,hm,vs,e=>by
  simp only[z72]at e ⊢;split at e
  ·rename_i v ws h1 h2;cases e;rw[up.mv (hm x (by simp)) h1,Up.vals up (fun o ho=>hm o (by simp[ho])) h2]
  ·cases e
theorem Up.parts(up:Up A B l):∀{xs:List (Nat×Option Nat×Opd)},(∀o∈xs,o.2.2∈l)→∀{vs:List (Nat×Option Nat×MV)},z4u A xs=some vs→z4u B xs=some vs
 | [],_,vs,e=>e
 | (o,n,x)::r,hm,vs,e=>by
  simp only[z4u]at e ⊢;split at e
  ·rename_i v ws h1 h2;cases e;rw[up.mv (hm (o,n,x) (by simp)) h1,Up.parts up (fun o ho=>hm o (by simp[ho])) h2]
  ·cases e
theorem m_mv{f f':MV→M β}{o:Opd}(e:z19 (o.mv A) f h=some res)(up:Up A B l)(ho:o∈l)(hf:∀v,f v h=some res→f' v h=some res):z19 (o.mv B) f' h=some res:=by
 obtain⟨v,hv,e⟩:=z0i e;rw[up.mv ho hv];exact hf v e
theorem zhc{f f':List MV→M β}{xs:List Opd}(e:z19 (z72 A xs) f h=some res)(up:Up A B l)(ho:∀o∈xs,o∈l)(hf:∀v,f v h=some res→f' v h=some res):z19 (z72 B xs) f' h=some res:=by
 obtain⟨v,hv,e⟩:=z0i e;rw[up.vals ho hv];exact hf v e
theorem znn{f f':List (Nat×Option Nat×MV)→M β}{xs:List (Nat×Option Nat×Opd)}(e:z19 (z4u A xs) f h=some res)(up:Up A B l)(ho:∀o∈xs,o.2.2∈l)(hf:∀v,f v h=some res→f' v h=some res):z19 (z4u B xs) f' h=some res:=by
 obtain⟨v,hv,e⟩:=z0i e;rw[up.parts ho hv];exact hf v e
theorem zll{f f':IntKind→Int→M β}{o:Opd}(e:z3l (o.mv A) f h=some res)(up:Up A B l)(ho:o∈l)(hf:∀a b,f a b h=some res→f' a b h=some res):z3l (o.mv B) f' h=some res:=by
 obtain⟨a,b,hv,e⟩:=z2x e;rw[up.mv ho hv];exact hf a b e
theorem zyt{f f':List UInt8→M β}{o:Opd}(e:wStr (o.mv A) f h=some res)(up:Up A B l)(ho:o∈l)(hf:∀a,f a h=some res→f' a h=some res):wStr (o.mv B) f' h=some res:=by
 obtain⟨a,hv,e⟩:=z45 e;rw[up.mv ho hv];exact hf a e
theorem z155{f f':Option MA→Nat→Nat→M β}{o:Opd}(e:wSl (o.mv A) f h=some res)(up:Up A B l)(ho:o∈l)(hf:∀a b c,f a b c h=some res→f' a b c h=some res):wSl (o.mv B) f' h=some res:=by
 obtain⟨a,b,c,hv,e⟩:=wSl_some e;rw[up.mv ho hv];exact hf a b c e
theorem z181{f f':List MV→M β}{o:Opd}(e:zb2 (o.mv A) f h=some res)(up:Up A B l)(ho:o∈l)(hf:∀a,f a h=some res→f' a h=some res):zb2 (o.mv B) f' h=some res:=by
 obtain⟨a,hv,e⟩:=zol e;rw[up.mv ho hv];exact hf a e
theorem zlm{f f':List MV→M β}{o:Opd}(e:z4o (o.mv A) f h=some res)(up:Up A B l)(ho:o∈l)(hf:∀a,f a h=some res→f' a h=some res):z4o (o.mv B) f' h=some res:=by
 obtain⟨a,hv,e⟩:=z2q e;rw[up.mv ho hv];exact hf a e
theorem z182{f f':Option Nat→M β}{o:Opd}(e:z7i (o.mv A) f h=some res)(up:Up A B l)(ho:o∈l)(hf:∀a,f a h=some res→f' a h=some res):z7i (o.mv B) f' h=some res:=by
 obtain⟨a,hv,e⟩:=z2y e;rw[up.mv ho hv];exact hf a e
theorem zyu{f f':Option MA→M β}{o:Opd}(e:zcs (o.mv A) f h=some res)(up:Up A B l)(ho:o∈l)(hf:∀a,f a h=some res→f' a h=some res):zcs (o.mv B) f' h=some res:=by
 obtain⟨a,hv,e⟩:=zom e;rw[up.mv ho hv];exact hf a e
theorem zwe{f f':FuncId→List MV→M β}{o:Opd}(e:wFn (o.mv A) f h=some res)(up:Up A B l)(ho:o∈l)(hf:∀a b,f a b h=some res→f' a b h=some res):wFn (o.mv B) f' h=some res:=by
 obtain⟨a,b,hv,e⟩:=zfs e;rw[up.mv ho hv];exact hf a b e
theorem zr8{f f':Option MA→M β}{g g':Nat→Nat→M β}{o:Opd}(e:z3h (o.val A) f g h=some res)(up:Up A B l)(ho:o∈l)(hf:∀a,f a h=some res→f' a h=some res)(hg:∀a b,g a b h=some res→g' a b h=some res):z3h (o.val B) f' g' h=some res:=by
 rcases z2v e with⟨q,hv,e⟩ | ⟨n,p,hv,e⟩
 ·rcases up o ho _ hv with hh | hh
  ·cases hh
  ·rw[hh];exact hf q e
 ·rcases up o ho _ hv with hh | hh
  ·cases hh
  ·rw[hh];exact hg n p e
theorem z15w{f f':FV→M β}{o:Opd}(e:z98 (o.val A) f h=some res)(up:Up A B l)(ho:o∈l)(hf:∀a,f a h=some res→f' a h=some res):z98 (o.val B) f' h=some res:=by
 cases hv:o.val A with
 | none=>rw[hv]at e;cases e
 | some v=>
  rw[hv]at e;have key:v≠.gone∧f v h=some res:=by cases v<;>first | exact⟨by simp,e⟩ | cases e
  rw[(up o ho _ hv).resolve_left key.1];cases v with
  | gone=>exact absurd rfl key.1
  | _=>exact hf _ key.2
theorem zd9{f f':Int→M β}{x:Option Opd}{els:Int}(e:intOf A x els f h=some res)(up:Up A B l)(ho:∀o∈x.toList,o∈l)(hf:∀a,f a h=some res→f' a h=some res):intOf B x els f' h=some res:=by
 cases x with
 | none=>exact hf _ e
 | some o=>exact zll (l:=l) e up (ho o (by simp)) fun _ b e=>hf b e
theorem z199{b:Bool}{m m':M β}(e:wIf b m h=some res)(hf:m h=some res→m' h=some res):wIf b m' h=some res:=by
 obtain⟨rfl,e⟩:=z2r e;exact hf e
def Psee(A B:Fr)(x:Ins):Prop:=∀p,x.pl=some p→∀s o,p.val A=some (.loc s o)→∀pv b,z0g A.p s=some (pv,b)→∃b',z0g B.p s=some (pv,b')∧(b=true→b'=true)
theorem z183{f f':PV×Bool→M β}{n:Nat}(e:z19 (z0g A.p n) f h=some res)(ps:∀pv b,z0g A.p n=some (pv,b)→∃b',z0g B.p n=some (pv,b')∧(b=true→b'=true))(hf:∀pv b b',(b=true→b'=true)→f (pv,b) h=some res→f' (pv,b') h=some res):z19 (z0g B.p n) f' h=some res:=by
 obtain⟨⟨pv,b⟩,hv,e⟩:=z0i e;obtain⟨b',h1,h2⟩:=ps pv b hv;rw[h1];exact hf pv b b' h2 e
theorem m_if{c:Prop}[Decidable c]{m m' n:M β}(e:(if c then m else n) h=some res)(hn:n=z0h)(hf:m h=some res→m' h=some res):(if c then m' else n) h=some res:=by
 split at e
 ·rw[if_pos (by assumption)];exact hf e
 ·rw[hn]at e;cases e
end
def tp:Fr→M FV:=fun fr=>match fr.v with
 | (_,x)::_=>ret x
 | []=>z0h
theorem z1h(fr:Fr)(d:Nat)(v:MV):tp (fr.set d v)=ret (.v v):=rfl
theorem ziz(fr:Fr)(d:Nat)(v:FV):tp (fr.setF d v)=ret v:=rfl
theorem zev(fr:Fr)(d a b:Nat):tp (fr.setL d a b)=ret (.loc a b):=rfl
theorem zln(fr:Fr)(d:Nat)(v:MV):fr.setF d (.v v)=fr.set d v:=rfl
theorem z12w(fr:Fr)(d a b:Nat):fr.setF d (.loc a b)=fr.setL d a b:=rfl
def Ins.val:Ins→Option Nat
 | .palloc _ _ | .pbox _ _ _=>none
 | x=>match x.dst with
  | [d]=>some d
  | _=>none
theorem zc5{x:Ins}{d:Nat}(hd:x.val=some d)(fr:Fr)(k:Fr→M β):z08 C x fr k=bd (z08 C x fr tp) fun V=>k (fr.setF d V):=by
 cases x with
 | palloc d pv=>cases hd
 | pbox d n x=>cases hd
 | store n p x=>cases hd
 | mapPut kt m k x=>cases hd
 | mapDel kt m k=>cases hd
 | mapClr m=>cases hd
 | slClr e z x=>cases hd
 | box d' a x=>
  obtain rfl:d'=d:=by simpa[Ins.val,Ins.dst]using hd
  cases a<;>simp only[z08,z6b,z6y,bd_bd,bd_ret,z1h,zln]
 | boxA d' b a x=>
  obtain rfl:d'=d:=by simpa[Ins.val,Ins.dst]using hd
  cases a<;>simp only[z08,z6b,z6y,bd_bd,bd_ret,z1h,zln]
 | fldV d' off t x=>
  obtain rfl:d'=d:=by simpa[Ins.val,Ins.dst]using hd
  cases t<;>simp only[z08,z6b,z6y,z82,bd_ret,z6x,z1h,zln]
 | _=>
  cases hd;simp only[z08,z6b,znm,zv5,zyp,zv6,z6y,zv7,zv8,zyq,zhb,zr3,zr4,zr5,zv9,zr6,zr7,z9o,zyr,zva,z82,z6x,bd_bd,bd_ret,z1h,ziz,zev,zln,z12w]
theorem zfr{x:Ins}{d:Nat}(hd:x.val=some d)(hc:x.cls<5){A B:Fr}(up:Up A B x.opds)(ps:x.cls=1→Psee A B x){h:Hp}{res:FV×Hp}(e:z08 C x A tp h=some res):z08 C x B tp h=some res:=by
 cases x with
 | palloc d pv=>cases hd
 | pbox d n x=>cases hd
 | store n p x=>cases hd
 | mapPut kt m k x=>cases hd
 | mapDel kt m k=>cases hd
 | mapClr m=>cases hd
 | slClr e z x=>cases hd
 | mv d x=>simp[Ins.cls]at hc
 | alloc d z=>exact e
 | mkMap d=>exact e
 | box d' a x=>cases a<;>simp only[z08,z1h,Ins.opds]at e up ⊢ <;> first | exact m_mv e up (by simp) fun v e=>e | exact zlm e up (by simp) fun v e=>e
 | allocA d b z=>exact e
 | mkMapA d b=>exact e
 | boxA d' b a x=>cases a<;>simp only[z08,z1h,Ins.opds]at e up ⊢ <;> first | exact m_mv e up (by simp) fun v e=>e | exact zlm e up (by simp) fun v e=>e
 | bsliceA d a b c z parts=>
  simp only[z08,z1h,Ins.opds]at e up ⊢;exact znn e up (by intro o ho;exact List.mem_map_of_mem ho) fun v e=>e
 | fldV d' off t x=>cases t<;>simp only[z08,z1h,Ins.opds]at e up ⊢ <;> first | exact e | exact zlm e up (by simp) fun v e=>e
 | load d t p=>
  simp only[z08,z1h,Ins.opds]at e up ⊢;rcases z2v e with⟨q,hv,e1⟩ | ⟨s,o,hv,e1⟩
  ·rcases up p (by simp) _ hv with c | c
   ·cases c
   ·rw[c];exact e1
  ·rcases up p (by simp) _ hv with c | c
   ·cases c
   ·rw[c];exact z183 e1 (ps rfl p rfl s o hv) fun _ _ _ _ e=>e
 | build d z parts=>
  simp only[z08,z1h,Ins.opds]at e up ⊢;exact znn e up (by intro o ho;exact List.mem_map_of_mem ho) fun v e=>e
 | bslice d a b z parts=>
  simp only[z08,z1h,Ins.opds]at e up ⊢;exact znn e up (by intro o ho;exact List.mem_map_of_mem ho) fun v e=>e
 | slc d a s lo hi=>
  simp only[z08,z1h,Ins.opds]at e up ⊢;exact z155 e up (by simp) fun _ _ _ e=>m_if e rfl fun e=>zd9 e up (by intro o ho;simp[ho]) fun _ e=>zd9 e up (by intro o ho;simp[ho]) fun _ e=>e
 | slcS d s lo hi=>
  simp only[z08,z1h,Ins.opds]at e up ⊢;exact zyt e up (by simp) fun _ e=>zd9 e up (by intro o ho;simp[ho]) fun _ e=>zd9 e up (by intro o ho;simp[ho]) fun _ e=>e
 | slcA d n a s lo hi=>
  simp only[z08,z1h,Ins.opds]at e up ⊢;exact zyu e up (by simp) fun _ e=>zd9 e up (by intro o ho;simp[ho]) fun _ e=>zd9 e up (by intro o ho;simp[ho]) fun _ e=>e
 | call d f args=>
  simp only[z08,z1h,Ins.opds]at e up ⊢;exact zhc e up (fun _ ho=>ho) fun _ e=>e
 | callz d f args=>
  simp only[z08,z1h,Ins.opds]at e up ⊢;exact zhc e up (fun _ ho=>ho) fun _ e=>e
 | mkFn d f args=>
  simp only[z08,z1h,Ins.opds]at e up ⊢;exact zhc e up (fun _ ho=>ho) fun _ e=>e
 | callv d f args=>
  simp only[z08,z1h,Ins.opds]at e up ⊢;exact zwe e up (by simp) fun _ _ e=>zhc e up (fun _ ho=>by simp[ho]) fun _ e=>e
 | callvz d f args=>
  simp only[z08,z1h,Ins.opds]at e up ⊢;exact zwe e up (by simp) fun _ _ e=>zhc e up (fun _ ho=>by simp[ho]) fun _ e=>e
 | idxA d n a p i=>
  simp only[z08,z1h,zev,Ins.opds]at e up ⊢;exact zr8 e up (by simp) (fun _ e=>zll e up (by simp) fun _ _ e=>e) fun _ _ e=>zll e up (by simp) fun _ _ e=>e
 | _=>
  simp only[z08,z1h,ziz,zev,Ins.opds]at e up ⊢;repeat (first
   | exact e
   | refine m_mv e up (by simp) fun v e=>?_
   | refine zll e up (by simp) fun _ v e=>?_
   | refine zyt e up (by simp) fun v e=>?_
   | refine z155 e up (by simp) fun v _ _ e=>?_
   | refine z181 e up (by simp) fun v e=>?_
   | refine zlm e up (by simp) fun v e=>?_
   | refine z182 e up (by simp) fun v e=>?_
   | refine zyu e up (by simp) fun v e=>?_
   | refine zwe e up (by simp) fun v _ e=>?_
   | refine z15w e up (by simp) fun v e=>?_
   | refine zr8 e up (by simp) (fun _ e=>e) (fun _ _ e=>e)
   | refine z199 e fun e=>?_)
end
end Go.Mini

/- Regions whose order is drawn (2): what an operation reads, and what it leaves. -/
namespace Go.Mini
universe u
section
variable{α β γ:Type}
def Pu(m:M α):Prop:=∀h a h',m h=some (a,h')→h'=h∧∀h2,m h2=some (a,h2)
def Rd(T:Nat→Prop)(m:M α):Prop:=∀h a h',m h=some (a,h')→h'=h∧∃ob:Option Nat,(∀b,ob=some b→h.get b≠.dead∧T b)∧∀h2,(∀b,ob=some b→h2.get b=h.get b)→m h2=some (a,h2)
def Gr(m:M α):Prop:=∀h a h',m h=some (a,h')→z4d h h'
theorem Pu.rd{T:Nat→Prop}{m:M α}(k:Pu m):Rd T m:=fun h a h' e=>by
 obtain⟨h1,h2⟩:=k h a h' e;exact⟨h1,none,(by intro b hb;cases hb),fun h2' _=>h2 h2'⟩
theorem z1q(a:α):Pu (ret a):=fun h x h' e=>by cases e;exact⟨rfl,fun _=>rfl⟩
theorem z0w:Pu (z0h:M α):=fun h x h' e=>by cases e
theorem z3n{m:M α}{f:α→M β}(k:Pu m)(kf:∀a,Pu (f a)):Pu (bd m f):=fun h x h' e=>by
 obtain⟨a,h1,e1,e2⟩:=z0f e;obtain⟨rfl,k1⟩:=k _ _ _ e1;obtain⟨rfl,k2⟩:=kf a _ _ _ e2;exact⟨rfl,fun h2=>by simp only[bd,k1 h2];exact k2 h2⟩
theorem z2o{c:Prop}[Decidable c]{m n:M α}(k:Pu m)(l:Pu n):Pu (if c then m else n):=by
 split
 ·exact k
 ·exact l
theorem zj5{ε:Type u}{x:Option ε}{f:ε→M β}(k:∀v,Pu (f v)):Pu (z19 x f):=by
 cases x with
 | none=>exact z0w
 | some v=>exact k v
theorem z3v(o:Option α):Pu (z0o o):=by
 cases o with
 | none=>exact fun h x h' e=>by cases e
 | some a=>exact fun h x h' e=>by cases e;exact⟨rfl,fun _=>rfl⟩
theorem zvg{x:Option MV}{f:IntKind→Int→M β}(k:∀a b,Pu (f a b)):Pu (z3l x f):=by
 unfold z3l;split
 ·exact k _ _
 ·exact z0w
theorem z169{x:Option MV}{f:List UInt8→M β}(k:∀a,Pu (f a)):Pu (wStr x f):=by
 unfold wStr;split
 ·exact k _
 ·exact z0w
theorem z18a{x:Option MV}{f:Option MA→Nat→Nat→M β}(k:∀a b c,Pu (f a b c)):Pu (wSl x f):=by
 unfold wSl;split
 ·exact k _ _ _
 ·exact z0w
theorem z16a{x:Option MV}{f:List MV→M β}(k:∀a,Pu (f a)):Pu (zb2 x f):=by
 unfold zb2;split
 ·exact k _
 ·exact z0w
theorem zj6{x:Option MV}{f:List MV→M β}(k:∀a,Pu (f a)):Pu (z4o x f):=by
 unfold z4o;split
 ·exact k _
 ·exact z0w
theorem z18b{x:Option MV}{f:FuncId→List MV→M β}(k:∀a b,Pu (f a b)):Pu (wFn x f):=by
 unfold wFn;split
 ·exact k _ _
 ·exact z0w
theorem zzh{x:Option FV}{f:Option MA→M β}{g:Nat→Nat→M β}(k:∀a,Pu (f a))(l:∀a b,Pu (g a b)):Pu (z3h x f g):=by
 unfold z3h;split
 ·exact k _
 ·exact l _ _
 ·exact z0w
theorem z18c{b:Bool}{m:M β}(k:Pu m):Pu (wIf b m):=by
 unfold wIf;split
 ·exact k
 ·exact z0w
theorem z138{x:Option FV}{f:FV→M β}(k:∀a,Pu (f a)):Pu (z98 x f):=by
 unfold z98;split
 ·exact k _
 ·exact k _
 ·exact z0w
theorem z139{fr:Fr}{x:Option Opd}{e:Int}{f:Int→M β}(k:∀a,Pu (f a)):Pu (intOf fr x e f):=by
 unfold intOf;split
 ·exact k _
 ·exact zvg fun _ _=>k _
theorem z13a(p q:Option MA):Pu (zbs p q):=by
 intro h a h' e;cases p with
 | none=>cases e;exact⟨rfl,fun _=>rfl⟩
 | some x=>
  cases q with
  | none=>cases e;exact⟨rfl,fun _=>rfl⟩
  | some y=>
   simp only[zbs]at e ⊢;split at e
   ·cases e;refine⟨rfl,fun h2=>?_⟩;rw[if_pos (by assumption)]
   ·cases e
theorem z13b{p q:Option MA}{f:Bool→M β}(k:∀b,Pu (f b)):Pu (zad p q f):=by
 unfold zad;split
 ·exact k _
 ·exact z3n (z13a _ _) k
theorem z16b{op:UnOp}{x:MV}{f:MV→M β}(k:∀a,Pu (f a)):Pu (zdk op x f):=by
 unfold zdk;split<;>first | exact k _ | exact z0w
theorem z13c{op:BinOp}{x y:MV}{f:MV→M β}(k:∀a,Pu (f a)):Pu (z7h op x y f):=by
 unfold z7h;split
 ·exact z2o z0w (k _)
 ·exact z2o z0w (k _)
 ·refine z2o ?_ z0w;split<;>first | exact k _ | exact z2o z0w (k _)
 all_goals first | exact k _ | exact z13b fun _=>k _ | exact z0w
theorem zs0{pv:PV}{t:Ty}{o:Nat}{f:MV→M β}(k:∀a,Pu (f a)):Pu (z6t pv t o f):=by
 unfold z6t;split
 ·exact zj5 k
 ·exact z2o (k _) z0w
 ·exact z2o (z3n (z3v _) fun _=>k _) z0w
 ·exact z3n (z3v _) fun _=>z3n (z3v _) fun _=>k _
 ·exact z3n (z2o (z1q _) z0w) fun _=>z3n (z3v _) fun _=>k _
 ·exact z3n (z2o (z1q _) z0w) fun _=>k _
 ·exact z0w
theorem zzi(p:Option MA):Pu (nonNil p):=by cases p<;>first | exact z1q _ | exact z0w
theorem z18d(p:Option MA)(n:Nat):Pu (fld p n):=by cases p<;>first | exact z1q _ | exact z0w
theorem z18e(e:Nat)(s:Sl)(i:Int):Pu (idx e s i):=by
 unfold idx;split
 ·exact z2o (z1q _) z0w
 ·exact z0w
theorem z13d(n:Nat)(s:Sl):Pu (arrAt n s):=by
 unfold arrAt;split
 ·exact z1q _
 ·exact z0w
theorem z16c(n e:Nat)(p:Option MA)(i:Int):Pu (idxA n e p i):=by
 unfold idxA;split
 ·exact z2o (z1q _) z0w
 ·exact z0w
theorem z16d(n:Nat)(cs:List MV)(i:Int):Pu (idxV n cs i):=z2o (z3v _) z0w
theorem z13e(n e:Nat)(cs:List MV)(i:Int):Pu (idxVn n e cs i):=z2o (z2o (z1q _) z0w) z0w
theorem z16e(s:List UInt8)(i:Int):Pu (idxS s i):=z2o (z3n (z3v _) fun _=>z1q _) z0w
theorem z18f(e:Nat)(s:Sl)(a b:Int):Pu (slc e s a b):=z2o (z1q _) z0w
theorem z16f(s:List UInt8)(a b:Int):Pu (slcS s a b):=z2o (z1q _) z0w
theorem z16g(s t:List UInt8):Pu (catS s t):=z2o (z1q _) z0w
theorem zzj(v:MV):Pu (zhl v):=by unfold zhl;split<;>first | exact z1q _ | exact z0w
theorem z8n{T:Nat→Prop}{m:M α}{f:α→M β}(k:Rd T m)(kf:∀a,Pu (f a)):Rd T (bd m f):=fun h x h' e=>by
 obtain⟨a,h1,e1,e2⟩:=z0f e;obtain⟨rfl,ob,k1,k2⟩:=k _ _ _ e1;obtain⟨rfl,k3⟩:=kf a _ _ _ e2;exact⟨rfl,ob,k1,fun h2 hb=>by simp only[bd,k2 h2 hb];exact k3 h2⟩
theorem zzk{T:Nat→Prop}{q:Option MA}(ht:∀a,q=some a→T a.blk):Rd T (ldc q):=by
 intro h v h' e;cases q with
 | none=>cases e
 | some a=>
  simp only[ldc]at e ⊢;split at e
  ·rename_i cs ro hg;split at e
   ·rename_i u hu;cases e;refine⟨rfl,some a.blk,fun b hb=>?_,fun h2 hb=>?_⟩
    ·cases hb;exact⟨by rw[hg];simp,ht a rfl⟩
    ·rw[hb _ rfl,hg];simp only[hu]
   ·cases e
  ·cases e
theorem zs1{T:Nat→Prop}{n:Nat}{q:Option MA}(ht:∀a,q=some a→T a.blk):Rd T (ldn n q):=by
 intro h v h' e;cases q with
 | none=>cases e
 | some a=>
  simp only[ldn]at e ⊢;split at e
  ·rename_i cs ro hg;split at e
   ·rename_i hu;cases e;refine⟨rfl,some a.blk,fun b hb=>?_,fun h2 hb=>?_⟩
    ·cases hb;exact⟨by rw[hg];simp,ht a rfl⟩
    ·rw[hb _ rfl,hg];simp only[hu,if_true]
   ·cases e
  ·cases e
theorem z19e{T:Nat→Prop}{t:Ty}{q:Option MA}(ht:∀a,q=some a→T a.blk):Rd T (ld t q):=by
 cases t with
 | c c=>
  simp only[ld,zrf];exact z8n (zzk ht) fun _=>z3v _
 | st ts=>exact z8n (zs1 ht) fun _=>z3v _
 | agg n=>exact zs1 ht
 | arr k=>exact z0w.rd
 | fnc f cp=>
  simp only[ld,zrf];exact z8n (z8n (zzk ht) fun _=>z3v _) fun _=>z3v _
theorem z16h{T:Nat→Prop}{n e:Nat}{q:Option MA}{lo hi:Int}(ht:∀a,q=some a→T a.blk):Rd T (slcA n e q lo hi):=by
 intro h v h' e;cases q with
 | none=>cases e
 | some a=>
  simp only[slcA]at e ⊢;split at e
  ·rename_i cs ro hg;split at e
   ·rename_i hu;cases e;refine⟨rfl,some a.blk,fun b hb=>?_,fun h2 hb=>?_⟩
    ·cases hb;exact⟨by rw[hg];simp,ht a rfl⟩
    ·rw[hb _ rfl,hg];dsimp only;rw[if_pos hu]
   ·cases e
  ·cases e
theorem zmd{T:Nat→Prop}{e:Nat}{s:Sl}(ht:∀a,s.p=some a→T a.blk):Rd T (cellsOf e s):=by
 unfold cellsOf;split
 ·exact(z2o (z1q _) z0w).rd
 ·exact zs1 ht
theorem zov{T:Nat→Prop}{r:Option Nat}(ht:∀b,r=some b→T b):Rd T (z85 r):=by
 intro h v h' e;cases r with
 | none=>cases e;exact⟨rfl,none,(by intro b hb;cases hb),fun _ _=>rfl⟩
 | some b=>
  simp only[z85]at e ⊢;split at e
  ·rename_i es hg;cases e;refine⟨rfl,some b,fun b' hb=>?_,fun h2 hb=>?_⟩
   ·cases hb;exact⟨by rw[hg];simp,ht b rfl⟩
   ·rw[hb _ rfl,hg]
  ·cases e
theorem zzl{T:Nat→Prop}{x:Option FV}{f:Option MA→M β}{g:Nat→Nat→M β}(k:∀q,x=some (.v (.ptr q))→Rd T (f q))(l:∀a b,Rd T (g a b)):Rd T (z3h x f g):=by
 unfold z3h;split
 ·exact k _ rfl
 ·exact l _ _
 ·exact z0w.rd
theorem z16i{T:Nat→Prop}{x:Option MV}{f:Option MA→M β}(k:∀q,x=some (.ptr q)→Rd T (f q)):Rd T (zcs x f):=by
 unfold zcs;split
 ·exact k _ rfl
 ·exact z0w.rd
theorem z18g{T:Nat→Prop}{x:Option MV}{f:Option MA→Nat→Nat→M β}(k:∀p l e,x=some (.sl p l e)→Rd T (f p l e)):Rd T (wSl x f):=by
 unfold wSl;split
 ·exact k _ _ _ rfl
 ·exact z0w.rd
theorem znu{T:Nat→Prop}{x:Option MV}{f:Option Nat→M β}(k:∀r,x=some (.map r)→Rd T (f r)):Rd T (z7i x f):=by
 unfold z7i;split
 ·exact k _ rfl
 ·exact z0w.rd
theorem z18h{T:Nat→Prop}{c:Prop}[Decidable c]{m n:M α}(k:Rd T m)(l:Rd T n):Rd T (if c then m else n):=by
 split
 ·exact k
 ·exact l
theorem zvh{T:Nat→Prop}{ε:Type u}{x:Option ε}{f:ε→M β}(k:∀v,Rd T (f v)):Rd T (z19 x f):=by
 cases x with
 | none=>exact z0w.rd
 | some v=>exact k v
theorem zzm{T:Nat→Prop}{b:Bool}{m:M β}(k:Rd T m):Rd T (wIf b m):=by
 unfold wIf;split
 ·exact k
 ·exact z0w.rd
theorem zs2{T:Nat→Prop}{fr:Fr}{x:Option Opd}{e:Int}{f:Int→M β}(k:∀a,Rd T (f a)):Rd T (intOf fr x e f):=by
 unfold intOf;split
 ·exact k _
 ·unfold z3l;split
  ·exact k _
  ·exact z0w.rd
theorem zme{T:Nat→Prop}{r:Option Nat}{k:MV}(ht:∀b,r=some b→T b):Rd T (z6c r k):=z8n (zov ht) fun _=>by
 split<;>first | exact z1q _ | exact z0w
def zg4:MV→Option Nat
 | .ptr (some a)=>some a.blk
 | .sl (some a) _ _=>some a.blk
 | .map (some b)=>some b
 | _=>none
def bsOf(A:Fr)(x:Ins)(b:Nat):Prop:=∃o,x.pl=some o∧∃v,o.mv A=some v∧zg4 v=some b
theorem z16j{v:MV}{b:Nat}(h:zg4 v=some b):z7j v=some b:=by
 unfold zg4 at h;split at h<;>first | exact h | cases h
theorem znv{x:Ins}{p:Opd}(h:x.pl=some p):p∈x.opds:=by
 cases x<;>first | (cases h;done) | (cases h;simp[Ins.opds])
theorem zc9{A:Fr}{o:Opd}{v:MV}(h:o.val A=some (.v v)):o.mv A=some v:=by simp only[Opd.mv,h]
variable{C:List (Nat×Entry)}
theorem zzn{x:Ins}{d:Nat}(hd:x.val=some d)(hc:x.cls=0)(A:Fr):Pu (z08 C x A tp):=by
 cases x with
 | fldV d' off t x=>
  cases t<;>simp only[z08,z1h]
  ·exact zj6 fun _=>zj5 fun _=>z1q _
  ·exact zj6 fun _=>z2o (z1q _) z0w
  ·exact zj6 fun _=>z2o (z1q _) z0w
  ·exact z0w
  ·exact z0w
 | mv | box | alloc | load | store | call | callz | callv | callvz | palloc | pbox | bslice | slcA | toStr | toBytes | look1 | look2 | mapLen | mkMap | mapPut | mapDel | app | appS | copy | copyS | mkSl | markB | mapClr | slClr | allocA | boxA | bsliceA | mkSlA | toBytesA | mkMapA=>simp[Ins.cls]at hc
 | _=>
  simp only[z08,z1h,ziz,zev];repeat (first
   | refine z3n (z13d _ _) fun _=>?_
   | exact z1q _
   | exact z0w
   | refine zj5 fun _=>?_
   | refine zvg fun _ _=>?_
   | refine z169 fun _=>?_
   | refine z18a fun _ _ _=>?_
   | refine z16a fun _=>?_
   | refine zj6 fun _=>?_
   | refine z18b fun _ _=>?_
   | refine z138 fun _=>?_
   | refine z18c ?_
   | refine z13c fun _=>?_
   | refine z16b fun _=>?_
   | refine zs0 fun _=>?_
   | refine z139 fun _=>?_
   | refine z2o ?_ ?_
   | refine z3n (z3v _) fun _=>?_
   | refine z3n (zzi _) fun _=>?_
   | refine z3n (z18d _ _) fun _=>?_
   | refine z3n (z18e _ _ _) fun _=>?_
   | refine z3n (z16c _ _ _ _) fun _=>?_
   | refine z3n (z16d _ _ _) fun _=>?_
   | refine z3n (z13e _ _ _ _) fun _=>?_
   | refine z3n (z16e _ _) fun _=>?_
   | refine z3n (z18f _ _ _ _) fun _=>?_
   | refine z3n (z16f _ _ _) fun _=>?_
   | refine z3n (z16g _ _) fun _=>?_
   | refine z3n (zzj _) fun _=>?_
   | refine z3n (z2o (z1q _) z0w) fun _=>?_
   | refine zzh (fun _=>?_) (fun _ _=>?_))
theorem zzo{x:Ins}{d:Nat}(hd:x.val=some d)(hc:x.cls<2)(A:Fr):Rd (bsOf A x) (z08 C x A tp):=by
 by_cases h0:x.cls=0
 ·exact(zzn hd h0 A).rd
 cases x with
 | load d t p=>
  simp only[z08,z1h];refine zzl (fun q hq=>z8n (z19e fun a ha=>?_) fun _=>z1q _) fun _ _=>(zj5 fun _=>zs0 fun _=>z1q _).rd;subst ha;exact⟨p,rfl,_,zc9 hq,rfl⟩
 | slcA d n e p lo hi=>
  simp only[z08,z1h];refine z16i fun q hq=>zs2 fun _=>zs2 fun _=>z8n (z16h fun a ha=>?_) fun _=>z1q _;subst ha;exact⟨p,rfl,_,hq,rfl⟩
 | toStr d s=>
  simp only[z08,z1h];refine z18g fun p l e hq=>z18h (z8n (z8n (zmd fun a ha=>?_) fun _=>z3v _) fun _=>z1q _) z0w.rd;subst ha;exact⟨s,rfl,_,hq,rfl⟩
 | look1 d kt t z m kk=>
  simp only[z08,z1h];refine znu fun r hq=>zvh fun _=>zzm (z8n (zme fun b hb=>?_) fun _=>z3n (z3v _) fun _=>z1q _);subst hb;exact⟨m,rfl,_,hq,rfl⟩
 | look2 d kt t z m kk=>
  simp only[z08,z1h];refine znu fun r hq=>zvh fun _=>zzm (z8n (zme fun b hb=>?_) fun _=>z3n (z3v _) fun _=>z1q _);subst hb;exact⟨m,rfl,_,hq,rfl⟩
 | mapLen d m=>
  simp only[z08,z1h];refine znu fun r hq=>z8n (z8n (zov fun b hb=>?_) fun _=>z1q _) fun _=>z1q _;subst hb;exact⟨m,rfl,_,hq,rfl⟩
 | _=>first | exact absurd rfl h0 | (simp[Ins.cls]at hc)
theorem zae(a:α):Gr (ret a):=fun h x h' e=>by cases e;exact z4d.refl _
theorem z9s:Gr (z0h:M α):=fun h x h' e=>by cases e
theorem ze8{m:M α}{f:α→M β}(k:Gr m)(kf:∀a,Gr (f a)):Gr (bd m f):=fun h x h' e=>by
 obtain⟨a,h1,e1,e2⟩:=z0f e;exact(k _ _ _ e1).trans (kf a _ _ _ e2)
theorem zb6{ε:Type u}{x:Option ε}{f:ε→M β}(k:∀v,Gr (f v)):Gr (z19 x f):=by
 cases x with
 | none=>exact z9s
 | some v=>exact k v
theorem zkm(cs:List MV):Gr (alloc cs):=fun h x h' e=>by cases e;exact z4d.push _ _
theorem zzp(v:MV):Gr (z84 v):=fun h x h' e=>by
 unfold z84 at e;split at e
 ·cases e;exact z4d.push _ _
 ·cases e
theorem z18i(m:M α):Gr (frz m):=fun h x h' e=>(zrr e).2
theorem zvi(e:Entry)(vs:List MV){f:MV→M β}(k:∀v,Gr (f v)):Gr (e.runz vs f):=by
 unfold Entry.runz;split
 ·exact ze8 (z18i _) fun _=>k _
 ·exact z9s
theorem zvj{x:Option MV}{f:IntKind→Int→M β}(k:∀a b,Gr (f a b)):Gr (z3l x f):=by
 unfold z3l;split
 ·exact k _ _
 ·exact z9s
theorem z16k(e bytes:Nat)(z:List MV)(l c:Int):Gr (mkSl e bytes z l c):=by
 unfold mkSl;split
 ·exact fun h x h' e=>by cases e;exact z4d.push _ _
 ·exact z9s
theorem zwz(s:List UInt8):Gr (toBytes s):=by
 unfold toBytes;split
 ·exact fun h x h' e=>by cases e;exact z4d.push _ _
 ·exact z9s
theorem z18j{x:Ins}{d:Nat}(hd:x.val=some d)(hc:x.cls=3)(A:Fr):Gr (z08 C x A tp):=by
 cases x with
 | alloc d z=>simp only[z08,z1h];exact ze8 (zkm _) fun _=>zae _
 | box d a x=>
  cases a<;>simp only[z08,z1h]
  ·exact zb6 fun _=>ze8 (zzp _) fun _=>zae _
  ·unfold z4o;split
   ·exact ze8 (zkm _) fun _=>zae _
   ·exact z9s
 | bslice d e len z parts=>simp only[z08,z1h];exact zb6 fun _=>zb6 fun _=>ze8 (zkm _) fun _=>zae _
 | mkSl d e bytes z len cap=>simp only[z08,z1h];exact zvj fun _ _=>zvj fun _ _=>ze8 (z16k _ _ _ _ _) fun _=>zae _
 | toBytes d x=>
  simp only[z08,z1h];unfold wStr;split
  ·exact ze8 (zwz _) fun _=>zae _
  ·exact z9s
 | mkMap d=>simp only[z08,z1h];exact ze8 (fun h x h' e=>by cases e;exact z4d.push _ _) fun _=>zae _
 | callz d f args=>simp only[z08,z1h];exact zb6 fun _=>zb6 fun _=>zvi _ _ fun _=>zae _
 | callvz d f args=>
  simp only[z08,z1h];unfold wFn;split
  ·exact zb6 fun _=>zb6 fun _=>zvi _ _ fun _=>zae _
  ·exact z9s
 | _=>simp[Ins.cls]at hc
end
end Go.Mini
