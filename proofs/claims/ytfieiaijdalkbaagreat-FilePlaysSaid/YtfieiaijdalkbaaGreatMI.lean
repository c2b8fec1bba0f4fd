/- The small machine's state beside the kit's: frames, private variables; single operations. -/
import Derived.Test.YtfieiaijdalkbaaGreatMG
import Derived.Orders
import Derived.Laws.StructEq
namespace Go.Mini
universe u
structure S where
 ρ:Rho
 π:Nat→Nat
 h:Hp
 fr:Fr
 t:Array Value
 w:World
def zb9(ρ:Rho)(π:Nat→Nat):FV→Value→Prop
 | .v x,y=>VRel ρ x y
 | .loc n o,y=>y=.pointer (some ⟨π n,o,none⟩)
 | .gone,_=>True
structure Ok(s:S):Prop where
 heap:HRel s.ρ s.h s.w.heap
 slots:∀i x,z0g s.fr.v i=some x→i<s.t.size∧zb9 s.ρ s.π x (s.t.getD i undef)
 priv:∀n pv b,z0g s.fr.p n=some (pv,b)→(∃c el,s.w.heap[s.π n]? = some (.cells c el (0,0))∧VRels s.ρ pv.cells c.toList)∧¬Liv s.ρ s.h (s.π n)
 pinj:∀n m x y,z0g s.fr.p n=some x→z0g s.fr.p m=some y→n≠m→s.π n≠s.π m
def Wr(s:S)(r:Nat):Prop:=∃n pv,z0g s.fr.p n=some (pv,true)∧s.π n=r
structure Stp(s s':S)(ds:List Nat):Prop where
 ext:Ext s.ρ s'.ρ
 os:s'.w.os=s.w.os
 tape:s'.w.tape=s.w.tape
 output:s'.w.output=s.w.output
 size:s.w.heap.size≤s'.w.heap.size
 grw:Grw s.ρ s.h s'.ρ s'.h
 old:∀r,r<s.w.heap.size→¬z7m s.ρ s.h r→¬Wr s r→s'.w.heap[r]? = s.w.heap[r]?
 foot:∀r,z7m s'.ρ s'.h r→z7m s.ρ s.h r∨s.w.heap.size≤r
 liv:∀r,Liv s'.ρ s'.h r→Liv s.ρ s.h r∨s.w.heap.size≤r
 wr:∀r,Wr s' r→Wr s r∨s.w.heap.size≤r
 pi:∀n,n ∉ ds→s'.π n=s.π n
 pi2:∀n,s'.π n=s.π n∨s.w.heap.size≤s'.π n
 tsz:s'.t.size=s.t.size
 tmp:∀i,i ∉ ds→s'.t.getD i undef=s.t.getD i undef
theorem Stp.refl(s:S)(ds:List Nat):Stp s s ds:=
 ⟨Ext.refl _,rfl,rfl,rfl,Nat.le_refl _,⟨Nat.le_refl _,fun _ _ e =>.inl e⟩,fun _ _ _ _=>rfl,fun _ h =>.inl h,fun _ h =>.inl h,fun _ h =>.inl h,fun _ _=>rfl,fun _ =>.inl rfl,rfl,fun _ _=>rfl⟩
theorem Stp.trans{s s' s'':S}{d1 d2:List Nat}(a:Stp s s' d1)(b:Stp s' s'' d2):Stp s s'' (d1++d2) where
 ext:=a.ext.trans b.ext
 os:=b.os.trans a.os
 tape:=b.tape.trans a.tape
 output:=b.output.trans a.output
 size:=Nat.le_trans a.size b.size
 grw:=a.grw.trans b.grw
 old:=fun r hr hf hw=>(b.old r (Nat.lt_of_lt_of_le hr a.size) (fun k=>by
  rcases a.foot r k with k | k
  ·exact hf k
  ·omega) (fun k=>by
  rcases a.wr r k with k | k
  ·exact hw k
  ·omega)).trans (a.old r hr hf hw)
 foot:=fun r k=>by
  rcases b.foot r k with k | k
  ·exact a.foot r k
  ·exact .inr (Nat.le_trans a.size k)
 liv:=fun r k=>by
  rcases b.liv r k with k | k
  ·exact a.liv r k
  ·exact .inr (Nat.le_trans a.size k)
 wr:=fun r k=>by
  rcases b.wr r k with k | k
  ·exact a.wr r k
  ·exact .inr (Nat.le_trans a.size k)
 pi:=fun n hn=>(b.pi n (fun c=>hn (List.mem_append_right _ c))).trans (a.pi n (fun c=>hn (List.mem_append_left _ c)))
 pi2:=fun n=>by
  rcases b.pi2 n with k | k
  ·rw[k];exact a.pi2 n
  ·exact .inr (Nat.le_trans a.size k)
 tsz:=b.tsz.trans a.tsz
 tmp:=fun i hi=>(b.tmp i (fun c=>hi (List.mem_append_right _ c))).trans (a.tmp i (fun c=>hi (List.mem_append_left _ c)))
theorem Stp.mono{s s':S}{d1 d2:List Nat}(a:Stp s s' d1)(h:∀x∈d1,x∈d2):Stp s s' d2:=
 {a with pi:=fun n hn=>a.pi n fun c=>hn (h n c),tmp:=fun i hi=>a.tmp i fun c=>hi (h i c)}
theorem zb9.mono{ρ ρ':Rho}(e:Ext ρ ρ'){π:Nat→Nat}{x:FV}{y:Value}(h:zb9 ρ π x y):zb9 ρ' π x y:=by
 cases x with
 | v x=>exact VRel.mono e h
 | loc n o=>exact h
 | gone=>trivial
theorem Ok.step{s:S}(k:Ok s){ρ':Rho}{h':Hp}{w':World}(kh:HRel ρ' h' w'.heap)(st:HStp s.ρ s.h s.w ρ' h' w') :
  Ok {s with ρ:=ρ',h:=h',w:=w'}∧Stp s {s with ρ:=ρ',h:=h',w:=w'} []:=by
 refine⟨⟨kh,fun i x e=>⟨(k.slots i x e).1,(k.slots i x e).2.mono st.ext⟩,?_,k.pinj⟩,
  ⟨st.ext,st.os,st.tape,st.output,st.size,st.grw,fun r hr hf _=>st.old r hr hf,st.foot,st.liv,fun r h =>.inl h,fun _ _=>rfl,fun _ =>.inl rfl,rfl,fun _ _=>rfl⟩⟩
 intro n pv b e;obtain⟨⟨c,el,h1,h2⟩,h3⟩:=k.priv n pv b e;have hlt:s.π n<s.w.heap.size:=(Array.getElem?_eq_some_iff.1 h1).1;refine⟨⟨c,el,?_,h2.mono st.ext⟩,?_⟩
 ·show w'.heap[s.π n]? = _;rw[st.old _ hlt fun f=>h3 f.liv];exact h1
 ·intro f;rcases st.liv _ f with f | f
  ·exact h3 f
  ·have f2:s.w.heap.size≤s.π n:=f;exact absurd hlt (by omega)
theorem z1i{α:Type u}(m:Nat)(x:α)(r:List (Nat×α))(n:Nat):z0g ((m,x)::r) n=if m=n then some x else z0g r n:=by
 simp only[z0g];by_cases e:m=n
 ·subst e;simp
 ·have:Nat.beq m n=false:=by
   cases hb:Nat.beq m n with
   | false=>rfl
   | true=>exact absurd (Nat.eq_of_beq_eq_true hb) e
  rw[this,if_neg e];rfl
theorem mem_iff(n:Nat)(l:List Nat):mem n l=true↔n∈l:=by
 induction l with
 | nil=>simp[mem]
 | cons m r ih=>
  simp only[mem,Bool.or_eq_true,ih,List.mem_cons];constructor
  ·rintro(h | h)
   ·exact .inl (Nat.eq_of_beq_eq_true h).symm
   ·exact .inr h
  ·rintro(h | h)
   ·subst h;exact .inl (by simp)
   ·exact .inr h
theorem getD_set{t:Array Value}{d i:Nat}{v:Value}(hd:d<t.size):(t.setIfInBounds d v).getD i undef=if i=d then v else t.getD i undef:=by
 simp only[Array.getD_eq_getD_getElem?,Array.getElem?_setIfInBounds];by_cases e:d=i
 ·subst e;simp[hd]
 ·rw[if_neg e,if_neg (fun c=>e c.symm)]
theorem Ok.setF{s:S}(k:Ok s){d:Nat}(hd:d<s.t.size){x:FV}{y:Value}(hr:zb9 s.ρ s.π x y) :
  Ok {s with fr:=s.fr.setF d x,t:=s.t.setIfInBounds d y}∧Stp s {s with fr:=s.fr.setF d x,t:=s.t.setIfInBounds d y} [d]:=by
 refine⟨⟨k.heap,?_,k.priv,k.pinj⟩,⟨Ext.refl _,rfl,rfl,rfl,Nat.le_refl _,⟨Nat.le_refl _,fun _ _ e =>.inl e⟩,fun _ _ _ _=>rfl,fun _ h =>.inl h,fun _ h =>.inl h,fun _ h =>.inl h,fun _ _=>rfl,fun _ =>.inl rfl,by simp,?_⟩⟩
 ·intro i z e;simp only[Fr.setF,z1i]at e;simp only[Array.size_setIfInBounds,getD_set hd];by_cases ed:d=i
  ·subst ed;rw[if_pos rfl]at e;cases e;exact⟨hd,by rw[if_pos rfl];exact hr⟩
  ·rw[if_neg ed]at e;rw[if_neg (fun c=>ed c.symm)];exact k.slots i z e
 ·intro i hi;simp only[getD_set hd];rw[if_neg (by simpa using hi)]
theorem Ok.set{s:S}(k:Ok s){d:Nat}(hd:d<s.t.size){x:MV}{y:Value}(hr:VRel s.ρ x y) :
  Ok {s with fr:=s.fr.set d x,t:=s.t.setIfInBounds d y}∧Stp s {s with fr:=s.fr.set d x,t:=s.t.setIfInBounds d y} [d]:=k.setF hd (x :=.v x) hr
structure Sound(P:Program)(f:FuncId)(e:Entry):Prop where
 enter:∀(args:Array Value)(w:World),(callFunc f args).run P w=.ok (.enter f args) w
 calls:∀(args:List MV)(v:MV)(h h':Hp),e.run args ret h=some (v,h')→∀(ρ:Rho)(w:World)(rargs:List Value),HRel ρ h w.heap→VRels ρ args rargs →
  Calls P f rargs.toArray w fun en w'=>∃rv ρ',en=.returned rv∧VRel ρ' v rv∧HRel ρ' h' w'.heap∧HStp ρ h w ρ' h' w'
theorem Entry.run_some{e:Entry}{β:Type}{args:List MV}{k:MV→M β}{h:Hp}{res:β×Hp}(he:e.run args k h=some res):∃v h1,e.run args ret h=some (v,h1)∧k v h1=some res:=by
 unfold Entry.run at he ⊢;cases hd:e.dec args with
 | none=>rw[hd]at he;cases he
 | some a=>
  rw[hd]at he;obtain⟨r,h1,e1,e2⟩:=z0f he;refine⟨e.enc r,h1,?_,e2⟩;simp only[bd,e1,ret]
section
variable{P:Program}
theorem zv9{t:TypeId}{v:Value}{m:MV}(e:zfh P t v=some m)(ρ:Rho):VRel ρ m v:=by
 unfold zfh at e;split at e
 ·split at e
  ·rename_i cs _ ts ht;cases hm:zda ts cs.toList with
   | none=>rw[hm]at e;cases e
   | some ms=>
    rw[hm]at e;cases e;have:=VRel.agg ms cs.toList (zi5 hm ρ)
    simpa using this
  ·cases e
 ·split at e
  ·exact zsn e ρ
  ·cases e
theorem zo9{s:S}(k:Ok s){t:TypeId}{x:Operand}{o:Opd}(e:opd P t x=some o){fv:FV}(hv:o.val s.fr=some fv):zb9 s.ρ s.π fv (Act.eval ⟨s.t,[]⟩ x):=by
 cases x with
 | tmp n=>
  cases e;exact(k.slots n fv hv).2
 | const v=>
  simp only[opd]at e;cases hc:zfh P t v with
  | none=>rw[hc]at e;cases e
  | some m=>
   rw[hc]at e;cases e;cases hv;exact zv9 hc s.ρ
 | global g=>cases e
 | func f=>
  cases e;cases hv;exact .fn f [] [] .nil
theorem z17{s:S}(k:Ok s){t:TypeId}{x:Operand}{o:Opd}(e:opd P t x=some o){v:MV}(hv:o.mv s.fr=some v):VRel s.ρ v (Act.eval ⟨s.t,[]⟩ x):=by
 unfold Opd.mv at hv;split at hv
 ·rename_i u hu;cases hv;exact zo9 k e hu
 ·cases hv
theorem zgd{s:S}(k:Ok s):∀{ts:List TypeId}{xs:List Operand}{os:List Opd},opds P ts xs=some os→∀{vs:List MV},z74 s.fr os=some vs→VRels s.ρ vs (xs.map (Act.eval ⟨s.t,[]⟩))
 | [],[],os,e,vs,hv=>by cases e;cases hv;exact .nil
 | t::ts,x::xs,os,e,vs,hv=>by
  simp only[opds]at e;split at e
  ·rename_i o q h1 h2;cases e;simp only[z74]at hv;split at hv
   ·rename_i v vs' h3 h4;cases hv;exact .cons _ _ _ _ (z17 k h1 h3) (zgd k h2 h4)
   ·cases hv
  ·cases e
 | [],_::_,os,e,vs,hv=>by simp[opds]at e
 | _::_,[],os,e,vs,hv=>by simp[opds]at e
theorem z0i{γ:Type u}{β:Type}{x:Option γ}{k:γ→M β}{h:Hp}{r:β×Hp}(e:z19 x k h=some r):∃v,x=some v∧k v h=some r:=by
 cases x with
 | none=>cases e
 | some v=>exact⟨v,rfl,e⟩
variable{β:Type}{s:S}{res:β×Hp}{o:Oper}{next:Act→World→Prop}{Q:Exit→Act→World→Prop}
theorem zej{d:Nat}(hd:o.dst=some d){rv:Value}{w':World}(hrun:(execOp (Act.eval ⟨s.t,[]⟩) o).run P s.w=.ok (.value rv) w')(h:next ⟨s.t.setIfInBounds d rv,[]⟩ w'):o.wp P ⟨s.t,[]⟩ s.w next Q:=by
 unfold Oper.wp;rw[hrun,Oper.upon_value];simpa[Act.put,hd]using h
theorem zky(hd:o.dst=none){w':World}(hrun:(execOp (Act.eval ⟨s.t,[]⟩) o).run P s.w=.ok .skip w')(h:next ⟨s.t,[]⟩ w'):o.wp P ⟨s.t,[]⟩ s.w next Q:=by
 unfold Oper.wp;rw[hrun,Oper.upon_skip];simpa[Act.put,hd]using h
def z29(s:S)(ds:List Nat)(k:Fr→M β)(res:β×Hp)(next:Act→World→Prop):Prop:=∀s',Ok s'→Stp s s' ds→k s'.fr s'.h=some res→next ⟨s'.t,[]⟩ s'.w
theorem z1d{k:Fr→M β}(ok:Ok s){d:Nat}(hd:o.dst=some d)(hlt:d<s.t.size){v:MV}{rv:Value}(hrun:(execOp (Act.eval ⟨s.t,[]⟩) o).run P s.w=.ok (.value rv) s.w)(hv:VRel s.ρ v rv)
  (e:k (s.fr.set d v) s.h=some res) (h:z29 s [d] k res next):o.wp P ⟨s.t,[]⟩ s.w next Q:=by
 obtain⟨k1,st⟩:=ok.set hlt hv;exact zej hd hrun (h _ k1 st e)
theorem z3c{k:Fr→M β}(ok:Ok s){d:Nat}(hd:o.dst=some d)(hlt:d<s.t.size){v:MV}{r:Result Value}{h':Hp}(ho:Out s.ρ s.h s.w r v h')
  (hrun:∀rv w',r=.ok rv w'→(execOp (Act.eval ⟨s.t,[]⟩) o).run P s.w=.ok (.value rv) w') (e:k (s.fr.set d v) h'=some res) (h:z29 s [d] k res next):o.wp P ⟨s.t,[]⟩ s.w next Q:=by
 obtain⟨rv,ρ',w',hr,hv,kh,st⟩:=ho;obtain⟨k1,st1⟩:=ok.step kh st;obtain⟨k2,st2⟩:=k1.set (d:=d) hlt hv;exact zej hd (hrun _ _ hr) (h _ k2 ((st1.trans st2).mono (by simp)) e)
end
end Go.Mini

/- Single operations: what the small machine does, the kit's does. First part: values. -/
namespace Go.Mini
section
variable{P:Program}{β:Type}{ρ:Rho}{h:Hp}{w:World}{res:β×Hp}
theorem z17g(a b:Int):(a==b)=decide (a=b):=by by_cases e:a=b<;>simp[e]
theorem z17h(a b:Int):(a != b) = !decide (a=b):=by by_cases e:a=b<;>simp[e]
theorem zez(op:BinOp)(t:TypeId)(x y:Operand)(k k':IntKind)(a b:Int):(eqGuard op t x y (.int k a) (.int k' b)).run P w=.ok () w:=by
 cases op<;>rfl
theorem zi9(op:BinOp)(t:TypeId)(x y:Operand)(a b:Bool):(eqGuard op t x y (.bool a) (.bool b)).run P w=.ok () w:=by
 cases op<;>rfl
theorem zc5(op:BinOp)(t:TypeId)(x y:Operand)(a b:ByteArray):(eqGuard op t x y (.string a) (.string b)).run P w=.ok () w:=by
 cases op<;>rfl
theorem zkd(op:BinOp)(t:TypeId)(x y:Operand)(a b:Option Addr):(eqGuard op t x y (.pointer a) (.pointer b)).run P w=.ok () w:=by
 cases op<;>rfl
theorem zmk(op:BinOp)(t:TypeId)(x y:Operand)(a b:Option Addr)(c d e f:Nat):(eqGuard op t x y (.slice a c d) (.slice b e f)).run P w=.ok () w:=by
 cases op<;>rfl
theorem zke(op:BinOp)(t:TypeId)(x y:Operand)(a b:Option Nat):(eqGuard op t x y (.map a) (.map b)).run P w=.ok () w:=by
 cases op<;>rfl
theorem z17i{t:TypeId}{op:BinOp}{k1:IntKind}{a b:Int}{k:MV→M β}(x y:Operand)
  (e:(if k1=k1 then(match op with
   | .add=>k (.int k1 (wr k1 (a+b)))
   | .sub=>k (.int k1 (wr k1 (a - b)))
   | .mul=>k (.int k1 (wr k1 (a * b)))
   | .quo=>if b=0 then z0h else k (.int k1 (wr k1 (a.tdiv b)))
   | .rem=>if b=0 then z0h else k (.int k1 (a.tmod b))
   | .eql=>k (.bool (decide (a=b)))
   | .neq=>k (.bool (!decide (a=b)))
   | .lss=>k (.bool (decide (a<b)))
   | .leq=>k (.bool (decide (a≤b)))
   | .gtr=>k (.bool (decide (b<a)))
   | .geq=>k (.bool (decide (b≤a)))
   | op=>k (.int k1 (z37 op k1 a b)))else z0h) h=some res) (h1:op≠.shl) (h2:op≠.shr) :
  ∃r rv,k r h=some res∧(do eqGuard op t x y (.int k1 a) (.int k1 b);binOp op t (.int k1 a) (.int k1 b)).run P w=.ok rv w∧VRel ρ r rv:=by
 rw[if_pos rfl]at e;simp only[Sem.run_bind,zez,Result.andThen_ok];cases op with
 | shl=>exact absurd rfl h1
 | shr=>exact absurd rfl h2
 | add=>exact⟨_,_,e,by simp[binOp,Op.intArith,wr],.int _ _⟩
 | sub=>exact⟨_,_,e,by simp[binOp,Op.intArith,wr],.int _ _⟩
 | mul=>exact⟨_,_,e,by simp[binOp,Op.intArith,wr],.int _ _⟩
 | quo=>
  dsimp only at e;split at e
  ·cases e
  ·rename_i hb;exact⟨_,_,e,by simp[binOp,Op.intDiv,hb,wr],.int _ _⟩
 | rem=>
  dsimp only at e;split at e
  ·cases e
  ·rename_i hb;exact⟨_,_,e,by simp[binOp,Op.intDiv,hb],.int _ _⟩
 | eql=>exact⟨_,_,e,by simp only[binOp,Op.intCmp,z17g];simp,.bool _⟩
 | neq=>exact⟨_,_,e,by simp only[binOp,Op.intCmp,z17h];simp,.bool _⟩
 | lss=>exact⟨_,_,e,by simp[binOp,Op.intCmp],.bool _⟩
 | leq=>exact⟨_,_,e,by simp[binOp,Op.intCmp],.bool _⟩
 | gtr=>exact⟨_,_,e,by simp[binOp,Op.intCmp],.bool _⟩
 | geq=>exact⟨_,_,e,by simp[binOp,Op.intCmp],.bool _⟩
 | and=>exact⟨_,_,e,by simp[binOp,Op.intBits,z37],.int _ _⟩
 | or=>exact⟨_,_,e,by simp[binOp,Op.intBits,z37],.int _ _⟩
 | xor=>exact⟨_,_,e,by simp[binOp,Op.intBits,z37],.int _ _⟩
 | andNot=>exact⟨_,_,e,by simp[binOp,Op.intBits,z37],.int _ _⟩
theorem zsr{t:TypeId}(d:Nat)(hu:P.underlying t=some .bool)(a b:Bool):(Op.equalIn (d+1) t (.bool a) (.bool b)).run P w=.ok (a==b) w:=by
 simp[Op.equalIn,z0o hu]
theorem zml{t:TypeId}(hu:P.underlying t=some .bool)(a b:Bool):(Op.equal t (.bool a) (.bool b)).run P w=.ok (a==b) w:=zsr 9999 hu a b
theorem zy7{ρ:Rho}{q:Option MA}{x:Value}(hx:VRel ρ (.ptr q) x):∃a,x=.pointer a∧a.isNone=q.isNone:=by
 cases hx with
 | nil=>exact⟨none,rfl,rfl⟩
 | ptr a rb hb=>exact⟨_,rfl,rfl⟩
theorem zmm{t E:TypeId}(d:Nat)(hu:P.underlying t=some (.pointer E))(a:Option Addr):(Op.equalIn (d+1) t (.pointer a) (.pointer none)).run P w=.ok a.isNone w:=by
 cases a<;>simp[Op.equalIn,z0o hu]
theorem zqy{t E:TypeId}(hu:P.underlying t=some (.pointer E))(a:Option Addr):(Op.equal t (.pointer a) (.pointer none)).run P w=.ok a.isNone w:=zmm 9999 hu a
theorem zmn{t E:TypeId}(d:Nat)(hu:P.underlying t=some (.pointer E))(a:Option Addr):(Op.equalIn (d+1) t (.pointer none) (.pointer a)).run P w=.ok a.isNone w:=by
 simp[Op.equalIn,z0o hu]
theorem zqz{t E:TypeId}(hu:P.underlying t=some (.pointer E))(a:Option Addr):(Op.equal t (.pointer none) (.pointer a)).run P w=.ok a.isNone w:=zmn 9999 hu a
theorem zpf{ρ:Rho}{q:Option MA}{l z:Nat}{x:Value}(hx:VRel ρ (.sl q l z) x):∃a n c,x=.slice a n c∧a.isNone=q.isNone:=by
 cases hx with
 | slNil e=>exact⟨none,0,0,rfl,rfl⟩
 | sl a rb len e cap ra hb hl hc=>exact⟨_,_,_,rfl,rfl⟩
theorem zoa{t E:TypeId}(d:Nat)(hu:P.underlying t=some (.slice E))(a:Option Addr)(n c:Nat):(Op.equalIn (d+1) t (.slice a n c) (.slice none 0 0)).run P w=.ok a.isNone w:=by
 cases a<;>simp[Op.equalIn,z0o hu]
theorem zia{t E:TypeId}(hu:P.underlying t=some (.slice E))(a:Option Addr)(n c:Nat):(Op.equal t (.slice a n c) (.slice none 0 0)).run P w=.ok a.isNone w:=zoa 9999 hu a n c
theorem zmo{ρ:Rho}{q:Option Nat}{x:Value}(hx:VRel ρ (.map q) x):∃a,x=.map a∧a.isNone=q.isNone:=by
 cases hx with
 | mapNil=>exact⟨none,rfl,rfl⟩
 | map b rb hb=>exact⟨_,rfl,rfl⟩
theorem zmp{t K E:TypeId}(d:Nat)(hu:P.underlying t=some (.map K E))(a:Option Nat):(Op.equalIn (d+1) t (.map a) (.map none)).run P w=.ok a.isNone w:=by
 cases a<;>simp[Op.equalIn,z0o hu]
theorem zho{t K E:TypeId}(hu:P.underlying t=some (.map K E))(a:Option Nat):(Op.equal t (.map a) (.map none)).run P w=.ok a.isNone w:=zmp 9999 hu a
def z8h(P:Program)(d:TypeDesc):MV→Bool
 | .bool _=>match d with | .bool=>true | _=>false
 | .ptr _=>match d with | .pointer e => !(Nat.beq (P.cellsOf e) 0) | _=>false
 | .sl _ _ _=>match d with | .slice _=>true | _=>false
 | .map _=>match d with | .map _ _=>true | _=>false
 | _=>true
theorem zob{t:TypeId}{k:IntKind}(h:cty P t=some (.int k)):P.underlying t=some (.int k):=by
 unfold cty at h;split at h<;>first | (cases h;done) | (cases h;assumption)
theorem zoc{t:TypeId}(h:cty P t=some .str):P.underlying t=some .string:=by
 unfold cty at h;split at h<;>first | (cases h;done) | (cases h;assumption)
theorem zl1{t:TypeId}(h:cty P t=some .bool):P.underlying t=some .bool:=by
 unfold cty at h;split at h<;>first | (cases h;done) | (cases h;assumption)
theorem zib{s t:List UInt8}:((⟨s.toArray⟩:ByteArray)==(⟨t.toArray⟩:ByteArray))=decide (s=t):=by
 have h:((⟨s.toArray⟩:ByteArray)==(⟨t.toArray⟩:ByteArray))=(s.toArray==t.toArray):=rfl;rw[h];by_cases e:s=t
 ·simp[e]
 ·simp[e]
theorem zpg{t:TypeId}{c:CTy}(hc:cty P t=some c){x y:MV}{rx ry:Value}(hx:VRel ρ x rx)(hy:VRel ρ y ry){p:Bool}(e:eqC c x y=some p)(n:Nat):(Op.equalIn (n+1) t rx ry).run P w=.ok p w:=by
 unfold eqC at e;split at e
 ·split at e
  ·rename_i hk;obtain⟨rfl,rfl⟩:=hk;cases e;cases hx;cases hy;simp[Op.equalIn,z0o (zob hc)];rfl
  ·cases e
 ·cases e;cases hx;cases hy;simp[Op.equalIn,z0o (zoc hc),zib]
 ·cases e;cases hx;cases hy;simp[Op.equalIn,z0o (zl1 hc)]
 ·cases e
theorem zod{t:TypeId}{c:CTy}(h:cty P t=some c):∃d,P.underlying t=some d∧zal d=false:=by
 unfold cty at h;split at h<;>first | (cases h;done) | exact⟨_,by assumption,rfl⟩
theorem zmq{p q:Option MA}{k:Bool→M β}{h:Hp}{res:β×Hp}(e:zao p q k h=some res):∃b,zc3 p q h=some (b,h)∧k b h=some res:=by
 unfold zao at e;split at e
 ·refine⟨_,?_,e⟩;cases p<;>rfl
 ·obtain⟨b,h1,e1,e2⟩:=z0f e;have:h1=h:=by
   cases p with
   | none=>simp only[zc3,Option.some.injEq,Prod.mk.injEq]at e1;exact e1.2.symm
   | some a=>
    simp only[zc3]at e1;split at e1
    ·simp only[Option.some.injEq,Prod.mk.injEq]at e1;exact e1.2.symm
    ·cases e1
  subst this;exact⟨b,e1,e2⟩
theorem zkf{t E:TypeId}(kh:HRel ρ h w.heap)(hu:P.underlying t=some (.pointer E))(hE:P.cellsOf E≠0){p q:Option MA}{b:Bool}{h':Hp}{rx ry:Value}(hx:VRel ρ (.ptr p) rx)(hy:VRel ρ (.ptr q) ry)
  (e:zc3 p q h=some (b,h')):h'=h∧∃ax ay,rx=.pointer ax∧ry=.pointer ay∧(Op.equal t (.pointer ax) (.pointer ay)).run P w=.ok b w:=by
 have hinfo:∃j,P.info? E=some j∧j.size≠0:=by
  unfold Program.cellsOf at hE;cases hj:P.info? E with
  | none=>rw[hj]at hE;exact absurd rfl hE
  | some j=>rw[hj]at hE;exact⟨j,rfl,hE⟩
 obtain⟨j,hj,hsz⟩:=hinfo;cases hx with
 | nil=>
  obtain⟨y,rfl,hy1⟩:=zy7 hy;simp only[zc3,Option.some.injEq,Prod.mk.injEq]at e;refine⟨e.2.symm,_,_,rfl,rfl,?_⟩;rw[zqz hu,hy1,e.1]
 | ptr a rb ha=>
  cases hy with
  | nil=>
   simp only[zc3,Option.some.injEq,Prod.mk.injEq]at e;refine⟨e.2.symm,_,_,rfl,rfl,?_⟩;rw[zqy hu,←e.1];rfl
  | ptr c rc hc=>
   have key:∀r:Bool,(sameAddr ⟨rb.r,rb.o+a.off,none⟩ ⟨rc.r,rc.o+c.off,none⟩).run P w=.ok r w→(Op.equal t (.pointer (some ⟨rb.r,rb.o+a.off,none⟩)) (.pointer (some ⟨rc.r,rc.o+c.off,none⟩))).run P w=.ok r w:=by
    intro r hr;have h9:∀d:Nat,(Op.equalIn (d+1) t (.pointer (some ⟨rb.r,rb.o+a.off,none⟩)) (.pointer (some ⟨rc.r,rc.o+c.off,none⟩))).run P w=.ok r w:=fun d=>by
     simp[Op.equalIn,z0o hu,sizeOf,typeInfo,hj,hsz,hr]
    exact h9 9999
   simp only[zc3]at e;split at e
   ·rename_i hbl;simp only[Option.some.injEq,Prod.mk.injEq]at e;refine⟨e.2.symm,_,_,rfl,rfl,key _ ?_⟩;rw[hbl]at ha;rw[ha]at hc;cases hc;rw[←e.1];simp[sameAddr];by_cases ho:a.off=c.off<;>simp[ho]
   ·cases e
theorem z10r{t:TypeId}{d:TypeDesc}(hu:P.underlying t=some d){op:BinOp}{v u:MV}{rx ry:Value}(x y:Operand){k:MV→M β}(hx:VRel ρ v rx)(hy:VRel ρ u ry)
  (kh:HRel ρ h w.heap) (hk:z8h P d v=true) (e:z7n op v u k h=some res) :
  ∃r rv,k r h=some res∧(do eqGuard op t x y rx ry;binOp op t rx ry).run P w=.ok rv w∧VRel ρ r rv:=by
 unfold z7n at e;split at e
 ·cases hx;cases hy;split at e
  ·cases e
  ·rename_i hb;exact⟨_,_,e,by simp only[Sem.run_bind,zez,Result.andThen_ok];simp[binOp,Op.shift,hb,z75],.int _ _⟩
 ·cases hx;cases hy;split at e
  ·cases e
  ·rename_i hb;exact⟨_,_,e,by simp only[Sem.run_bind,zez,Result.andThen_ok];simp[binOp,Op.shift,hb,zbc],.int _ _⟩
 ·rename_i k1 a k2 b h1 h2;cases hx;cases hy;by_cases hk12:k1=k2
  ·subst hk12;exact z17i x y e (fun c=>by subst c;simp at h1) (fun c=>by subst c;simp at h2)
  ·rw[if_neg hk12]at e;cases e
 ·cases hx;cases hy;cases d<;>simp[z8h]at hk;exact⟨_,_,e,by simp only[Sem.run_bind,zi9,Result.andThen_ok,binOp,zml hu,Sem.run_pure],.bool _⟩
 ·cases hx;cases hy;cases d<;>simp[z8h]at hk;exact⟨_,_,e,by simp only[Sem.run_bind,zi9,Result.andThen_ok,binOp,zml hu,Sem.run_pure],.bool _⟩
 ·cases hx;cases hy;exact⟨_,_,e,by simp only[Sem.run_bind,zc5,Result.andThen_ok,binOp,Op.stringOp,zsq,Sem.run_pure],.bool _⟩
 ·cases hx;cases hy;exact⟨_,_,e,by simp only[Sem.run_bind,zc5,Result.andThen_ok,binOp,Op.stringOp,zsq,Sem.run_pure],.bool _⟩
 ·cases hx;cases hy;exact⟨_,_,e,by simp only[Sem.run_bind,zc5,Result.andThen_ok,binOp,Op.stringOp,ByteArray.toList_mk,Sem.run_pure],.bool _⟩
 ·cases d<;>simp[z8h]at hk;rename_i E;have hE:P.cellsOf E≠0:=fun hh=>by rw[hh]at hk;simp at hk
  obtain⟨bb,ev,e2⟩:=zmq e;obtain⟨_,ax,ay,rfl,rfl,hrun⟩:=zkf kh hu hE hx hy ev;exact⟨_,_,e2,by simp only[Sem.run_bind,zkd,Result.andThen_ok,binOp,hrun,Sem.run_pure],.bool _⟩
 ·cases d<;>simp[z8h]at hk;rename_i E;have hE:P.cellsOf E≠0:=fun hh=>by rw[hh]at hk;simp at hk
  obtain⟨bb,ev,e2⟩:=zmq e;obtain⟨_,ax,ay,rfl,rfl,hrun⟩:=zkf kh hu hE hx hy ev;exact⟨_,_,e2,by simp only[Sem.run_bind,zkd,Result.andThen_ok,binOp,hrun,Sem.run_pure],.bool _⟩
 ·cases hy;cases d<;>simp[z8h]at hk;obtain⟨a,n,c,rfl,ha⟩:=zpf hx;exact⟨_,_,e,by simp only[Sem.run_bind,zmk,Result.andThen_ok,binOp,zia hu,Sem.run_pure,ha],.bool _⟩
 ·cases hy;cases d<;>simp[z8h]at hk;obtain⟨a,n,c,rfl,ha⟩:=zpf hx;exact⟨_,_,e,by simp only[Sem.run_bind,zmk,Result.andThen_ok,binOp,zia hu,Sem.run_pure,ha],.bool _⟩
 ·cases hy;cases d<;>simp[z8h]at hk;obtain⟨a,rfl,ha⟩:=zmo hx;exact⟨_,_,e,by simp only[Sem.run_bind,zke,Result.andThen_ok,binOp,zho hu,Sem.run_pure,ha],.bool _⟩
 ·cases hy;cases d<;>simp[z8h]at hk;obtain⟨a,rfl,ha⟩:=zmo hx;exact⟨_,_,e,by simp only[Sem.run_bind,zke,Result.andThen_ok,binOp,zho hu,Sem.run_pure,ha],.bool _⟩
 ·cases e
theorem z14j{op:UnOp}{v:MV}{rx:Value}{k:MV→M β}(hx:VRel ρ v rx)(e:zdx op v k h=some res):∃r rv,k r h=some res∧(Op.unary op rx).run P w=.ok rv w∧VRel ρ r rv:=by
 unfold zdx at e;split at e
 ·cases hx;exact⟨_,_,e,by simp[Op.unary],.bool _⟩
 ·cases hx;exact⟨_,_,e,by simp[Op.unary,Op.intArith,wr],.int _ _⟩
 ·cases hx;exact⟨_,_,e,by simp[Op.unary,Op.intBits,z37],.int _ _⟩
 ·cases e
end
end Go.Mini
