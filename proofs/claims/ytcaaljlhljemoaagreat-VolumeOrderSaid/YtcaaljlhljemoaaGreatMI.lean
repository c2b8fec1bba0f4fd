/- The small machine's state beside the kit's: frames, private variables; single operations. -/
import Derived.Test.YtcaaljlhljemoaaGreatMG
import Derived.Orders
namespace Go.Mini
universe u
structure S where
 ρ:Rho
 π:Nat→Nat
 h:Hp
 fr:Fr
 t:Array Value
 w:World
def FRel (ρ:Rho) (π:Nat→Nat):FV→Value→Prop
 | .v x,y=>VRel ρ x y
 | .loc n o,y=>y=.pointer (some ⟨π n,o,none⟩)
 | .gone,_=>True
structure Ok (s:S):Prop where
 heap:HRel s.ρ s.h s.w.heap
 slots:∀i x,look s.fr.v i=some x→i<s.t.size∧FRel s.ρ s.π x (s.t.getD i undef)
 priv:∀n pv b,look s.fr.p n=some (pv,b)→(∃c el,s.w.heap[s.π n]? = some (.cells c el (0,0))∧VRels s.ρ pv.cells c.toList)∧¬Liv s.ρ s.h (s.π n)
 pinj:∀n m x y,look s.fr.p n=some x→look s.fr.p m=some y→n≠m→s.π n≠s.π m
def Wr (s:S) (r:Nat):Prop:=∃n pv,look s.fr.p n=some (pv,true)∧s.π n=r
structure Stp (s s':S) (ds:List Nat):Prop where
 ext:Ext s.ρ s'.ρ
 os:s'.w.os=s.w.os
 tape:s'.w.tape=s.w.tape
 output:s'.w.output=s.w.output
 size:s.w.heap.size≤s'.w.heap.size
 grw:Grw s.ρ s.h s'.ρ s'.h
 old:∀r,r<s.w.heap.size→¬Foot s.ρ s.h r→¬Wr s r→s'.w.heap[r]? = s.w.heap[r]?
 foot:∀r,Foot s'.ρ s'.h r→Foot s.ρ s.h r∨s.w.heap.size≤r
 liv:∀r,Liv s'.ρ s'.h r→Liv s.ρ s.h r∨s.w.heap.size≤r
 wr:∀r,Wr s' r→Wr s r∨s.w.heap.size≤r
 pi:∀n,n ∉ ds→s'.π n=s.π n
 pi2:∀n,s'.π n=s.π n∨s.w.heap.size≤s'.π n
 tsz:s'.t.size=s.t.size
 tmp:∀i,i ∉ ds→s'.t.getD i undef=s.t.getD i undef
theorem Stp.refl (s:S) (ds:List Nat):Stp s s ds:=
 ⟨Ext.refl _,rfl,rfl,rfl,Nat.le_refl _,⟨Nat.le_refl _,fun _ _ e =>.inl e⟩,fun _ _ _ _=>rfl,fun _ h =>.inl h,fun _ h =>.inl h,fun _ h =>.inl h,fun _ _=>rfl,fun _ =>.inl rfl,rfl,fun _ _=>rfl⟩
theorem Stp.trans {s s' s'':S} {d1 d2:List Nat} (a:Stp s s' d1) (b:Stp s' s'' d2):Stp s s'' (d1++d2) where
 ext:=a.ext.trans b.ext
 os:=b.os.trans a.os
 tape:=b.tape.trans a.tape
 output:=b.output.trans a.output
 size:=Nat.le_trans a.size b.size
 grw:=a.grw.trans b.grw
 old:=fun r hr hf hw=>(b.old r (Nat.lt_of_lt_of_le hr a.size) (fun k=>by
  rcases a.foot r k with k | k
  ·exact hf k
  ·omega) (fun k=>by
  rcases a.wr r k with k | k
  ·exact hw k
  ·omega)).trans (a.old r hr hf hw)
 foot:=fun r k=>by
  rcases b.foot r k with k | k
  ·exact a.foot r k
  ·exact .inr (Nat.le_trans a.size k)
 liv:=fun r k=>by
  rcases b.liv r k with k | k
  ·exact a.liv r k
  ·exact .inr (Nat.le_trans a.size k)
 wr:=fun r k=>by
  rcases b.wr r k with k | k
  ·exact a.wr r k
  ·exact .inr (Nat.le_trans a.size k)
 pi:=fun n hn=>(b.pi n (fun c=>hn (List.mem_append_right _ c))).trans (a.pi n (fun c=>hn (List.mem_append_left _ c)))
 pi2:=fun n=>by
  rcases b.pi2 n with k | k
  ·rw [k];exact a.pi2 n
  ·exact .inr (Nat.le_trans a.size k)
 tsz:=b.tsz.trans a.tsz
 tmp:=fun i hi=>(b.tmp i (fun c=>hi (List.mem_append_right _ c))).trans (a.tmp i (fun c=>hi (List.mem_append_left _ c)))
theorem Stp.mono {s s':S} {d1 d2:List Nat} (a:Stp s s' d1) (h:∀x∈d1,x∈d2):Stp s s' d2:=
 {a with pi:=fun n hn=>a.pi n fun c=>hn (h n c),tmp:=fun i hi=>a.tmp i fun c=>hi (h i c)}
theorem FRel.mono {ρ ρ':Rho} (e:Ext ρ ρ') {π:Nat→Nat} {x:FV} {y:Value} (h:FRel ρ π x y):FRel ρ' π x y:=by
 cases x with
 | v x=>exact VRel.mono e h
 | loc n o=>exact h
 | gone=>trivial
theorem Ok.step {s:S} (k:Ok s) {ρ':Rho} {h':Hp} {w':World} (kh:HRel ρ' h' w'.heap) (st:HStp s.ρ s.h s.w ρ' h' w') :
  Ok {s with ρ:=ρ',h:=h',w:=w'}∧Stp s {s with ρ:=ρ',h:=h',w:=w'} []:=by
 refine ⟨⟨kh,fun i x e=>⟨(k.slots i x e).1,(k.slots i x e).2.mono st.ext⟩,?_,k.pinj⟩,
  ⟨st.ext,st.os,st.tape,st.output,st.size,st.grw,fun r hr hf _=>st.old r hr hf,st.foot,st.liv,fun r h =>.inl h,fun _ _=>rfl,fun _ =>.inl rfl,rfl,fun _ _=>rfl⟩⟩
 intro n pv b e
 obtain ⟨⟨c,el,h1,h2⟩,h3⟩:=k.priv n pv b e
 have hlt:s.π n<s.w.heap.size:=(Array.getElem?_eq_some_iff.1 h1).1
 refine ⟨⟨c,el,?_,h2.mono st.ext⟩,?_⟩
 ·show w'.heap[s.π n]? = _
  rw [st.old _ hlt fun f=>h3 f.liv];exact h1
 ·intro f
  rcases st.liv _ f with f | f
  ·exact h3 f
  ·have f2:s.w.heap.size≤s.π n:=f
   exact absurd hlt (by omega)
theorem z0u {α:Type u} (m:Nat) (x:α) (r:List (Nat×α)) (n:Nat):look ((m,x)::r) n=if m=n then some x else look r n:=by
 simp only [look]
 by_cases e:m=n
 ·subst e;simp
 ·have:Nat.beq m n=false:=by
   cases hb:Nat.beq m n with
   | false=>rfl
   | true=>exact absurd (Nat.eq_of_beq_eq_true hb) e
  rw [this,if_neg e];rfl
theorem mem_iff (n:Nat) (l:List Nat):mem n l=true↔n∈l:=by
 induction l with
 | nil=>simp [mem]
 | cons m r ih=>
  simp only [mem,Bool.or_eq_true,ih,List.mem_cons]
  constructor
  ·rintro (h | h)
   ·exact .inl (Nat.eq_of_beq_eq_true h).symm
   ·exact .inr h
  ·rintro (h | h)
   ·subst h;exact .inl (by simp)
   ·exact .inr h
theorem getD_set {t:Array Value} {d i:Nat} {v:Value} (hd:d<t.size):(t.setIfInBounds d v).getD i undef=if i=d then v else t.getD i undef:=by
 simp only [Array.getD_eq_getD_getElem?,Array.getElem?_setIfInBounds]
 by_cases e:d=i
 ·subst e;simp [hd]
 ·rw [if_neg e,if_neg (fun c=>e c.symm)]
theorem Ok.setF {s:S} (k:Ok s) {d:Nat} (hd:d<s.t.size) {x:FV} {y:Value} (hr:FRel s.ρ s.π x y) :
  Ok {s with fr:=s.fr.setF d x,t:=s.t.setIfInBounds d y}∧Stp s {s with fr:=s.fr.setF d x,t:=s.t.setIfInBounds d y} [d]:=by
 refine ⟨⟨k.heap,?_,k.priv,k.pinj⟩,⟨Ext.refl _,rfl,rfl,rfl,Nat.le_refl _,⟨Nat.le_refl _,fun _ _ e =>.inl e⟩,fun _ _ _ _=>rfl,fun _ h =>.inl h,fun _ h =>.inl h,fun _ h =>.inl h,fun _ _=>rfl,fun _ =>.inl rfl,by simp,?_⟩⟩
 ·intro i z e
  simp only [Fr.setF,z0u] at e
  simp only [Array.size_setIfInBounds,getD_set hd]
  by_cases ed:d=i
  ·subst ed
   rw [if_pos rfl] at e
   cases e
   exact ⟨hd,by rw [if_pos rfl];exact hr⟩
  ·rw [if_neg ed] at e
   rw [if_neg (fun c=>ed c.symm)]
   exact k.slots i z e
 ·intro i hi
  simp only [getD_set hd]
  rw [if_neg (by simpa using hi)]
theorem Ok.set {s:S} (k:Ok s) {d:Nat} (hd:d<s.t.size) {x:MV} {y:Value} (hr:VRel s.ρ x y) :
  Ok {s with fr:=s.fr.set d x,t:=s.t.setIfInBounds d y}∧Stp s {s with fr:=s.fr.set d x,t:=s.t.setIfInBounds d y} [d]:=k.setF hd (x :=.v x) hr
structure Sound (P:Program) (f:FuncId) (e:Entry):Prop where
 enter:∀(args:Array Value) (w:World),(callFunc f args).run P w=.ok (.enter f args) w
 calls:∀(args:List MV) (v:MV) (h h':Hp),e.run args ret h=some (v,h')→∀(ρ:Rho) (w:World) (rargs:List Value),HRel ρ h w.heap→VRels ρ args rargs →
  Calls P f rargs.toArray w fun en w'=>∃rv ρ',en=.returned rv∧VRel ρ' v rv∧HRel ρ' h' w'.heap∧HStp ρ h w ρ' h' w'
theorem Entry.run_some {e:Entry} {β:Type} {args:List MV} {k:MV→M β} {h:Hp} {res:β×Hp} (he:e.run args k h=some res):∃v h1,e.run args ret h=some (v,h1)∧k v h1=some res:=by
 unfold Entry.run at he ⊢
 cases hd:e.dec args with
 | none=>rw [hd] at he;cases he
 | some a=>
  rw [hd] at he
  obtain ⟨r,h1,e1,e2⟩:=z0d he
  refine ⟨e.enc r,h1,?_,e2⟩
  simp only [bd,e1,ret]
section
variable {P:Program}
theorem zj7 {t:TypeId} {v:Value} {m:MV} (e:constOf P t v=some m) (ρ:Rho):VRel ρ m v:=by
 unfold constOf at e
 split at e
 ·split at e
  ·rename_i cs _ ts ht
   cases hm:mvsOf ts cs.toList with
   | none=>rw [hm] at e;cases e
   | some ms=>
    rw [hm] at e
    cases e
    have:=VRel.agg ms cs.toList (z9x hm ρ)
    simpa using this
  ·cases e
 ·split at e
  ·exact zhd e ρ
  ·cases e
theorem zel {s:S} (k:Ok s) {t:TypeId} {x:Operand} {o:Opd} (e:opd P t x=some o) {fv:FV} (hv:o.val s.fr=some fv):FRel s.ρ s.π fv (Act.eval ⟨s.t,[]⟩ x):=by
 cases x with
 | tmp n=>
  cases e
  exact (k.slots n fv hv).2
 | const v=>
  simp only [opd] at e
  cases hc:constOf P t v with
  | none=>rw [hc] at e;cases e
  | some m=>
   rw [hc] at e
   cases e
   cases hv
   exact zj7 hc s.ρ
 | global g=>cases e
 | func f=>
  cases e
  cases hv
  exact .fn f [] [] .nil
theorem z0p {s:S} (k:Ok s) {t:TypeId} {x:Operand} {o:Opd} (e:opd P t x=some o) {v:MV} (hv:o.mv s.fr=some v):VRel s.ρ v (Act.eval ⟨s.t,[]⟩ x):=by
 unfold Opd.mv at hv
 split at hv
 ·rename_i u hu
  cases hv
  exact zel k e hu
 ·cases hv
theorem z8o {s:S} (k:Ok s):∀ {ts:List TypeId} {xs:List Operand} {os:List Opd},opds P ts xs=some os→∀ {vs:List MV},valsOf s.fr os=some vs→VRels s.ρ vs (xs.map (Act.eval ⟨s.t,[]⟩))
 | [],[],os,e,vs,hv=>by cases e;cases hv;exact .nil
 | t::ts,x::xs,os,e,vs,hv=>by
  simp only [opds] at e
  split at e
  ·rename_i o q h1 h2
   cases e
   simp only [valsOf] at hv
   split at hv
   ·rename_i v vs' h3 h4
    cases hv
    exact .cons _ _ _ _ (z0p k h1 h3) (z8o k h2 h4)
   ·cases hv
  ·cases e
 | [],_::_,os,e,vs,hv=>by simp [opds] at e
 | _::_,[],os,e,vs,hv=>by simp [opds] at e
theorem z0f {γ:Type u} {β:Type} {x:Option γ} {k:γ→M β} {h:Hp} {r:β×Hp} (e:okOf x k h=some r):∃v,x=some v∧k v h=some r:=by
 cases x with
 | none=>cases e
 | some v=>exact ⟨v,rfl,e⟩
variable {β:Type} {s:S} {res:β×Hp} {o:Oper} {next:Act→World→Prop} {Q:Exit→Act→World→Prop}
theorem z7h {d:Nat} (hd:o.dst=some d) {rv:Value} {w':World} (hrun:(execOp (Act.eval ⟨s.t,[]⟩) o).run P s.w=.ok (.value rv) w') (h:next ⟨s.t.setIfInBounds d rv,[]⟩ w'):o.wp P ⟨s.t,[]⟩ s.w next Q:=by
 unfold Oper.wp
 rw [hrun,Oper.upon_value]
 simpa [Act.put,hd] using h
theorem zc0 (hd:o.dst=none) {w':World} (hrun:(execOp (Act.eval ⟨s.t,[]⟩) o).run P s.w=.ok .skip w') (h:next ⟨s.t,[]⟩ w'):o.wp P ⟨s.t,[]⟩ s.w next Q:=by
 unfold Oper.wp
 rw [hrun,Oper.upon_skip]
 simpa [Act.put,hd] using h
def After (s:S) (ds:List Nat) (k:Fr→M β) (res:β×Hp) (next:Act→World→Prop):Prop:=∀s',Ok s'→Stp s s' ds→k s'.fr s'.h=some res→next ⟨s'.t,[]⟩ s'.w
theorem z0t {k:Fr→M β} (ok:Ok s) {d:Nat} (hd:o.dst=some d) (hlt:d<s.t.size) {v:MV} {rv:Value} (hrun:(execOp (Act.eval ⟨s.t,[]⟩) o).run P s.w=.ok (.value rv) s.w) (hv:VRel s.ρ v rv)
  (e:k (s.fr.set d v) s.h=some res) (h:After s [d] k res next):o.wp P ⟨s.t,[]⟩ s.w next Q:=by
 obtain ⟨k1,st⟩:=ok.set hlt hv
 exact z7h hd hrun (h _ k1 st e)
theorem z1x {k:Fr→M β} (ok:Ok s) {d:Nat} (hd:o.dst=some d) (hlt:d<s.t.size) {v:MV} {r:Result Value} {h':Hp} (ho:Out s.ρ s.h s.w r v h')
  (hrun:∀rv w',r=.ok rv w'→(execOp (Act.eval ⟨s.t,[]⟩) o).run P s.w=.ok (.value rv) w') (e:k (s.fr.set d v) h'=some res) (h:After s [d] k res next):o.wp P ⟨s.t,[]⟩ s.w next Q:=by
 obtain ⟨rv,ρ',w',hr,hv,kh,st⟩:=ho
 obtain ⟨k1,st1⟩:=ok.step kh st
 obtain ⟨k2,st2⟩:=k1.set (d:=d) hlt hv
 exact z7h hd (hrun _ _ hr) (h _ k2 ((st1.trans st2).mono (by simp)) e)
end
end Go.Mini
