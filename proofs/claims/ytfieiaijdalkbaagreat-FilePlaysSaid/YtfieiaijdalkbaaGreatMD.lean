/- How the small machine's heap stands to the kit's; what each step of the one is in the other. -/
import Derived.Test.YtfieiaijdalkbaaGreatMC
import Derived.Calls
import Derived.Laws.Sem
import Derived.Laws.World
import Derived.Laws.Tables
import Derived.Laws.Cells
import Derived.Laws.Rows
import Derived.MapKept
namespace Go.Mini
structure RB where
 r:Nat
 o:Nat
 e:Nat
abbrev Rho:=Nat→Option RB
mutual
inductive VRel(ρ:Rho):MV→Value→Prop
 | bool (b:Bool):VRel ρ (.bool b) (.bool b)
 | int (k:IntKind) (n:Int):VRel ρ (.int k n) (.int k n)
 | str (s:List UInt8):VRel ρ (.str s) (.string ⟨s.toArray⟩)
 | nil:VRel ρ (.ptr none) (.pointer none)
 | ptr (a:MA) (rb:RB) (h:ρ a.blk=some rb):VRel ρ (.ptr (some a)) (.pointer (some ⟨rb.r,rb.o+a.off,none⟩))
 | slNil (e:Nat):VRel ρ (.sl none 0 e) (.slice none 0 0)
 | sl (a:MA) (rb:RB) (len e cap:Nat) (ra:Addr) (h:ρ a.blk=some rb) (hl:len≤cap) (hc:cap=0∨(ra=⟨rb.r,rb.o+a.off,none⟩∧a.off+cap * e≤rb.e)) (hm:cap≤9223372036854775807:=by omega):VRel ρ (.sl (some a) len e) (.slice (some ra) len cap)
 | mapNil:VRel ρ (.map none) (.map none)
 | map (b:Nat) (rb:RB) (h:ρ b=some rb):VRel ρ (.map (some b)) (.map (some rb.r))
 | fn (f:FuncId) (cs:List MV) (vs:List Value) (h:VRels ρ cs vs):VRel ρ (.fn f cs) (.func (.func f) #[] vs.toArray)
 | nilFn:VRel ρ .nilFn .nilFunc
 | iface (t:TypeId) (v:MV) (x:Value) (h:VRel ρ v x):VRel ρ (.iface t v) (.iface t x)
 | nilIface:VRel ρ .nilIface .nilIface
 | agg (cs:List MV) (vs:List Value) (h:VRels ρ cs vs):VRel ρ (.agg cs) (.agg vs.toArray)
 | tup (cs:List MV) (vs:List Value) (h:VRels ρ cs vs):VRel ρ (.tup cs) (.tuple vs.toArray)
inductive VRels(ρ:Rho):List MV→List Value→Prop
 | nil:VRels ρ [] []
 | cons (v:MV) (x:Value) (vs:List MV) (xs:List Value) (h:VRel ρ v x) (hs:VRels ρ vs xs):VRels ρ (v::vs) (x::xs)
end
def Ext(ρ ρ':Rho):Prop:=∀b rb,ρ b=some rb→ρ' b=some rb
theorem Ext.refl(ρ:Rho):Ext ρ ρ:=fun _ _ h=>h
theorem Ext.trans{a b c:Rho}(h:Ext a b)(k:Ext b c):Ext a c:=fun x y e=>k x y (h x y e)
mutual
theorem VRel.mono{ρ ρ':Rho}(e:Ext ρ ρ'):∀{v:MV}{x:Value},VRel ρ v x→VRel ρ' v x
 | _,_,.bool b =>.bool b
 | _,_,.int k n =>.int k n
 | _,_,.str s =>.str s
 | _,_,.nil =>.nil
 | _,_,.ptr a rb h =>.ptr a rb (e _ _ h)
 | _,_,.slNil z =>.slNil z
 | _,_,.sl a rb len z cap ra h hl hc hm =>.sl a rb len z cap ra (e _ _ h) hl hc hm
 | _,_,.mapNil =>.mapNil
 | _,_,.map b rb h =>.map b rb (e _ _ h)
 | _,_,.fn f cs vs h =>.fn f cs vs (VRels.mono e h)
 | _,_,.nilFn =>.nilFn
 | _,_,.iface t v x h =>.iface t v x (VRel.mono e h)
 | _,_,.nilIface =>.nilIface
 | _,_,.agg cs vs h =>.agg cs vs (VRels.mono e h)
 | _,_,.tup cs vs h =>.tup cs vs (VRels.mono e h)
theorem VRels.mono{ρ ρ':Rho}(e:Ext ρ ρ'):∀{vs:List MV}{xs:List Value},VRels ρ vs xs→VRels ρ' vs xs
 | _,_,.nil =>.nil
 | _,_,.cons v x vs xs h hs =>.cons v x vs xs (VRel.mono e h) (VRels.mono e hs)
end
theorem VRels.length{ρ:Rho}{vs:List MV}{xs:List Value}(h:VRels ρ vs xs):vs.length=xs.length:=by
 induction vs generalizing xs with
 | nil=>cases h;rfl
 | cons v vs ih=>cases h with | cons _ _ _ _ h hs=>simp[ih hs]
theorem VRels.get{ρ:Rho}{vs:List MV}{xs:List Value}(h:VRels ρ vs xs):∀(i:Nat)(v:MV),vs[i]? = some v→∃x,xs[i]? = some x∧VRel ρ v x:=by
 induction vs generalizing xs with
 | nil=>intro i v hv;simp at hv
 | cons u vs ih=>
  cases h with
  | cons _ x _ xs h hs=>
   intro i v hv;cases i with
   | zero=>simp at hv;subst hv;exact⟨x,rfl,h⟩
   | succ i=>simpa using ih hs i v (by simpa using hv)
theorem VRels.of_get{ρ:Rho}{vs:List MV}{xs:List Value}(hl:vs.length=xs.length)(h:∀(i:Nat)(v:MV)(x:Value),vs[i]? = some v→xs[i]? = some x→VRel ρ v x):VRels ρ vs xs:=by
 induction vs generalizing xs with
 | nil=>cases xs with
  | nil=>exact .nil
  | cons x xs=>simp at hl
 | cons v vs ih=>cases xs with
  | nil=>simp at hl
  | cons x xs=>exact .cons _ _ _ _ (h 0 v x rfl rfl) (ih (by simpa using hl) fun i v x a b=>h (i+1) v x (by simpa using a) (by simpa using b))
theorem VRels.append{ρ:Rho}{vs us:List MV}{xs ys:List Value}(h:VRels ρ vs xs)(k:VRels ρ us ys):VRels ρ (vs++us) (xs++ys):=by
 induction vs generalizing xs with
 | nil=>cases h;exact k
 | cons v vs ih=>cases h with | cons _ _ _ _ h hs=>exact .cons _ _ _ _ h (ih hs)
theorem VRels.take{ρ:Rho}{vs:List MV}{xs:List Value}(h:VRels ρ vs xs)(n:Nat):VRels ρ (vs.take n) (xs.take n):=by
 induction n generalizing vs xs with
 | zero=>exact .nil
 | succ n ih=>cases h with
  | nil=>exact .nil
  | cons v x vs xs h hs=>exact .cons _ _ _ _ h (ih hs)
theorem VRels.drop{ρ:Rho}{vs:List MV}{xs:List Value}(h:VRels ρ vs xs)(n:Nat):VRels ρ (vs.drop n) (xs.drop n):=by
 induction n generalizing vs xs with
 | zero=>exact h
 | succ n ih=>cases h with
  | nil=>exact .nil
  | cons v x vs xs h hs=>exact ih hs
theorem VRels.set{ρ:Rho}{vs:List MV}{xs:List Value}(h:VRels ρ vs xs)(n:Nat){v:MV}{x:Value}(hv:VRel ρ v x):VRels ρ (vs.set n v) (xs.set n x):=by
 induction n generalizing vs xs with
 | zero=>cases h with
  | nil=>exact .nil
  | cons _ _ _ _ h hs=>exact .cons _ _ _ _ hv hs
 | succ n ih=>cases h with
  | nil=>exact .nil
  | cons _ _ _ _ h hs=>exact .cons _ _ _ _ h (ih hs)
theorem VRel.oneCell{ρ:Rho}{v:MV}{x:Value}(h:VRel ρ v x)(hc:z10 v=true):x.oneCell'=true:=by
 cases h<;>simp_all[z10,Value.oneCell']
theorem VRels.oneCell{ρ:Rho}{vs:List MV}{xs:List Value}(h:VRels ρ vs xs)(hc:vs.all z10=true):∀x∈xs,x.oneCell'=true:=by
 induction vs generalizing xs with
 | nil=>cases h;simp
 | cons v vs ih=>cases h with
  | cons _ x _ xs h hs=>
   simp at hc;intro y hy;simp at hy;rcases hy with rfl | hy
   ·exact h.oneCell hc.1
   ·exact ih hs (by simpa using hc.2) y hy
inductive ERel(ρ:Rho):List (MV×MV)→List MapEntry→Prop
 | nil:ERel ρ [] []
 | cons (k v:MV) (e:MapEntry) (es:List (MV×MV)) (rs:List MapEntry) (hk:VRel ρ k e.key) (hv:VRel ρ v e.val) (h:ERel ρ es rs):ERel ρ ((k,v)::es) (e::rs)
theorem ERel.mono{ρ ρ':Rho}(x:Ext ρ ρ'){es:List (MV×MV)}{rs:List MapEntry}(h:ERel ρ es rs):ERel ρ' es rs:=by
 induction h with
 | nil=>exact .nil
 | cons k v e es rs hk hv h ih=>exact .cons k v e es rs (hk.mono x) (hv.mono x) ih
theorem ERel.length{ρ:Rho}{es:List (MV×MV)}{rs:List MapEntry}(h:ERel ρ es rs):es.length=rs.length:=by
 induction h with
 | nil=>rfl
 | cons _ _ _ _ _ _ _ _ ih=>simp[ih]
def z5i(ρ:Rho)(rb:RB)(x:Blk)(H:Array Obj):Prop:=match x with
 | .cells cs ro=>∃c el fz,H[rb.r]? = some (.cells c el fz)∧rb.o+rb.e≤c.size∧cs.length≤rb.e∧(∀(i:Nat) v,cs[i]? = some v→∃v',c[rb.o+i]? = some v'∧VRel ρ v v') ∧
   (ro=false→fz.1=fz.2∨(plain=false∧rb.o+rb.e≤fz.1))
 | .map es=>∃res ck,H[rb.r]? = some (.map res ck)∧ERel ρ es res.toList∧MapKept.Stamped res ck
 | .dead=>True
theorem z5i.mono{ρ ρ':Rho}(e:Ext ρ ρ'){rb:RB}{x:Blk}{H:Array Obj}(h:z5i ρ rb x H):z5i ρ' rb x H:=by
 cases x with
 | cells cs ro=>
  obtain⟨c,el,fz,h1,h2,h3,h4,h5⟩:=h;exact⟨c,el,fz,h1,h2,h3,fun i v hv=>let ⟨v',a,b⟩:=h4 i v hv;⟨v',a,b.mono e⟩,h5⟩
 | map es=>
  obtain⟨res,ck,h1,h2⟩:=h;exact⟨res,ck,h1,h2.1.mono e,h2.2⟩
 | dead=>trivial
theorem z5i.heap{ρ:Rho}{rb:RB}{x:Blk}{H H':Array Obj}(e:H'[rb.r]? = H[rb.r]?)(h:z5i ρ rb x H):z5i ρ rb x H':=by
 cases x with
 | cells cs ro=>
  obtain⟨c,el,fz,h1,h⟩:=h;exact⟨c,el,fz,e.trans h1,h⟩
 | map es=>
  obtain⟨res,ck,h1,h2⟩:=h;exact⟨res,ck,e.trans h1,h2⟩
 | dead=>trivial
def z1o(h:Hp)(b:Nat):Prop:=h.get b=.dead
def Own(h:Hp)(b:Nat):Prop:=(∃cs,h.get b=.cells cs false)∨∃es,h.get b=.map es
def z7m(ρ:Rho)(h:Hp)(r:Nat):Prop:=∃b rb,ρ b=some rb∧Own h b∧rb.r=r
def Liv(ρ:Rho)(h:Hp)(r:Nat):Prop:=∃b rb,ρ b=some rb∧¬z1o h b∧rb.r=r
theorem Own.live{h:Hp}{b:Nat}(k:Own h b):¬z1o h b:=by
 rintro hd
 unfold z1o at hd;rcases k with⟨cs,e⟩ | ⟨es,e⟩<;>rw[hd]at e<;>cases e
theorem z7m.liv{ρ:Rho}{h:Hp}{r:Nat}(k:z7m ρ h r):Liv ρ h r:=by
 obtain⟨b,rb,h1,h2,h3⟩:=k;exact⟨b,rb,h1,h2.live,h3⟩
structure HRel(ρ:Rho)(h:Hp)(H:Array Obj):Prop where
 dom:∀b rb,ρ b=some rb→b<h.size
 live:∀b,¬z1o h b→∃rb,ρ b=some rb
 inj:∀b b' rb rb',ρ b=some rb→ρ b'=some rb'→Own h b→¬z1o h b'→b≠b'→rb.r≠rb'.r
 blk:∀b rb,ρ b=some rb→z5i ρ rb (h.get b) H
 gl:∀i g,GM[i]? = some g→∃e,ρ i=some ⟨g,0,e⟩
def z6f(x:Blk):Prop:=(∃cs,x=.cells cs false)∨∃es,x=.map es
theorem z6f.ne{x:Blk}(h:z6f x):x≠.dead:=by rcases h with⟨_,rfl⟩ | ⟨_,rfl⟩<;>simp
theorem z6f.own{h:Hp}{b:Nat}{x:Blk}(k:z6f x)(e:h.get b=x):Own h b:=by rw[←e]at k;exact k
theorem z10k{ρ ρ':Rho}(x:Ext ρ ρ')(k:∀i g,GM[i]? = some g→∃e,ρ i=some ⟨g,0,e⟩):∀i g,GM[i]? = some g→∃e,ρ' i=some ⟨g,0,e⟩:=fun i g h=>(k i g h).elim fun e he=>⟨e,x _ _ he⟩
def Grw(ρ:Rho)(h:Hp)(ρ':Rho)(h':Hp):Prop:=h.size≤h'.size∧∀b rb,ρ' b=some rb→ρ b=some rb∨h.size≤b
theorem Grw.trans{ρ ρ' ρ'':Rho}{h h' h'':Hp}(a:Grw ρ h ρ' h')(b:Grw ρ' h' ρ'' h''):Grw ρ h ρ'' h'':=
 ⟨Nat.le_trans a.1 b.1,fun c rb e=>(b.2 c rb e).elim (a.2 c rb) fun k =>.inr (Nat.le_trans a.1 k)⟩
structure HStp(ρ:Rho)(h:Hp)(w:World)(ρ':Rho)(h':Hp)(w':World):Prop where
 ext:Ext ρ ρ'
 os:w'.os=w.os
 tape:w'.tape=w.tape
 output:w'.output=w.output
 size:w.heap.size≤w'.heap.size
 grw:Grw ρ h ρ' h'
 old:∀r,r<w.heap.size→¬z7m ρ h r→w'.heap[r]? = w.heap[r]?
 foot:∀r,z7m ρ' h' r→z7m ρ h r∨w.heap.size≤r
 liv:∀r,Liv ρ' h' r→Liv ρ h r∨w.heap.size≤r
theorem HStp.refl(ρ:Rho)(h:Hp)(w:World):HStp ρ h w ρ h w:=
 ⟨Ext.refl _,rfl,rfl,rfl,Nat.le_refl _,⟨Nat.le_refl _,fun _ _ e =>.inl e⟩,fun _ _ _=>rfl,fun _ h =>.inl h,fun _ h =>.inl h⟩
theorem HStp.trans{ρ ρ' ρ'':Rho}{h h' h'':Hp}{w w' w'':World}(a:HStp ρ h w ρ' h' w')(b:HStp ρ' h' w' ρ'' h'' w''):HStp ρ h w ρ'' h'' w'' where
 ext:=a.ext.trans b.ext
 os:=b.os.trans a.os
 tape:=b.tape.trans a.tape
 output:=b.output.trans a.output
 size:=Nat.le_trans a.size b.size
 grw:=a.grw.trans b.grw
 old:=fun r hr hf=>(b.old r (Nat.lt_of_lt_of_le hr a.size) fun k=>by
  rcases a.foot r k with k | k
  ·exact hf k
  ·omega).trans (a.old r hr hf)
 foot:=fun r k=>by
  rcases b.foot r k with k | k
  ·exact a.foot r k
  ·exact .inr (Nat.le_trans a.size k)
 liv:=fun r k=>by
  rcases b.liv r k with k | k
  ·exact a.liv r k
  ·exact .inr (Nat.le_trans a.size k)
theorem HStp.drew(ρ:Rho)(h:Hp)(w:World):HStp ρ h w ρ h {w with drawn:=w.drawn+1}:=
 ⟨Ext.refl _,rfl,rfl,rfl,Nat.le_refl _,⟨Nat.le_refl _,fun _ _ e =>.inl e⟩,fun _ _ _=>rfl,fun _ h =>.inl h,fun _ h =>.inl h⟩
def Rho.put(ρ:Rho)(b:Nat)(rb:RB):Rho:=fun c=>if c=b then some rb else ρ c
theorem Rho.put_same(ρ:Rho)(b:Nat)(rb:RB):ρ.put b rb b=some rb:=if_pos rfl
theorem Rho.put_other(ρ:Rho){b c:Nat}(rb:RB)(h:c≠b):ρ.put b rb c=ρ c:=if_neg h
theorem zwj(ρ:Rho)(h:Hp)(rb:RB)(h':Hp)(hs:h.size≤h'.size):Grw ρ h (ρ.put h.size rb) h':=
 ⟨hs,fun b q e=>by
  by_cases hb:b=h.size
  ·exact .inr (by omega)
  ·rw[Rho.put_other _ _ hb]at e;exact .inl e⟩
theorem HRel.put_ext{ρ:Rho}{h:Hp}{H:Array Obj}(k:HRel ρ h H)(rb:RB):Ext ρ (ρ.put h.size rb):=by
 intro b q e;have:=k.dom _ _ e
 rw[Rho.put_other _ _ (by omega)];exact e
theorem HRel.newH{ρ:Rho}{h:Hp}{H H':Array Obj}(k:HRel ρ h H)(rb:RB)(x:Blk)
  (hnl:¬Liv ρ h rb.r) (hH:∀i,i<H.size→i≠rb.r→H'[i]? = H[i]?)
  (hb:z5i (ρ.put h.size rb) rb x H') (hlt:∀b q,ρ b=some q→¬z1o h b→q.r<H.size):HRel (ρ.put h.size rb) (h.push x) H':=by
 have hext:=k.put_ext rb;have hdead:∀b,¬z1o (h.push x) b→b=h.size∨¬z1o h b:=by
  intro b hd;by_cases e:b=h.size
  ·exact .inl e
  ·exact .inr (by unfold z1o at *;rw[Hp.get_push,if_neg e]at hd;exact hd)
 refine⟨?_,?_,?_,?_,z10k hext k.gl⟩
 ·intro b q e;by_cases eb:b=h.size
  ·simp[eb]
  ·rw[Rho.put_other _ _ eb]at e;have:=k.dom _ _ e;simp;omega
 ·intro b hd;by_cases eb:b=h.size
  ·exact⟨rb,by rw[eb,Rho.put_same]⟩
  ·obtain⟨q,hq⟩:=k.live b ((hdead b hd).resolve_left eb);exact⟨q,by rw[Rho.put_other _ _ eb];exact hq⟩
 ·intro b b' q q' e e' hd hd' hne;by_cases eb:b=h.size
  ·subst eb;rw[Rho.put_same]at e;cases e;rw[Rho.put_other _ _ (fun c=>hne c.symm)]at e';have hd2:=(hdead b' hd').resolve_left (fun c=>hne c.symm);exact fun c=>hnl ⟨b',q',e',hd2,c.symm⟩
  ·rw[Rho.put_other _ _ eb]at e;have hd1:Own h b:=by unfold Own at *;rw[Hp.get_push,if_neg eb]at hd;exact hd
   by_cases eb':b'=h.size
   ·subst eb';rw[Rho.put_same]at e';cases e';exact fun c=>hnl ⟨b,q,e,hd1.live,c⟩
   ·rw[Rho.put_other _ _ eb']at e';exact k.inj b b' q q' e e' hd1 ((hdead b' hd').resolve_left eb') hne
 ·intro b q e;by_cases eb:b=h.size
  ·subst eb;rw[Rho.put_same]at e;cases e;rw[Hp.get_push,if_pos rfl];exact hb
  ·rw[Rho.put_other _ _ eb]at e;rw[Hp.get_push,if_neg eb];by_cases hd:z1o h b
   ·unfold z1o at hd;rw[hd];trivial
   ·have hq:=hlt b q e hd;exact((k.blk b q e).mono hext).heap (hH _ hq (fun c=>hnl ⟨b,q,e,hd,c⟩))
theorem zpa{ρ:Rho}{h:Hp}(k:∀b rb,ρ b=some rb→b<h.size){rb:RB}{x:Blk}{r:Nat}(f:z7m (ρ.put h.size rb) (h.push x) r):z7m ρ h r∨r=rb.r:=by
 obtain⟨b,q,e,ho,rfl⟩:=f;by_cases eb:b=h.size
 ·subst eb;rw[Rho.put_same]at e;cases e;exact .inr rfl
 ·rw[Rho.put_other _ _ eb]at e;refine .inl ⟨b,q,e,?_,rfl⟩;unfold Own at *;rw[Hp.get_push,if_neg eb]at ho;exact ho
theorem zsc{ρ:Rho}{h:Hp}{rb:RB}{x:Blk}{r:Nat}(f:Liv (ρ.put h.size rb) (h.push x) r):Liv ρ h r∨r=rb.r:=by
 obtain⟨b,q,e,ho,rfl⟩:=f;by_cases eb:b=h.size
 ·subst eb;rw[Rho.put_same]at e;cases e;exact .inr rfl
 ·rw[Rho.put_other _ _ eb]at e;refine .inl ⟨b,q,e,?_,rfl⟩;unfold z1o at *;rw[Hp.get_push,if_neg eb]at ho;exact ho
theorem HRel.new{ρ:Rho}{h:Hp}{w w':World}(k:HRel ρ h w.heap)(rb:RB)(x:Blk)
  (hnl:¬Liv ρ h rb.r) (hsz:w.heap.size≤w'.heap.size) (hH:∀i,i<w.heap.size→i≠rb.r→w'.heap[i]? = w.heap[i]?)
  (ho:w'.os=w.os) (ht:w'.tape=w.tape) (hout:w'.output=w.output)
  (hb:z5i (ρ.put h.size rb) rb x w'.heap) (hlt:∀b q,ρ b=some q→¬z1o h b→q.r<w.heap.size) (hr:w.heap.size≤rb.r) :
  HRel (ρ.put h.size rb) (h.push x) w'.heap∧HStp ρ h w (ρ.put h.size rb) (h.push x) w':=by
 refine⟨k.newH rb x hnl hH hb hlt,k.put_ext rb,ho,ht,hout,hsz,zwj _ _ _ _ (by simp),fun r hr' _=>hH r hr' (by omega),fun r f=>?_,fun r f=>?_⟩
 ·rcases zpa k.dom f with f | f
  ·exact .inl f
  ·exact .inr (by omega)
 ·rcases zsc f with f | f
  ·exact .inl f
  ·exact .inr (by omega)
theorem z14h{h:Hp}{b c:Nat}(ho:Own (h.set b .dead) c):Own h c:=by
 by_cases ec:c=b
 ·subst ec;unfold Own at ho;rw[Hp.get_set,if_pos rfl]at ho;rcases ho with⟨_,h⟩ | ⟨_,h⟩<;>cases h
 ·unfold Own at *;rw[Hp.get_set,if_neg ec]at ho;exact ho
theorem HRel.kill{ρ:Rho}{h:Hp}{H:Array Obj}(k:HRel ρ h H)(b:Nat):HRel ρ (h.set b .dead) H:=by
 have hdead:∀c,¬z1o (h.set b .dead) c→¬z1o h c∧c≠b:=by
  intro c hd;by_cases e:c=b
  ·subst e;exact absurd (by unfold z1o;rw[Hp.get_set,if_pos rfl]) hd
  ·exact⟨by unfold z1o at *;rw[Hp.get_set,if_neg e]at hd;exact hd,e⟩
 refine⟨fun c q e=>k.dom c q e,fun c hd=>k.live c (hdead c hd).1,fun c c' q q' e e' hd hd'=>k.inj c c' q q' e e' (z14h hd) (hdead c' hd').1,?_,k.gl⟩;intro c q e;by_cases ec:c=b
 ·subst ec;rw[Hp.get_set,if_pos rfl];trivial
 ·rw[Hp.get_set,if_neg ec];exact k.blk c q e
theorem zpb{ρ:Rho}{h:Hp}{b r:Nat}(f:z7m ρ (h.set b .dead) r):z7m ρ h r:=by
 obtain⟨c,q,e,ho,rfl⟩:=f;refine⟨c,q,e,?_,rfl⟩;by_cases ec:c=b
 ·subst ec;unfold Own at ho;rw[Hp.get_set,if_pos rfl]at ho;rcases ho with⟨_,h⟩ | ⟨_,h⟩<;>cases h
 ·unfold Own at *;rw[Hp.get_set,if_neg ec]at ho;exact ho
theorem zsd{ρ:Rho}{h:Hp}{b r:Nat}(f:Liv ρ (h.set b .dead) r):Liv ρ h r:=by
 obtain⟨c,q,e,ho,rfl⟩:=f;refine⟨c,q,e,?_,rfl⟩;by_cases ec:c=b
 ·subst ec;exact absurd (by unfold z1o;rw[Hp.get_set,if_pos rfl]) ho
 ·unfold z1o at *;rw[Hp.get_set,if_neg ec]at ho;exact ho
theorem HStp.kill(ρ:Rho)(h:Hp)(w:World)(b:Nat):HStp ρ h w ρ (h.set b .dead) w:=
 ⟨Ext.refl _,rfl,rfl,rfl,Nat.le_refl _,⟨Nat.le_refl _,fun _ _ e =>.inl e⟩,fun _ _ _=>rfl,fun _ f =>.inl (zpb f),fun _ f =>.inl (zsd f)⟩
theorem HRel.adopt{ρ:Rho}{h:Hp}{w w':World}(k:HRel ρ h w.heap){b:Nat}{rb:RB}(hb:ρ b=some rb)(hown:Own h b)(o e:Nat)(x:Blk)
  (hsz:w'.heap.size=w.heap.size) (hH:∀i,i≠rb.r→w'.heap[i]? = w.heap[i]?) (ho:w'.os=w.os) (ht:w'.tape=w.tape) (hout:w'.output=w.output)
  (hbr:∀ρ',Ext ρ ρ'→z5i ρ' ⟨rb.r,o,e⟩ x w'.heap) :
  HRel (ρ.put h.size ⟨rb.r,o,e⟩) ((h.set b .dead).push x) w'.heap∧HStp ρ h w (ρ.put h.size ⟨rb.r,o,e⟩) ((h.set b .dead).push x) w':=by
 have k1:=k.kill b;have hnl:¬Liv ρ (h.set b .dead) rb.r:=by
  rintro⟨c,q,ec,hd,hr⟩
  by_cases e:c=b
  ·subst e;exact hd (by unfold z1o;rw[Hp.get_set,if_pos rfl])
  ·have hd2:¬z1o h c:=by unfold z1o at *;rw[Hp.get_set,if_neg e]at hd;exact hd
   exact k.inj b c rb q hb ec hown hd2 (fun x=>e x.symm) hr.symm
 have hlt:∀c q,ρ c=some q→¬z1o (h.set b .dead) c→q.r<w.heap.size:=fun c q e hd=>by
  have hx:=k1.blk c q e;revert hx hd;unfold z1o;generalize (h.set b .dead).get c=y;intro hd hx;cases y with
  | cells cs ro=>obtain⟨c,el,fz,h1,_⟩:=hx;exact(Array.getElem?_eq_some_iff.1 h1).1
  | map es=>obtain⟨res,ck,h1,_⟩:=hx;exact(Array.getElem?_eq_some_iff.1 h1).1
  | dead=>exact absurd rfl hd
 refine⟨k1.newH ⟨rb.r,o,e⟩ x hnl (fun i _ hne=>hH i hne) (hbr _ (k.put_ext _)) hlt,k.put_ext _,ho,ht,hout,by omega,zwj _ _ _ _ (by simp),?_,?_,?_⟩
 ·intro r hr hf;exact hH r fun e=>hf ⟨b,rb,hb,hown,e.symm⟩
 ·intro r f;rcases zpa (h:=h.set b .dead) k1.dom f with f | f
  ·exact .inl (zpb f)
  ·exact .inl ⟨b,rb,hb,hown,f.symm⟩
 ·intro r f;rcases zsc (h:=h.set b .dead) f with f | f
  ·exact .inl (zsd f)
  ·exact .inl ⟨b,rb,hb,hown.live,f.symm⟩
theorem z5i.lt{ρ:Rho}{rb:RB}{x:Blk}{H:Array Obj}(h:z5i ρ rb x H)(hx:x≠.dead):rb.r<H.size:=by
 cases x with
 | cells cs ro=>obtain⟨c,el,fz,h1,_⟩:=h;exact(Array.getElem?_eq_some_iff.1 h1).1
 | map es=>obtain⟨res,ck,h1,_⟩:=h;exact(Array.getElem?_eq_some_iff.1 h1).1
 | dead=>exact absurd rfl hx
theorem HRel.lt{ρ:Rho}{h:Hp}{H:Array Obj}(k:HRel ρ h H){b:Nat}{rb:RB}(e:ρ b=some rb)(hd:¬z1o h b):rb.r<H.size:=(k.blk b rb e).lt hd
theorem HRel.alloc{ρ:Rho}{h:Hp}{w:World}(k:HRel ρ h w.heap)(x:Blk)(hx:x≠.dead)(e:Nat)(o:Obj)(w':World)(hw:w'.heap=w.heap.push o)
  (ho:w'.os=w.os) (ht:w'.tape=w.tape) (hout:w'.output=w.output) (hb:∀ρ',Ext ρ ρ'→z5i ρ' ⟨w.heap.size,0,e⟩ x w'.heap) :
  HRel (ρ.put h.size ⟨w.heap.size,0,e⟩) (h.push x) w'.heap∧HStp ρ h w (ρ.put h.size ⟨w.heap.size,0,e⟩) (h.push x) w':=by
 refine k.new _ x ?_ (by rw[hw];simp) ?_ ho ht hout (hb _ (k.put_ext _)) (fun b q e hd=>k.lt e hd) (Nat.le_refl _)
 ·rintro⟨b,q,e,hd,hr⟩
  have:=k.lt e hd
  simp at hr;omega
 ·intro i hi _;rw[hw,Array.getElem?_push,if_neg (by omega)]
theorem HRel.write{ρ:Rho}{h:Hp}{w w':World}(k:HRel ρ h w.heap){b:Nat}{rb:RB}(x:Blk)(hb:ρ b=some rb)(hown:Own h b)(hx:x≠.dead)
  (hro:∀cs,x≠.cells cs true)
  (hsz:w'.heap.size=w.heap.size) (hH:∀i,i≠rb.r→w'.heap[i]? = w.heap[i]?) (ho:w'.os=w.os) (ht:w'.tape=w.tape) (hout:w'.output=w.output)
  (hbr:z5i ρ rb x w'.heap):HRel ρ (h.set b x) w'.heap∧HStp ρ h w ρ (h.set b x) w':=by
 have hdead:∀c,¬z1o (h.set b x) c→¬z1o h c:=by
  intro c hd;by_cases e:c=b
  ·subst e;exact hown.live
  ·unfold z1o at *;rw[Hp.get_set,if_neg e]at hd;exact hd
 have hOwn:∀c,Own (h.set b x) c→Own h c:=by
  intro c hd;by_cases e:c=b
  ·subst e;exact hown
  ·unfold Own at *;rw[Hp.get_set,if_neg e]at hd;exact hd
 refine⟨⟨fun c q e=>k.dom c q e,fun c hd=>k.live c (hdead c hd),fun c c' q q' e e' hd hd'=>k.inj c c' q q' e e' (hOwn c hd) (hdead c' hd'),?_,k.gl⟩,
  ⟨Ext.refl _,ho,ht,hout,by omega,⟨Nat.le_refl _,fun _ _ e =>.inl e⟩,?_,?_,?_⟩⟩
 ·intro c q e;by_cases ec:c=b
  ·subst ec;rw[hb]at e;cases e;rw[Hp.get_set,if_pos rfl];exact hbr
  ·rw[Hp.get_set,if_neg ec];by_cases hd:z1o h c
   ·unfold z1o at hd;rw[hd];trivial
   ·exact(k.blk c q e).heap (hH _ (fun x=>k.inj b c rb q hb e hown hd (fun y=>ec y.symm) x.symm))
 ·intro r hr hf;exact hH r fun e=>hf ⟨b,rb,hb,hown,e.symm⟩
 ·rintro r ⟨c,q,e,hc,rfl⟩;exact .inl ⟨c,q,e,hOwn c hc,rfl⟩
 ·rintro r ⟨c,q,e,hc,rfl⟩;exact .inl ⟨c,q,e,hdead c hc,rfl⟩
end Go.Mini
