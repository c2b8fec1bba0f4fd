/- The laws' own toolkit: slices that can be read, wherever they lie. -/
import Derived.Test.YtcaaljlhljemoaaGreatMSLM
namespace Go.Mini
def RdC (T:HA) (s:Sl) (e:Nat) (cs:List MV):Prop:=cs.length=s.len * e∧∀h q,T q→Has h q→(s.p=none∧s.len=0) ∨
 ∃a r ro,s.p=some a∧h.get a.blk=.cells r ro∧a.off+s.len * e≤r.length∧(r.drop a.off).take (s.len * e)=cs
def subS (e:Nat) (s:Sl) (lo hi:Nat):Sl:=⟨s.p.map (·.add (lo * e)),hi - lo⟩
section
variable {T A B:HA} {s:Sl} {e:Nat} {cs:List MV} {l:List HA}
theorem RdC.star_l (h:RdC A s e cs):RdC (star A B) s e cs:=
 ⟨h.1,fun hp q ⟨q1,q2,h1,_,d,eq⟩ hh=>h.2 hp q1 h1 ((z3j d).1 (eq ▸ hh)).1⟩
theorem RdC.star_r (h:RdC B s e cs):RdC (star A B) s e cs:=
 ⟨h.1,fun hp q ⟨q1,q2,_,h2,d,eq⟩ hh=>h.2 hp q2 h2 ((z3j d).1 (eq ▸ hh)).2⟩
theorem RdC.at (n:Nat) {T:HA} (hl:l[n]? = some T) (h:RdC T s e cs):RdC (stars l) s e cs:=by
 rw [z1y n l hl]
 exact h.star_l
theorem RdC.pre (h:RdC A s e cs) (k:∀q,B q→A q):RdC B s e cs:=⟨h.1,fun hp q hq hh=>h.2 hp q (k q hq) hh⟩
theorem zv9 {b o k:Nat} {r:List MV} {ro:Bool} (hk:cs.length=k * e) (hc:(r.drop o).take (k * e)=cs) (hle:o+k * e≤r.length):RdC (pts b (.cells r ro)) ⟨some ⟨b,o⟩,k⟩ e cs:=
 ⟨hk,fun h q hq hh =>.inr ⟨⟨b,o⟩,r,ro,rfl,(z4j hq hh).2,hle,hc⟩⟩
theorem z18 {b k:Nat} {ro:Bool} (hk:cs.length=k * e):RdC (pts b (.cells cs ro)) ⟨some ⟨b,0⟩,k⟩ e cs:=
 zv9 hk (by rw [List.drop_zero];exact List.take_of_length_le (by omega)) (by omega)
theorem zva:RdC T ⟨none,0⟩ e []:=⟨by simp,fun _ _ _ _ =>.inl ⟨rfl,rfl⟩⟩
theorem z0e (hl:cs.length=s.len * e):RdC (OwnA s e cs) s e cs:=by
 refine ⟨hl,fun h q hq hh=>?_⟩
 rcases hq with ⟨h1,h2,_⟩ | ⟨b,h1,h2,h3⟩
 ·subst h1;exact .inl ⟨rfl,rfl⟩
 ·exact .inr ⟨_,cs,false,h1,(z4j h3 hh).2,by dsimp only;omega,by rw [List.drop_zero];exact List.take_of_length_le (by omega)⟩
theorem RdC.sub (h:RdC T s e cs) {lo hi:Nat} (h1:lo≤hi) (h2:hi≤s.len):RdC T (subS e s lo hi) e ((cs.drop (lo * e)).take ((hi - lo) * e)):=by
 have m1:=Nat.mul_le_mul_right e h1
 have m2:=Nat.mul_le_mul_right e h2
 have m3:(hi - lo) * e=hi * e - lo * e:=Nat.sub_mul hi lo e
 refine ⟨?_,fun hp q hq hh=>?_⟩
 ·rw [List.length_take,List.length_drop,h.1]
  show _=(hi - lo) * e
  omega
 ·rcases h.2 hp q hq hh with ⟨h3,h4⟩ | ⟨a,r,ro,h3,h4,h5,h6⟩
  ·left
   unfold subS
   rw [h3]
   exact ⟨rfl,by dsimp only;omega⟩
  ·right
   refine ⟨a.add (lo * e),r,ro,by unfold subS;rw [h3];rfl,h4,?_,?_⟩
   ·show a.off+lo * e+(hi - lo) * e≤r.length
    omega
   ·rw [←h6]
    show (r.drop (a.off+lo * e)).take ((hi - lo) * e)=_
    rw [List.drop_take,List.take_take,List.drop_drop]
    congr 1
    omega
theorem RdC.cells (h:RdC T s e cs) {hp:Hp} {q:PH} (hq:T q) (hh:Has hp q):cellsOf e s hp=some (cs,hp):=by
 rcases h.2 hp q hq hh with ⟨h3,h4⟩ | ⟨a,r,ro,h3,h4,h5,h6⟩
 ·have:=h.1
  rw [h4,Nat.zero_mul] at this
  unfold cellsOf
  rw [h3]
  dsimp only
  rw [if_pos h4,List.length_eq_zero_iff.1 this]
  rfl
 ·unfold cellsOf
  rw [h3]
  show ldn (s.len * e) (some a) hp=_
  unfold ldn
  dsimp only
  rw [h4]
  dsimp only
  rw [if_pos h5,h6]
theorem RdC.elem (h:RdC T s e cs) {hp:Hp} {q:PH} (hq:T q) (hh:Has hp q) {i:Nat} (hi:i<s.len):∃a r ro,idx e s (i:Int) hp=some (some a,hp)∧hp.get a.blk=.cells r ro∧a.off+e≤r.length∧(r.drop a.off).take e=(cs.drop (i * e)).take e:=by
 rcases h.2 hp q hq hh with ⟨h3,h4⟩ | ⟨a,r,ro,h3,h4,h5,h6⟩
 ·omega
 ·have m:i * e+e≤s.len * e:=z1p hi
  refine ⟨a.add (i * e),r,ro,?_,h4,?_,?_⟩
  ·unfold idx
   rw [h3]
   dsimp only
   rw [if_pos (by omega)]
   rfl
  ·show a.off+i * e+e≤r.length
   omega
  ·rw [←h6]
   show (r.drop (a.off+i * e)).take e=_
   rw [List.drop_take,List.take_take,List.drop_drop]
   congr 1
   omega
theorem z9a {r cs:List MV} {o e i j:Nat} (h:(r.drop o).take e=(cs.drop (i * e)).take e) (hj:j<e):r[o+j]? = cs[i * e+j]? :=by
 have:=congrArg (·[j]?) h
 simpa [List.getElem?_take,hj,List.getElem?_drop] using this
end
section
variable {β:Type} {l:List HA} {S:β→HA} {T:HA} {s:Sl} {e:Nat} {cs:List MV}
theorem z3n {α:Type} (n:Nat) (hl:l[n]? = some T) {m:M α} {a:α} (hm:∀h q,T q→Has h q→m h=some (a,h)) {f:α→M β} (kk:Tri (stars l) (f a) S):Tri (stars l) (bd m f) S:=by
 rintro h q hq hh
 have hq2:=hq
 rw [z1y n l hl] at hq2
 obtain ⟨q1,q2,h1,h2,d,rfl⟩:=hq2
 have h3:=(z3j d).1 hh
 obtain ⟨b,h',q',k1,k2⟩:=kk h _ hq hh
 exact ⟨b,h',q',by simp only [bd,hm h q1 h1 h3.1];exact k1,k2⟩
theorem bd_bd {α γ δ:Type} (m:M α) (f:α→M γ) (g:γ→M δ):bd (bd m f) g=bd m fun a=>bd (f a) g:=by
 funext h
 simp only [bd]
 cases m h<;>rfl
theorem z1t (n:Nat) (hl:l[n]? = some T) (hr:RdC T s 1 cs) {k:IntKind} {i:Nat} {v:Int} (hv:cs[i]? = some (.int k v)) {f:Int→M β} (kk:Tri (stars l) (f v) S):Tri (stars l) (bd (idx 1 s (i:Int)) fun q=>bd (ldI k q) f) S:=by
 have hi:i<s.len:=by have:=(List.getElem?_eq_some_iff.1 hv).1;rw [hr.1] at this;omega
 rw [←bd_bd]
 refine z3n n hl (fun h q hq hh=>?_) kk
 obtain ⟨a,r,ro,h1,h2,h3,h4⟩:=hr.elem hq hh hi
 have h5:=z9a h4 (j:=0) (by omega)
 simp only [bd,h1]
 exact zad h2 (by simpa using h5.trans (by simpa using hv))
theorem zdx (n:Nat) (hl:l[n]? = some T) (hr:RdC T s 1 cs) {i e ln:Nat} {p:Option MA} (hv:cs[i]? = some (.sl p ln e)) {f:Sl→M β} (kk:Tri (stars l) (f ⟨p,ln⟩) S):Tri (stars l) (bd (idx 1 s (i:Int)) fun q=>bd (ldL e q) f) S:=by
 have hi:i<s.len:=by have:=(List.getElem?_eq_some_iff.1 hv).1;rw [hr.1] at this;omega
 rw [←bd_bd]
 refine z3n n hl (fun h q hq hh=>?_) kk
 obtain ⟨a,r,ro,h1,h2,h3,h4⟩:=hr.elem hq hh hi
 have h5:=z9a h4 (j:=0) (by omega)
 simp only [bd,h1]
 exact zae h2 (by simpa using h5.trans (by simpa using hv))
theorem zpa (n:Nat) (hl:l[n]? = some T) (hr:RdC T s e cs) {i:Nat} (hi:i<s.len) {f:List MV→M β} (kk:Tri (stars l) (f ((cs.drop (i * e)).take e)) S):Tri (stars l) (bd (idx e s (i:Int)) fun q=>bd (ldn e q) f) S:=by
 rw [←bd_bd]
 refine z3n n hl (fun h q hq hh=>?_) kk
 obtain ⟨a,r,ro,h1,h2,h3,h4⟩:=hr.elem hq hh hi
 simp only [bd,h1]
 rw [←h4]
 exact z79 h2 h3
theorem zl0 (n:Nat) (hl:l[n]? = some T) {ts:List CTy} (hr:RdC T s ts.length cs) {i:Nat} (hi:i<s.len) {x:HC ts} (hx:HC.dec ts ((cs.drop (i * ts.length)).take ts.length)=some x) {f:HC ts→M β} (kk:Tri (stars l) (f x) S):Tri (stars l) (bd (idx ts.length s (i:Int)) fun q=>bd (ldSt ts q) f) S:=by
 rw [←bd_bd]
 refine z3n n hl (fun h q hq hh=>?_) kk
 obtain ⟨a,r,ro,h1,h2,h3,h4⟩:=hr.elem hq hh hi
 simp only [bd,h1,ldSt]
 have:ldn ts.length (some a) h=some ((r.drop a.off).take ts.length,h):=z79 h2 h3
 rw [this,h4]
 simp only [hx]
 rfl
theorem z13 (n:Nat) (hl:l[n]? = some T) (hr:RdC T s e cs) {k:IntKind} {i o:Nat} (hi:i<s.len) (ho:o<e) {v:Int} (hv:cs[i * e+o]? = some (.int k v)) {f:Int→M β} (kk:Tri (stars l) (f v) S):Tri (stars l) (bd (idx e s (i:Int)) fun q=>bd (fld q o) fun q=>bd (ldI k q) f) S:=by
 have e1:(bd (idx e s (i:Int)) fun q=>bd (fld q o) fun q=>bd (ldI k q) f)=bd (bd (idx e s (i:Int)) fun q=>bd (fld q o) fun q=>ldI k q) f:=by
  rw [bd_bd]
  congr 1
  funext q
  rw [bd_bd]
 rw [e1]
 refine z3n n hl (fun h q hq hh=>?_) kk
 obtain ⟨a,r,ro,h1,h2,h3,h4⟩:=hr.elem hq hh hi
 have h5:=z9a h4 ho
 simp only [bd,h1,fld,ret]
 exact zad h2 (h5.trans hv)
theorem ztu {lo hi:Nat} (h1:lo≤hi) (h2:hi≤s.len):slc e s (lo:Int) (hi:Int)=ret (subS e s lo hi):=by
 unfold slc
 rw [if_pos (by omega)]
 unfold subS
 congr 2
 omega
theorem z2p {A:HA} {lo hi:Int} (h0:0≤lo) (h1:lo≤hi) (h2:hi≤s.len) {f:Sl→M β} (kk:Tri A (f (subS e s lo.toNat hi.toNat)) S):Tri A (bd (slc e s lo hi) f) S:=by
 obtain ⟨a,rfl⟩:∃a:Nat,lo=a:=⟨lo.toNat,by omega⟩
 obtain ⟨b,rfl⟩:∃b:Nat,hi=b:=⟨hi.toNat,by omega⟩
 rw [ztu (by omega) (by omega)]
 exact kk
theorem tri_rStr (n:Nat) (hl:l[n]? = some T) {bs:List UInt8} (hr:RdC T s 1 (bytesOf bs)) {f:List UInt8→M β} (kk:Tri (stars l) (f bs) S):Tri (stars l) (bd (toStr s) f) S:=by
 refine z3n n hl (fun h q hq hh=>?_) kk
 unfold toStr
 simp only [bd,hr.cells hq hh,zbi]
 rfl
theorem z1u {s t:Sl} {e by':Nat} {cs ts:List MV} (hr:RdC T t e ts) (he:0<e) (hall:ts.all isCell=true) (hbig:(s.len+t.len) * by'≤most):Tri (stars [OwnA s e cs,T]) (app e by' s t) fun r=>stars [OwnA r e (cs++ts),T]:=
 zkw (fun _ _ a b=>hr.cells a b) hr.1 he hall hbig
theorem z5z {s:Sl} {e by':Nat} {cs:List MV} (hr:RdC T s e cs) (he:0<e) (hall:cs.all isCell=true) (hbig:s.len * by'≤most):Tri (stars [T]) (cloneM e by' s) fun r=>stars [OwnA r e cs,T]:=by
 unfold cloneM
 by_cases hp:s.p=none
 ·rw [hp]
  refine z08 rfl ?_
  intro h q hq hh
  have hq':=hq
  rw [z0k] at hq'
  have hc:cs=[]:=by
   rcases hr.2 h q hq' hh with ⟨_,h4⟩ | ⟨a,r,ro,h3,_⟩
   ·have:=hr.1
    rw [h4,Nat.zero_mul] at this
    exact List.length_eq_zero_iff.1 this
   ·rw [hp] at h3;cases h3
  subst hc
  refine ⟨_,h,q,rfl,?_,hh,Nat.le_refl _,fun _ _ _=>rfl,fun _ hb =>.inl hb⟩
  exact z1w (fun _ h =>.nil e h) hq
 ·obtain ⟨a,ha⟩:=Option.ne_none_iff_exists'.1 hp
  rw [ha]
  refine z04 (by simp) ?_
  refine z0m fun b'=>?_
  refine z3u 0 (B:=OwnA ⟨some ⟨b',0⟩,0⟩ e []) rfl (fun q hq =>.mk (by simp) hq) ?_
  refine z01 [0,0] (z1u hr he hall (by simpa using hbig)) fun r=>?_
  exact z00 (z02 [0,0] fun q hq=>hq)
theorem z0a (n:Nat) {s:Sl} {e:Nat} {cs:List MV} {m:M β} (hl:l[n]? = some (OwnA s e cs)) (k:cs.length=s.len * e→Tri (stars l) m S):Tri (stars l) m S:=z4b n hl (fun _ h=>h.len) k
theorem zrq {cs:List MV} {o:Nat} {vs:List MV} (h:o+vs.length≤cs.length):(over cs o vs).length=cs.length:=by
 unfold over
 simp
 omega
theorem z8c {b o k:Nat} {ds ts:List MV} {t:Sl} (hr:RdC T t e ts) (hd:o+k * e≤ds.length) (hall:ts.all isCell=true) (he:0<e) :
  Tri (stars [pts b (.cells ds false),T]) (copy e ⟨some ⟨b,o⟩,k⟩ t) fun n=>pu (n=(min t.len k:Nat)) (stars [pts b (.cells (over ds o (ts.take (min t.len k * e))) false),T]):=by
 unfold copy
 by_cases h0:min t.len k * e=0
 ·rw [if_pos h0]
  refine z02 [0,0] fun q hq=>⟨rfl,?_⟩
  rw [h0,List.take_zero]
  have:over ds o []=ds:=by simp [over]
  rw [this]
  exact hq
 ·rw [if_neg h0]
  have hml:min t.len k≤t.len:=Nat.min_le_left _ _
  have hmr:min t.len k * e≤k * e:=Nat.mul_le_mul_right e (Nat.min_le_right _ _)
  have hms:min t.len k * e≤t.len * e:=Nat.mul_le_mul_right e hml
  have hpos:0<min t.len k:=by
   rcases Nat.eq_zero_or_pos (min t.len k) with z | z
   ·rw [z] at h0;simp at h0
   ·exact z
  have hs:=hr.sub (lo:=0) (hi:=min t.len k) (Nat.zero_le _) hml
  have e1:subS e t 0 (min t.len k)=⟨t.p,min t.len k⟩:=by
   unfold subS
   cases hp:t.p with
   | none=>rfl
   | some a=>simp [MA.add]
  rw [e1] at hs
  simp only [Nat.zero_mul,List.drop_zero,Nat.sub_zero] at hs
  refine z3n 1 rfl (fun h q hq hh=>hs.cells hq hh) ?_
  have hl:(ts.take (min t.len k * e)).length=min t.len k * e:=by
   rw [List.length_take,hr.1]
   omega
  refine z2z 0 rfl rfl (by omega) ?_ ?_
  ·rw [List.all_eq_true]
   exact fun x hx=>List.all_eq_true.1 hall x (List.mem_of_mem_take hx)
  ·exact z02 [0,0] fun q hq=>⟨rfl,hq⟩
end
def catL {α:Type} (c:α→List MV) (l:List α):List MV:=(l.map c).flatten
section
variable {α:Type} {c:α→List MV} {e:Nat}
theorem zaj (h:∀x,(c x).length=e) (l:List α):∀r∈l.map c,r.length=e:=by
 intro r hr
 obtain ⟨x,_,rfl⟩:=List.mem_map.1 hr
 exact h x
theorem z0i (h:∀x,(c x).length=e) (l:List α):(catL c l).length=l.length * e:=by
 rw [catL,z93 (zaj h l),List.length_map]
theorem z71 (h:∀x,(c x).length=e) {l:List α} {i:Nat} (hi:i<l.length):((catL c l).drop (i * e)).take e=c l[i]:=by
 rw [catL,zcb (zaj h l) i (by simpa using hi)]
 simp
theorem z1q (h:∀x,(c x).length=e) {l:List α} {i o:Nat} (hi:i<l.length) (ho:o<e):(catL c l)[i * e+o]? = (c l[i])[o]? :=by
 rw [←z71 h hi,List.getElem?_take,if_pos ho,List.getElem?_drop]
theorem z9b (h:∀x,(c x).length=e) {l:List α} {i:Nat} (hi:i<l.length) (x:α):over (catL c l) (i * e) (c x)=catL c (l.set i x):=by
 rw [catL,zaf (h x) (zaj h l) i (by simpa using hi),catL,List.map_set]
theorem z4d (a b:List α):catL c (a++b)=catL c a++catL c b:=by simp [catL]
theorem z9c (a:α):catL c [a]=c a:=by simp [catL]
theorem zak {l:List α} {i:Nat} (hi:i<l.length):catL c (l.take i)++c l[i]=catL c (l.take (i+1)):=by
 rw [List.take_succ_eq_append_getElem hi,z4d,z9c]
theorem z5a (h:∀x,(c x).all isCell=true) (l:List α):(catL c l).all isCell=true:=zrk fun r hr=>by
 obtain ⟨x,_,rfl⟩:=List.mem_map.1 hr
 exact h x
theorem zir (h:∀x,(c x).length=e) (n:Nat) (x:α):reps n (c x)=catL c (List.replicate n x):=by
 rw [zkv]
 simp [catL]
end
def fi {α:Type} (p:α→Bool) (l:List α):Int:=match l.findIdx? p with
 | some i=>i
 | none => -1
theorem z8d {α:Type} {p:α→Bool} {l:List α} (h:l.findIdx? p=none):fi p l = -1:=by simp [fi,h]
theorem z8e {α:Type} {p:α→Bool} {l:List α} {i:Nat} (h:l.findIdx? p=some i):fi p l=i:=by simp [fi,h]
theorem z7d {α:Type} {A:HA} {N:Nat} (p:α→Bool) (l:List α) {F:(Int→M (Unit⊕Int))→Int→M (Unit⊕Int)} (hN:l.length<N)
  (hs:∀(rec:Int→M (Unit⊕Int)) (i:Nat) (hi:i<l.length) (Q:Unit⊕Int→HA),Tri A (if p l[i]=true then ret (Sum.inr (i:Int)) else rec ((i+1:Nat):Int)) Q→Tri A (F rec (i:Int)) Q)
  (he:∀(rec:Int→M (Unit⊕Int)) (Q:Unit⊕Int→HA),Tri A (ret (Sum.inl ())) Q→Tri A (F rec (l.length:Int)) Q) :
  Tri A (bd (iter N F (0:Int)) fun j=>(match j with | Sum.inl _=>ret (-1:Int) | Sum.inr i=>ret i)) fun r=>pu (r=fi p l) A:=by
 have loop:∀(K j:Nat),l.length - j<K→j≤l.length→(∀i (hi:i<l.length),i<j→p l[i]=false)→Tri A (iter K F (j:Int)) fun r=>pu (r=match l.findIdx? p with | some i =>.inr (i:Int) | none =>.inl ()) A:=by
  intro K
  induction K with
  | zero=>intro j h;omega
  | succ K ih=>
   intro j h hj hb
   rw [z0q]
   by_cases hjl:j<l.length
   ·refine hs _ j hjl _ ?_
    by_cases hp:p l[j]=true
    ·rw [if_pos hp]
     refine z0y fun q hq=>⟨?_,hq⟩
     have:l.findIdx? p=some j:=by
      rw [List.findIdx?_eq_some_iff_getElem]
      exact ⟨hjl,hp,fun i hi=>by simpa using hb i (by omega) hi⟩
     rw [this]
    ·rw [if_neg hp]
     refine ih (j+1) (by omega) (by omega) fun i hi hij=>?_
     by_cases e:i=j
     ·subst e;simpa using hp
     ·exact hb i hi (by omega)
   ·obtain rfl:j=l.length:=by omega
    refine he _ _ (z0y fun q hq=>⟨?_,hq⟩)
    have:l.findIdx? p=none:=by
     rw [List.findIdx?_eq_none_iff]
     intro x hx
     obtain ⟨i,hi,rfl⟩:=List.mem_iff_getElem.1 hx
     exact hb i hi hi
    rw [this]
 refine (loop N 0 (by omega) (by omega) fun i hi h=>by omega).bd fun r=>zse fun hr=>?_
 subst hr
 cases hx:l.findIdx? p with
 | none=>exact z0y fun q hq=>⟨(z8d hx).symm,hq⟩
 | some i=>exact z0y fun q hq=>⟨(z8e hx).symm,hq⟩
end Go.Mini
