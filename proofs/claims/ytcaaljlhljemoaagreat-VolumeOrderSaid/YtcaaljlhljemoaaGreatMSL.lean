/- The laws' own toolkit: what a piece of work does to the blocks that are its own. Assertions speak of a few blocks; the others stay as they are. -/
import Derived.Test.YtcaaljlhljemoaaGreatMLW
namespace Go.Mini
abbrev PH:=Nat→Option Blk
abbrev HA:=PH→Prop
def Disj (p q:PH):Prop:=∀b,p b=none∨q b=none
def un (p q:PH):PH:=fun b=>match p b with
 | some x=>some x
 | none=>q b
def pts (b:Nat) (x:Blk):HA:=fun q=>∀c,q c=if c=b then some x else none
def emp:HA:=fun q=>∀b,q b=none
def star (A B:HA):HA:=fun q=>∃q1 q2,A q1∧B q2∧Disj q1 q2∧q=un q1 q2
def stars:List HA→HA
 | []=>emp
 | A::l=>star A (stars l)
def exA {α:Type} (f:α→HA):HA:=fun q=>∃x,f x q
def pu (φ:Prop) (A:HA):HA:=fun q=>φ∧A q
def Has (h:Hp) (q:PH):Prop:=∀b x,q b=some x→b<h.size∧h.get b=x
def Tri {α:Type} (A:HA) (m:M α) (Q:α→HA):Prop:=∀h q,A q→Has h q→∃a h' q',m h=some (a,h')∧Q a q'∧Has h' q'∧h.size≤h'.size ∧
 (∀b,b<h.size→q b=none→h'.get b=h.get b)∧∀b,q' b≠none→q b≠none∨h.size≤b
theorem Disj.symm {p q:PH} (d:Disj p q):Disj q p:=fun b=>(d b).symm
theorem zkt {p q:PH} (d:Disj p q):un p q=un q p:=by
 funext b
 unfold un
 rcases d b with h | h
 ·rw [h];cases q b<;>rfl
 ·rw [h];cases p b<;>rfl
theorem zif (p q r:PH):un (un p q) r=un p (un q r):=by
 funext b
 unfold un
 cases p b<;>rfl
theorem z37 {p q:PH} {b:Nat}:un p q b=none↔p b=none∧q b=none:=by
 unfold un
 cases p b<;>simp
theorem zax {p q r:PH}:Disj (un p q) r↔Disj p r∧Disj q r:=by
 constructor
 ·intro d
  refine ⟨fun b=>?_,fun b=>?_⟩
  ·rcases d b with h | h
   ·exact .inl (z37.1 h).1
   ·exact .inr h
  ·rcases d b with h | h
   ·exact .inl (z37.1 h).2
   ·exact .inr h
 ·rintro ⟨d1,d2⟩ b
  rcases d1 b with h | h
  ·rcases d2 b with h2 | h2
   ·exact .inl (z37.2 ⟨h,h2⟩)
   ·exact .inr h2
  ·exact .inr h
theorem star_comm (A B:HA):star A B=star B A:=by
 funext q
 apply propext
 constructor
 ·rintro ⟨p,r,a,b,d,rfl⟩
  exact ⟨r,p,b,a,d.symm,zkt d⟩
 ·rintro ⟨p,r,a,b,d,rfl⟩
  exact ⟨r,p,b,a,d.symm,zkt d⟩
theorem z2d (A B C:HA):star (star A B) C=star A (star B C):=by
 funext q
 apply propext
 constructor
 ·rintro ⟨p,r,⟨p1,p2,a,b,d,rfl⟩,c,d2,rfl⟩
  obtain ⟨d3,d4⟩:=zax.1 d2
  exact ⟨p1,un p2 r,a,⟨p2,r,b,c,d4,rfl⟩,(zax.2 ⟨d.symm,d3.symm⟩).symm,zif _ _ _⟩
 ·rintro ⟨p1,r,a,⟨p2,r2,b,c,d,rfl⟩,d2,rfl⟩
  obtain ⟨d3,d4⟩:=zax.1 d2.symm
  exact ⟨un p1 p2,r2,⟨p1,p2,a,b,d3.symm,rfl⟩,c,zax.2 ⟨d4.symm,d⟩,(zif _ _ _).symm⟩
theorem z7l (A B C:HA):star A (star B C)=star B (star A C):=by rw [←z2d,star_comm A B,z2d]
theorem z2a (A:HA):star A emp=A:=by
 funext q
 apply propext
 constructor
 ·rintro ⟨p,r,a,b,d,rfl⟩
  have:un p r=p:=by
   funext c
   unfold un
   rw [b c]
   cases p c<;>rfl
  rwa [this]
 ·intro a
  refine ⟨q,fun _=>none,a,fun _=>rfl,fun _ =>.inr rfl,?_⟩
  funext c
  unfold un
  cases q c<;>rfl
theorem z0k (A:HA):stars [A]=A:=z2a A
theorem stars_append:∀(l k:List HA),stars (l++k)=star (stars l) (stars k)
 | [],k=>by
  show stars k=star emp (stars k)
  rw [star_comm,z2a]
 | A::l,k=>by
  show star A (stars (l++k))=star (star A (stars l)) (stars k)
  rw [stars_append l k,z2d]
theorem z1y:∀(n:Nat) (l:List HA) {A:HA},l[n]? = some A→stars l=star A (stars (l.eraseIdx n))
 | _,[],_,h=>by cases h
 | 0,B::l,A,h=>by cases h;rfl
 | n+1,B::l,A,h=>by
  show star B (stars l)=star A (star B (stars (l.eraseIdx n)))
  rw [z1y n l h,z7l]
def nth:List HA→Nat→HA
 | [],_=>emp
 | A::_,0=>A
 | _::l,n+1=>nth l n
def del:List HA→Nat→List HA
 | [],_=>[]
 | _::l,0=>l
 | A::l,n+1=>A::del l n
def cat:List HA→List HA→List HA
 | [],k=>k
 | A::l,k=>A::cat l k
def upd:List HA→Nat→HA→List HA
 | [],_,_=>[]
 | _::l,0,B=>B::l
 | A::l,n+1,B=>A::upd l n B
theorem zab:∀(l k:List HA),cat l k=l++k
 | [],_=>rfl
 | A::l,k=>congrArg (A :: ·) (zab l k)
theorem z87:∀(l:List HA) (n:Nat) (B:HA),upd l n B=l.set n B
 | [],_,_=>rfl
 | _::_,0,_=>rfl
 | A::l,n+1,B=>congrArg (A :: ·) (z87 l n B)
theorem zig:∀(l:List HA) (n:Nat),del l n=l.eraseIdx n
 | [],_=>rfl
 | _::_,0=>rfl
 | A::l,n+1=>congrArg (A :: ·) (zig l n)
def sel:List Nat→List HA→List HA
 | [],_=>[]
 | n::r,l=>nth l n::sel r (del l n)
def rem:List Nat→List HA→List HA
 | [],l=>l
 | n::r,l=>rem r (del l n)
theorem zfp:∀(n:Nat) (l:List HA),stars l=star (nth l n) (stars (del l n))
 | n,[]=>by
  show emp=star emp emp
  rw [z2a]
 | 0,A::l=>rfl
 | n+1,A::l=>by
  show star A (stars l)=star (nth l n) (star A (stars (del l n)))
  rw [zfp n l,z7l]
theorem z3o:∀(is:List Nat) (l:List HA),stars l=star (stars (sel is l)) (stars (rem is l))
 | [],l=>by
  show stars l=star emp (stars l)
  rw [star_comm,z2a]
 | n::r,l=>by
  show stars l=star (star (nth l n) (stars (sel r (del l n)))) (stars (rem r (del l n)))
  rw [zfp n l,z3o r (del l n),z2d]
section
variable {α β:Type} {A B:HA} {l:List HA} {m:M α} {f:α→M β} {Q:α→HA} {S:β→HA}
theorem z3j {h:Hp} {p q:PH} (d:Disj p q):Has h (un p q)↔Has h p∧Has h q:=by
 constructor
 ·intro k
  refine ⟨fun b x e=>k b x (by unfold un;rw [e]),fun b x e=>k b x ?_⟩
  unfold un
  rcases d b with c | c
  ·rw [c];exact e
  ·rw [c] at e;cases e
 ·rintro ⟨k1,k2⟩ b x e
  unfold un at e
  cases hp:p b with
  | some y=>rw [hp] at e;cases e;exact k1 b _ hp
  | none=>rw [hp] at e;exact k2 b x e
theorem Tri.frame (t:Tri A m Q) (R:HA):Tri (star A R) m fun a=>star (Q a) R:=by
 rintro h q ⟨p,r,ha,hr,d,rfl⟩ hh
 obtain ⟨hp,hrr⟩:=(z3j d).1 hh
 obtain ⟨a,h',p',e,hq,hp',hs,hk,hn⟩:=t h p ha hp
 have hlt:∀b,r b≠none→b<h.size∧p b=none:=fun b hb=>by
  obtain ⟨x,hx⟩:=Option.ne_none_iff_exists'.1 hb
  refine ⟨(hrr b x hx).1,?_⟩
  rcases d b with c | c
  ·exact c
  ·rw [c] at hx;cases hx
 have d':Disj p' r:=fun b=>by
  by_cases hb:r b=none
  ·exact .inr hb
  ·obtain ⟨h1,h2⟩:=hlt b hb
   refine .inl (Classical.byContradiction fun hc=>?_)
   rcases hn b hc with k | k
   ·exact k h2
   ·omega
 refine ⟨a,h',un p' r,e,⟨p',r,hq,hr,d',rfl⟩,(z3j d').2 ⟨hp',fun b x hx=>?_⟩,hs,fun b hb hbn=>hk b hb (z37.1 hbn).1,fun b hb=>?_⟩
 ·obtain ⟨h1,h2⟩:=hlt b (by rw [hx];simp)
  obtain ⟨h3,h4⟩:=hrr b x hx
  exact ⟨Nat.lt_of_lt_of_le h3 hs,(hk b h3 h2).trans h4⟩
 ·by_cases hb2:p' b=none
  ·refine .inl fun c=>hb (z37.2 ⟨hb2,(z37.1 c).2⟩)
  ·rcases hn b hb2 with k | k
   ·exact .inl fun c=>k (z37.1 c).1
   ·exact .inr k
theorem Tri.bd (t:Tri A m Q) (k:∀a,Tri (Q a) (f a) S):Tri A (bd m f) S:=by
 intro h q ha hh
 obtain ⟨a,h1,q1,e1,hq1,hh1,hs1,hk1,hn1⟩:=t h q ha hh
 obtain ⟨b,h2,q2,e2,hq2,hh2,hs2,hk2,hn2⟩:=k a h1 q1 hq1 hh1
 refine ⟨b,h2,q2,by simp only [Mini.bd,e1];exact e2,hq2,hh2,Nat.le_trans hs1 hs2,fun c hc hn=>?_,fun c hc=>?_⟩
 ·have:q1 c=none:=Classical.byContradiction fun hx=>by
   rcases hn1 c hx with y | y
   ·exact y hn
   ·omega
  rw [hk2 c (Nat.lt_of_lt_of_le hc hs1) this,hk1 c hc hn]
 ·rcases hn2 c hc with y | y
  ·exact hn1 c y
  ·exact .inr (Nat.le_trans hs1 y)
theorem Tri.pre (t:Tri B m Q) (k:∀q,A q→B q):Tri A m Q:=fun h q ha hh=>t h q (k q ha) hh
theorem Tri.post {Q':α→HA} (t:Tri A m Q) (k:∀a q,Q a q→Q' a q):Tri A m Q':=by
 intro h q ha hh
 obtain ⟨a,h',q',e,hq,r⟩:=t h q ha hh
 exact ⟨a,h',q',e,k a q' hq,r⟩
theorem zri (R:HA) (t:Tri A m fun a=>star (Q a) R):Tri A m Q:=by
 intro h q ha hh
 obtain ⟨a,h',q',e,⟨p,r,h1,h2,d,rfl⟩,h3,h4,h5,h6⟩:=t h q ha hh
 exact ⟨a,h',p,e,h1,((z3j d).1 h3).1,h4,h5,fun b hb=>h6 b fun c=>hb (z37.1 c).1⟩
theorem zih (t:Tri A m Q) (R:HA):Tri (star A R) m Q:=zri R (t.frame R)
theorem z0y {a:α} (k:∀q,A q→Q a q):Tri A (ret a) Q:=fun h q ha hh=>⟨a,h,q,rfl,k q ha,hh,Nat.le_refl _,fun _ _ _=>rfl,fun _ hb =>.inl hb⟩
theorem z02 (is:List Nat) {a:α} (k:∀q,stars (sel is l) q→Q a q):Tri (stars l) (ret a) Q:=by
 rw [z3o is l]
 exact zih (z0y k) _
theorem z01 (is:List Nat) (t:Tri (stars (sel is l)) m Q) (k:∀a,Tri (stars (Q a::rem is l)) (f a) S):Tri (stars l) (bd m f) S:=by
 rw [z3o is l]
 exact (t.frame _).bd k
theorem z16 (is:List Nat) (t:Tri (stars (sel is l)) m Q):Tri (stars l) m Q:=by
 rw [z3o is l]
 exact zih t _
theorem z0j {a:α} (k:Tri A (f a) S):Tri A (bd (ret a) f) S:=k
theorem zdp {a:α} (e:∀h,m h=some (a,h)) (k:Tri A (f a) S):Tri A (bd m f) S:=by
 intro h q ha hh
 obtain ⟨b,h',q',e2,r⟩:=k h q ha hh
 exact ⟨b,h',q',by simp only [bd,e];exact e2,r⟩
theorem z08 {c:Prop} [Decidable c] {m n:M β} (h:c) (k:Tri A m S):Tri A (if c then m else n) S:=by rw [if_pos h];exact k
theorem z04 {c:Prop} [Decidable c] {m n:M β} (h:¬c) (k:Tri A n S):Tri A (if c then m else n) S:=by rw [if_neg h];exact k
theorem z10 {γ:Type} {g:γ→HA} {m:M β} (k:∀x,Tri (stars (g x::l)) m S):Tri (stars (exA g::l)) m S:=by
 rintro h q ⟨q1,q2,⟨x,hx⟩,h2,d,rfl⟩ hh
 exact k x h _ ⟨q1,q2,hx,h2,d,rfl⟩ hh
theorem z03 {φ:Prop} {m:M β} (k:φ→Tri (stars (A::l)) m S):Tri (stars (pu φ A::l)) m S:=by
 rintro h q ⟨q1,q2,⟨hx,h1⟩,h2,d,rfl⟩ hh
 exact k hx h _ ⟨q1,q2,h1,h2,d,rfl⟩ hh
theorem zse {φ:Prop} {m:M β} (k:φ→Tri A m S):Tri (pu φ A) m S:=fun h q ha hh=>k ha.1 h q ha.2 hh
theorem z00 {l1:List HA} {m:M β} (k:Tri (stars (cat l1 l)) m S):Tri (stars (stars l1::l)) m S:=by
 rw [zab,stars_append] at k
 exact k
theorem z4j {h:Hp} {q:PH} {b:Nat} {x:Blk} (k:pts b x q) (hh:Has h q):b<h.size∧h.get b=x:=hh b x (by rw [k b,if_pos rfl])
theorem zos {b:Nat} {x:Blk} {a:α} (e:∀h,h.get b=x→m h=some (a,h)):Tri (pts b x) m fun r=>pu (r=a) (pts b x):=
 fun h q ha hh=>⟨a,h,q,e h (z4j ha hh).2,⟨rfl,ha⟩,hh,Nat.le_refl _,fun _ _ _=>rfl,fun _ hb =>.inl hb⟩
theorem z1z (n:Nat) {b:Nat} {x:Blk} {a:α} (hl:l[n]? = some (pts b x)) (e:∀h,h.get b=x→m h=some (a,h)) (k:Tri (stars l) (f a) S):Tri (stars l) (bd m f) S:=by
 rw [z1y n l hl] at k ⊢
 refine ((zos e).frame _).bd fun r=>?_
 rintro h q ⟨q1,q2,⟨rfl,h1⟩,h2,d,rfl⟩ hh
 exact k h _ ⟨q1,q2,h1,h2,d,rfl⟩ hh
theorem zm3 {b:Nat} {x y:Blk} {a:α} (e:∀h,b<h.size→h.get b=x→m h=some (a,h.set b y)):Tri (pts b x) m fun r=>pu (r=a) (pts b y):=by
 intro h q ha hh
 obtain ⟨h1,h2⟩:=z4j ha hh
 refine ⟨a,h.set b y,fun c=>if c=b then some y else none,e h h1 h2,⟨rfl,fun _=>rfl⟩,?_,Nat.le_refl _,?_,?_⟩
 ·intro c z hz
  dsimp only at hz
  split at hz
  ·rename_i hc
   cases hz
   subst hc
   exact ⟨h1,Hp.get_set_same _ _ _⟩
  ·cases hz
 ·intro c hc hn
  refine Hp.get_set_ne _ _ fun e=>?_
  rw [ha c,if_pos e] at hn
  cases hn
 ·intro c hc
  refine .inl ?_
  rw [ha c]
  exact fun k=>hc (by
   dsimp only
   split at k
   ·cases k
   ·rename_i hcb;rw [if_neg hcb])
theorem z5v:∀(n:Nat) (l:List HA) {A B:HA},l[n]? = some A→stars (l.set n B)=star B (stars (l.eraseIdx n))
 | _,[],_,_,h=>by cases h
 | 0,_::_,_,_,_=>rfl
 | n+1,C::l,_,B,h=>by
  show star C (stars (l.set n B))=star B (star C (stars (l.eraseIdx n)))
  rw [z5v n l h,z7l]
theorem zdq (n:Nat) {b:Nat} {x y:Blk} {a:α} (hl:l[n]? = some (pts b x)) (e:∀h,b<h.size→h.get b=x→m h=some (a,h.set b y)) (k:Tri (stars (upd l n (pts b y))) (f a) S):Tri (stars l) (bd m f) S:=by
 rw [z87,z5v n l hl] at k
 rw [z1y n l hl]
 refine ((zm3 e).frame _).bd fun r=>?_
 rintro h q ⟨q1,q2,⟨rfl,h1⟩,h2,d,rfl⟩ hh
 exact k h _ ⟨q1,q2,h1,h2,d,rfl⟩ hh
theorem z58 (n:Nat) {b:Nat} {x y:Blk} {a:α} (hl:l[n]? = some (pts b x)) (e:∀h,h.get b=x→m h=some (a,h.set b y)) (k:Tri (stars (upd l n (pts b y))) (f a) S):Tri (stars l) (bd m f) S:=zdq n hl (fun h _=>e h) k
theorem zrj {x:Blk} {g:Nat→α} (e:∀h,m h=some (g h.size,h.push x)):Tri emp m fun r=>exA fun b=>pu (r=g b) (pts b x):=by
 intro h q ha hh
 refine ⟨_,h.push x,fun c=>if c=h.size then some x else none,e h,⟨h.size,rfl,fun _=>rfl⟩,?_,by simp,?_,?_⟩
 ·intro c z hz
  dsimp only at hz
  split at hz
  ·rename_i hc
   cases hz
   subst hc
   exact ⟨by simp,Hp.get_push_same _ _⟩
  ·cases hz
 ·intro c hc _
  exact Hp.get_push_lt _ _ hc
 ·intro c hc
  dsimp only at hc
  split at hc
  ·right;omega
  ·exact absurd rfl hc
theorem z4k {x:Blk} {g:Nat→α} (e:∀h,m h=some (g h.size,h.push x)) (k:∀b,Tri (stars (pts b x::l)) (f (g b)) S):Tri (stars l) (bd m f) S:=by
 have:stars l=star emp (stars l):=by rw [star_comm,z2a]
 rw [this]
 refine ((zrj e).frame _).bd fun r=>?_
 rintro h q ⟨q1,q2,⟨b,rfl,h1⟩,h2,d,rfl⟩ hh
 exact k b h _ ⟨q1,q2,h1,h2,d,rfl⟩ hh
theorem zv6 {b c:Nat} {x y:Blk} {q:PH} (k:star (pts b x) (pts c y) q):b≠c:=by
 rintro rfl
 obtain ⟨q1,q2,h1,h2,d,_⟩:=k
 rcases d b with e | e
 ·rw [h1 b,if_pos rfl] at e;cases e
 ·rw [h2 b,if_pos rfl] at e;cases e
theorem z0q {n:Nat} {F:(α→M β)→α→M β} {x:α}:iter (n+1) F x=F (iter n F) x:=rfl
def Exact (A:HA):Prop:=∀q1 q2,A q1→A q2→q1=q2
theorem zfq (b:Nat) (x:Blk):Exact (pts b x):=fun q1 q2 h1 h2=>by funext c;rw [h1 c,h2 c]
theorem zot:Exact emp:=fun q1 q2 h1 h2=>by funext c;rw [h1 c,h2 c]
theorem zii {R:α→HA} (hA:Exact A) (t:Tri A m fun a=>star A (R a)):Tri A (frz m) fun a=>star A (R a):=by
 intro h q ha hh
 obtain ⟨a,h',q',e,hq,h1,h2,h3,h4⟩:=t h q ha hh
 refine ⟨a,h',q',zhj e ⟨h2,fun b hb=>?_⟩,hq,h1,h2,h3,h4⟩
 obtain ⟨p,r,hp,hr,d,rfl⟩:=hq
 have hpq:=hA p q hp ha
 subst hpq
 cases hx:p b with
 | none=>exact h3 b hb hx
 | some x=>
  rw [(hh b x hx).2]
  exact (h1 b x (by unfold un;rw [hx])).2
theorem tri_frz0 {φ:α→Prop} (hA:Exact A) (t:Tri A m fun a=>pu (φ a) A):Tri A (frz m) fun a=>pu (φ a) A:=by
 refine (zii (R:=fun a=>pu (φ a) emp) hA (t.post fun a q hq=>?_)).post fun a q hq=>?_
 ·obtain ⟨h1,h2⟩:=hq
  rw [←z2a A] at h2
  obtain ⟨q1,q2,h3,h4,r⟩:=h2
  exact ⟨q1,q2,h3,⟨h1,h4⟩,r⟩
 ·obtain ⟨q1,q2,h3,⟨h1,h4⟩,r⟩:=hq
  exact ⟨h1,by rw [←z2a A];exact ⟨q1,q2,h3,h4,r⟩⟩
end
end Go.Mini

/- The laws' own toolkit: fields of structs, rows, maps and slices that are one's own. -/
namespace Go.Mini
section
variable {α β:Type} {A:HA} {l:List HA} {f:Option MA→M β} {S:β→HA} {b o:Nat} {cs:List MV} {ro:Bool}
theorem z0g {p:MA} (k:Tri A (f (some p)) S):Tri A (bd (nonNil (some p)) f) S:=k
theorem z05 {n:Nat} (k:Tri A (f (some ⟨b,o+n⟩)) S):Tri A (bd (fld (some ⟨b,o⟩) n) f) S:=k
theorem z4m (n:Nat) (hl:l[n]? = some (pts b (.cells cs ro))) {k:IntKind} {v:Int} (hv:cs[o]? = some (.int k v)) {f:Int→M β} (kk:Tri (stars l) (f v) S):Tri (stars l) (bd (nonNil (some ⟨b,0⟩)) fun q=>bd (fld q o) fun q=>bd (ldI k q) f) S:=
 z0g (z05 (z1z n hl (fun _ hg=>zad hg (by rw [Nat.zero_add];exact hv)) kk))
theorem zox (n:Nat) (hl:l[n]? = some (pts b (.cells cs ro))) {v:Bool} (hv:cs[o]? = some (.bool v)) {f:Bool→M β} (kk:Tri (stars l) (f v) S):Tri (stars l) (bd (nonNil (some ⟨b,0⟩)) fun q=>bd (fld q o) fun q=>bd (ldB q) f) S:=
 z0g (z05 (z1z n hl (fun _ hg=>zou hg (by rw [Nat.zero_add];exact hv)) kk))
theorem z7a (n:Nat) (hl:l[n]? = some (pts b (.cells cs ro))) {v:Option MA} (hv:cs[o]? = some (.ptr v)) {f:Option MA→M β} (kk:Tri (stars l) (f v) S):Tri (stars l) (bd (nonNil (some ⟨b,0⟩)) fun q=>bd (fld q o) fun q=>bd (ldP q) f) S:=
 z0g (z05 (z1z n hl (fun _ hg=>zov hg (by rw [Nat.zero_add];exact hv)) kk))
theorem z4n (n:Nat) (hl:l[n]? = some (pts b (.cells cs ro))) {e ln:Nat} {p:Option MA} (hv:cs[o]? = some (.sl p ln e)) {f:Sl→M β} (kk:Tri (stars l) (f ⟨p,ln⟩) S):Tri (stars l) (bd (nonNil (some ⟨b,0⟩)) fun q=>bd (fld q o) fun q=>bd (ldL e q) f) S:=
 z0g (z05 (z1z n hl (fun _ hg=>zae hg (by rw [Nat.zero_add];exact hv)) kk))
theorem z6m (n:Nat) (hl:l[n]? = some (pts b (.cells cs false))) {v:MV} {f:Unit→M β} (kk:Tri (stars (upd l n (pts b (.cells (cs.set o v) false)))) (f ()) S) (ho:o<cs.length:=by exact Nat.le_of_ble_eq_true rfl) (hc:isCell v=true:=by rfl):Tri (stars l) (bd (nonNil (some ⟨b,0⟩)) fun q=>bd (fld q o) fun q=>bd (stc q v) f) S:=
 z0g (z05 (z58 n hl (fun _ hg=>by rw [Nat.zero_add];exact zow hg ho hc) kk))
theorem z0m {f:Option MA→M β} (kk:∀b,Tri (stars (pts b (.cells cs false)::l)) (f (some ⟨b,0⟩)) S):Tri (stars l) (bd (alloc cs) f) S:=
 z4k (g:=fun b=>some ⟨b,0⟩) (fun _=>rfl) kk
theorem tri_ldn (n:Nat) (hl:l[n]? = some (pts b (.cells cs ro))) {m:Nat} (hm:o+m≤cs.length) {f:List MV→M β} (kk:Tri (stars l) (f ((cs.drop o).take m)) S):Tri (stars l) (bd (ldn m (some ⟨b,o⟩)) f) S:=
 z1z n hl (fun _ hg=>z79 hg hm) kk
theorem z2z (n:Nat) (hl:l[n]? = some (pts b (.cells cs false))) {m:Nat} {vs:List MV} (hn:vs.length=m) (hm:o+vs.length≤cs.length) (hc:vs.all isCell=true) {f:Unit→M β} (kk:Tri (stars (upd l n (pts b (.cells (over cs o vs) false)))) (f ()) S):Tri (stars l) (bd (stn m (some ⟨b,o⟩) vs) f) S:=
 z58 n hl (fun _ hg=>zv7 hg hn hm hc) kk
theorem z1c (n:Nat) (hl:l[n]? = some (pts b (.cells cs ro))) {k:IntKind} {v:Int} (hv:cs[o]? = some (.int k v)) {f:Int→M β} (kk:Tri (stars l) (f v) S):Tri (stars l) (bd (ldI k (some ⟨b,o⟩)) f) S:=
 z1z n hl (fun _ hg=>zad hg hv) kk
theorem ztq (n:Nat) (hl:l[n]? = some (pts b (.cells cs ro))) {v:Option MA} (hv:cs[o]? = some (.ptr v)) {f:Option MA→M β} (kk:Tri (stars l) (f v) S):Tri (stars l) (bd (ldP (some ⟨b,o⟩)) f) S:=
 z1z n hl (fun _ hg=>zov hg hv) kk
theorem ztr (n:Nat) (hl:l[n]? = some (pts b (.cells cs ro))) {v:Bool} (hv:cs[o]? = some (.bool v)) {f:Bool→M β} (kk:Tri (stars l) (f v) S):Tri (stars l) (bd (ldB (some ⟨b,o⟩)) f) S:=
 z1z n hl (fun _ hg=>zou hg hv) kk
theorem z0o (n:Nat) (hl:l[n]? = some (pts b (.cells cs ro))) {e ln:Nat} {p:Option MA} (hv:cs[o]? = some (.sl p ln e)) {f:Sl→M β} (kk:Tri (stars l) (f ⟨p,ln⟩) S):Tri (stars l) (bd (ldL e (some ⟨b,o⟩)) f) S:=
 z1z n hl (fun _ hg=>zae hg hv) kk
theorem z14 (n:Nat) (hl:l[n]? = some (pts b (.cells cs false))) {v:MV} (ho:o<cs.length) (hc:isCell v=true) {f:Unit→M β} (kk:Tri (stars (upd l n (pts b (.cells (cs.set o v) false)))) (f ()) S):Tri (stars l) (bd (stc (some ⟨b,o⟩) v) f) S:=
 z58 n hl (fun _ hg=>zow hg ho hc) kk
theorem z15 {e ln:Nat} {i:Nat} (hi:i<ln) {f:Option MA→M β} (kk:Tri A (f (some ⟨b,o+i * e⟩)) S):Tri A (bd (idx e ⟨some ⟨b,o⟩,ln⟩ (i:Int)) f) S:=
 zdp (fun _=>zer hi) kk
theorem z5j {a:α} {f:α→M β} (kk:Tri A (f a) S):Tri A (okOf (some a) f) S:=kk
theorem z0n {a:α} {f:α→M β} (kk:Tri A (f a) S):Tri A (bd (someOr (some a)) f) S:=kk
end
def OwnA (s:Sl) (e:Nat) (cs:List MV):HA:=fun q=>(s=⟨none,0⟩∧cs=[]∧emp q)∨∃b,s.p=some ⟨b,0⟩∧cs.length=s.len * e∧pts b (.cells cs false) q
theorem OwnA.nil (e:Nat) {q:PH} (h:emp q):OwnA ⟨none,0⟩ e [] q :=.inl ⟨rfl,rfl,h⟩
theorem OwnA.mk {b ln e:Nat} {cs:List MV} {q:PH} (hl:cs.length=ln * e) (h:pts b (.cells cs false) q):OwnA ⟨some ⟨b,0⟩,ln⟩ e cs q :=.inr ⟨b,rfl,hl,h⟩
theorem OwnA.len {s:Sl} {e:Nat} {cs:List MV} {q:PH} (h:OwnA s e cs q):cs.length=s.len * e:=by
 rcases h with ⟨rfl,rfl,_⟩ | ⟨_,_,h,_⟩
 ·simp
 ·exact h
theorem zoy {s:Sl} {e:Nat} {cs:List MV}:Exact (OwnA s e cs):=by
 rintro q1 q2 (⟨rfl,_,h1⟩ | ⟨b,h1,_,h2⟩) (⟨h3,_,h4⟩ | ⟨b',h3,_,h4⟩)
 ·exact zot _ _ h1 h4
 ·cases h3
 ·rw [h3] at h1;cases h1
 ·rw [h1] at h3
  cases h3
  exact zfq _ _ _ _ h2 h4
theorem z1s (n:Nat) {l:List HA} {A B:HA} (hl:l[n]? = some A) (h:∀q,A q→B q):∀q,stars l q→stars (upd l n B) q:=by
 intro q hq
 rw [z1y n l hl] at hq
 rw [z87,z5v n l hl]
 obtain ⟨q1,q2,h1,h2,d,e⟩:=hq
 exact ⟨q1,q2,h q1 h1,h2,d,e⟩
inductive Imps:List HA→List HA→Prop
 | nil:Imps [] []
 | cons {A B:HA} {l m:List HA} (h:∀q,A q→B q) (t:Imps l m):Imps (A::l) (B::m)
theorem z2n {l m:List HA} (h:Imps l m):∀q,stars l q→stars m q:=by
 induction h with
 | nil=>exact fun q k=>k
 | cons h _ ih=>
  rintro q ⟨q1,q2,h1,h2,d,e⟩
  exact ⟨q1,q2,h q1 h1,ih q2 h2,d,e⟩
theorem Imps.refl:∀(l:List HA),Imps l l
 | [] =>.nil
 | _::l =>.cons (fun _ k=>k) (Imps.refl l)
theorem z5w (l1:List HA) {l:List HA} {A:HA} (h:∀q,stars l1 q→A q) {q:PH} (k:stars (cat l1 l) q):stars (A::l) q:=by
 rw [zab,stars_append] at k
 obtain ⟨q1,q2,h1,h2,r⟩:=k
 exact ⟨q1,q2,h q1 h1,h2,r⟩
theorem zku (is:List Nat) {l:List HA} {q:PH} (h:stars l q) (hr:rem is l=[]:=by rfl):stars (sel is l) q:=by
 rw [z3o is l,hr] at h
 rw [show stars []=emp from rfl,z2a] at h
 exact h
theorem z0s {l m:List HA} {A:HA} (h:∀q,stars l q→stars m q) {q:PH} (k:stars (A::l) q):stars (A::m) q:=by
 obtain ⟨q1,q2,h1,h2,r⟩:=k
 exact ⟨q1,q2,h1,h q2 h2,r⟩
theorem z2b {l:List HA} {A B:HA} (h:∀q,A q→B q) {q:PH} (k:stars (A::l) q):stars (B::l) q:=by
 obtain ⟨q1,q2,h1,h2,r⟩:=k
 exact ⟨q1,q2,h q1 h1,h2,r⟩
theorem z1w {A:HA} (h:∀q,emp q→A q) {l:List HA} {q:PH} (k:stars l q):stars (A::l) q:=
 ⟨fun _=>none,q,h _ fun _=>rfl,k,fun _ =>.inl rfl,rfl⟩
section
variable {β:Type} {l:List HA} {m:M β} {S:β→HA}
theorem z3k (n:Nat) {s:Sl} {e:Nat} {cs:List MV} (hl:l[n]? = some (OwnA s e cs)) (k0:s=⟨none,0⟩→cs=[]→Tri (stars (upd l n emp)) m S)
  (k1:∀b ln,s=⟨some ⟨b,0⟩,ln⟩→cs.length=ln * e→Tri (stars (upd l n (pts b (.cells cs false)))) m S):Tri (stars l) m S:=by
 rintro h q hq hh
 rw [z1y n l hl] at hq
 obtain ⟨q1,q2,h1,h2,d,rfl⟩:=hq
 rcases h1 with ⟨h3,h4,h5⟩ | ⟨b,h3,h4,h5⟩
 ·exact k0 h3 h4 h _ (by rw [z87,z5v n l hl];exact ⟨q1,q2,h5,h2,d,rfl⟩) hh
 ·obtain ⟨p,ln⟩:=s
  dsimp only at h3 h4
  subst h3
  exact k1 b ln rfl h4 h _ (by rw [z87,z5v n l hl];exact ⟨q1,q2,h5,h2,d,rfl⟩) hh
theorem z4b (n:Nat) {A:HA} {φ:Prop} (hl:l[n]? = some A) (h:∀q,A q→φ) (k:φ→Tri (stars l) m S):Tri (stars l) m S:=by
 rintro h' q hq hh
 have hq2:=hq
 rw [z1y n l hl] at hq2
 obtain ⟨q1,q2,h1,h2,d,rfl⟩:=hq2
 exact k (h q1 h1) h' _ hq hh
theorem z92 (n:Nat) {A:HA} {γ:Type} {φ:γ→Prop} {L:γ→List HA} (hl:l[n]? = some A) (h:∀q,A q→∃x,φ x∧stars (L x) q) (k:∀x,φ x→Tri (stars (cat (L x) (del l n))) m S):Tri (stars l) m S:=by
 rintro h' q hq hh
 rw [z1y n l hl] at hq
 obtain ⟨q1,q2,h1,h2,d,rfl⟩:=hq
 obtain ⟨x,hx,h3⟩:=h q1 h1
 exact k x hx h' _ (by rw [zab,zig,stars_append];exact ⟨q1,q2,h3,h2,d,rfl⟩) hh
theorem z3u (n:Nat) {A B:HA} (hl:l[n]? = some A) (h:∀q,A q→B q) (k:Tri (stars (upd l n B)) m S):Tri (stars l) m S:=
 k.pre (z1s n hl h)
end
theorem z93 {e:Nat}:∀ {L:List (List MV)},(∀r∈L,r.length=e)→L.flatten.length=L.length * e
 | [],_=>by simp
 | r::L,h=>by
  have ih:=z93 (L:=L) fun x hx=>h x (by simp [hx])
  have:=h r (by simp)
  simp only [List.flatten_cons,List.length_append,List.length_cons,Nat.add_mul]
  omega
theorem zcb {e:Nat}:∀ {L:List (List MV)},(∀r∈L,r.length=e)→∀(i:Nat) (hi:i<L.length),(L.flatten.drop (i * e)).take e=L[i]
 | [],_,i,hi=>by simp at hi
 | r::L,h,0,_=>by
  have h1:=h r (by simp)
  simp only [List.flatten_cons,Nat.zero_mul,List.drop_zero,List.getElem_cons_zero]
  exact List.take_left' h1
 | r::L,h,i+1,hi=>by
  have h1:=h r (by simp)
  have ih:=zcb (L:=L) (fun x hx=>h x (by simp [hx])) i (by simpa using hi)
  simp only [List.flatten_cons,List.getElem_cons_succ]
  rw [←ih]
  congr 1
  rw [List.drop_append,List.drop_of_length_le (by rw [h1,Nat.add_mul];omega),List.nil_append]
  congr 1
  rw [h1,Nat.add_mul]
  omega
theorem zaf {e:Nat} {r':List MV} (hr:r'.length=e):∀ {L:List (List MV)},(∀r∈L,r.length=e)→∀(i:Nat),i<L.length→over L.flatten (i * e) r'=(L.set i r').flatten
 | [],_,i,hi=>by simp at hi
 | r::L,h,0,_=>by
  have h1:=h r (by simp)
  unfold over
  simp only [List.flatten_cons,Nat.zero_mul,List.take_zero,List.nil_append,List.set_cons_zero,Nat.zero_add]
  congr 1
  rw [hr,List.drop_left' h1]
 | r::L,h,i+1,hi=>by
  have h1:=h r (by simp)
  have ih:=zaf hr (L:=L) (fun x hx=>h x (by simp [hx])) i (by simpa using hi)
  simp only [List.flatten_cons,List.set_cons_succ]
  rw [←ih]
  unfold over
  have e1:(i+1) * e=r.length+i * e:=by rw [h1,Nat.add_mul];omega
  rw [e1,Nat.add_assoc,List.take_length_add_append,List.drop_length_add_append]
  simp
theorem z1p {e i n:Nat} (hi:i<n):i * e+e≤n * e:=by
 have:=Nat.mul_le_mul_right e (show i+1≤n by omega)
 rw [Nat.add_mul] at this
 omega
theorem zrk {p:MV→Bool} {L:List (List MV)} (h:∀r∈L,r.all p=true):L.flatten.all p=true:=by
 rw [List.all_eq_true]
 intro x hx
 obtain ⟨r,hr,hxr⟩:=List.mem_flatten.1 hx
 exact List.all_eq_true.1 (h r hr) x hxr
theorem zkv (n:Nat) (z:List MV):reps n z=(List.replicate n z).flatten:=by
 induction n with
 | zero=>rfl
 | succ n ih=>simp [reps,ih,List.replicate_succ]
theorem z5x (n:Nat) (v:MV):reps n [v]=List.replicate n v:=by
 induction n with
 | zero=>rfl
 | succ n ih=>simp [reps,ih,List.replicate_succ]
theorem z2l (s:List UInt8):(bytesOf s).all isCell=true:=by
 simp [bytesOf,isCell]
theorem z0b (s:List UInt8):(bytesOf s).length=s.length:=by simp [bytesOf]
theorem zbi:∀(s:List UInt8),strOf (bytesOf s)=some s
 | []=>rfl
 | c::s=>by
  have ih:=zbi s
  unfold bytesOf at ih ⊢
  simp only [List.map_cons,strOf,ih]
  simp
section
variable {β:Type} {l:List HA} {S:β→HA}
theorem zm4 {s:Sl} {e b:Nat} {cs:List MV} {ro:Bool} (hp:s.p=some ⟨b,0⟩) (hl:s.len * e≤cs.length) {h:Hp} {q:PH} (hq:pts b (.cells cs ro) q) (hh:Has h q):cellsOf e s h=some (cs.take (s.len * e),h):=by
 obtain ⟨p,ln⟩:=s
 dsimp only at hp hl
 subst hp
 obtain ⟨_,g⟩:=z4j hq hh
 unfold cellsOf
 dsimp only
 rw [z79 g (by omega),List.drop_zero]
theorem zkw {T:HA} {s t:Sl} {e by':Nat} {cs ts:List MV} (ht:∀h q,T q→Has h q→cellsOf e t h=some (ts,h)) (lts:ts.length=t.len * e) (he:0<e) (hall:ts.all isCell=true) (hbig:(s.len+t.len) * by'≤most):Tri (stars [OwnA s e cs,T]) (app e by' s t) fun r=>stars [OwnA r e (cs++ts),T]:=by
 rintro h q ⟨q1,q2,h1,⟨q3,q4,h2,h3,d2,rfl⟩,d1,rfl⟩ hh
 have hq4:∀b,q4 b=none:=h3
 have e4:un q3 q4=q3:=by
  funext b
  unfold un
  cases q3 b with
  | some _=>rfl
  | none=>exact hq4 b
 rw [e4] at d1 hh ⊢
 obtain ⟨k1,k2⟩:=(z3j d1).1 hh
 have htc:cellsOf e t h=some (ts,h):=ht h q3 h2 k2
 have fin:∀(r:Sl) (h':Hp) (p:PH),appc e by' s ts h=some (r,h')→OwnA r e (cs++ts) p→Has h' p→Disj p q3→h.size≤h'.size→(∀b,b<h.size→q1 b=none→h'.get b=h.get b)→(∀b,p b≠none→q1 b≠none∨h.size≤b) →
   ∃a h' q',app e by' s t h=some (a,h')∧stars [OwnA a e (cs++ts),T] q'∧Has h' q'∧h.size≤h'.size∧(∀b,b<h.size→un q1 q3 b=none→h'.get b=h.get b)∧∀b,q' b≠none→un q1 q3 b≠none∨h.size≤b:=by
  intro r h' p e1 ho hp dp hs hk hn
  refine ⟨r,h',un p q3,?_,⟨p,q3,ho,by rw [z0k];exact h2,dp,rfl⟩,(z3j dp).2 ⟨hp,fun b x hx=>?_⟩,hs,fun b hb hbn=>hk b hb (z37.1 hbn).1,fun b hb=>?_⟩
  ·simp only [app,bd,htc,hall,if_true]
   exact e1
  ·obtain ⟨g1,g2⟩:=k2 b x hx
   have:q1 b=none:=by
    rcases d1 b with c | c
    ·exact c
    ·rw [c] at hx;cases hx
   exact ⟨Nat.lt_of_lt_of_le g1 hs,(hk b g1 this).trans g2⟩
  ·by_cases c:p b=none
   ·exact .inl fun c2=>hb (z37.2 ⟨c,(z37.1 c2).2⟩)
   ·rcases hn b c with y | y
    ·exact .inl fun c2=>y (z37.1 c2).1
    ·exact .inr y
 by_cases h0:ts=[]
 ·subst h0
  refine fin s h q1 (by unfold appc;rw [if_pos rfl]) (by rw [List.append_nil];exact h1) k1 d1 (Nat.le_refl _) (fun _ _ _=>rfl) fun b hb =>.inl hb
 ·have htl:0<t.len:=by
   rcases Nat.eq_zero_or_pos t.len with z | z
   ·rw [z] at lts;simp at lts;exact absurd lts h0
   ·exact z
  have hdiv:ts.length / e=t.len:=by rw [lts];exact Nat.mul_div_cancel _ he
  have hmod:ts.length%e=0:=by rw [lts];exact Nat.mul_mod_left _ _
  have newp:∀(h':Hp),h'.size=h.size+1→h'.get h.size=.cells (cs++ts) false→(∀b,b<h.size→q1 b=none→h'.get b=h.get b)→(cs++ts).length=(s.len+t.len) * e→appc e by' s ts h=some (⟨some ⟨h.size,0⟩,s.len+t.len⟩,h') →
    ∃a h' q',app e by' s t h=some (a,h')∧stars [OwnA a e (cs++ts),T] q'∧Has h' q'∧h.size≤h'.size∧(∀b,b<h.size→un q1 q3 b=none→h'.get b=h.get b)∧∀b,q' b≠none→un q1 q3 b≠none∨h.size≤b:=by
   intro h' hs hg hk hl e1
   refine fin _ h' (fun b=>if b=h.size then some (.cells (cs++ts) false) else none) e1 (.mk hl fun _=>rfl) ?_ ?_ (by omega) hk ?_
   ·intro b x hx
    dsimp only at hx
    split at hx
    ·rename_i hb
     cases hx
     subst hb
     exact ⟨by omega,hg⟩
    ·cases hx
   ·intro b
    by_cases hb:b=h.size
    ·right
     cases hx:q3 b with
     | none=>rfl
     | some x=>have:=(k2 b x hx).1;omega
    ·left
     exact if_neg hb
   ·intro b hb
    split at hb
    ·right;omega
    ·exact absurd rfl hb
  rcases h1 with ⟨rfl,rfl,hem⟩ | ⟨b,hp,hl,hb⟩
  ·refine newp (h.push (.cells ts false)) (by simp) (by simp) (fun b hb _=>Hp.get_push_lt _ _ hb) (by simp [lts]) ?_
   unfold appc
   rw [if_neg h0,hdiv,if_pos ⟨hmod,hbig⟩]
   simp
  ·obtain ⟨sp,sl⟩:=s
   dsimp only at hp hl
   subst hp
   obtain ⟨g1,g2⟩:=z4j hb k1
   refine newp ((h.set b .dead).push (.cells (cs++ts) false)) (by simp) (by rw [Hp.get_push];simp) (fun c hc hn=>?_) (by simp [hl,lts,Nat.add_mul]) ?_
   ·rw [Hp.get_push_lt _ _ (by simpa using hc)]
    exact Hp.get_set_ne _ _ fun e=>by
     rw [hb c,if_pos e] at hn
     cases hn
   ·unfold appc
    rw [if_neg h0,hdiv,if_pos ⟨hmod,hbig⟩]
    dsimp only
    rw [g2]
    dsimp only
    rw [if_pos (by simp [hl]),List.drop_zero,List.take_of_length_le (by omega)]
theorem zes {s:Sl} {b k e by':Nat} {cs ts:List MV} {ro:Bool} (he:0<e) (hl:k * e≤ts.length) (hall:(ts.take (k * e)).all isCell=true) (hbig:(s.len+k) * by'≤most):Tri (stars [OwnA s e cs,pts b (.cells ts ro)]) (app e by' s ⟨some ⟨b,0⟩,k⟩) fun r=>stars [OwnA r e (cs++ts.take (k * e)),pts b (.cells ts ro)]:=
 zkw (t:=⟨some ⟨b,0⟩,k⟩) (fun _ _ a b=>zm4 rfl hl a b) (by rw [List.length_take];dsimp only;omega) he hall hbig
theorem zrl {f:Nat→M β} (k:∀b,Tri (stars (pts b .dead::l)) (f b) S):Tri (stars l) (bd (hold 1) f) S:=
 z4k (g:=fun b=>b) (fun _=>rfl) k
def cloneM (e by':Nat) (s:Sl):M Sl:=if (Option.isNone s.p)=true then (ret (⟨(none:Option MA),0⟩)) else (bd (alloc []) fun q=>bd (app e by' (⟨q,0⟩) s) fun l=>ret l)
theorem zoz {b k e by':Nat} {cs:List MV} {ro:Bool} (he:0<e) (hl:k * e≤cs.length) (hall:(cs.take (k * e)).all isCell=true) (hbig:k * by'≤most):Tri (stars [pts b (.cells cs ro)]) (cloneM e by' ⟨some ⟨b,0⟩,k⟩) fun r=>stars [OwnA r e (cs.take (k * e)),pts b (.cells cs ro)]:=by
 show Tri _ (bd (alloc []) fun q=>bd (app e by' ⟨q,0⟩ _) fun l=>ret l) _
 refine z0m fun b'=>?_
 refine z3u 0 (B:=OwnA ⟨some ⟨b',0⟩,0⟩ e []) rfl (fun q hq =>.mk (by simp) hq) ?_
 refine z01 [0,0] (zes he hl hall (by simpa using hbig)) fun r=>?_
 exact z00 (z02 [0,0] fun q hq=>hq)
end
end Go.Mini
