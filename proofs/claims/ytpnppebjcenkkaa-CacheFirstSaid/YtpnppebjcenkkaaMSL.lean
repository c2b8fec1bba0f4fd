/- The laws' own toolkit: what a piece of work does to the blocks that are its own. Assertions speak of a few blocks; the others stay as they are. -/
import Derived.Test.YtpnppebjcenkkaaMLM
namespace Go.Mini

/-- A few blocks. -/
abbrev PH := Nat → Option Blk
abbrev HA := PH → Prop

def Disj (p q : PH) : Prop := ∀ b, p b = none ∨ q b = none
def un (p q : PH) : PH := fun b => match p b with
  | some x => some x
  | none => q b

def pts (b : Nat) (x : Blk) : HA := fun q => ∀ c, q c = if c = b then some x else none
def emp : HA := fun q => ∀ b, q b = none
def star (A B : HA) : HA := fun q => ∃ q1 q2, A q1 ∧ B q2 ∧ Disj q1 q2 ∧ q = un q1 q2
def stars : List HA → HA
  | [] => emp
  | A :: l => star A (stars l)
def exA {α : Type} (f : α → HA) : HA := fun q => ∃ x, f x q
def pu (φ : Prop) (A : HA) : HA := fun q => φ ∧ A q

/-- The heap has these blocks. -/
def Has (h : Hp) (q : PH) : Prop := ∀ b x, q b = some x → b < h.size ∧ h.get b = x

/-- What is done, out of what, to what; whatever else there is stays as it was. -/
def Tri {α : Type} (A : HA) (m : M α) (Q : α → HA) : Prop := ∀ h q, A q → Has h q → ∃ a h' q', m h = some (a, h') ∧ Q a q' ∧ Has h' q' ∧ h.size ≤ h'.size ∧
  (∀ b, b < h.size → q b = none → h'.get b = h.get b) ∧ ∀ b, q' b ≠ none → q b ≠ none ∨ h.size ≤ b

theorem Disj.symm {p q : PH} (d : Disj p q) : Disj q p := fun b => (d b).symm
theorem un_comm {p q : PH} (d : Disj p q) : un p q = un q p := by
  funext b
  unfold un
  rcases d b with h | h
  · rw [h]; cases q b <;> rfl
  · rw [h]; cases p b <;> rfl
theorem un_assoc (p q r : PH) : un (un p q) r = un p (un q r) := by
  funext b
  unfold un
  cases p b <;> rfl
theorem un_none {p q : PH} {b : Nat} : un p q b = none ↔ p b = none ∧ q b = none := by
  unfold un
  cases p b <;> simp
theorem disj_un {p q r : PH} : Disj (un p q) r ↔ Disj p r ∧ Disj q r := by
  constructor
  · intro d
    refine ⟨fun b => ?_, fun b => ?_⟩
    · rcases d b with h | h
      · exact .inl (un_none.1 h).1
      · exact .inr h
    · rcases d b with h | h
      · exact .inl (un_none.1 h).2
      · exact .inr h
  · rintro ⟨d1, d2⟩ b
    rcases d1 b with h | h
    · rcases d2 b with h2 | h2
      · exact .inl (un_none.2 ⟨h, h2⟩)
      · exact .inr h2
    · exact .inr h

theorem star_comm (A B : HA) : star A B = star B A := by
  funext q
  apply propext
  constructor
  · rintro ⟨p, r, a, b, d, rfl⟩
    exact ⟨r, p, b, a, d.symm, un_comm d⟩
  · rintro ⟨p, r, a, b, d, rfl⟩
    exact ⟨r, p, b, a, d.symm, un_comm d⟩
theorem star_assoc (A B C : HA) : star (star A B) C = star A (star B C) := by
  funext q
  apply propext
  constructor
  · rintro ⟨p, r, ⟨p1, p2, a, b, d, rfl⟩, c, d2, rfl⟩
    obtain ⟨d3, d4⟩ := disj_un.1 d2
    exact ⟨p1, un p2 r, a, ⟨p2, r, b, c, d4, rfl⟩, (disj_un.2 ⟨d.symm, d3.symm⟩).symm, un_assoc _ _ _⟩
  · rintro ⟨p1, r, a, ⟨p2, r2, b, c, d, rfl⟩, d2, rfl⟩
    obtain ⟨d3, d4⟩ := disj_un.1 d2.symm
    exact ⟨un p1 p2, r2, ⟨p1, p2, a, b, d3.symm, rfl⟩, c, disj_un.2 ⟨d4.symm, d⟩, (un_assoc _ _ _).symm⟩
theorem star_left (A B C : HA) : star A (star B C) = star B (star A C) := by rw [← star_assoc, star_comm A B, star_assoc]
theorem star_emp (A : HA) : star A emp = A := by
  funext q
  apply propext
  constructor
  · rintro ⟨p, r, a, b, d, rfl⟩
    have : un p r = p := by
      funext c
      unfold un
      rw [b c]
      cases p c <;> rfl
    rwa [this]
  · intro a
    refine ⟨q, fun _ => none, a, fun _ => rfl, fun _ => .inr rfl, ?_⟩
    funext c
    unfold un
    cases q c <;> rfl
theorem stars_one (A : HA) : stars [A] = A := star_emp A
theorem stars_append : ∀ (l k : List HA), stars (l ++ k) = star (stars l) (stars k)
  | [], k => by
    show stars k = star emp (stars k)
    rw [star_comm, star_emp]
  | A :: l, k => by
    show star A (stars (l ++ k)) = star (star A (stars l)) (stars k)
    rw [stars_append l k, star_assoc]
theorem stars_pick : ∀ (n : Nat) (l : List HA) {A : HA}, l[n]? = some A → stars l = star A (stars (l.eraseIdx n))
  | _, [], _, h => by cases h
  | 0, B :: l, A, h => by cases h; rfl
  | n + 1, B :: l, A, h => by
    show star B (stars l) = star A (star B (stars (l.eraseIdx n)))
    rw [stars_pick n l h, star_left]

/-- Out of a list those at these places, in this order; and the others. -/
def nth : List HA → Nat → HA
  | [], _ => emp
  | A :: _, 0 => A
  | _ :: l, n + 1 => nth l n
def del : List HA → Nat → List HA
  | [], _ => []
  | _ :: l, 0 => l
  | A :: l, n + 1 => A :: del l n
def cat : List HA → List HA → List HA
  | [], k => k
  | A :: l, k => A :: cat l k
def upd : List HA → Nat → HA → List HA
  | [], _, _ => []
  | _ :: l, 0, B => B :: l
  | A :: l, n + 1, B => A :: upd l n B
theorem cat_eq : ∀ (l k : List HA), cat l k = l ++ k
  | [], _ => rfl
  | A :: l, k => congrArg (A :: ·) (cat_eq l k)
theorem upd_eq : ∀ (l : List HA) (n : Nat) (B : HA), upd l n B = l.set n B
  | [], _, _ => rfl
  | _ :: _, 0, _ => rfl
  | A :: l, n + 1, B => congrArg (A :: ·) (upd_eq l n B)
theorem del_eq : ∀ (l : List HA) (n : Nat), del l n = l.eraseIdx n
  | [], _ => rfl
  | _ :: _, 0 => rfl
  | A :: l, n + 1 => congrArg (A :: ·) (del_eq l n)
/-- The places count in what is left, each time. -/
def sel : List Nat → List HA → List HA
  | [], _ => []
  | n :: r, l => nth l n :: sel r (del l n)
def rem : List Nat → List HA → List HA
  | [], l => l
  | n :: r, l => rem r (del l n)
theorem stars_nth : ∀ (n : Nat) (l : List HA), stars l = star (nth l n) (stars (del l n))
  | n, [] => by
    show emp = star emp emp
    rw [star_emp]
  | 0, A :: l => rfl
  | n + 1, A :: l => by
    show star A (stars l) = star (nth l n) (star A (stars (del l n)))
    rw [stars_nth n l, star_left]
theorem stars_sel : ∀ (is : List Nat) (l : List HA), stars l = star (stars (sel is l)) (stars (rem is l))
  | [], l => by
    show stars l = star emp (stars l)
    rw [star_comm, star_emp]
  | n :: r, l => by
    show stars l = star (star (nth l n) (stars (sel r (del l n)))) (stars (rem r (del l n)))
    rw [stars_nth n l, stars_sel r (del l n), star_assoc]

section
variable {α β : Type} {A B : HA} {l : List HA} {m : M α} {f : α → M β} {Q : α → HA} {S : β → HA}

theorem has_un {h : Hp} {p q : PH} (d : Disj p q) : Has h (un p q) ↔ Has h p ∧ Has h q := by
  constructor
  · intro k
    refine ⟨fun b x e => k b x (by unfold un; rw [e]), fun b x e => k b x ?_⟩
    unfold un
    rcases d b with c | c
    · rw [c]; exact e
    · rw [c] at e; cases e
  · rintro ⟨k1, k2⟩ b x e
    unfold un at e
    cases hp : p b with
    | some y => rw [hp] at e; cases e; exact k1 b _ hp
    | none => rw [hp] at e; exact k2 b x e

theorem Tri.frame (t : Tri A m Q) (R : HA) : Tri (star A R) m fun a => star (Q a) R := by
  rintro h q ⟨p, r, ha, hr, d, rfl⟩ hh
  obtain ⟨hp, hrr⟩ := (has_un d).1 hh
  obtain ⟨a, h', p', e, hq, hp', hs, hk, hn⟩ := t h p ha hp
  have hlt : ∀ b, r b ≠ none → b < h.size ∧ p b = none := fun b hb => by
    obtain ⟨x, hx⟩ := Option.ne_none_iff_exists'.1 hb
    refine ⟨(hrr b x hx).1, ?_⟩
    rcases d b with c | c
    · exact c
    · rw [c] at hx; cases hx
  have d' : Disj p' r := fun b => by
    by_cases hb : r b = none
    · exact .inr hb
    · obtain ⟨h1, h2⟩ := hlt b hb
      refine .inl (Classical.byContradiction fun hc => ?_)
      rcases hn b hc with k | k
      · exact k h2
      · omega
  refine ⟨a, h', un p' r, e, ⟨p', r, hq, hr, d', rfl⟩, (has_un d').2 ⟨hp', fun b x hx => ?_⟩, hs, fun b hb hbn => hk b hb (un_none.1 hbn).1, fun b hb => ?_⟩
  · obtain ⟨h1, h2⟩ := hlt b (by rw [hx]; simp)
    obtain ⟨h3, h4⟩ := hrr b x hx
    exact ⟨Nat.lt_of_lt_of_le h3 hs, (hk b h3 h2).trans h4⟩
  · by_cases hb2 : p' b = none
    · refine .inl fun c => hb (un_none.2 ⟨hb2, (un_none.1 c).2⟩)
    · rcases hn b hb2 with k | k
      · exact .inl fun c => k (un_none.1 c).1
      · exact .inr k

theorem Tri.bd (t : Tri A m Q) (k : ∀ a, Tri (Q a) (f a) S) : Tri A (bd m f) S := by
  intro h q ha hh
  obtain ⟨a, h1, q1, e1, hq1, hh1, hs1, hk1, hn1⟩ := t h q ha hh
  obtain ⟨b, h2, q2, e2, hq2, hh2, hs2, hk2, hn2⟩ := k a h1 q1 hq1 hh1
  refine ⟨b, h2, q2, by simp only [Mini.bd, e1]; exact e2, hq2, hh2, Nat.le_trans hs1 hs2, fun c hc hn => ?_, fun c hc => ?_⟩
  · have : q1 c = none := Classical.byContradiction fun hx => by
      rcases hn1 c hx with y | y
      · exact y hn
      · omega
    rw [hk2 c (Nat.lt_of_lt_of_le hc hs1) this, hk1 c hc hn]
  · rcases hn2 c hc with y | y
    · exact hn1 c y
    · exact .inr (Nat.le_trans hs1 y)

/-- Less is asked. -/
theorem Tri.pre (t : Tri B m Q) (k : ∀ q, A q → B q) : Tri A m Q := fun h q ha hh => t h q (k q ha) hh
/-- Less is told; blocks may be let go of. -/
theorem Tri.post {Q' : α → HA} (t : Tri A m Q) (k : ∀ a q, Q a q → Q' a q) : Tri A m Q' := by
  intro h q ha hh
  obtain ⟨a, h', q', e, hq, r⟩ := t h q ha hh
  exact ⟨a, h', q', e, k a q' hq, r⟩
theorem tri_drop (R : HA) (t : Tri A m fun a => star (Q a) R) : Tri A m Q := by
  intro h q ha hh
  obtain ⟨a, h', q', e, ⟨p, r, h1, h2, d, rfl⟩, h3, h4, h5, h6⟩ := t h q ha hh
  exact ⟨a, h', p, e, h1, ((has_un d).1 h3).1, h4, h5, fun b hb => h6 b fun c => hb (un_none.1 c).1⟩
theorem tri_weak (t : Tri A m Q) (R : HA) : Tri (star A R) m Q := tri_drop R (t.frame R)

theorem tri_ret {a : α} (k : ∀ q, A q → Q a q) : Tri A (ret a) Q := fun h q ha hh => ⟨a, h, q, rfl, k q ha, hh, Nat.le_refl _, fun _ _ _ => rfl, fun _ hb => .inl hb⟩
/-- The end: those at these places are handed on. -/
theorem tri_end (is : List Nat) {a : α} (k : ∀ q, stars (sel is l) q → Q a q) : Tri (stars l) (ret a) Q := by
  rw [stars_sel is l]
  exact tri_weak (tri_ret k) _
/-- A piece of work whose contract is known, upon those at these places. -/
theorem tri_call (is : List Nat) (t : Tri (stars (sel is l)) m Q) (k : ∀ a, Tri (stars (Q a :: rem is l)) (f a) S) : Tri (stars l) (bd m f) S := by
  rw [stars_sel is l]
  exact (t.frame _).bd k
/-- The last piece of work. -/
theorem tri_last (is : List Nat) (t : Tri (stars (sel is l)) m Q) : Tri (stars l) m Q := by
  rw [stars_sel is l]
  exact tri_weak t _
/-- The last piece of work, and what is told of it and of the others. -/
theorem tri_fin {Q' : α → HA} (is : List Nat) (t : Tri (stars (sel is l)) m Q) (k : ∀ a q, stars (Q a :: rem is l) q → Q' a q) : Tri (stars l) m Q' := by
  rw [stars_sel is l]
  exact (t.frame _).post k
theorem tri_bdret {a : α} (k : Tri A (f a) S) : Tri A (bd (ret a) f) S := k
/-- What leaves the heap alone. -/
theorem tri_op {a : α} (e : ∀ h, m h = some (a, h)) (k : Tri A (f a) S) : Tri A (bd m f) S := by
  intro h q ha hh
  obtain ⟨b, h', q', e2, r⟩ := k h q ha hh
  exact ⟨b, h', q', by simp only [bd, e]; exact e2, r⟩
theorem tri_if {c : Prop} [Decidable c] {m n : M β} (k : c → Tri A m S) (k2 : ¬c → Tri A n S) : Tri A (if c then m else n) S := by
  split
  · exact k (by assumption)
  · exact k2 (by assumption)
theorem tri_t {c : Prop} [Decidable c] {m n : M β} (h : c) (k : Tri A m S) : Tri A (if c then m else n) S := by rw [if_pos h]; exact k
theorem tri_f {c : Prop} [Decidable c] {m n : M β} (h : ¬c) (k : Tri A n S) : Tri A (if c then m else n) S := by rw [if_neg h]; exact k
theorem tri_ex {γ : Type} {g : γ → HA} {m : M β} (k : ∀ x, Tri (stars (g x :: l)) m S) : Tri (stars (exA g :: l)) m S := by
  rintro h q ⟨q1, q2, ⟨x, hx⟩, h2, d, rfl⟩ hh
  exact k x h _ ⟨q1, q2, hx, h2, d, rfl⟩ hh
theorem tri_pu {φ : Prop} {m : M β} (k : φ → Tri (stars (A :: l)) m S) : Tri (stars (pu φ A :: l)) m S := by
  rintro h q ⟨q1, q2, ⟨hx, h1⟩, h2, d, rfl⟩ hh
  exact k hx h _ ⟨q1, q2, h1, h2, d, rfl⟩ hh
theorem tri_p {φ : Prop} {m : M β} (k : φ → Tri A m S) : Tri (pu φ A) m S := fun h q ha hh => k ha.1 h q ha.2 hh
theorem tri_x {γ : Type} {g : γ → HA} {m : M β} (k : ∀ x, Tri (g x) m S) : Tri (exA g) m S := fun h q ⟨x, ha⟩ hh => k x h q ha hh
theorem tri_flat {l1 : List HA} {m : M β} (k : Tri (stars (cat l1 l)) m S) : Tri (stars (stars l1 :: l)) m S := by
  rw [cat_eq, stars_append] at k
  exact k
theorem tri_false {φ : Prop} {m : M β} (h : ¬ φ) : Tri (pu φ A) m S := fun _ _ ha _ => absurd ha.1 h

theorem pts_get {h : Hp} {q : PH} {b : Nat} {x : Blk} (k : pts b x q) (hh : Has h q) : b < h.size ∧ h.get b = x := hh b x (by rw [k b, if_pos rfl])

theorem tri_read1 {b : Nat} {x : Blk} {a : α} (e : ∀ h, h.get b = x → m h = some (a, h)) : Tri (pts b x) m fun r => pu (r = a) (pts b x) :=
  fun h q ha hh => ⟨a, h, q, e h (pts_get ha hh).2, ⟨rfl, ha⟩, hh, Nat.le_refl _, fun _ _ _ => rfl, fun _ hb => .inl hb⟩
/-- One of the blocks is read. -/
theorem tri_read (n : Nat) {b : Nat} {x : Blk} {a : α} (hl : l[n]? = some (pts b x)) (e : ∀ h, h.get b = x → m h = some (a, h)) (k : Tri (stars l) (f a) S) : Tri (stars l) (bd m f) S := by
  rw [stars_pick n l hl] at k ⊢
  refine ((tri_read1 e).frame _).bd fun r => ?_
  rintro h q ⟨q1, q2, ⟨rfl, h1⟩, h2, d, rfl⟩ hh
  exact k h _ ⟨q1, q2, h1, h2, d, rfl⟩ hh

theorem tri_write1 {b : Nat} {x y : Blk} {a : α} (e : ∀ h, b < h.size → h.get b = x → m h = some (a, h.set b y)) : Tri (pts b x) m fun r => pu (r = a) (pts b y) := by
  intro h q ha hh
  obtain ⟨h1, h2⟩ := pts_get ha hh
  refine ⟨a, h.set b y, fun c => if c = b then some y else none, e h h1 h2, ⟨rfl, fun _ => rfl⟩, ?_, Nat.le_refl _, ?_, ?_⟩
  · intro c z hz
    dsimp only at hz
    split at hz
    · rename_i hc
      cases hz
      subst hc
      exact ⟨h1, Hp.get_set_same _ _ _⟩
    · cases hz
  · intro c hc hn
    refine Hp.get_set_ne _ _ fun e => ?_
    rw [ha c, if_pos e] at hn
    cases hn
  · intro c hc
    refine .inl ?_
    rw [ha c]
    exact fun k => hc (by
      dsimp only
      split at k
      · cases k
      · rename_i hcb; rw [if_neg hcb])
theorem star_set : ∀ (n : Nat) (l : List HA) {A B : HA}, l[n]? = some A → stars (l.set n B) = star B (stars (l.eraseIdx n))
  | _, [], _, _, h => by cases h
  | 0, _ :: _, _, _, _ => rfl
  | n + 1, C :: l, _, B, h => by
    show star C (stars (l.set n B)) = star B (star C (stars (l.eraseIdx n)))
    rw [star_set n l h, star_left]
/-- One of the blocks is written. -/
theorem tri_writel (n : Nat) {b : Nat} {x y : Blk} {a : α} (hl : l[n]? = some (pts b x)) (e : ∀ h, b < h.size → h.get b = x → m h = some (a, h.set b y)) (k : Tri (stars (upd l n (pts b y))) (f a) S) : Tri (stars l) (bd m f) S := by
  rw [upd_eq, star_set n l hl] at k
  rw [stars_pick n l hl]
  refine ((tri_write1 e).frame _).bd fun r => ?_
  rintro h q ⟨q1, q2, ⟨rfl, h1⟩, h2, d, rfl⟩ hh
  exact k h _ ⟨q1, q2, h1, h2, d, rfl⟩ hh

theorem tri_write (n : Nat) {b : Nat} {x y : Blk} {a : α} (hl : l[n]? = some (pts b x)) (e : ∀ h, h.get b = x → m h = some (a, h.set b y)) (k : Tri (stars (upd l n (pts b y))) (f a) S) : Tri (stars l) (bd m f) S := tri_writel n hl (fun h _ => e h) k

theorem tri_new1 {x : Blk} {g : Nat → α} (e : ∀ h, m h = some (g h.size, h.push x)) : Tri emp m fun r => exA fun b => pu (r = g b) (pts b x) := by
  intro h q ha hh
  refine ⟨_, h.push x, fun c => if c = h.size then some x else none, e h, ⟨h.size, rfl, fun _ => rfl⟩, ?_, by simp, ?_, ?_⟩
  · intro c z hz
    dsimp only at hz
    split at hz
    · rename_i hc
      cases hz
      subst hc
      exact ⟨by simp, Hp.get_push_same _ _⟩
    · cases hz
  · intro c hc _
    exact Hp.get_push_lt _ _ hc
  · intro c hc
    dsimp only at hc
    split at hc
    · right; omega
    · exact absurd rfl hc
/-- A new block. -/
theorem tri_new {x : Blk} {g : Nat → α} (e : ∀ h, m h = some (g h.size, h.push x)) (k : ∀ b, Tri (stars (pts b x :: l)) (f (g b)) S) : Tri (stars l) (bd m f) S := by
  have : stars l = star emp (stars l) := by rw [star_comm, star_emp]
  rw [this]
  refine ((tri_new1 e).frame _).bd fun r => ?_
  rintro h q ⟨q1, q2, ⟨b, rfl, h1⟩, h2, d, rfl⟩ hh
  exact k b h _ ⟨q1, q2, h1, h2, d, rfl⟩ hh

theorem tri_move1 {b : Nat} {x y z : Blk} {g : Nat → α} (e : ∀ h, b < h.size → h.get b = x → m h = some (g h.size, (h.set b z).push y)) : Tri (pts b x) m fun r => exA fun b' => pu (r = g b') (pts b' y) := by
  intro h q ha hh
  obtain ⟨h1, h2⟩ := pts_get ha hh
  refine ⟨_, (h.set b z).push y, fun c => if c = h.size then some y else none, e h h1 h2, ⟨h.size, rfl, fun _ => rfl⟩, ?_, by simp, ?_, ?_⟩
  · intro c w hz
    dsimp only at hz
    split at hz
    · rename_i hc
      cases hz
      subst hc
      exact ⟨by simp, by rw [Hp.get_push]; simp⟩
    · cases hz
  · intro c hc hn
    rw [Hp.get_push_lt _ _ (by simpa using hc)]
    refine Hp.get_set_ne _ _ fun e => ?_
    rw [ha c, if_pos e] at hn
    cases hn
  · intro c hc
    dsimp only at hc
    split at hc
    · right; omega
    · exact absurd rfl hc
/-- A block moves to a new one. -/
theorem tri_move (n : Nat) {b : Nat} {x y z : Blk} {g : Nat → α} (hl : l[n]? = some (pts b x)) (e : ∀ h, b < h.size → h.get b = x → m h = some (g h.size, (h.set b z).push y)) (k : ∀ b', Tri (stars (pts b' y :: del l n)) (f (g b')) S) : Tri (stars l) (bd m f) S := by
  rw [del_eq] at k
  rw [stars_pick n l hl]
  refine ((tri_move1 e).frame _).bd fun r => ?_
  rintro h q ⟨q1, q2, ⟨b', rfl, h1⟩, h2, d, rfl⟩ hh
  exact k b' h _ ⟨q1, q2, h1, h2, d, rfl⟩ hh

/-- Two blocks are different. -/
theorem pts_ne {b c : Nat} {x y : Blk} {q : PH} (k : star (pts b x) (pts c y) q) : b ≠ c := by
  rintro rfl
  obtain ⟨q1, q2, h1, h2, d, _⟩ := k
  rcases d b with e | e
  · rw [h1 b, if_pos rfl] at e; cases e
  · rw [h2 b, if_pos rfl] at e; cases e

theorem tri_read2' {b c : Nat} {x y : Blk} {a : α} (e : ∀ h, b ≠ c → h.get b = x → h.get c = y → m h = some (a, h)) : Tri (star (pts b x) (pts c y)) m fun r => pu (r = a) (star (pts b x) (pts c y)) := by
  intro h q ha hh
  have hne := pts_ne ha
  have ha' := ha
  obtain ⟨q1, q2, h1, h2, d, rfl⟩ := ha'
  obtain ⟨k1, k2⟩ := (has_un d).1 hh
  exact ⟨a, h, _, e h hne (pts_get h1 k1).2 (pts_get h2 k2).2, ⟨rfl, ha⟩, hh, Nat.le_refl _, fun _ _ _ => rfl, fun _ hb => .inl hb⟩

/-- Two are read, and one of them is written. -/
theorem tri_write2' {b c : Nat} {x y z : Blk} {a : α} (e : ∀ h, b ≠ c → h.get b = x → h.get c = y → m h = some (a, h.set b z)) : Tri (star (pts b x) (pts c y)) m fun r => pu (r = a) (star (pts b z) (pts c y)) := by
  intro h q ha hh
  have hne := pts_ne ha
  obtain ⟨q1, q2, h1, h2, d, rfl⟩ := ha
  obtain ⟨k1, k2⟩ := (has_un d).1 hh
  obtain ⟨g1, g2⟩ := pts_get h1 k1
  obtain ⟨g3, g4⟩ := pts_get h2 k2
  have d' : Disj (fun u => if u = b then some z else none) q2 := fun u => by
    by_cases hu : u = b
    · subst hu
      right
      rw [h2 u, if_neg hne]
    · left
      exact if_neg hu
  refine ⟨a, h.set b z, un (fun u => if u = b then some z else none) q2, e h hne g2 g4, ⟨rfl, _, q2, fun _ => rfl, h2, d', rfl⟩, (has_un d').2 ⟨?_, ?_⟩, Nat.le_refl _, ?_, ?_⟩
  · intro u w hw
    dsimp only at hw
    split at hw
    · rename_i hu
      cases hw
      subst hu
      exact ⟨g1, Hp.get_set_same _ _ _⟩
    · cases hw
  · intro u w hw
    have hub : u ≠ b := fun e => by
      subst e
      rw [h2 u, if_neg hne] at hw
      cases hw
    obtain ⟨k3, k4⟩ := k2 u w hw
    exact ⟨k3, (Hp.get_set_ne _ _ hub).trans k4⟩
  · intro u hu hn
    refine Hp.get_set_ne _ _ fun e => ?_
    have := (un_none.1 hn).1
    rw [h1 u, if_pos e] at this
    cases this
  · intro u hu
    refine .inl fun hn => hu ?_
    have h3 := un_none.1 hn
    refine un_none.2 ⟨?_, h3.2⟩
    split
    · rename_i hc
      have := h3.1
      rw [h1 u, if_pos hc] at this
      cases this
    · rfl

/-- One is read, another one moves. -/
theorem tri_move2' {b c : Nat} {x y z w : Blk} {g : Nat → α} (e : ∀ h, b ≠ c → b < h.size → h.get b = x → h.get c = y → m h = some (g h.size, (h.set b z).push w)) : Tri (star (pts b x) (pts c y)) m fun r => exA fun b' => pu (r = g b') (star (pts b' w) (pts c y)) := by
  intro h q ha hh
  have hne := pts_ne ha
  obtain ⟨q1, q2, h1, h2, d, rfl⟩ := ha
  obtain ⟨k1, k2⟩ := (has_un d).1 hh
  obtain ⟨g1, g2⟩ := pts_get h1 k1
  obtain ⟨g3, g4⟩ := pts_get h2 k2
  have d' : Disj (fun u => if u = h.size then some w else none) q2 := fun u => by
    by_cases hu : u = h.size
    · subst hu
      right
      rw [h2 h.size, if_neg (by omega)]
    · left
      exact if_neg hu
  refine ⟨g h.size, (h.set b z).push w, un (fun u => if u = h.size then some w else none) q2, e h hne g1 g2 g4, ⟨h.size, rfl, _, q2, fun _ => rfl, h2, d', rfl⟩, (has_un d').2 ⟨?_, ?_⟩, by simp, ?_, ?_⟩
  · intro u v hv
    dsimp only at hv
    split at hv
    · rename_i hu
      cases hv
      subst hu
      exact ⟨by simp, by rw [Hp.get_push]; simp⟩
    · cases hv
  · intro u v hv
    have hub : u ≠ b := fun e => by
      subst e
      rw [h2 u, if_neg hne] at hv
      cases hv
    obtain ⟨k3, k4⟩ := k2 u v hv
    refine ⟨by simp; omega, ?_⟩
    rw [Hp.get_push_lt _ _ (by simpa using k3), Hp.get_set_ne _ _ hub]
    exact k4
  · intro u hu hn
    rw [Hp.get_push_lt _ _ (by simpa using hu)]
    refine Hp.get_set_ne _ _ fun e => ?_
    have := (un_none.1 hn).1
    rw [h1 u, if_pos e] at this
    cases this
  · intro u hu
    by_cases hs : u = h.size
    · right; omega
    · refine .inl fun hn => hu ?_
      have h3 := un_none.1 hn
      exact un_none.2 ⟨if_neg hs, h3.2⟩

/-- A loop: what holds in each round, and what gets less. -/
theorem tri_iter {F : (α → M β) → α → M β} (I : α → HA) (μ : α → Nat)
    (step : ∀ x (rec : α → M β), (∀ x', μ x' < μ x → Tri (I x') (rec x') S) → Tri (I x) (F rec x) S) : ∀ N x, μ x < N → Tri (I x) (iter N F x) S := by
  intro N
  induction N with
  | zero => intro x hm; omega
  | succ N ih =>
    intro x hm
    exact step x (iter N F) fun x' hm' => ih x' (by omega)

/-- An assertion that leaves no choice. -/
def Exact (A : HA) : Prop := ∀ q1 q2, A q1 → A q2 → q1 = q2
theorem exact_pts (b : Nat) (x : Blk) : Exact (pts b x) := fun q1 q2 h1 h2 => by funext c; rw [h1 c, h2 c]
theorem exact_emp : Exact emp := fun q1 q2 h1 h2 => by funext c; rw [h1 c, h2 c]
theorem exact_star {A B : HA} (ha : Exact A) (hb : Exact B) : Exact (star A B) := by
  rintro q1 q2 ⟨p1, r1, a1, b1, _, rfl⟩ ⟨p2, r2, a2, b2, _, rfl⟩
  rw [ha p1 p2 a1 a2, hb r1 r2 b1 b2]
theorem exact_stars : ∀ {l : List HA}, (∀ A ∈ l, Exact A) → Exact (stars l)
  | [], _ => exact_emp
  | A :: l, h => exact_star (h A (by simp)) (exact_stars fun B hB => h B (by simp [hB]))
/-- What reads alone may stand where all is to stay. -/
theorem tri_frzx {R : α → HA} (hA : Exact A) (t : Tri A m fun a => star A (R a)) : Tri A (frz m) fun a => star A (R a) := by
  intro h q ha hh
  obtain ⟨a, h', q', e, hq, h1, h2, h3, h4⟩ := t h q ha hh
  refine ⟨a, h', q', frz_of e ⟨h2, fun b hb => ?_⟩, hq, h1, h2, h3, h4⟩
  obtain ⟨p, r, hp, hr, d, rfl⟩ := hq
  have hpq := hA p q hp ha
  subst hpq
  cases hx : p b with
  | none => exact h3 b hb hx
  | some x =>
    rw [(hh b x hx).2]
    exact (h1 b x (by unfold un; rw [hx])).2
theorem tri_frz0 {φ : α → Prop} (hA : Exact A) (t : Tri A m fun a => pu (φ a) A) : Tri A (frz m) fun a => pu (φ a) A := by
  refine (tri_frzx (R := fun a => pu (φ a) emp) hA (t.post fun a q hq => ?_)).post fun a q hq => ?_
  · obtain ⟨h1, h2⟩ := hq
    rw [← star_emp A] at h2
    obtain ⟨q1, q2, h3, h4, r⟩ := h2
    exact ⟨q1, q2, h3, ⟨h1, h4⟩, r⟩
  · obtain ⟨q1, q2, h3, ⟨h1, h4⟩, r⟩ := hq
    exact ⟨h1, by rw [← star_emp A]; exact ⟨q1, q2, h3, h4, r⟩⟩
theorem tri_frzn (t : Tri (stars []) m Q) : Tri (stars []) (frz m) Q := by
  intro h q ha hh
  obtain ⟨a, h', q', e, hq, h1, h2, h3, h4⟩ := t h q ha hh
  exact ⟨a, h', q', frz_of e ⟨h2, fun b hb => h3 b hb (ha b)⟩, hq, h1, h2, h3, h4⟩
theorem tri_frz (t : Tri A m Q) (g : ∀ h a h', m h = some (a, h') → Grows h h') : Tri A (frz m) Q := by
  intro h q ha hh
  obtain ⟨a, h', q', e, r⟩ := t h q ha hh
  exact ⟨a, h', q', frz_of e (g h a h' e), r⟩

end
end Go.Mini
