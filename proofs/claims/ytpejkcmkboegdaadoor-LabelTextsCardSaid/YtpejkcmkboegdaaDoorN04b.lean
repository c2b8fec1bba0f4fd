/- Layer 4: which numbers stand in a label's text, in plain words. -/
import Derived.Test.YtpejkcmkboegdaaDoorN04
namespace Go.Moat
open Go.Mini

/-- Does a number's text stand between two signs that are no digits? -/
def Named (s d : List UInt8) : Prop := ∃ i, 1 ≤ i ∧ i + d.length < s.length ∧ (∀ j, j < d.length → s[i + j]? = d[j]?) ∧ (∀ c, s[i - 1]? = some c → isDig c = false) ∧ ∀ c, s[i + d.length]? = some c → isDig c = false

theorem named_step {x0 y0 : UInt8} {x w d : List UInt8} (h0 : isDig x0 = false) (h1 : isDig y0 = false) (hx : ∀ c ∈ x, isDig c = true) (hd : ∀ c ∈ d, isDig c = true) (hd0 : d ≠ []) :
    Named (x0 :: (x ++ y0 :: w)) d ↔ d = x ∨ Named (y0 :: w) d := by
  have dl : 0 < d.length := List.length_pos_iff.2 hd0
  have g0 : (x0 :: (x ++ y0 :: w))[0]? = some x0 := rfl
  have g1 : ∀ j, j < x.length → (x0 :: (x ++ y0 :: w))[1 + j]? = x[j]? := fun j hj => by
    rw [Nat.add_comm 1, List.getElem?_cons_succ, List.getElem?_append_left hj]
  have g2 : ∀ j, (x0 :: (x ++ y0 :: w))[x.length + 1 + j]? = (y0 :: w)[j]? := fun j => by
    rw [show x.length + 1 + j = (x.length + j) + 1 by omega, List.getElem?_cons_succ, List.getElem?_append_right (by omega), show x.length + j - x.length = j by omega]
  have gl : (x0 :: (x ++ y0 :: w)).length = x.length + 1 + (y0 :: w).length := by simp; omega
  have xd : ∀ (j : Nat) c, x[j]? = some c → isDig c = true := fun j c e => hx c (List.mem_of_getElem? e)
  have dd : ∀ (j : Nat) c, d[j]? = some c → isDig c = true := fun j c e => hd c (List.mem_of_getElem? e)
  have xs : ∀ j, j < x.length → ∃ c, x[j]? = some c := fun j hj => ⟨_, List.getElem?_eq_getElem hj⟩
  have ds : ∀ j, j < d.length → ∃ c, d[j]? = some c := fun j hj => ⟨_, List.getElem?_eq_getElem hj⟩
  constructor
  · rintro ⟨i, k1, k2, k3, k4, k5⟩
    by_cases hi : i = 1
    · subst hi
      left
      have e : d.length = x.length := by
        rcases Nat.lt_trichotomy d.length x.length with h | h | h
        · obtain ⟨c, hc⟩ := xs _ h
          have := k5 c (by rw [g1 _ h]; exact hc)
          rw [xd _ _ hc] at this
          cases this
        · exact h
        · obtain ⟨c, hc⟩ := ds _ h
          have := k3 _ h
          rw [show 1 + x.length = x.length + 1 + 0 by omega, g2, hc] at this
          injection this with this
          have h2 := dd _ _ hc
          rw [← this, h1] at h2
          cases h2
      apply List.ext_getElem?
      intro j
      by_cases hj : j < d.length
      · rw [← k3 j hj, g1 j (by omega)]
      · rw [List.getElem?_eq_none (by omega), List.getElem?_eq_none (by omega)]
    · by_cases hi2 : i ≤ x.length + 1
      · exfalso
        by_cases hi3 : i ≤ x.length
        · obtain ⟨c, hc⟩ := xs (i - 2) (by omega)
          have := k4 c (by rw [show i - 1 = 1 + (i - 2) by omega, g1 _ (by omega)]; exact hc)
          rw [xd _ _ hc] at this
          cases this
        · obtain rfl : i = x.length + 1 := by omega
          obtain ⟨c, hc⟩ := ds 0 dl
          have := k3 0 dl
          rw [g2, hc] at this
          injection this with this
          have h2 := dd _ _ hc
          rw [← this, h1] at h2
          cases h2
      · right
        obtain ⟨m, rfl⟩ : ∃ m, i = x.length + 1 + m := ⟨i - (x.length + 1), by omega⟩
        refine ⟨m, by omega, by omega, fun j hj => ?_, fun c hc => k4 c ?_, fun c hc => k5 c ?_⟩
        · rw [← k3 j hj, Nat.add_assoc, g2]
        · rw [show x.length + 1 + m - 1 = x.length + 1 + (m - 1) by omega, g2]
          exact hc
        · rw [Nat.add_assoc, g2]
          exact hc
  · rintro (rfl | ⟨m, k1, k2, k3, k4, k5⟩)
    · refine ⟨1, Nat.le_refl _, by simp at gl ⊢; omega, fun j hj => g1 j hj, fun c hc => ?_, fun c hc => ?_⟩
      · rw [g0] at hc
        cases hc
        exact h0
      · rw [show 1 + d.length = d.length + 1 + 0 by omega, g2] at hc
        cases hc
        exact h1
    · refine ⟨x.length + 1 + m, by omega, by omega, fun j hj => ?_, fun c hc => k4 c ?_, fun c hc => k5 c ?_⟩
      · rw [Nat.add_assoc, g2]
        exact k3 j hj
      · rw [show x.length + 1 + m - 1 = x.length + 1 + (m - 1) by omega, g2] at hc
        exact hc
      · rw [Nat.add_assoc, g2] at hc
        exact hc

theorem named_one {y0 : UInt8} {d : List UInt8} (hd0 : d ≠ []) : ¬ Named [y0] d := by
  rintro ⟨i, k1, k2, _⟩
  simp at k2
  omega

theorem named_two {y0 y1 : UInt8} {d : List UInt8} (hd0 : d ≠ []) : ¬ Named [y0, y1] d := by
  have : 0 < d.length := List.length_pos_iff.2 hd0
  rintro ⟨i, k1, k2, _⟩
  simp at k2
  omega

theorem named_toks {d : List UInt8} (hd : ∀ c ∈ d, isDig c = true) (hd0 : d ≠ []) : ∀ (x : List UInt8) (r : List (List UInt8)) (x0 : UInt8), isDig x0 = false → (∀ y ∈ x :: r, ∀ c ∈ y, isDig c = true) →
    (Named (x0 :: (Lib.join (x :: r) [44] ++ [93])) d ↔ d ∈ x :: r)
  | x, [], x0, h0, h => by
    rw [Lib.join_one, named_step h0 (by decide) (h x List.mem_cons_self) hd hd0]
    simp [named_one hd0]
  | x, y :: r, x0, h0, h => by
    rw [join_cons2, List.append_assoc, List.cons_append, named_step h0 (by decide) (h x List.mem_cons_self) hd hd0, named_toks hd hd0 y r 44 (by decide) fun z hz => h z (List.mem_cons_of_mem _ hz), List.mem_cons (a := d) (b := x)]

theorem named_text {a k : Nat} (hk : k < 16) : Named (textN a) (Lib.decDigits k) ↔ a.testBit k = true := by
  have e : textN a = 91 :: (Lib.join (toks a) [44] ++ [93]) := by rw [text_eq]; simp
  rw [e]
  have hm : Lib.decDigits k ∈ toks a ↔ a.testBit k = true := by
    rw [toks_mem]
    constructor
    · rintro ⟨j, h1, h2, h3⟩
      rw [dig_inj hk h1 h3]
      exact h2
    · exact fun h => ⟨k, hk, h, rfl⟩
  rw [← hm]
  cases ht : toks a with
  | nil =>
    rw [Lib.join_nil]
    simp only [List.nil_append, List.not_mem_nil, iff_false]
    exact named_two (dig_ne hk)
  | cons x r =>
    refine named_toks (dig_all hk) (dig_ne hk) x r 91 (by decide) fun y hy => ?_
    rw [← ht] at hy
    obtain ⟨j, h1, _, rfl⟩ := toks_mem.1 hy
    exact dig_all h1

theorem join_snoc : ∀ (ys : List (List UInt8)) (y : List UInt8), ys ≠ [] → Lib.join (ys ++ [y]) [44] = Lib.join ys [44] ++ [44] ++ y
  | [], y, h => absurd rfl h
  | [x], y, _ => by
    show Lib.join (x :: y :: []) [44] = _
    rw [join_cons2, Lib.join_one, Lib.join_one]
    simp
  | x :: z :: r, y, _ => by
    have ih := join_snoc (z :: r) y (by simp)
    show Lib.join (x :: z :: (r ++ [y])) [44] = _
    rw [join_cons2, show z :: (r ++ [y]) = (z :: r) ++ [y] from rfl, ih, join_cons2]
    simp

theorem join_take {xs : List (List UInt8)} {j : Nat} (h : j < xs.length) : Lib.join (xs.take (j + 1)) [44] = Lib.join (xs.take j) [44] ++ (if 0 < j then [44] else []) ++ xs[j] := by
  rw [List.take_succ_eq_append_getElem h]
  by_cases h0 : 0 < j
  · rw [if_pos h0, join_snoc _ _ (by
      intro c
      have := congrArg List.length c
      rw [List.length_take, List.length_nil] at this
      omega)]
  · obtain rfl : j = 0 := by omega
    rw [if_neg h0]
    simp [Lib.join_nil, Lib.join_one]
end Go.Moat
