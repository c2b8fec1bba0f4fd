/- Layer 4: texts of labels, in plain words: the label of a label's text is that label. -/
import Derived.Test.YtpejkcmkboegdaaDoorP04b
import Derived.Test.YtpejkcmkboegdaaDoorL04b
namespace Go.Moat
open Go.Mini

theorem index_free : ∀ {s : List UInt8}, (44 : UInt8) ∉ s → Lib.index s [44] = -1
  | [], _ => rfl
  | b :: r, h => by
    have h1 : b ≠ 44 := fun e => h (by rw [e]; exact List.mem_cons_self)
    have h2 := index_free (s := r) fun e => h (List.mem_cons_of_mem _ e)
    unfold Lib.index
    rw [h2]
    simp [List.isPrefixOf, Ne.symm h1]

theorem index_first44 : ∀ {x : List UInt8} (r : List UInt8), (44 : UInt8) ∉ x → Lib.index (x ++ 44 :: r) [44] = (x.length : Int)
  | [], r, _ => by
    show Lib.index (44 :: r) [44] = 0
    unfold Lib.index
    simp [List.isPrefixOf]
  | b :: x, r, h => by
    have h1 : b ≠ 44 := fun e => h (by rw [e]; exact List.mem_cons_self)
    have h2 := index_first44 (x := x) r fun e => h (List.mem_cons_of_mem _ e)
    show Lib.index (b :: (x ++ 44 :: r)) [44] = _
    unfold Lib.index
    rw [h2]
    have h3 : ((x.length : Int) == -1) = false := by simp
    simp [List.isPrefixOf, Ne.symm h1, h3]

theorem split_free {s : List UInt8} (h : (44 : UInt8) ∉ s) : Lib.split s [44] = [s] := by
  unfold Lib.split
  rw [Lib.count_miss (index_free h)]
  rfl

theorem split_first {x : List UInt8} (r : List UInt8) (h : (44 : UInt8) ∉ x) : Lib.split (x ++ 44 :: r) [44] = x :: Lib.split r [44] := by
  have hi := index_first44 r h
  have hd : (x ++ 44 :: r).drop (x.length + 1) = r := by
    rw [show x ++ 44 :: r = (x ++ [44]) ++ r by simp, show x.length + 1 = (x ++ [44]).length by simp, List.drop_left]
  unfold Lib.split
  rw [Lib.count_hit (by simp) hi, show ([44] : List UInt8).length = 1 from rfl, hd, Nat.add_comm 1]
  show (if Lib.index (x ++ 44 :: r) [44] == -1 then _ else _) = _
  rw [hi, if_neg (by simp), Int.toNat_natCast, show ([44] : List UInt8).length = 1 from rfl, hd, Nat.add_zero, List.take_left]

theorem join_cons2 (x y : List UInt8) (r : List (List UInt8)) : Lib.join (x :: y :: r) [44] = x ++ 44 :: Lib.join (y :: r) [44] := by
  rw [Lib.join_cons, Lib.join_cons]
  unfold Lib.joinTail
  simp

theorem split_join : ∀ (x : List UInt8) (r : List (List UInt8)), (∀ y ∈ x :: r, (44 : UInt8) ∉ y) → Lib.split (Lib.join (x :: r) [44]) [44] = x :: r
  | x, [], h => by
    rw [Lib.join_one]
    exact split_free (h x List.mem_cons_self)
  | x, y :: r, h => by
    rw [join_cons2, split_first _ (h x List.mem_cons_self), split_join y r fun z hz => h z (List.mem_cons_of_mem _ hz)]

def isDig (c : UInt8) : Bool := decide (48 ≤ c.toNat) && decide (c.toNat ≤ 57)

/-- A number's text, below 16. -/
theorem dig_facts : ∀ k : Fin 16, Lib.atoiAll (if k.val < 10 then [UInt8.ofNat (48 + k.val)] else [UInt8.ofNat (48 + k.val / 10), UInt8.ofNat (48 + k.val % 10)]) = .ok (k.val : Int) ∧
    (if k.val < 10 then [UInt8.ofNat (48 + k.val)] else [UInt8.ofNat (48 + k.val / 10), UInt8.ofNat (48 + k.val % 10)]).all isDig = true := by decide +kernel

theorem dig_text {k : Nat} (h : k < 16) : Lib.decDigits k = if k < 10 then [UInt8.ofNat (48 + k)] else [UInt8.ofNat (48 + k / 10), UInt8.ofNat (48 + k % 10)] := by
  by_cases h1 : k < 10
  · rw [if_pos h1, Lib.decDigits_one h1]
  · rw [if_neg h1, Lib.decDigits_two h1 (by omega)]

theorem dig_num {k : Nat} (h : k < 16) : Lib.atoiAll (Lib.decDigits k) = .ok (k : Int) := by
  rw [dig_text h]
  exact (dig_facts ⟨k, h⟩).1
theorem dig_all {k : Nat} (h : k < 16) : ∀ c ∈ Lib.decDigits k, isDig c = true := by
  rw [dig_text h]
  exact List.all_eq_true.1 (dig_facts ⟨k, h⟩).2
theorem dig_ne {k : Nat} (h : k < 16) : Lib.decDigits k ≠ [] := by
  rw [dig_text h]
  split <;> simp
theorem dig_inj {j k : Nat} (hj : j < 16) (hk : k < 16) (e : Lib.decDigits j = Lib.decDigits k) : j = k := by
  have h1 := dig_num hj
  rw [e, dig_num hk] at h1
  injection h1 with h1
  omega

/-- The numbers' texts of a label. -/
def toks (a : Nat) : List (List UInt8) := (cats a).map fun k => Lib.decDigits k.toNat
theorem toks_mem {a : Nat} {x : List UInt8} : x ∈ toks a ↔ ∃ k : Nat, k < 16 ∧ a.testBit k = true ∧ x = Lib.decDigits k := by
  unfold toks
  rw [List.mem_map]
  constructor
  · rintro ⟨k, hk, rfl⟩
    have := cats_lt hk
    exact ⟨k.toNat, by omega, this.2.2, rfl⟩
  · rintro ⟨k, h1, h2, rfl⟩
    exact ⟨(k : Int), cats_mem.2 ⟨h1, h2⟩, by rw [Int.toNat_natCast]⟩

theorem text_eq (a : Nat) : textN a = [91] ++ Lib.join (toks a) [44] ++ [93] := rfl

theorem numsN_toks : ∀ (ks : List Int), (∀ k ∈ ks, 0 ≤ k ∧ k < 16) → numsN (ks.map fun (k : Int) => Lib.decDigits k.toNat) = some ks
  | [], _ => rfl
  | k :: r, h => by
    have h1 := h k List.mem_cons_self
    have h2 := numsN_toks r fun y hy => h y (List.mem_cons_of_mem _ hy)
    show (match Lib.atoiAll (Lib.decDigits k.toNat) with | .ok v => (numsN (r.map fun (k : Int) => Lib.decDigits k.toNat)).map (v :: ·) | _ => none) = _
    rw [dig_num (by omega), h2]
    show some ((k.toNat : Int) :: r) = _
    rw [Int.toNat_of_nonneg h1.1]

theorem two_bit (k i : Nat) : (2 ^ k).testBit i = decide (k = i) := Nat.testBit_two_pow

theorem ofN_bits : ∀ (ks : List Int), (∀ k ∈ ks, 0 ≤ k ∧ k < 16) → ∀ a : Nat, ∃ b, ofN a ks = some b ∧ ∀ i, b.testBit i = (a.testBit i || decide ((i : Int) ∈ ks))
  | [], _, a => ⟨a, rfl, fun i => by simp⟩
  | k :: r, h, a => by
    have h1 := h k List.mem_cons_self
    obtain ⟨b, h2, h3⟩ := ofN_bits r (fun y hy => h y (List.mem_cons_of_mem _ hy)) (a ||| 2 ^ k.toNat)
    refine ⟨b, ?_, fun i => ?_⟩
    · rw [ofN_cons, if_neg (by omega)]
      exact h2
    · rw [h3, Nat.testBit_or, two_bit]
      have : decide ((i : Int) ∈ k :: r) = (decide (k.toNat = i) || decide ((i : Int) ∈ r)) := by
        rw [Bool.eq_iff_iff]
        simp only [List.mem_cons, Bool.or_eq_true, decide_eq_true_eq]
        constructor
        · rintro (h | h)
          · left; omega
          · exact .inr h
        · rintro (h | h)
          · left; omega
          · exact .inr h
      rw [this, Bool.or_assoc]

theorem ofN_cats {a : Nat} (h : a < 65536) : ofN 0 (cats a) = some a := by
  obtain ⟨b, h1, h2⟩ := ofN_bits (cats a) (fun k hk => ⟨(cats_lt hk).1, (cats_lt hk).2.1⟩) 0
  rw [h1]
  congr 1
  apply Nat.eq_of_testBit_eq
  intro i
  rw [h2, Nat.zero_testBit, Bool.false_or, Bool.eq_iff_iff, decide_eq_true_iff, cats_mem]
  constructor
  · exact fun h => h.2
  · intro h3
    refine ⟨?_, h3⟩
    by_cases hi : i < 16
    · exact hi
    · have : a.testBit i = false := Nat.testBit_lt_two_pow (Nat.lt_of_lt_of_le (show a < 2 ^ 16 from h) (Nat.pow_le_pow_right (by omega) (by omega)))
      rw [this] at h3
      cases h3

theorem dig_44 {k : Nat} (h : k < 16) : (44 : UInt8) ∉ Lib.decDigits k := by
  intro hc
  have := dig_all h 44 hc
  simp [isDig] at this

theorem join_nil_iff {a : Nat} : Lib.join (toks a) [44] = [] ↔ cats a = [] := by
  unfold toks
  cases h : cats a with
  | nil => simp [Lib.join_nil]
  | cons k r =>
    simp only [List.map_cons, reduceCtorEq, iff_false]
    rw [Lib.join_cons]
    intro hc
    have hk := cats_lt (a := a) (k := k) (by rw [h]; exact List.mem_cons_self)
    exact dig_ne (k := k.toNat) (by omega) (List.append_eq_nil_iff.1 hc).1

/-- The label of a label's text is that label. -/
theorem parse_text {a : Nat} (h : a < 65536) : parseN (textN a) = ((a : Int), 0) := by
  have hl : (textN a).length = (Lib.join (toks a) [44]).length + 2 := by rw [text_eq]; simp
  have hb : ¬ bad4 (textN a) := by
    unfold bad4
    rintro (h1 | h1 | h1)
    · omega
    · exact h1 rfl
    · rw [hl] at h1
      refine h1 ?_
      rw [text_eq, List.getElem?_append_right (by simp)]
      simp
  have hin : innerN (textN a) = Lib.join (toks a) [44] := by
    unfold innerN
    rw [hl, text_eq]
    simp
  have hp : piecesN (textN a) = toks a := by
    unfold piecesN
    rw [hin]
    by_cases h1 : Lib.join (toks a) [44] = []
    · rw [if_pos h1]
      have := join_nil_iff.1 h1
      unfold toks
      rw [this]
      rfl
    · rw [if_neg h1]
      cases ht : toks a with
      | nil => rw [ht] at h1; exact absurd rfl h1
      | cons x r =>
        refine split_join x r fun y hy => ?_
        rw [← ht] at hy
        obtain ⟨k, h2, _, rfl⟩ := toks_mem.1 hy
        exact dig_44 h2
  unfold parseN
  rw [if_neg hb, hp]
  have hn : numsN (toks a) = some (cats a) := numsN_toks (cats a) fun k hk => ⟨(cats_lt hk).1, (cats_lt hk).2.1⟩
  rw [hn, rest_some (ofN_cats h), if_pos rfl]

/-- What it answers, in any case. -/
theorem parse_cases (s : List UInt8) : (∃ a, a < 65536 ∧ textN a = s ∧ parseN s = ((a : Int), 0)) ∨ ((∀ a, a < 65536 → textN a ≠ s) ∧ parseN s = (0, 40)) := by
  by_cases h : ∃ a, a < 65536 ∧ textN a = s
  · obtain ⟨a, h1, rfl⟩ := h
    exact .inl ⟨a, h1, rfl, parse_text h1⟩
  · refine .inr ⟨fun a h1 h2 => h ⟨a, h1, h2⟩, ?_⟩
    unfold parseN
    split
    · rfl
    · unfold restN
      split
      · rfl
      · split
        · rfl
        · rename_i a ha
          have := ofN_lt _ 0 a (by omega) ha
          rw [if_neg fun c => h ⟨a, this, c⟩]
end Go.Moat

/- Layer 4: which numbers stand in a label's text, in plain words. -/
namespace Go.Moat
open Go.Mini

/-- Does a number's text stand between two signs that are no digits? -/
def Named (s d : List UInt8) : Prop := ∃ i, 1 ≤ i ∧ i + d.length < s.length ∧ (∀ j, j < d.length → s[i + j]? = d[j]?) ∧ (∀ c, s[i - 1]? = some c → isDig c = false) ∧ ∀ c, s[i + d.length]? = some c → isDig c = false

theorem named_step {x0 y0 : UInt8} {x w d : List UInt8} (h0 : isDig x0 = false) (h1 : isDig y0 = false) (hx : ∀ c ∈ x, isDig c = true) (hd : ∀ c ∈ d, isDig c = true) (hd0 : d ≠ []) :
    Named (x0 :: (x ++ y0 :: w)) d ↔ d = x ∨ Named (y0 :: w) d := by
  have dl : 0 < d.length := List.length_pos_iff.2 hd0
  have g0 : (x0 :: (x ++ y0 :: w))[0]? = some x0 := rfl
  have g1 : ∀ j, j < x.length → (x0 :: (x ++ y0 :: w))[1 + j]? = x[j]? := fun j hj => by
    rw [Nat.add_comm 1, List.getElem?_cons_succ, List.getElem?_append_left hj]
  have g2 : ∀ j, (x0 :: (x ++ y0 :: w))[x.length + 1 + j]? = (y0 :: w)[j]? := fun j => by
    rw [show x.length + 1 + j = (x.length + j) + 1 by omega, List.getElem?_cons_succ, List.getElem?_append_right (by omega), show x.length + j - x.length = j by omega]
  have gl : (x0 :: (x ++ y0 :: w)).length = x.length + 1 + (y0 :: w).length := by simp; omega
  have xd : ∀ (j : Nat) c, x[j]? = some c → isDig c = true := fun j c e => hx c (List.mem_of_getElem? e)
  have dd : ∀ (j : Nat) c, d[j]? = some c → isDig c = true := fun j c e => hd c (List.mem_of_getElem? e)
  have xs : ∀ j, j < x.length → ∃ c, x[j]? = some c := fun j hj => ⟨_, List.getElem?_eq_getElem hj⟩
  have ds : ∀ j, j < d.length → ∃ c, d[j]? = some c := fun j hj => ⟨_, List.getElem?_eq_getElem hj⟩
  constructor
  · rintro ⟨i, k1, k2, k3, k4, k5⟩
    by_cases hi : i = 1
    · subst hi
      left
      have e : d.length = x.length := by
        rcases Nat.lt_trichotomy d.length x.length with h | h | h
        · obtain ⟨c, hc⟩ := xs _ h
          have := k5 c (by rw [g1 _ h]; exact hc)
          rw [xd _ _ hc] at this
          cases this
        · exact h
        · obtain ⟨c, hc⟩ := ds _ h
          have := k3 _ h
          rw [show 1 + x.length = x.length + 1 + 0 by omega, g2, hc] at this
          injection this with this
          have h2 := dd _ _ hc
          rw [← this, h1] at h2
          cases h2
      apply List.ext_getElem?
      intro j
      by_cases hj : j < d.length
      · rw [← k3 j hj, g1 j (by omega)]
      · rw [List.getElem?_eq_none (by omega), List.getElem?_eq_none (by omega)]
    · by_cases hi2 : i ≤ x.length + 1
      · exfalso
        by_cases hi3 : i ≤ x.length
        · obtain ⟨c, hc⟩ := xs (i - 2) (by omega)
          have := k4 c (by rw [show i - 1 = 1 + (i - 2) by omega, g1 _ (by omega)]; exact hc)
          rw [xd _ _ hc] at this
          cases this
        · obtain rfl : i = x.length + 1 := by omega
          obtain ⟨c, hc⟩ := ds 0 dl
          have := k3 0 dl
          rw [g2, hc] at this
          injection this with this
          have h2 := dd _ _ hc
          rw [← this, h1] at h2
          cases h2
      · right
        obtain ⟨m, rfl⟩ : ∃ m, i = x.length + 1 + m := ⟨i - (x.length + 1), by omega⟩
        refine ⟨m, by omega, by omega, fun j hj => ?_, fun c hc => k4 c ?_, fun c hc => k5 c ?_⟩
        · rw [← k3 j hj, Nat.add_assoc, g2]
        · rw [show x.length + 1 + m - 1 = x.length + 1 + (m - 1) by omega, g2]
          exact hc
        · rw [Nat.add_assoc, g2]
          exact hc
  · rintro (rfl | ⟨m, k1, k2, k3, k4, k5⟩)
    · refine ⟨1, Nat.le_refl _, by simp at gl ⊢; omega, fun j hj => g1 j hj, fun c hc => ?_, fun c hc => ?_⟩
      · rw [g0] at hc
        cases hc
        exact h0
      · rw [show 1 + d.length = d.length + 1 + 0 by omega, g2] at hc
        cases hc
        exact h1
    · refine ⟨x.length + 1 + m, by omega, by omega, fun j hj => ?_, fun c hc => k4 c ?_, fun c hc => k5 c ?_⟩
      · rw [Nat.add_assoc, g2]
        exact k3 j hj
      · rw [show x.length + 1 + m - 1 = x.length + 1 + (m - 1) by omega, g2] at hc
        exact hc
      · rw [Nat.add_assoc, g2] at hc
        exact hc

theorem named_one {y0 : UInt8} {d : List UInt8} (hd0 : d ≠ []) : ¬ Named [y0] d := by
  rintro ⟨i, k1, k2, _⟩
  simp at k2
  omega

theorem named_two {y0 y1 : UInt8} {d : List UInt8} (hd0 : d ≠ []) : ¬ Named [y0, y1] d := by
  have : 0 < d.length := List.length_pos_iff.2 hd0
  rintro ⟨i, k1, k2, _⟩
  simp at k2
  omega

theorem named_toks {d : List UInt8} (hd : ∀ c ∈ d, isDig c = true) (hd0 : d ≠ []) : ∀ (x : List UInt8) (r : List (List UInt8)) (x0 : UInt8), isDig x0 = false → (∀ y ∈ x :: r, ∀ c ∈ y, isDig c = true) →
    (Named (x0 :: (Lib.join (x :: r) [44] ++ [93])) d ↔ d ∈ x :: r)
  | x, [], x0, h0, h => by
    rw [Lib.join_one, named_step h0 (by decide) (h x List.mem_cons_self) hd hd0]
    simp [named_one hd0]
  | x, y :: r, x0, h0, h => by
    rw [join_cons2, List.append_assoc, List.cons_append, named_step h0 (by decide) (h x List.mem_cons_self) hd hd0, named_toks hd hd0 y r 44 (by decide) fun z hz => h z (List.mem_cons_of_mem _ hz), List.mem_cons (a := d) (b := x)]

theorem named_text {a k : Nat} (hk : k < 16) : Named (textN a) (Lib.decDigits k) ↔ a.testBit k = true := by
  have e : textN a = 91 :: (Lib.join (toks a) [44] ++ [93]) := by rw [text_eq]; simp
  rw [e]
  have hm : Lib.decDigits k ∈ toks a ↔ a.testBit k = true := by
    rw [toks_mem]
    constructor
    · rintro ⟨j, h1, h2, h3⟩
      rw [dig_inj hk h1 h3]
      exact h2
    · exact fun h => ⟨k, hk, h, rfl⟩
  rw [← hm]
  cases ht : toks a with
  | nil =>
    rw [Lib.join_nil]
    simp only [List.nil_append, List.not_mem_nil, iff_false]
    exact named_two (dig_ne hk)
  | cons x r =>
    refine named_toks (dig_all hk) (dig_ne hk) x r 91 (by decide) fun y hy => ?_
    rw [← ht] at hy
    obtain ⟨j, h1, _, rfl⟩ := toks_mem.1 hy
    exact dig_all h1

theorem join_snoc : ∀ (ys : List (List UInt8)) (y : List UInt8), ys ≠ [] → Lib.join (ys ++ [y]) [44] = Lib.join ys [44] ++ [44] ++ y
  | [], y, h => absurd rfl h
  | [x], y, _ => by
    show Lib.join (x :: y :: []) [44] = _
    rw [join_cons2, Lib.join_one, Lib.join_one]
    simp
  | x :: z :: r, y, _ => by
    have ih := join_snoc (z :: r) y (by simp)
    show Lib.join (x :: z :: (r ++ [y])) [44] = _
    rw [join_cons2, show z :: (r ++ [y]) = (z :: r) ++ [y] from rfl, ih, join_cons2]
    simp

theorem join_take {xs : List (List UInt8)} {j : Nat} (h : j < xs.length) : Lib.join (xs.take (j + 1)) [44] = Lib.join (xs.take j) [44] ++ (if 0 < j then [44] else []) ++ xs[j] := by
  rw [List.take_succ_eq_append_getElem h]
  by_cases h0 : 0 < j
  · rw [if_pos h0, join_snoc _ _ (by
      intro c
      have := congrArg List.length c
      rw [List.length_take, List.length_nil] at this
      omega)]
  · obtain rfl : j = 0 := by omega
    rw [if_neg h0]
    simp [Lib.join_nil, Lib.join_one]
end Go.Moat
