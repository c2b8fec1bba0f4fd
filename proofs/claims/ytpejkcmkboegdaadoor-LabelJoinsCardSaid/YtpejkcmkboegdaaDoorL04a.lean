/- Layer 4: the order of labels; the laws LabelOrder and LabelBounds. -/
import Derived.Test.YtpejkcmkboegdaaDoorP04b
namespace Go.Moat
open Go.Mini

section
variable {N : Nat} {a b c : Int}

def IsLab (a : Int) : Prop := 0 ≤ a ∧ a < 65536
def fl (a b : Int) : Bool := decide (bitI .andNot .u16 a b = 0)
theorem flows_eq (N : Nat) (a b : Int) : F_label_Flows N a b = ret (fl a b) := rfl

theorem fl_iff (ha : IsLab a) (hb : IsLab b) : fl a b = true ↔ ∀ k, k < 16 → a.toNat.testBit k = true → b.toNat.testBit k = true := by
  unfold fl
  rw [decide_eq_true_iff]
  exact andnot_zero ha.1 hb.1

theorem lab_high (ha : IsLab a) {k : Nat} (hk : 16 ≤ k) : a.toNat.testBit k = false := by
  apply Nat.testBit_lt_two_pow
  have h1 : a.toNat < 2 ^ 16 := by have := ha.2; have := ha.1; omega
  exact Nat.lt_of_lt_of_le h1 (Nat.pow_le_pow_right (by omega) hk)

theorem lab_ext (ha : IsLab a) (hb : IsLab b) (h : ∀ k, k < 16 → a.toNat.testBit k = b.toNat.testBit k) : a = b := by
  have e : a.toNat = b.toNat := Nat.eq_of_testBit_eq fun k => by
    by_cases hk : k < 16
    · exact h k hk
    · rw [lab_high ha (by omega), lab_high hb (by omega)]
  have := ha.1; have := hb.1
  omega

theorem lab_of (h : IntKind.u16.has a) : IsLab a := by
  simp [IntKind.has, IntKind.min, IntKind.max, IntKind.signed, IntKind.bits] at h
  unfold IsLab
  omega

theorem fl_refl (ha : IsLab a) : fl a a = true := (fl_iff ha ha).2 fun _ _ h => h
theorem fl_trans (ha : IsLab a) (hb : IsLab b) (hc : IsLab c) (h1 : fl a b = true) (h2 : fl b c = true) : fl a c = true :=
  (fl_iff ha hc).2 fun k hk h => (fl_iff hb hc).1 h2 k hk ((fl_iff ha hb).1 h1 k hk h)
theorem fl_anti (ha : IsLab a) (hb : IsLab b) (h1 : fl a b = true) (h2 : fl b a = true) : a = b :=
  lab_ext ha hb fun k hk => Bool.eq_iff_iff.2 ⟨(fl_iff ha hb).1 h1 k hk, (fl_iff hb ha).1 h2 k hk⟩
theorem lab_zero : IsLab 0 := ⟨by omega, by omega⟩
theorem lab_all : IsLab 65535 := ⟨by omega, by omega⟩
theorem fl_zero (ha : IsLab a) : fl 0 a = true := (fl_iff lab_zero ha).2 fun k _ h => by simp at h
theorem fl_all (ha : IsLab a) : fl a 65535 = true := (fl_iff ha lab_all).2 fun k hk _ => by
  show Nat.testBit 65535 k = true
  have : (65535 : Nat) = 2 ^ 16 - 1 := by decide
  rw [this, Nat.testBit_two_pow_sub_one]
  simpa using hk

theorem order_spec {g : Glob} (hN : 1010 < N) (ha : IsLab a) (hb : IsLab b) (hc : IsLab c) : Tri (stars [GlA g]) (F_moatlaw04_LabelOrder N a b c) fun r => pu (r = true) (stars [GlA g]) := by
  unfold F_moatlaw04_LabelOrder
  refine tri_call [0] (shown_spec hN) fun r => tri_pu fun hr => tri_flat ?_
  subst hr
  simp only [flows_eq]
  have h1 := fl_refl ha
  have h2 := @fl_trans a b c ha hb hc
  have h3 : (fl a b && fl b a) = decide (a = b) := by
    rw [Bool.eq_iff_iff, Bool.and_eq_true, decide_eq_true_iff]
    constructor
    · exact fun h => fl_anti ha hb h.1 h.2
    · rintro rfl
      exact ⟨h1, h1⟩
  have h4 := fl_zero ha
  have h5 := fl_all ha
  refine tri_op (a := true) (fun h => ?_) ?_
  · rw [if_pos trivial, h1]; rfl
  refine tri_op (a := true) (fun h => ?_) ?_
  · rw [if_pos rfl]
    revert h2
    generalize fl a b = x
    generalize fl b c = y
    generalize fl a c = z
    cases x <;> cases y <;> cases z <;> intro h2 <;> first | rfl | exact absurd (h2 rfl rfl) (by simp)
  refine tri_op (a := true) (fun h => ?_) ?_
  · rw [if_pos rfl]
    revert h3
    generalize fl a b = x
    generalize fl b a = y
    generalize decide (a = b) = z
    cases x <;> cases y <;> cases z <;> intro h3 <;> first | rfl | exact absurd h3 (by decide)
  refine tri_op (a := true) (fun h => ?_) ?_
  · rw [if_pos rfl, h4]; rfl
  refine tri_op (a := true) (fun h => ?_) ?_
  · rw [if_pos rfl, h5]; rfl
  exact tri_end [0] fun q hq => ⟨rfl, hq⟩

theorem and_lab (ha : IsLab a) (hb : IsLab b) : bitI .and .u16 a b = ((a.toNat &&& b.toNat : Nat) : Int) ∧ a.toNat &&& b.toNat < 65536 := by
  obtain ⟨n, rfl⟩ : ∃ n : Nat, a = n := ⟨a.toNat, by have := ha.1; omega⟩
  obtain ⟨m, rfl⟩ : ∃ n : Nat, b = n := ⟨b.toNat, by have := hb.1; omega⟩
  have h1 : n < 65536 := by have := ha.2; omega
  have h2 : m < 65536 := by have := hb.2; omega
  rw [Int.toNat_natCast, Int.toNat_natCast]
  exact ⟨and_nat h1 h2, Nat.lt_of_le_of_lt Nat.and_le_left h1⟩
theorem or_lab (ha : IsLab a) (hb : IsLab b) : bitI .or .u16 a b = ((a.toNat ||| b.toNat : Nat) : Int) ∧ a.toNat ||| b.toNat < 65536 := by
  obtain ⟨n, rfl⟩ : ∃ n : Nat, a = n := ⟨a.toNat, by have := ha.1; omega⟩
  obtain ⟨m, rfl⟩ : ∃ n : Nat, b = n := ⟨b.toNat, by have := hb.1; omega⟩
  have h1 : n < 65536 := by have := ha.2; omega
  have h2 : m < 65536 := by have := hb.2; omega
  rw [Int.toNat_natCast, Int.toNat_natCast]
  exact ⟨or_nat h1 h2, Nat.or_lt_two_pow (n := 16) h1 h2⟩

/-- The join and the meet. -/
def jn (a b : Int) : Int := ((a.toNat ||| b.toNat : Nat) : Int)
def mt (a b : Int) : Int := ((a.toNat &&& b.toNat : Nat) : Int)
theorem join_eq (N : Nat) (ha : IsLab a) (hb : IsLab b) : F_label_Join N a b = ret (jn a b) := by
  unfold F_label_Join
  rw [(or_lab ha hb).1]
  rfl
theorem meet_eq (N : Nat) (ha : IsLab a) (hb : IsLab b) : F_label_Meet N a b = ret (mt a b) := by
  unfold F_label_Meet
  rw [(and_lab ha hb).1]
  rfl
theorem jn_lab (ha : IsLab a) (hb : IsLab b) : IsLab (jn a b) := ⟨Int.natCast_nonneg _, by have := (or_lab ha hb).2; unfold jn; omega⟩
theorem mt_lab (ha : IsLab a) (hb : IsLab b) : IsLab (mt a b) := ⟨Int.natCast_nonneg _, by have := (and_lab ha hb).2; unfold mt; omega⟩
theorem jn_bit (a b : Int) (k : Nat) : (jn a b).toNat.testBit k = (a.toNat.testBit k || b.toNat.testBit k) := by unfold jn; rw [Int.toNat_natCast, Nat.testBit_or]
theorem mt_bit (a b : Int) (k : Nat) : (mt a b).toNat.testBit k = (a.toNat.testBit k && b.toNat.testBit k) := by unfold mt; rw [Int.toNat_natCast, Nat.testBit_and]

theorem bounds_spec {g : Glob} (hN : 1010 < N) (ha : IsLab a) (hb : IsLab b) (hc : IsLab c) : Tri (stars [GlA g]) (F_moatlaw04_LabelBounds N a b c) fun r => pu (r = true) (stars [GlA g]) := by
  unfold F_moatlaw04_LabelBounds
  have hj := jn_lab ha hb
  have hm := mt_lab ha hb
  rw [join_eq N ha hb, meet_eq N ha hb]
  refine tri_bdret (tri_bdret ?_)
  refine tri_call [0] (shown_spec hN) fun r => tri_pu fun hr => tri_flat ?_
  subst hr
  simp only [flows_eq, meet_eq N ha hj, join_eq N ha hm]
  have h1 : fl a (jn a b) = true := (fl_iff ha hj).2 fun k _ h => by rw [jn_bit, h]; rfl
  have h2 : fl b (jn a b) = true := (fl_iff hb hj).2 fun k _ h => by rw [jn_bit, h]; simp
  have h3 : fl (mt a b) a = true := (fl_iff hm ha).2 fun k _ h => by rw [mt_bit, Bool.and_eq_true] at h; exact h.1
  have h4 : fl (mt a b) b = true := (fl_iff hm hb).2 fun k _ h => by rw [mt_bit, Bool.and_eq_true] at h; exact h.2
  have h5 : (fl a c && fl b c) = fl (jn a b) c := by
    rw [Bool.eq_iff_iff, Bool.and_eq_true, fl_iff ha hc, fl_iff hb hc, fl_iff hj hc]
    constructor
    · intro h k hk hb2
      rw [jn_bit, Bool.or_eq_true] at hb2
      exact hb2.elim (h.1 k hk) (h.2 k hk)
    · exact fun h => ⟨fun k hk h2 => h k hk (by rw [jn_bit, h2]; rfl), fun k hk h2 => h k hk (by rw [jn_bit, h2]; simp)⟩
  have h6 : (fl c a && fl c b) = fl c (mt a b) := by
    rw [Bool.eq_iff_iff, Bool.and_eq_true, fl_iff hc ha, fl_iff hc hb, fl_iff hc hm]
    constructor
    · intro h k hk hb2
      rw [mt_bit, h.1 k hk hb2, h.2 k hk hb2]
      rfl
    · intro h
      refine ⟨fun k hk h2 => ?_, fun k hk h2 => ?_⟩
      · have := h k hk h2; rw [mt_bit, Bool.and_eq_true] at this; exact this.1
      · have := h k hk h2; rw [mt_bit, Bool.and_eq_true] at this; exact this.2
  have h7 : mt a (jn a b) = a := lab_ext (mt_lab ha hj) ha fun k _ => by rw [mt_bit, jn_bit]; cases a.toNat.testBit k <;> simp
  have h8 : jn a (mt a b) = a := lab_ext (jn_lab ha hm) ha fun k _ => by rw [jn_bit, mt_bit]; cases a.toNat.testBit k <;> simp
  refine tri_op (a := false) (fun h => ?_) ?_
  · rw [h1]; rfl
  refine tri_op (a := false) (fun h => ?_) ?_
  · rw [h2]; rfl
  refine tri_op (a := false) (fun h => ?_) ?_
  · rw [h3]; rfl
  refine tri_op (a := false) (fun h => ?_) ?_
  · rw [h4]; rfl
  refine tri_f (by simp) (tri_bdret ?_)
  refine tri_op (a := (fl a c && fl b c)) (fun h => ?_) (tri_bdret ?_)
  · cases fl a c <;> rfl
  rw [h5]
  refine tri_op (a := true) (fun h => ?_) ?_
  · rw [if_pos (by simp)]
    revert h6
    generalize fl c a = x
    generalize fl c b = y
    generalize fl c (mt a b) = z
    cases x <;> cases y <;> cases z <;> intro h6 <;> first | rfl | exact absurd h6 (by decide)
  refine tri_op (a := true) (fun h => ?_) ?_
  · rw [if_pos rfl, h7]
    show some (decide (a = a), h) = _
    simp
  refine tri_op (a := true) (fun h => ?_) ?_
  · rw [if_pos rfl, h8]
    show some (decide (a = a), h) = _
    simp
  exact tri_end [0] fun q hq => ⟨rfl, hq⟩
end
end Go.Moat
