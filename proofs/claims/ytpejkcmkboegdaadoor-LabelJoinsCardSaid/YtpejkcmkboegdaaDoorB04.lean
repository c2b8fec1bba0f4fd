/- The laws' own toolkit: bits. -/
import Derived.Test.YtpejkcmkboegdaaDoorMLW
import Derived.Test.YtpejkcmkboegdaaDoorD04
namespace Go.Moat
open Go.Mini

theorem nat_wr {j : Nat} (h : j < 1000000) : wr .i64 ((j : Int) + 1) = ((j + 1 : Nat) : Int) := by rw [wr64 (by omega) (by omega)]; simp

theorem ofInt_bit {w : Nat} {a : Int} (ha : 0 ≤ a) (i : Nat) : (BitVec.ofInt w a).getLsbD i = (decide (i < w) && a.toNat.testBit i) := by
  obtain ⟨n, rfl⟩ : ∃ n : Nat, a = n := ⟨a.toNat, by omega⟩
  rw [BitVec.ofInt_natCast, BitVec.getLsbD_ofNat, Int.toNat_natCast]

theorem u16_wrap {n : Nat} (h : n < 65536) : IntKind.u16.wrap (n : Int) = n := by
  unfold IntKind.wrap IntKind.bits IntKind.signed
  simp only [Bool.false_and]
  have e : (2 : Int) ^ 16 = 65536 := by decide
  rw [e, Int.emod_eq_of_lt (by omega) (by omega)]
  simp

/-- a &^ b == 0 -/
theorem andnot_zero {a b : Int} (ha : 0 ≤ a) (hb : 0 ≤ b) : bitI .andNot .u16 a b = 0 ↔ ∀ k, k < 16 → a.toNat.testBit k = true → b.toNat.testBit k = true := by
  have e : bitI .andNot .u16 a b = (((BitVec.ofInt 16 a &&& ~~~ BitVec.ofInt 16 b).toNat : Nat) : Int) := by
    unfold bitI
    exact u16_wrap (BitVec.isLt (BitVec.ofInt 16 a &&& ~~~ BitVec.ofInt 16 b))
  rw [e]
  constructor
  · intro h k hk hak
    have h0 : (BitVec.ofInt 16 a &&& ~~~ BitVec.ofInt 16 b) = 0#16 := BitVec.eq_of_toNat_eq (by simpa using h)
    have h1 := congrArg (fun x => BitVec.getLsbD x k) h0
    simp only [BitVec.getLsbD_and, BitVec.getLsbD_not, ofInt_bit ha, ofInt_bit hb, hk, decide_true, Bool.true_and, hak, BitVec.getLsbD_zero] at h1
    simpa using h1
  · intro h
    have h0 : (BitVec.ofInt 16 a &&& ~~~ BitVec.ofInt 16 b) = 0#16 := by
      apply BitVec.eq_of_getLsbD_eq
      intro k hk
      simp only [BitVec.getLsbD_and, BitVec.getLsbD_not, ofInt_bit ha, ofInt_bit hb, hk, decide_true, Bool.true_and, BitVec.getLsbD_zero]
      cases hak : a.toNat.testBit k with
      | false => simp
      | true => simp [h k hk hak]
    rw [h0]
    rfl

/-- The document's bit. -/
theorem has04_spec {N : Nat} (hN : 16 < N) {a : Int} (h0 : 0 ≤ a) (h1 : a < 65536) {k : Nat} (hk : k ≤ 16) (h : Hp) : F_moatref04_Has N a k h = some (a.toNat.testBit k, h) := by
  suffices Wp (F_moatref04_Has N a k) h fun r h' => r = a.toNat.testBit k ∧ h' = h by
    obtain ⟨r, h', e, rfl, rfl⟩ := this
    exact e
  unfold F_moatref04_Has
  rw [wr64 (by omega) (by omega)]
  refine w_bd_mono (R := fun r h' => r = ((a.toNat / 2 ^ k : Nat) : Int) ∧ h' = h) ?_ ?_
  · refine w_iter (fun (v : Int × Int) h' => h' = h ∧ ∃ i : Nat, v = (((a.toNat / 2 ^ i : Nat) : Int), (i : Int)) ∧ i ≤ k) (fun v => k - v.2.toNat) ?_ N (a, (0 : Int)) h ⟨rfl, 0, by simp [Int.toNat_of_nonneg h0], Nat.zero_le _⟩ (by show k - 0 < N; omega)
    rintro v h' ⟨rfl, i, rfl, hi⟩ rec hrec
    by_cases hik : i < k
    · simp only [Int.ofNat_lt, hik, decide_true, if_true]
      have e1 : ((a.toNat / 2 ^ i : Nat) : Int).tdiv 2 = ((a.toNat / 2 ^ (i + 1) : Nat) : Int) := by
        rw [Nat.pow_succ, ← Nat.div_div_eq_div_mul]
        generalize a.toNat / 2 ^ i = q
        rw [Int.tdiv_eq_ediv_of_nonneg (Int.natCast_nonneg q)]
        rfl
      have hlt : a.toNat / 2 ^ (i + 1) ≤ a.toNat := Nat.div_le_self _ _
      have hw : wr .i64 ((a.toNat / 2 ^ (i + 1) : Nat) : Int) = ((a.toNat / 2 ^ (i + 1) : Nat) : Int) := by
        generalize a.toNat / 2 ^ (i + 1) = q at hlt
        exact wr64 (by omega) (by omega)
      rw [e1, hw, nat_wr (by omega)]
      exact hrec _ _ ⟨rfl, i + 1, rfl, by omega⟩ (by show k - (i + 1) < k - i; omega)
    · obtain rfl : i = k := by omega
      simp only [Int.lt_irrefl, decide_false, Bool.false_eq_true, if_false]
      exact w_ret ⟨rfl, rfl⟩
  · rintro r h' ⟨rfl, rfl⟩
    refine w_ret ⟨?_, rfl⟩
    rw [Nat.testBit_eq_decide_div_mod_eq]
    have : (((a.toNat / 2 ^ k : Nat) : Int).tmod 2 = 1) ↔ a.toNat / 2 ^ k % 2 = 1 := by
      generalize a.toNat / 2 ^ k = q
      rw [Int.tmod_eq_emod_of_nonneg (Int.natCast_nonneg q)]
      omega
    simp only [this]

/-- The document's order of labels is the code's. -/
theorem flows04_spec {N : Nat} (hN : 16 < N) {a b : Int} (ha : 0 ≤ a ∧ a < 65536) (hb : 0 ≤ b ∧ b < 65536) (h : Hp) : F_moatref04_Flows N a b h = some (decide (bitI .andNot .u16 a b = 0), h) := by
  suffices Wp (F_moatref04_Flows N a b) h fun r h' => r = decide (bitI .andNot .u16 a b = 0) ∧ h' = h by
    obtain ⟨r, h', e, rfl, rfl⟩ := this
    exact e
  have hz := andnot_zero ha.1 hb.1
  unfold F_moatref04_Flows
  refine w_bd_mono (R := fun r h' => h' = h ∧ ((r = Sum.inl () ∧ bitI .andNot .u16 a b = 0) ∨ (r = Sum.inr false ∧ bitI .andNot .u16 a b ≠ 0))) ?_ ?_
  · refine w_iter (fun (v : Int) h' => h' = h ∧ ∃ i : Nat, v = (i : Int) ∧ i ≤ 16 ∧ ∀ k, k < i → a.toNat.testBit k = true → b.toNat.testBit k = true) (fun v => 16 - v.toNat) ?_ N (0 : Int) h ⟨rfl, 0, rfl, by omega, fun k hk => by omega⟩ (by show 16 - 0 < N; omega)
    rintro v h' ⟨rfl, i, rfl, hi, hall⟩ rec hrec
    by_cases hi16 : i < 16
    · have hi' : (i : Int) < 16 := by omega
      simp only [hi', decide_true, if_true]
      refine w_bd_eq (has04_spec hN ha.1 ha.2 (by omega) h') ?_
      have hnext : (a.toNat.testBit i = true → b.toNat.testBit i = true) → Wp (rec (wr .i64 ((i : Int) + 1))) h' fun r h2 => h2 = h' ∧ ((r = Sum.inl () ∧ bitI .andNot .u16 a b = 0) ∨ (r = Sum.inr false ∧ bitI .andNot .u16 a b ≠ 0)) := by
        intro hc
        rw [wr64 (by omega) (by omega)]
        refine hrec _ _ ⟨rfl, i + 1, by simp, by omega, fun k hk => ?_⟩ (by show 16 - ((i : Int) + 1).toNat < 16 - (i : Int).toNat; omega)
        by_cases e : k = i
        · subst e; exact hc
        · exact hall k (by omega)
      cases hai : a.toNat.testBit i with
      | false =>
        simp only [Bool.false_eq_true, if_false]
        refine w_bd_ret ?_
        simp only [Bool.false_eq_true, if_false]
        exact hnext (fun c => by rw [hai] at c; cases c)
      | true =>
        simp only [if_true]
        refine w_bd_eq (a := !b.toNat.testBit i) (h' := h') (by simp only [bd, has04_spec hN hb.1 hb.2 (show i ≤ 16 by omega) h', ret]) ?_
        cases hbi : b.toNat.testBit i with
        | true =>
          simp only [Bool.not_true, Bool.false_eq_true, if_false]
          exact hnext (fun _ => hbi)
        | false =>
          simp only [Bool.not_false, if_true]
          refine w_ret ⟨rfl, .inr ⟨rfl, fun c => ?_⟩⟩
          have := hz.1 c i hi16 hai
          rw [hbi] at this
          cases this
    · have hi' : ¬ (i : Int) < 16 := by omega
      simp only [hi', decide_false, Bool.false_eq_true, if_false]
      obtain rfl : i = 16 := by omega
      exact w_ret ⟨rfl, .inl ⟨rfl, hz.2 hall⟩⟩
  · rintro r h' ⟨rfl, ⟨rfl, hh⟩ | ⟨rfl, hh⟩⟩
    · exact w_ret ⟨by simp [hh], rfl⟩
    · exact w_ret ⟨by simp [hh], rfl⟩

end Go.Moat
