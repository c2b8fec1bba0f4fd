/- Layer 4: the laws LabelSets and LabelJoins. -/
import Derived.Test.YtpejkcmkboegdaaDoorP04c
namespace Go.Moat
open Go.Mini

section
variable {N : Nat} {a b c : Int}

theorem rd_take {T : HA} {s : Sl} {ks : List Int} (hr : RdI T s ks) {n : Nat} (hn : n ≤ ks.length) : RdI T ⟨s.p.map (·.add ((0 : Int).toNat * 1)), n⟩ (ks.take n) := by
  intro h q hq hh
  obtain ⟨h1, h2⟩ := hr h q hq hh
  refine ⟨by rw [List.length_take]; dsimp only; omega, fun i hi => ?_⟩
  have hi' : i < n := by rw [List.length_take] at hi; omega
  have := h2 i (by omega)
  obtain ⟨p, ln⟩ := s
  cases p with
  | none => simp [bd, idx, fail] at this
  | some ad =>
    simp only [bd, idx, ret] at this ⊢
    dsimp only at h1
    rw [if_pos (by omega)] at this
    simp only [Option.map_some]
    rw [if_pos (by omega)]
    have e : (ad.add ((0 : Int).toNat * 1)).add ((i : Int).toNat * 1) = ad.add ((i : Int).toNat * 1) := by simp [MA.add]
    rw [e]
    rw [List.getElem_take]
    exact this

theorem tri_rda {β γ : Type} {l : List HA} {S : β → HA} (n : Nat) {T : HA} {s : Sl} {ks : List Int} (hl : l[n]? = some T) (hr : RdI T s ks) {i : Nat} (hi : i < ks.length) {f : Int → M γ} {g : γ → M β} (kk : Tri (stars l) (bd (f ks[i]) g) S) : Tri (stars l) (bd (bd (idx 1 s (i : Int)) fun q => bd (ldI .i64 q) f) g) S := by
  have e : bd (bd (idx 1 s (i : Int)) fun q => bd (ldI .i64 q) f) g = bd (idx 1 s (i : Int)) fun q => bd (ldI .i64 q) fun y => bd (f y) g := by
    rw [bd_assoc]
    congr 1
    funext q
    rw [bd_assoc]
  rw [e]
  exact tri_rd n hl hr hi kk

theorem or_same {n k : Nat} (h : n.testBit k = true) : n ||| 2 ^ k = n := by
  apply Nat.eq_of_testBit_eq
  intro i
  rw [Nat.testBit_or, two_bit]
  by_cases hi : k = i
  · subst hi; simp [h]
  · simp [hi]

/-- moatref04.Of -/
theorem rof_spec {T : HA} {s : Sl} {ks : List Int} (hr : RdI T s ks) (hN : ks.length + 1 < N) (hN2 : 1010 < N) (hk : ks.length < 1000000) : Tri (stars [T]) (F_moatref04_Of N s) fun r => pu (r = ofR (ofN 0 ks)) (stars [T]) := by
  unfold F_moatref04_Of
  refine tri_rlen 0 rfl hr fun hs => ?_
  have loop : ∀ (K : Nat) (j : Nat) (a : Nat), ks.length - j < K → j ≤ ks.length → a < 65536 → ofN 0 ks = ofN a (ks.drop j) → Tri (stars [T]) (iter K (fun go_3 (v_2 : Int × Int) => if (decide (v_2.2 < (s.len : Int))) = true then (bd (idx 1 s v_2.2) fun q_4 => bd (ldI .i64 q_4) fun (y_5 : Int) => bd (if (decide (y_5 < (0 : Int))) = false then (bd (idx 1 s v_2.2) fun q_6 => bd (ldI .i64 q_6) fun (y_7 : Int) => ret ((decide ((16 : Int) ≤ y_7)))) else ret true) fun c_8 => if c_8 = true then (ret ((Sum.inr (((0 : Int), (1 : Int)))))) else (bd (idx 1 s v_2.2) fun q_9 => bd (ldI .i64 q_9) fun (y_10 : Int) => bd (F_moatref04_Has N v_2.1 y_10) fun r_11 => bd (show M (Int) from if (!r_11) = true then (bd (idx 1 s v_2.2) fun q_12 => bd (ldI .i64 q_12) fun (y_13 : Int) => bd (F_moatref04_with N v_2.1 y_13) fun r_14 => ret r_14) else (ret v_2.1)) fun j_15 => go_3 ((j_15, wr .i64 (v_2.2 + (1 : Int)))))) else (ret (Sum.inl v_2.1))) ((a : Int), (j : Int)))
      fun r => pu (match r with | .inl x => ofN 0 ks = some x.toNat ∧ 0 ≤ x | .inr r => ofN 0 ks = none ∧ r = ((0 : Int), (1 : Int))) (stars [T]) := by
    intro K
    induction K with
    | zero => intro j a hj; omega
    | succ K ih =>
      intro j a hj h1 ha e
      show Tri _ (if _ then _ else _) _
      by_cases hj2 : j < ks.length
      · refine tri_t (by simp [hs]; omega) (tri_rd 0 rfl hr hj2 ?_)
        rw [List.drop_eq_getElem_cons hj2, ofN_cons] at e
        rw [wr64 (by omega) (by omega)]
        by_cases hc : ks[j] < 0 ∨ 16 ≤ ks[j]
        · rw [if_pos hc] at e
          refine Tri.bd (Q := fun r : Bool => pu (r = true) (stars [T])) ?_ fun r => tri_p fun hr2 => tri_t hr2 (tri_ret fun q hq => ⟨⟨e, rfl⟩, hq⟩)
          by_cases h0 : ks[j] < 0
          · exact tri_f (by simp [h0]) (tri_ret fun q hq => ⟨rfl, hq⟩)
          · refine tri_t (by simp; omega) (tri_rd 0 rfl hr hj2 ?_)
            exact tri_ret fun q hq => ⟨decide_eq_true (by omega), hq⟩
        · rw [if_neg hc] at e
          refine tri_bif_t (by simp; omega) (tri_rda 0 rfl hr hj2 (tri_bdret (tri_f (by simp; omega) (tri_rd 0 rfl hr hj2 ?_))))
          obtain ⟨k, hk1, hk2⟩ : ∃ k : Nat, ks[j] = k ∧ k < 16 := ⟨ks[j].toNat, by omega, by omega⟩
          rw [hk1] at e ⊢
          rw [Int.toNat_natCast] at e
          refine tri_op (fun h => has04_spec (N := N) (a := (a : Int)) (by omega) (by omega) (by omega) (by omega) h) ?_
          rw [Int.toNat_natCast]
          cases hb : a.testBit k with
          | true =>
            refine tri_bif_f (by simp) (tri_bdret ?_)
            rw [or_same hb] at e
            exact ih (j + 1) _ (by omega) (by omega) ha e
          | false =>
            refine tri_bif_t (by simp) (tri_rda 0 rfl hr hj2 ?_)
            rw [hk1]
            refine tri_assoc (tri_op (with_op ha hk2 hb hN2) (tri_bdret ?_))
            exact ih (j + 1) _ (by omega) (by omega) (add_bit ha hk2 hb).2 e
      · obtain rfl : j = ks.length := by omega
        rw [List.drop_length] at e
        exact tri_f (by simp [hs]) (tri_ret fun q hq => ⟨⟨by rw [Int.toNat_natCast]; exact e, Int.natCast_nonneg _⟩, hq⟩)
  refine tri_call [0] (loop N 0 0 (by omega) (by omega) (by omega) rfl) fun r => tri_pu fun hr => tri_flat ?_
  cases r with
  | inl x =>
    refine tri_end [0] fun q hq => ⟨?_, hq⟩
    rw [hr.1]
    show (x, (0 : Int)) = ((x.toNat : Int), 0)
    rw [Int.toNat_of_nonneg hr.2]
  | inr x =>
    refine tri_end [0] fun q hq => ⟨?_, hq⟩
    rw [hr.1, hr.2]
    rfl

theorem rflows_op (ha : IsLab a) (hb : IsLab b) (hN : 1010 < N) (h : Hp) : F_moatref04_Flows N a b h = some (fl a b, h) := flows04_spec (by omega) ha hb h

theorem bits_done {n : Nat} {v : Int} (hv : IsLab v) (hb : ∀ i, n.testBit i = true ↔ i < 16 ∧ v.toNat.testBit i = true) : (n : Int) = v := by
  have : n = v.toNat := by
    apply Nat.eq_of_testBit_eq
    intro i
    rw [Bool.eq_iff_iff, hb]
    constructor
    · exact fun h => h.2
    · intro h
      refine ⟨?_, h⟩
      by_cases hi : i < 16
      · exact hi
      · rw [lab_high hv (by omega)] at h; cases h
  rw [this]
  exact Int.toNat_of_nonneg hv.1

/-- One round of a loop over the categories: the bit j is set if r. -/
theorem bits_next {n j : Nat} {r : Bool} {p : Nat → Bool} (hb : ∀ i, n.testBit i = true ↔ i < j ∧ p i = true) (hr : r = p j) : ∀ i, (if r = true then n ||| 2 ^ j else n).testBit i = true ↔ i < j + 1 ∧ p i = true := by
  intro i
  subst hr
  by_cases hp : p j = true
  · rw [if_pos hp, Nat.testBit_or, two_bit, Bool.or_eq_true, hb, decide_eq_true_iff]
    constructor
    · rintro (h | rfl)
      · exact ⟨by omega, h.2⟩
      · exact ⟨by omega, hp⟩
    · rintro ⟨h2, h3⟩
      by_cases h4 : j = i
      · exact .inr h4
      · exact .inl ⟨by omega, h3⟩
  · rw [if_neg hp, hb]
    constructor
    · exact fun h => ⟨by omega, h.2⟩
    · rintro ⟨h2, h3⟩
      refine ⟨?_, h3⟩
      by_cases h4 : i = j
      · subst h4; exact absurd h3 hp
      · omega

theorem rjoin_spec (ha : IsLab a) (hb : IsLab b) (hN : 1010 < N) : Tri (stars []) (F_moatref04_Join N a b) fun r => pu (r = jn a b) (stars []) := by
  unfold F_moatref04_Join
  have loop : ∀ (K : Nat) (j : Nat) (n : Nat), 17 - j < K → j ≤ 16 → n < 65536 → (∀ i, n.testBit i = true ↔ i < j ∧ (jn a b).toNat.testBit i = true) →
      Tri (stars []) (iter K (fun go_4 (v_3 : Int × Int) => if (decide (v_3.2 < (16 : Int))) = true then (bd (F_moatref04_Has N a v_3.2) fun r_5 => bd (if r_5 = false then (bd (F_moatref04_Has N b v_3.2) fun r_6 => ret r_6) else ret true) fun c_7 => bd (show M (Int) from if c_7 = true then (bd (F_moatref04_with N v_3.1 v_3.2) fun r_8 => ret r_8) else (ret v_3.1)) fun j_9 => go_4 ((j_9, wr .i64 (v_3.2 + (1 : Int))))) else (ret v_3.1)) ((n : Int), (j : Int)))
      fun r => pu (r = jn a b) (stars []) := by
    intro K
    induction K with
    | zero => intro j n hj; omega
    | succ K ih =>
      intro j n hj h1 hn hbt
      show Tri _ (if _ then _ else _) _
      by_cases hj2 : j < 16
      · refine tri_t (by simp; omega) (tri_op (fun h => has04_spec (N := N) (by omega) ha.1 ha.2 (by omega) h) ?_)
        refine tri_op (a := (jn a b).toNat.testBit j) (fun h => ?_) ?_
        · rw [jn_bit]
          cases a.toNat.testBit j with
          | true => rfl
          | false =>
            rw [if_pos rfl]
            simp only [bd, has04_spec (N := N) (by omega) hb.1 hb.2 (show j ≤ 16 by omega) h, ret, Bool.false_or]
        rw [wr64 (by omega) (by omega)]
        have hnx := bits_next (p := fun i => (jn a b).toNat.testBit i) hbt rfl
        cases h3 : (jn a b).toNat.testBit j with
        | true =>
          have hbj : n.testBit j = false := by
            cases h : n.testBit j with
            | false => rfl
            | true => have := ((hbt j).1 h).1; omega
          rw [h3, if_pos rfl] at hnx
          refine tri_bif_t rfl (tri_assoc (tri_op (with_op hn hj2 hbj hN) (tri_bdret ?_)))
          exact ih (j + 1) _ (by omega) (by omega) (add_bit hn hj2 hbj).2 hnx
        | false =>
          rw [h3, if_neg (by simp)] at hnx
          refine tri_bif_f (by simp) (tri_bdret ?_)
          exact ih (j + 1) _ (by omega) (by omega) hn hnx
      · obtain rfl : j = 16 := by omega
        exact tri_f (by simp) (tri_ret fun q hq => ⟨bits_done (jn_lab ha hb) hbt, hq⟩)
  refine tri_call [] (loop N 0 0 (by omega) (by omega) (by omega) fun i => by simp) fun r => tri_pu fun hr => tri_flat (tri_end [] fun q hq => ⟨hr, hq⟩)

theorem rmeet_spec (ha : IsLab a) (hb : IsLab b) (hN : 1010 < N) : Tri (stars []) (F_moatref04_Meet N a b) fun r => pu (r = mt a b) (stars []) := by
  unfold F_moatref04_Meet
  have loop : ∀ (K : Nat) (j : Nat) (n : Nat), 17 - j < K → j ≤ 16 → n < 65536 → (∀ i, n.testBit i = true ↔ i < j ∧ (mt a b).toNat.testBit i = true) →
      Tri (stars []) (iter K (fun go_4 (v_3 : Int × Int) => if (decide (v_3.2 < (16 : Int))) = true then (bd (F_moatref04_Has N a v_3.2) fun r_5 => bd (if r_5 = true then (bd (F_moatref04_Has N b v_3.2) fun r_6 => ret r_6) else ret false) fun c_7 => bd (show M (Int) from if c_7 = true then (bd (F_moatref04_with N v_3.1 v_3.2) fun r_8 => ret r_8) else (ret v_3.1)) fun j_9 => go_4 ((j_9, wr .i64 (v_3.2 + (1 : Int))))) else (ret v_3.1)) ((n : Int), (j : Int)))
      fun r => pu (r = mt a b) (stars []) := by
    intro K
    induction K with
    | zero => intro j n hj; omega
    | succ K ih =>
      intro j n hj h1 hn hbt
      show Tri _ (if _ then _ else _) _
      by_cases hj2 : j < 16
      · refine tri_t (by simp; omega) (tri_op (fun h => has04_spec (N := N) (by omega) ha.1 ha.2 (by omega) h) ?_)
        refine tri_op (a := (mt a b).toNat.testBit j) (fun h => ?_) ?_
        · rw [mt_bit]
          cases a.toNat.testBit j with
          | false => rfl
          | true =>
            rw [if_pos rfl]
            simp only [bd, has04_spec (N := N) (by omega) hb.1 hb.2 (show j ≤ 16 by omega) h, ret, Bool.true_and]
        rw [wr64 (by omega) (by omega)]
        have hnx := bits_next (p := fun i => (mt a b).toNat.testBit i) hbt rfl
        cases h3 : (mt a b).toNat.testBit j with
        | true =>
          have hbj : n.testBit j = false := by
            cases h : n.testBit j with
            | false => rfl
            | true => have := ((hbt j).1 h).1; omega
          rw [h3, if_pos rfl] at hnx
          refine tri_bif_t rfl (tri_assoc (tri_op (with_op hn hj2 hbj hN) (tri_bdret ?_)))
          exact ih (j + 1) _ (by omega) (by omega) (add_bit hn hj2 hbj).2 hnx
        | false =>
          rw [h3, if_neg (by simp)] at hnx
          refine tri_bif_f (by simp) (tri_bdret ?_)
          exact ih (j + 1) _ (by omega) (by omega) hn hnx
      · obtain rfl : j = 16 := by omega
        exact tri_f (by simp) (tri_ret fun q hq => ⟨bits_done (mt_lab ha hb) hbt, hq⟩)
  refine tri_call [] (loop N 0 0 (by omega) (by omega) (by omega) fun i => by simp) fun r => tri_pu fun hr => tri_flat (tri_end [] fun q hq => ⟨hr, hq⟩)

/-- moatref04.Less -/
theorem rless_spec (ha : IsLab a) (hb : IsLab b) (hN : 1010 < N) : Tri (stars []) (F_moatref04_Less N a b) fun r => pu (r = ls a b) (stars []) := by
  unfold F_moatref04_Less
  refine tri_call [] (rlist_spec ha hN) fun s => tri_flat ?_
  refine tri_call [] (rlist_spec hb hN) fun t => tri_flat ?_
  refine own_lenI 1 rfl fun hs => own_lenI 0 rfl fun ht => ?_
  have hl := cats_len a.toNat
  unfold ls
  by_cases e : (cats a.toNat).length = (cats b.toNat).length
  case neg =>
    rw [if_neg e]
    exact tri_t (by simp [hs, ht]; omega) (tri_end [] fun q hq => ⟨by simp [hs, ht], hq⟩)
  rw [if_pos e]
  refine tri_f (by simp [hs, ht]; omega) ?_
  generalize cats a.toNat = ks at *
  generalize cats b.toNat = js at *
  have loop : ∀ (K : Nat) (j : Nat), ks.length + 1 - j < K → j ≤ ks.length → lexLt ks js = lexLt (ks.drop j) (js.drop j) → Tri (stars [OwnA s 1 (ints ks), OwnA t 1 (ints js)]) (iter K (fun go_6 (v_5 : Int) => if (decide (v_5 < (s.len : Int))) = true then (bd (idx 1 s v_5) fun q_7 => bd (ldI .i64 q_7) fun (y_8 : Int) => bd (idx 1 t v_5) fun q_9 => bd (ldI .i64 q_9) fun (y_10 : Int) => if (!decide (y_8 = y_10)) = true then (bd (idx 1 s v_5) fun q_11 => bd (ldI .i64 q_11) fun (y_12 : Int) => bd (idx 1 t v_5) fun q_13 => bd (ldI .i64 q_13) fun (y_14 : Int) => ret ((Sum.inr ((decide (y_12 < y_14)))))) else (go_6 (wr .i64 (v_5 + (1 : Int))))) else (ret ((Sum.inl ())))) (j : Int))
      fun x => pu (match x with | .inl _ => lexLt ks js = false | .inr r => r = lexLt ks js) (stars []) := by
    intro K
    induction K with
    | zero => intro j hj; omega
    | succ K ih =>
      intro j hj h1 e2
      show Tri _ (if _ then _ else _) _
      by_cases hj2 : j < ks.length
      · refine tri_t (by simp [hs]; omega) (tri_own_I 0 rfl hj2 (tri_own_I 1 rfl (show j < js.length by omega) ?_))
        rw [lex_drop hj2 (show j < js.length by omega)] at e2
        by_cases h3 : ks[j] = js[j]'(by omega)
        · refine tri_f (by simp [h3]) ?_
          rw [if_neg (by omega), if_neg (by omega)] at e2
          rw [wr64 (by omega) (by omega)]
          exact ih (j + 1) (by omega) (by omega) e2
        · refine tri_t (by simp [h3]) (tri_own_I 0 rfl hj2 (tri_own_I 1 rfl (show j < js.length by omega) (tri_end [] fun q hq => ⟨?_, hq⟩)))
          dsimp only
          rw [e2]
          by_cases h4 : ks[j] < js[j]'(by omega)
          · rw [if_pos h4]; simp [h4]
          · rw [if_neg h4, if_pos (by omega)]; simp [h4]
      · refine tri_f (by simp [hs]; omega) (tri_end [] fun q hq => ⟨?_, hq⟩)
        obtain rfl : j = ks.length := by omega
        dsimp only
        rw [e2, List.drop_length, List.drop_eq_nil_of_le (by omega)]
        rfl
  refine tri_call [1, 0] (loop N 0 (by omega) (by omega) rfl) fun x => tri_pu fun hx => tri_flat ?_
  cases x with
  | inl u => exact tri_end [] fun q hq => ⟨hx.symm, hq⟩
  | inr r => exact tri_end [] fun q hq => ⟨hx, hq⟩

theorem same_spec {s t : Sl} {ks js : List Int} (hN : ks.length < N) (hk : ks.length < 4611686018427387904) : Tri (stars [OwnA s 1 (ints ks), OwnA t 1 (ints js)]) (F_moatlaw04_same N s t) fun r => pu (r = decide (ks = js)) (stars [OwnA s 1 (ints ks), OwnA t 1 (ints js)]) := own_same hN hk

theorem cut_slc {s : Sl} {n : Nat} (hs : s.len = n) (h : Hp) : slc 1 s (0 : Int) ((if (100 : Int) < (s.len : Int) then (100 : Int) else (s.len : Int))) h = some (⟨s.p.map (·.add ((0 : Int).toNat * 1)), min n 100⟩, h) := by
  unfold slc
  by_cases hl : 100 < s.len
  · rw [if_pos (show (100 : Int) < (s.len : Int) by omega), if_pos (by omega)]
    rw [show min n 100 = 100 by omega]
    rfl
  · rw [if_neg (show ¬ (100 : Int) < (s.len : Int) by omega), if_pos (by omega)]
    rw [show min n 100 = s.len by omega]
    show some (_, h) = _
    rw [show ((s.len : Int) - 0).toNat = s.len by omega]

theorem sets_spec {g : Glob} {T : HA} {s : Sl} {ks : List Int} (hr : RdI T s ks) (hN : 1010 < N) (ha : IsLab a) (hb : IsLab b) : Tri (stars [GlA g, T]) (F_moatlaw04_LabelSets N s a b) fun r => pu (r = true) (stars [GlA g]) := by
  unfold F_moatlaw04_LabelSets
  refine tri_rlen 1 rfl hr fun hs => ?_
  refine tri_op (cut_slc hs) ?_
  have hr2 := rd_take hr (n := min ks.length 100) (by omega)
  have hl2 : (ks.take (min ks.length 100)).length ≤ 100 := by rw [List.length_take]; omega
  refine tri_call [1] (of_spec hr2 (by omega) (by omega)) fun r5 => tri_pu fun h5 => tri_flat ?_
  refine tri_call [0] (rof_spec hr2 (by omega) hN (by omega)) fun r6 => tri_pu fun h6 => tri_flat ?_
  refine tri_call [1] (shown_spec hN) fun r7 => tri_pu fun h7 => tri_flat ?_
  refine tri_bif_t (by rw [h7, h5, h6]; simp) (tri_assoc ?_)
  refine tri_last [0] ?_
  refine tri_call [] (list_spec ha.1 ha.2 (by omega)) fun p => tri_flat ?_
  refine tri_assoc (tri_call [] (rlist_spec ha hN) fun p2 => tri_flat ?_)
  have hcl := cats_len a.toNat
  refine tri_assoc (tri_call [1, 0] (same_spec (by omega) (by omega)) fun r => tri_pu fun hsm => tri_flat (tri_bdret ?_))
  have hsm' : r = true := by rw [hsm]; simp
  subst hsm'
  refine tri_last [2] ?_
  rw [flows_eq, join_eq N ha hb, meet_eq N ha hb]
  refine tri_bif_t rfl (tri_assoc (tri_bdret (tri_assoc (tri_op (rflows_op ha hb hN) (tri_bdret ?_)))))
  refine tri_bif_t (by simp) (tri_assoc (tri_bdret (tri_assoc (tri_call [] (rjoin_spec ha hb hN) fun j => tri_pu fun hj => tri_flat (tri_bdret ?_)))))
  refine tri_bif_t (by simp [hj]) (tri_assoc (tri_bdret (tri_assoc (tri_call [] (rmeet_spec ha hb hN) fun j2 => tri_pu fun hj2 => tri_flat (tri_bdret ?_)))))
  refine tri_bif_t (by simp [hj2]) (tri_assoc (tri_less ha hb hN rfl (tri_assoc (tri_call [] (rless_spec ha hb hN) fun l => tri_pu fun hl => tri_flat (tri_bdret ?_)))))
  exact tri_end [0] fun q hq => ⟨by rw [hl]; simp, hq⟩
end
end Go.Moat

/- Layer 4: the law LabelJoins. -/
namespace Go.Moat
open Go.Mini

section
variable {N : Nat} {a b c : Int}

theorem ofN_append : ∀ (vs : List Int) (k : Int) (a : Nat), ofN a (vs ++ [k]) = (ofN a vs).bind fun b => ofN b [k]
  | [], k, a => rfl
  | v :: r, k, a => by
    show ofN a (v :: (r ++ [k])) = _
    rw [ofN_cons, ofN_cons]
    split
    · rfl
    · exact ofN_append r k _

theorem ofN_one (a : Nat) (k : Int) : ofN a [k] = if k < 0 ∨ 16 ≤ k then none else some (a ||| 2 ^ k.toNat) := rfl

theorem fl_one {n k : Nat} (hn : n < 65536) (hk : k < 16) : fl ((2 ^ k : Nat) : Int) (n : Int) = n.testBit k := by
  have hp : 2 ^ k < 65536 := Nat.pow_lt_pow_right (a := 2) (n := 16) (by omega) hk
  rw [Bool.eq_iff_iff, fl_iff ⟨Int.natCast_nonneg _, by omega⟩ ⟨by omega, by omega⟩, Int.toNat_natCast, Int.toNat_natCast]
  constructor
  · exact fun h => h k hk (by rw [two_bit]; simp)
  · intro h i hi h2
    rw [two_bit, decide_eq_true_iff] at h2
    rw [← h2]
    exact h

theorem fl_cats (ha : IsLab a) {n : Nat} (hn : n < 65536) : fl a (n : Int) = (cats a.toNat).all fun k => n.testBit k.toNat := by
  rw [Bool.eq_iff_iff, fl_iff ha ⟨by omega, by omega⟩, List.all_eq_true, Int.toNat_natCast]
  constructor
  · intro h k hk
    have := cats_lt hk
    exact h k.toNat (by omega) this.2.2
  · intro h k hk h2
    have := h (k : Int) (cats_mem.2 ⟨hk, h2⟩)
    rwa [Int.toNat_natCast] at this

theorem joins1 {T : HA} {s : Sl} {ks : List Int} (hr : RdI T s ks) (hN : 1010 < N) (hs : s.len = ks.length) : ∀ (K : Nat) (j : Nat) (n : Nat) (p : Sl) (vs : List Int), 102 - j < K → j ≤ ks.length → j ≤ 100 → vs.length ≤ j → ofN 0 vs = some n → Tri (stars [OwnA p 1 (ints vs), T]) (iter K (fun go_5 (v_4 : Int × Sl × Int) => if (decide (v_4.2.2 < (s.len : Int))) = true then (bd (show M ((Int × Sl) ⊕ (Int × Sl)) from bd (idx 1 s v_4.2.2) fun q_6 => bd (ldI .i64 q_6) fun (y_7 : Int) => if (decide ((100 : Int) ≤ v_4.2.2)) = true then (ret ((Sum.inr (v_4.1, v_4.2.1)))) else (bd (alloc [MV.int .i64 y_7]) fun q_8 => bd (F_label_Of N (⟨q_8, 1⟩)) fun r_9 => if (!decide (r_9.2 = (0 : Int))) = true then (ret ((Sum.inl (v_4.1, v_4.2.1)))) else (bd (alloc [MV.int .i64 y_7]) fun q_10 => bd (app 1 8 v_4.2.1 (⟨q_10, 1⟩)) fun s1 => bd (F_label_Join N v_4.1 r_9.1) fun r_12 => ret ((Sum.inl (r_12, s1)))))) fun j_13 => (match j_13 with | Sum.inl j_14 => go_5 ((j_14.1, j_14.2, wr .i64 (v_4.2.2 + (1 : Int)))) | Sum.inr j_15 => ret (j_15.1, j_15.2))) else (ret (v_4.1, v_4.2.1))) ((n : Int), p, (j : Int)))
    fun x => exA fun y : Nat × List Int => pu (x.1 = (y.1 : Int) ∧ ofN 0 y.2 = some y.1 ∧ y.2.length ≤ 100) (stars [OwnA x.2 1 (ints y.2), T]) := by
  intro K
  induction K with
  | zero => intro j n p vs hj; omega
  | succ K ih =>
    intro j n p vs hj h1 h2 h3 h4
    have hn := ofN_lt vs 0 n (by omega) h4
    show Tri _ (if _ then _ else _) _
    by_cases hj2 : j < ks.length
    · refine tri_t (by simp [hs]; omega) (tri_rda 1 rfl hr hj2 ?_)
      by_cases hj3 : j = 100
      · refine tri_bif_t (by simp; omega) (tri_bdret (tri_end [0, 0] fun q hq => ⟨(n, vs), ⟨rfl, h4, show vs.length ≤ 100 by omega⟩, hq⟩))
      · refine tri_bif_f (by simp; omega) (tri_assoc (tri_alloc fun b => ?_))
        refine tri_assoc (tri_call [0] (of_spec (ks := [ks[j]]) (rd_pts (o := 0) rfl rfl (by simp)) (by simp; omega) (by simp)) fun r9 => tri_pu fun h9 => tri_flat ?_)
        rw [ofN_one] at h9
        by_cases hc : ks[j] < 0 ∨ 16 ≤ ks[j]
        · rw [if_pos hc] at h9
          subst h9
          refine tri_bif_t (by simp [ofR]) (tri_bdret ?_)
          dsimp only
          rw [wr64 (by omega) (by omega)]
          exact tri_last [1, 1] (ih (j + 1) n p vs (by omega) (by omega) (by omega) (by omega) h4)
        · rw [if_neg hc, Nat.zero_or] at h9
          subst h9
          refine tri_bif_f (by simp [ofR]) (tri_assoc (tri_alloc fun b2 => ?_))
          refine own_lenI 2 rfl fun hp => ?_
          refine tri_assoc (tri_call [2, 0] (pts_app (by omega) (by simp) (by simp [isCell]) (by unfold most; omega)) fun p2 => tri_flat ?_)
          obtain ⟨k, hk1, hk2⟩ : ∃ k : Nat, ks[j] = k ∧ k < 16 := ⟨ks[j].toNat, by omega, by omega⟩
          have hpw : 2 ^ k < 65536 := Nat.pow_lt_pow_right (a := 2) (n := 16) (by omega) hk2
          rw [hk1, Int.toNat_natCast]
          rw [show (ofR (some (2 ^ k))).1 = ((2 ^ k : Nat) : Int) from rfl, join_eq N ⟨by omega, by omega⟩ ⟨Int.natCast_nonneg _, by omega⟩]
          refine tri_assoc (tri_bdret (tri_bdret ?_))
          dsimp only
          rw [wr64 (by omega) (by omega), show jn (n : Int) ((2 ^ k : Nat) : Int) = ((n ||| 2 ^ k : Nat) : Int) by unfold jn; rw [Int.toNat_natCast, Int.toNat_natCast]]
          refine tri_last [0, 2] ((ih (j + 1) (n ||| 2 ^ k) p2 (vs ++ [(k : Int)]) (by omega) (by omega) (by omega) (by simp; omega) ?_).pre fun q hq => ?_)
          · rw [ofN_append, h4]
            show ofN n [(k : Int)] = _
            rw [ofN_one, if_neg (by omega), Int.toNat_natCast]
          · have e : ints (vs ++ [(k : Int)]) = ints vs ++ [MV.int .i64 (k : Int)].take (1 * 1) := by simp [ints]
            rw [e]
            exact hq
    · exact tri_f (by simp [hs]; omega) (tri_ret fun q hq => ⟨(n, vs), ⟨rfl, h4, show vs.length ≤ 100 by omega⟩, hq⟩)

theorem joins2 (ha : IsLab a) {n : Nat} (hn : n < 65536) (hN : 1010 < N) {p : Sl} (hp : p.len = (cats a.toNat).length) : ∀ (K : Nat) (j : Nat) (ok : Bool), 17 - j < K → j ≤ (cats a.toNat).length → ok = ((cats a.toNat).take j).all (fun k => n.testBit k.toNat) → Tri (stars [OwnA p 1 (ints (cats a.toNat))]) (iter K (fun go_20 (v_19 : Bool × Int) => if (decide (v_19.2 < (p.len : Int))) = true then (bd (idx 1 p v_19.2) fun q_21 => bd (ldI .i64 q_21) fun (y_22 : Int) => bd (alloc [MV.int .i64 y_22]) fun q_23 => bd (F_label_Of N (⟨q_23, 1⟩)) fun r_24 => bd (if (v_19.1 && (decide (r_24.2 = (0 : Int)))) = true then (bd (F_label_Flows N r_24.1 (n : Int)) fun r_25 => ret r_25) else ret false) fun c_26 => go_20 ((c_26, wr .i64 (v_19.2 + (1 : Int))))) else (ret v_19.1)) (ok, (j : Int)))
    fun x => pu (x = (cats a.toNat).all fun k => n.testBit k.toNat) (stars []) := by
  have hcl := cats_len a.toNat
  intro K
  induction K with
  | zero => intro j ok hj; omega
  | succ K ih =>
    intro j ok hj h1 hok
    show Tri _ (if _ then _ else _) _
    by_cases hj2 : j < (cats a.toNat).length
    · have hk := cats_lt (List.getElem_mem hj2)
      refine tri_t (by simp [hp]; omega) (tri_own_I 0 rfl hj2 (tri_alloc fun b => ?_))
      refine tri_call [0] (of_spec (ks := [(cats a.toNat)[j]]) (rd_pts (o := 0) rfl rfl (by simp)) (by simp; omega) (by simp)) fun r => tri_pu fun hr => tri_flat ?_
      rw [ofN_one, if_neg (by omega), Nat.zero_or] at hr
      subst hr
      have e1 : fl (ofR (some (2 ^ (cats a.toNat)[j].toNat))).1 (n : Int) = n.testBit (cats a.toNat)[j].toNat := fl_one hn (by omega)
      refine tri_op (a := (ok && n.testBit (cats a.toNat)[j].toNat)) (fun h => ?_) ?_
      · rw [flows_eq, e1]
        cases ok <;> rfl
      · rw [wr64 (by omega) (by omega)]
        refine tri_last [1] (ih (j + 1) _ (by omega) (by omega) ?_)
        rw [List.take_succ_eq_append_getElem hj2, List.all_append, hok]
        simp
    · refine tri_f (by simp [hp]; omega) (tri_end [] fun q hq => ⟨?_, hq⟩)
      rw [hok, List.take_of_length_le (by omega)]

theorem joins_spec {g : Glob} {T : HA} {s : Sl} {ks : List Int} (hr : RdI T s ks) (hN : 1010 < N) (ha : IsLab a) : Tri (stars [GlA g, T]) (F_moatlaw04_LabelJoins N s a) fun r => pu (r = true) (stars [GlA g]) := by
  unfold F_moatlaw04_LabelJoins
  refine tri_rlen 1 rfl hr fun hs => ?_
  refine tri_call [0] (shown_spec hN) fun r3 => tri_pu fun h3 => tri_flat ?_
  refine tri_call [1] ((joins1 hr hN hs N 0 0 ⟨none, 0⟩ [] (by omega) (by omega) (by omega) (by simp) rfl).pre fun q hq => ?_) fun x => ?_
  · exact ent_emp (fun q h => .nil _ h) hq
  refine tri_ex fun y => tri_pu fun hy => tri_flat ?_
  obtain ⟨n, vs⟩ := y
  obtain ⟨h1, h2, h4⟩ := hy
  dsimp only at h1 h2 h4
  have hn := ofN_lt vs 0 n (by omega) h2
  refine tri_call [0] (of_spec (ks := vs) rd_own (by omega) (by omega)) fun r => tri_pu fun h5 => tri_flat ?_
  rw [h2] at h5
  subst h5
  refine tri_f (by rw [h1]; simp [ofR]) ?_
  refine tri_call [] (list_spec ha.1 ha.2 (by omega)) fun p => tri_flat ?_
  refine own_lenI 0 rfl fun hp => ?_
  refine tri_call [0] (joins2 ha hn hN hp N 0 true (by omega) (by omega) rfl) fun ok => tri_pu fun hok => tri_flat ?_
  refine tri_bif_t h3 ?_
  rw [flows_eq, show (ofR (some n)).1 = (n : Int) from rfl, fl_cats ha hn, ← hok]
  refine tri_assoc (tri_bdret (tri_bdret ?_))
  exact tri_last [2] (tri_ret fun q hq => ⟨by simp, hq⟩)
end
end Go.Moat
