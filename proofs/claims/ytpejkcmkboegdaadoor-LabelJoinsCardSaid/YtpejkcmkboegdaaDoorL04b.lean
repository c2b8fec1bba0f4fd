/- Layer 4: the order of labels; the law LabelStands. -/
import Derived.Test.YtpejkcmkboegdaaDoorL04a
namespace Go.Moat
open Go.Mini

section
variable {N : Nat} {a b c : Int}

def onesT : List UInt8 := [0, 1, 1, 2, 1, 2, 2, 3, 1, 2, 2, 3, 2, 3, 3, 4, 1, 2, 2, 3, 2, 3, 3, 4, 2, 3, 3, 4, 3, 4, 4, 5, 1, 2, 2, 3, 2, 3, 3, 4, 2, 3, 3, 4, 3, 4, 4, 5, 2, 3, 3, 4, 3, 4, 4, 5, 3, 4, 4, 5, 4, 5, 5, 6, 1, 2, 2, 3, 2, 3, 3, 4, 2, 3, 3, 4, 3, 4, 4, 5, 2, 3, 3, 4, 3, 4, 4, 5, 3, 4, 4, 5, 4, 5, 5, 6, 2, 3, 3, 4, 3, 4, 4, 5, 3, 4, 4, 5, 4, 5, 5, 6, 3, 4, 4, 5, 4, 5, 5, 6, 4, 5, 5, 6, 5, 6, 6, 7, 1, 2, 2, 3, 2, 3, 3, 4, 2, 3, 3, 4, 3, 4, 4, 5, 2, 3, 3, 4, 3, 4, 4, 5, 3, 4, 4, 5, 4, 5, 5, 6, 2, 3, 3, 4, 3, 4, 4, 5, 3, 4, 4, 5, 4, 5, 5, 6, 3, 4, 4, 5, 4, 5, 5, 6, 4, 5, 5, 6, 5, 6, 6, 7, 2, 3, 3, 4, 3, 4, 4, 5, 3, 4, 4, 5, 4, 5, 5, 6, 3, 4, 4, 5, 4, 5, 5, 6, 4, 5, 5, 6, 5, 6, 6, 7, 3, 4, 4, 5, 4, 5, 5, 6, 4, 5, 5, 6, 5, 6, 6, 7, 4, 5, 5, 6, 5, 6, 6, 7, 5, 6, 6, 7, 6, 7, 7, 8]
theorem ones_eq (N : Nat) (vx_1 : Int) : F_math_bits_OnesCount16 N vx_1 = bd (idxS onesT (shrI .u16 vx_1 (8 : Int))) fun c_2 => bd (idxS onesT (bitI .and .u16 vx_1 (255 : Int))) fun c_3 => ret (wr .i64 (wr .u8 (c_2 + c_3))) := rfl
def pc8 (b : Nat) : Nat := ((List.range 8).filter fun k => b.testBit k).length
theorem ones_tab : ∀ i : Fin 256, (onesT[i.val]?).map UInt8.toNat = some (pc8 i.val) := by decide +kernel

theorem pc8_le (b : Nat) : pc8 b ≤ 8 := by
  unfold pc8
  exact Nat.le_trans (List.length_filter_le _ _) (by simp)

theorem cats_pc (n : Nat) : (cats n).length = pc8 (n / 256) + pc8 (n % 256) := by
  unfold cats catTo pc8
  rw [List.length_map, show List.range 16 = List.range 8 ++ (List.range 8).map (· + 8) by decide, List.filter_append, List.length_append, List.filter_map, List.length_map, Nat.add_comm]
  congr 2
  · apply List.filter_congr
    intro k hk
    rw [show n / 256 = n / 2 ^ 8 from rfl, Nat.testBit_div_two_pow]
    rfl
  · apply List.filter_congr
    intro k hk
    rw [List.mem_range] at hk
    rw [show n % 256 = n % 2 ^ 8 from rfl, Nat.testBit_mod_two_pow]
    simp [hk]

theorem ones_spec (ha : IsLab a) (h : Hp) : F_math_bits_OnesCount16 N a h = some (((cats a.toNat).length : Int), h) := by
  obtain ⟨n, rfl⟩ : ∃ n : Nat, a = n := ⟨a.toNat, by have := ha.1; omega⟩
  have hn : n < 65536 := by have := ha.2; omega
  have e1 : shrI .u16 (n : Int) (8 : Int) = ((n / 256 : Nat) : Int) := by
    unfold shrI
    show Int.fdiv (n : Int) (2 ^ 8) = _
    rw [Int.fdiv_eq_ediv_of_nonneg _ (by decide)]
    rfl
  have e2 : bitI .and .u16 (n : Int) (255 : Int) = ((n % 256 : Nat) : Int) := by
    rw [show (255 : Int) = ((255 : Nat) : Int) from rfl, and_nat hn (by decide)]
    have : n &&& 255 = n % 256 := by
      have := Nat.and_two_pow_sub_one_eq_mod n 8
      simpa using this
    rw [this]
  have get : ∀ m : Nat, m < 256 → ∀ h : Hp, idxS onesT (m : Int) h = some ((pc8 m : Int), h) := by
    intro m hm h
    have := ones_tab ⟨m, hm⟩
    dsimp only at this
    rw [Option.map_eq_some_iff] at this
    obtain ⟨u, h1, h2⟩ := this
    unfold idxS
    rw [if_pos (by omega), Int.toNat_natCast, h1]
    show some ((u.toNat : Int), h) = _
    rw [h2]
  have l1 := pc8_le (n / 256)
  have l2 := pc8_le (n % 256)
  rw [ones_eq, e1, e2]
  simp only [bd]
  rw [get _ (by omega)]
  dsimp only
  rw [get _ (Nat.mod_lt _ (by decide))]
  dsimp only
  have e3 : wr .i64 (wr .u8 ((pc8 (n / 256) : Int) + (pc8 (n % 256) : Int))) = ((pc8 (n / 256) + pc8 (n % 256) : Nat) : Int) := by
    have : wr .u8 ((pc8 (n / 256) : Int) + (pc8 (n % 256) : Int)) = ((pc8 (n / 256) + pc8 (n % 256) : Nat) : Int) := by
      unfold wr IntKind.wrap IntKind.bits IntKind.signed
      simp only [Bool.false_and, Bool.false_eq_true, if_false]
      rw [Int.emod_eq_of_lt (by omega) (by omega)]
      omega
    rw [this, wr64 (by omega) (by omega)]
  rw [e3, Int.toNat_natCast, cats_pc]
  rfl

/-- The order of lists. -/
def lexLt : List Int → List Int → Bool
  | [], [] => false
  | [], _ :: _ => true
  | _ :: _, [] => false
  | x :: r, y :: t => if x < y then true else if y < x then false else lexLt r t

theorem lex_irr : ∀ l : List Int, lexLt l l = false
  | [] => rfl
  | x :: r => by unfold lexLt; rw [if_neg (by omega), if_neg (by omega)]; exact lex_irr r
theorem lex_tot : ∀ l k : List Int, lexLt l k = false → lexLt k l = false → l = k
  | [], [], _, _ => rfl
  | [], _ :: _, h, _ => by cases h
  | _ :: _, [], _, h => by cases h
  | x :: r, y :: t, h, h2 => by
    unfold lexLt at h h2
    by_cases h3 : x < y
    · rw [if_pos h3] at h; cases h
    · by_cases h4 : y < x
      · rw [if_pos h4] at h2; cases h2
      · rw [if_neg h3, if_neg h4] at h
        rw [if_neg h4, if_neg h3] at h2
        obtain rfl : x = y := by omega
        rw [lex_tot r t h h2]
theorem lex_trans : ∀ l k m : List Int, lexLt l k = true → lexLt k m = true → lexLt l m = true
  | [], [], _, h, _ => by cases h
  | [], _ :: _, [], _, h => by cases h
  | [], _ :: _, _ :: _, _, _ => rfl
  | _ :: _, [], _, h, _ => by cases h
  | _ :: _, _ :: _, [], _, h => by cases h
  | x :: r, y :: t, z :: u, h, h2 => by
    unfold lexLt at h h2 ⊢
    by_cases h3 : x < y
    · by_cases h5 : z < y
      · rw [if_neg (by omega), if_pos h5] at h2; cases h2
      · rw [if_pos (by omega)]
    · rw [if_neg h3] at h
      by_cases h4 : y < x
      · rw [if_pos h4] at h; cases h
      · rw [if_neg h4] at h
        obtain rfl : x = y := by omega
        by_cases h5 : x < z
        · rw [if_pos h5]
        · rw [if_neg h5] at h2 ⊢
          by_cases h6 : z < x
          · rw [if_pos h6] at h2; cases h2
          · rw [if_neg h6] at h2 ⊢
            exact lex_trans r t u h h2

theorem cmpI_op (x y : Int) (h : Hp) : F_cmp_Compare_int N x y h = some (if x < y then (-1 : Int) else if y < x then 1 else 0, h) := by
  unfold F_cmp_Compare_int F_cmp_isNaN_int
  simp only [bd, ret, decide_true, Bool.not_true, Bool.false_eq_true, if_false, decide_eq_true_eq]
  split
  · rfl
  · split <;> rfl

theorem lex_drop {ks js : List Int} {j : Nat} (h1 : j < ks.length) (h2 : j < js.length) : lexLt (ks.drop j) (js.drop j) = if ks[j] < js[j] then true else if js[j] < ks[j] then false else lexLt (ks.drop (j + 1)) (js.drop (j + 1)) := by
  rw [List.drop_eq_getElem_cons h1, List.drop_eq_getElem_cons h2]
  rfl

/-- slices.Compare -/
theorem compare_spec {s t : Sl} {ks js : List Int} (hN : ks.length + 2 < N) (hk : ks.length < 1000000) : Tri (stars [OwnA s 1 (ints ks), OwnA t 1 (ints js)]) (F_slices_Compare_Lint_int N s t) fun r => pu (decide (r < 0) = lexLt ks js) (stars [OwnA s 1 (ints ks), OwnA t 1 (ints js)]) := by
  unfold F_slices_Compare_Lint_int
  refine own_lenI 0 rfl fun hs => own_lenI 1 rfl fun ht => ?_
  have loop : ∀ (K : Nat) (j : Nat), ks.length + 1 - j < K → j ≤ ks.length → lexLt ks js = lexLt (ks.drop j) (js.drop j) → j ≤ js.length → Tri (stars [OwnA s 1 (ints ks), OwnA t 1 (ints js)]) (iter K (fun go_4 (v_3 : Int) => if (decide (v_3 < (s.len : Int))) = true then (bd (idx 1 s v_3) fun q_5 => bd (ldI .i64 q_5) fun (y_6 : Int) => if (decide ((t.len : Int) ≤ v_3)) = true then (ret ((Sum.inr (1 : Int)))) else (bd (idx 1 t v_3) fun q_7 => bd (ldI .i64 q_7) fun (y_8 : Int) => bd (F_cmp_Compare_int N y_6 y_8) fun r_9 => if (!decide (r_9 = (0 : Int))) = true then (ret (Sum.inr r_9)) else (go_4 (wr .i64 (v_3 + (1 : Int)))))) else (ret ((Sum.inl ())))) (j : Int))
      fun x => pu (match x with | .inl _ => lexLt ks js = decide (ks.length < js.length) | .inr r => decide (r < 0) = lexLt ks js) (stars [OwnA s 1 (ints ks), OwnA t 1 (ints js)]) := by
    intro K
    induction K with
    | zero => intro j hj; omega
    | succ K ih =>
      intro j hj h1 e h2
      show Tri _ (if _ then _ else _) _
      by_cases hj2 : j < ks.length
      · refine tri_t (by simp [hs]; omega) (tri_own_I 0 rfl hj2 ?_)
        by_cases hj3 : j < js.length
        · refine tri_f (by simp [ht]; omega) (tri_own_I 1 rfl hj3 ?_)
          rw [lex_drop hj2 hj3] at e
          refine tri_op (cmpI_op (N := N) ks[j] js[j]) ?_
          by_cases h3 : ks[j] < js[j]
          · rw [if_pos h3] at e ⊢
            exact tri_t (by simp) (tri_ret fun q hq => ⟨by rw [e]; rfl, hq⟩)
          · by_cases h4 : js[j] < ks[j]
            · rw [if_neg h3, if_pos h4] at e ⊢
              exact tri_t (by simp) (tri_ret fun q hq => ⟨by rw [e]; rfl, hq⟩)
            · rw [if_neg h3, if_neg h4] at e ⊢
              refine tri_f (by simp) ?_
              rw [wr64 (by omega) (by omega)]
              exact ih (j + 1) (by omega) (by omega) e (by omega)
        · refine tri_t (by simp [ht]; omega) (tri_ret fun q hq => ⟨?_, hq⟩)
          rw [e, List.drop_eq_nil_of_le (as := js) (by omega), List.drop_eq_getElem_cons hj2]
          rfl
      · refine tri_f (by simp [hs]; omega) (tri_ret fun q hq => ⟨?_, hq⟩)
        obtain rfl : j = ks.length := by omega
        show lexLt ks js = _
        rw [e, List.drop_length]
        by_cases h3 : ks.length < js.length
        · rw [List.drop_eq_getElem_cons h3]
          simp [h3, lexLt]
        · rw [List.drop_eq_nil_of_le (by omega)]
          simp [h3, lexLt]
  refine tri_call [0, 0] (loop N 0 (by omega) (by omega) rfl (by omega)) fun x => tri_pu fun hx => tri_flat ?_
  cases x with
  | inl u =>
    by_cases h3 : ks.length < js.length
    · exact tri_t (by simp [hs, ht]; omega) (tri_end [0, 0] fun q hq => ⟨by rw [hx]; simp [h3], hq⟩)
    · exact tri_f (by simp [hs, ht]; omega) (tri_end [0, 0] fun q hq => ⟨by rw [hx]; simp [h3], hq⟩)
  | inr r => exact tri_end [0, 0] fun q hq => ⟨hx, hq⟩

/-- Stands one label ahead of another? -/
def ls (a b : Int) : Bool := if (cats a.toNat).length = (cats b.toNat).length then lexLt (cats a.toNat) (cats b.toNat) else decide ((cats a.toNat).length < (cats b.toNat).length)

theorem less_spec (ha : IsLab a) (hb : IsLab b) (hN : 1010 < N) : Tri (stars []) (F_label_Less N a b) fun r => pu (r = ls a b) (stars []) := by
  unfold F_label_Less
  refine tri_op (ones_spec (N := N) ha) (tri_op (ones_spec (N := N) hb) ?_)
  unfold ls
  by_cases h : (cats a.toNat).length = (cats b.toNat).length
  · refine tri_f (by simp [h]) ?_
    rw [if_pos h]
    refine tri_call [] (list_spec ha.1 ha.2 (by omega)) fun s => tri_flat ?_
    refine tri_call [] (list_spec hb.1 hb.2 (by omega)) fun t => tri_flat ?_
    have hl := cats_len a.toNat
    refine tri_call [1, 0] (compare_spec (by omega) (by omega)) fun r => tri_pu fun hr => tri_flat (tri_end [] fun q hq => ⟨hr, hq⟩)
  · refine tri_t (by simp; omega) ?_
    rw [if_neg h]
    refine tri_ret fun q hq => ⟨?_, hq⟩
    simp

theorem cats_mem {n k : Nat} : (k : Int) ∈ cats n ↔ k < 16 ∧ n.testBit k = true := by
  unfold cats catTo
  rw [List.mem_map]
  constructor
  · rintro ⟨j, hj, e⟩
    rw [List.mem_filter, List.mem_range] at hj
    obtain rfl : j = k := by omega
    exact hj
  · rintro ⟨h1, h2⟩
    exact ⟨k, by rw [List.mem_filter, List.mem_range]; exact ⟨h1, h2⟩, rfl⟩

theorem cats_inj (ha : IsLab a) (hb : IsLab b) (h : cats a.toNat = cats b.toNat) : a = b := by
  refine lab_ext ha hb fun k hk => Bool.eq_iff_iff.2 ⟨fun h1 => ?_, fun h1 => ?_⟩
  · have := cats_mem.2 ⟨hk, h1⟩
    rw [h] at this
    exact (cats_mem.1 this).2
  · have := cats_mem.2 ⟨hk, h1⟩
    rw [← h] at this
    exact (cats_mem.1 this).2

theorem ls_irr (a : Int) : ls a a = false := by unfold ls; rw [if_pos rfl]; exact lex_irr _
theorem ls_trans (h1 : ls a b = true) (h2 : ls b c = true) : ls a c = true := by
  unfold ls at *
  split at h1
  · rename_i e1
    split at h2
    · rename_i e2
      rw [if_pos (e1.trans e2)]
      exact lex_trans _ _ _ h1 h2
    · rename_i e2
      rw [decide_eq_true_iff] at h2
      rw [if_neg (by omega), decide_eq_true_iff]
      omega
  · rename_i e1
    rw [decide_eq_true_iff] at h1
    split at h2
    · rename_i e2
      rw [if_neg (by omega), decide_eq_true_iff]
      omega
    · rename_i e2
      rw [decide_eq_true_iff] at h2
      rw [if_neg (by omega), decide_eq_true_iff]
      omega
theorem ls_asy (h1 : ls a b = true) : ls b a = false := by
  cases h : ls b a with
  | false => rfl
  | true => have := ls_trans h1 h; rw [ls_irr] at this; cases this
theorem ls_tot (ha : IsLab a) (hb : IsLab b) (h1 : ls a b = false) (h2 : ls b a = false) : a = b := by
  unfold ls at *
  by_cases e : (cats a.toNat).length = (cats b.toNat).length
  · rw [if_pos e] at h1
    rw [if_pos e.symm] at h2
    exact cats_inj ha hb (lex_tot _ _ h1 h2)
  · rw [if_neg e, decide_eq_false_iff_not] at h1
    rw [if_neg (by omega), decide_eq_false_iff_not] at h2
    omega
theorem ls_fl (ha : IsLab a) (hb : IsLab b) (hne : a ≠ b) (h : fl a b = true) : ls a b = true := by
  have e : (List.range 16).filter (fun k => a.toNat.testBit k) = ((List.range 16).filter fun k => b.toNat.testBit k).filter fun k => a.toNat.testBit k := by
    rw [List.filter_filter]
    apply List.filter_congr
    intro k hk
    rw [List.mem_range] at hk
    cases hak : a.toNat.testBit k with
    | false => rfl
    | true => rw [(fl_iff ha hb).1 h k hk hak]; rfl
  have hsub : ((List.range 16).filter fun k => a.toNat.testBit k).Sublist ((List.range 16).filter fun k => b.toNat.testBit k) := by
    rw [e]
    exact List.filter_sublist
  have hle := hsub.length_le
  have hl : ∀ n : Nat, (cats n).length = ((List.range 16).filter fun k => n.testBit k).length := fun n => by unfold cats catTo; rw [List.length_map]
  unfold ls
  rw [hl, hl]
  by_cases e2 : ((List.range 16).filter fun k => a.toNat.testBit k).length = ((List.range 16).filter fun k => b.toNat.testBit k).length
  · exact absurd (cats_inj ha hb (by unfold cats catTo; rw [hsub.eq_of_length e2])) hne
  · rw [if_neg e2, decide_eq_true_iff]
    omega

variable {A : HA} {β α γ : Type} {S : β → HA} {l : List HA}
theorem tri_bif_t {p : Prop} [Decidable p] {m n : M α} {f : α → M β} (h : p) (k : Tri A (bd m f) S) : Tri A (bd (if p then m else n) f) S := by rw [if_pos h]; exact k
theorem tri_bif_f {p : Prop} [Decidable p] {m n : M α} {f : α → M β} (h : ¬ p) (k : Tri A (bd n f) S) : Tri A (bd (if p then m else n) f) S := by rw [if_neg h]; exact k
theorem tri_assoc {m : M α} {f : α → M γ} {g : γ → M β} (k : Tri A (bd m fun a => bd (f a) g) S) : Tri A (bd (bd m f) g) S := by rw [bd_assoc]; exact k
theorem tri_less (ha : IsLab a) (hb : IsLab b) (hN : 1010 < N) {v : Bool} (h : ls a b = v) {f : Bool → M β} (k : Tri (stars l) (f v) S) : Tri (stars l) (bd (F_label_Less N a b) f) S := by
  refine tri_call [] (less_spec ha hb hN) fun r => tri_pu fun hr => tri_flat ?_
  rw [hr, h]
  exact k

set_option maxHeartbeats 2000000 in
theorem stands_spec {g : Glob} (hN : 1010 < N) (ha : IsLab a) (hb : IsLab b) (hc : IsLab c) : Tri (stars [GlA g]) (F_moatlaw04_LabelStands N a b c) fun r => pu (r = true) (stars [GlA g]) := by
  unfold F_moatlaw04_LabelStands
  refine tri_call [0] (shown_spec hN) fun r => tri_pu fun hr => tri_flat ?_
  subst hr
  rw [flows_eq]
  have h0 := ls_irr a
  have h1 := @ls_asy a b
  have h2 := @ls_trans a b c
  have h3 := ls_tot ha hb
  have h4 := ls_fl ha hb
  have h5 : a = b → ls a b = false ∧ ls b a = false := fun e => by subst e; exact ⟨h0, h0⟩
  show Tri (stars [GlA g]) _ _
  cases hd : decide (a = b) with
  | true =>
    rw [decide_eq_true_iff] at hd
    obtain ⟨h6, h7⟩ := h5 hd
    subst hd
    cases h8 : ls a c <;> cases h9 : fl a a
    all_goals
      repeat first
        | refine tri_bif_t (by decide) ?_
        | refine tri_bif_f (by decide) ?_
        | refine tri_t (by decide) ?_
        | refine tri_f (by decide) ?_
        | refine tri_less ha ha hN h0 ?_
        | refine tri_less ha hc hN h8 ?_
        | refine tri_bdret ?_
        | refine tri_assoc ?_
        | exact tri_ret fun q hq => ⟨rfl, hq⟩
  | false =>
    have hne : a ≠ b := of_decide_eq_false hd
    cases h6 : ls a b <;> cases h7 : ls b a <;> cases h8 : ls b c <;> cases h9 : ls a c <;> cases h10 : fl a b
    all_goals first
      | exact absurd (h3 h6 h7) hne
      | (have := h1 h6; rw [h7] at this; cases this; done)
      | (have := h2 h6 h8; rw [h9] at this; cases this; done)
      | (have := h4 hne h10; rw [h6] at this; cases this; done)
      | (repeat first
          | refine tri_bif_t (by decide) ?_
          | refine tri_bif_f (by decide) ?_
          | refine tri_t (by decide) ?_
          | refine tri_f (by decide) ?_
          | refine tri_less ha ha hN h0 ?_
          | refine tri_less ha hb hN h6 ?_
          | refine tri_less hb ha hN h7 ?_
          | refine tri_less hb hc hN h8 ?_
          | refine tri_less ha hc hN h9 ?_
          | refine tri_bdret ?_
          | refine tri_assoc ?_
          | exact tri_ret fun q hq => ⟨rfl, hq⟩)
end
end Go.Moat
