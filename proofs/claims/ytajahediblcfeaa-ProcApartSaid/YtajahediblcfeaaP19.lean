/- Layer 19: what the table of processes is in memory; what each of its functions comes to. -/
import Derived.Test.YtajahediblcfeaaD19
import Derived.Test.YtajahediblcfeaaMLB
namespace Go.Moat
open Go.Mini

/-- A table of processes: their labels, what they have open. -/
structure Tab (h : Hp) (t pb : Nat) (cs : List MV) (n : Nat) (lab : Nat → Int) (fd : Nat → Nat → Option (Int × Int)) (bl : Nat → Nat → Nat) : Prop where
  tb : h.get t = .cells [.sl (some ⟨pb, 0⟩) n 9] false
  pc : h.get pb = .cells cs false
  len : cs.length = n * 9
  labs : ∀ i, i < n → cs[i * 9]? = some (.int .u16 (lab i))
  ptrs : ∀ i j, i < n → j < 8 → cs[i * 9 + 1 + j]? = some (.ptr ((fd i j).map fun _ => ⟨bl i j, 0⟩))
  fds : ∀ i j x, i < n → j < 8 → fd i j = some x → h.get (bl i j) = .cells [.int .i64 x.1, .int .i64 x.2] false ∧ bl i j ≠ t ∧ bl i j ≠ pb
  inj : ∀ i j i' j', i < n → j < 8 → i' < n → j' < 8 → fd i j ≠ none → fd i' j' ≠ none → bl i j = bl i' j' → i = i' ∧ j = j'
  ne : t ≠ pb
  big : n ≤ 8

/-- The blocks of a table. -/
def Tab.blocks (t pb n : Nat) (fd : Nat → Nat → Option (Int × Int)) (bl : Nat → Nat → Nat) (b : Nat) : Prop := b = t ∨ b = pb ∨ ∃ i j, i < n ∧ j < 8 ∧ fd i j ≠ none ∧ b = bl i j

def TabP (h : Hp) (t n : Nat) (lab : Nat → Int) (fd : Nat → Nat → Option (Int × Int)) (fp : Nat → Prop) : Prop :=
  ∃ pb cs bl, Tab h t pb cs n lab fd bl ∧ (∀ b, Tab.blocks t pb n fd bl b → fp b) ∧ ∀ b, fp b → b < h.size

theorem Tab.frame {h h' : Hp} {t pb n : Nat} {cs : List MV} {lab fd bl} (T : Tab h t pb cs n lab fd bl) (same : ∀ b, Tab.blocks t pb n fd bl b → h'.get b = h.get b) : Tab h' t pb cs n lab fd bl :=
  ⟨by rw [same t (.inl rfl)]; exact T.tb, by rw [same pb (.inr (.inl rfl))]; exact T.pc, T.len, T.labs, T.ptrs,
    fun i j x hi hj hx => by rw [same _ (.inr (.inr ⟨i, j, hi, hj, by rw [hx]; simp, rfl⟩))]; exact T.fds i j x hi hj hx, T.inj, T.ne, T.big⟩

theorem TabP.frame {h h' : Hp} {t n : Nat} {lab fd fp} (T : TabP h t n lab fd fp) (hs : h.size ≤ h'.size) (same : ∀ b, fp b → h'.get b = h.get b) : TabP h' t n lab fd fp := by
  obtain ⟨pb, cs, bl, T, h1, h2⟩ := T
  exact ⟨pb, cs, bl, T.frame fun b hb => same b (h1 b hb), h1, fun b hb => Nat.lt_of_lt_of_le (h2 b hb) hs⟩

/-- Why something is not open. -/
def whyT (n : Nat) (fd : Nat → Nat → Option (Int × Int)) (p k : Int) : Int :=
  if p < 0 ∨ (n : Int) ≤ p then 1 else if k < 0 ∨ 8 ≤ k ∨ fd p.toNat k.toNat = none then 2 else 0

theorem why_yes {n : Nat} {fd : Nat → Nat → Option (Int × Int)} {p k : Int} (hw : whyT n fd p k = 0) : ∃ i j : Nat, p = i ∧ k = j ∧ i < n ∧ j < 8 ∧ ∃ x, fd i j = some x := by
  unfold whyT at hw
  split at hw
  · cases hw
  · split at hw
    · cases hw
    · rename_i h1 h2
      refine ⟨p.toNat, k.toNat, by omega, by omega, by omega, by omega, ?_⟩
      cases hf : fd p.toNat k.toNat with
      | none => exact absurd (.inr (.inr hf)) h2
      | some x => exact ⟨x, rfl⟩

section
variable {h : Hp} {t pb n : Nat} {cs : List MV} {lab : Nat → Int} {fd : Nat → Nat → Option (Int × Int)} {bl : Nat → Nat → Nat} (T : Tab h t pb cs n lab fd bl) (N : Nat)
include T

theorem tab_ld : ldL 9 (some ⟨t, 0⟩) h = some (⟨some ⟨pb, 0⟩, n⟩, h) := ldL_eq T.tb rfl

theorem one_no {p : Int} (hp : p < 0 ∨ (n : Int) ≤ p) : F_proc_Table_one N (some ⟨t, 0⟩) p h = some ((none, 1), h) := by
  unfold F_proc_Table_one
  by_cases h0 : p < 0
  · simp [h0, bd, ret]
  · have h1 : (n : Int) ≤ p := by omega
    simp [h0, h1, bd, ret, nonNil_eq, fld_eq, tab_ld T]

theorem one_yes {i : Nat} (hi : i < n) : F_proc_Table_one N (some ⟨t, 0⟩) i h = some ((some ⟨pb, i * 9⟩, 0), h) := by
  unfold F_proc_Table_one
  have h0 : ¬ ((i : Int) < 0) := by omega
  have h1 : ¬ (n ≤ i) := by omega
  simp [h1, bd, ret, nonNil_eq, fld_eq, tab_ld T, idx_nat hi]

theorem ptr_ld {i j : Nat} (hi : i < n) (hj : j < 8) : ldP (some ⟨pb, i * 9 + 1 + j⟩) h = some ((fd i j).map fun _ => ⟨bl i j, 0⟩, h) := ldP_eq T.pc (T.ptrs i j hi hj)

theorem has_no {p k : Int} (hw : whyT n fd p k ≠ 0) : F_proc_Table_has N (some ⟨t, 0⟩) p k h = some ((none, whyT n fd p k), h) := by
  unfold F_proc_Table_has
  unfold whyT at hw ⊢
  by_cases hp : p < 0 ∨ (n : Int) ≤ p
  · simp [bd, ret, one_no T N hp, hp]
  · rw [if_neg hp] at hw ⊢
    obtain ⟨i, rfl⟩ : ∃ i : Nat, p = i := ⟨p.toNat, by omega⟩
    have hi : i < n := by omega
    by_cases hk : k < 0
    · simp [bd, ret, one_yes T N hi, hk]
    · by_cases hk8 : 8 ≤ k
      · simp [bd, ret, one_yes T N hi, hk, hk8]
      · obtain ⟨j, rfl⟩ : ∃ j : Nat, k = j := ⟨k.toNat, by omega⟩
        have hj : j < 8 := by omega
        have hf : fd i j = none := by
          by_cases hf : fd i j = none
          · exact hf
          · rw [if_neg (by simp [hf]; omega)] at hw; exact absurd rfl hw
        simp [bd, ret, one_yes T N hi, hk, hk8, nonNil_eq, fld_eq, idxA_nat hj, hf, ptr_ld T hi hj]

theorem has_yes {i j : Nat} (hi : i < n) (hj : j < 8) {x : Int × Int} (hx : fd i j = some x) : F_proc_Table_has N (some ⟨t, 0⟩) i j h = some ((some ⟨bl i j, 0⟩, 0), h) := by
  unfold F_proc_Table_has
  have h8 : ¬ ((8 : Int) ≤ (j : Int)) := by omega
  have h0 : ¬ ((j : Int) < 0) := by omega
  simp [bd, ret, one_yes T N hi, h8, nonNil_eq, fld_eq, idxA_nat hj, hx, ptr_ld T hi hj]

theorem fd_ld {i j : Nat} (hi : i < n) (hj : j < 8) {x : Int × Int} (hx : fd i j = some x) : ldSt [.int .i64, .int .i64] (some ⟨bl i j, 0⟩) h = some (x, h) := by
  simp only [ldSt, bd, ldn_eq (o := 0) (T.fds i j x hi hj hx).1 (n := [CTy.int .i64, CTy.int .i64].length) (Nat.le_refl _)]
  rfl

theorem fd_spec (p k : Int) : F_proc_Table_Fd N (some ⟨t, 0⟩) p k h = some ((if whyT n fd p k = 0 then ((fd p.toNat k.toNat).getD (0, 0), 0) else ((0, 0), whyT n fd p k)), h) := by
  unfold F_proc_Table_Fd
  by_cases hw : whyT n fd p k = 0
  · rw [if_pos hw]
    obtain ⟨i, j, rfl, rfl, hi, hj, x, hx⟩ := why_yes hw
    simp [bd, has_yes T N hi hj hx, ret, nonNil_eq, fd_ld T hi hj hx, hx]
  · simp [bd, ret, has_no T N hw, hw]

theorem label_spec (p : Int) : F_proc_Table_Label N (some ⟨t, 0⟩) p h = some ((if p < 0 ∨ (n : Int) ≤ p then (0, 1) else (lab p.toNat, 0)), h) := by
  unfold F_proc_Table_Label
  by_cases hp : p < 0 ∨ (n : Int) ≤ p
  · simp [bd, ret, one_no T N hp, hp]
  · rw [if_neg hp]
    obtain ⟨i, rfl⟩ : ∃ i : Nat, p = i := ⟨p.toNat, by omega⟩
    have hi : i < n := by omega
    simp [bd, one_yes T N hi, ret, nonNil_eq, fld_eq, ldI_eq T.pc (o := i * 9) (T.labs i hi)]

end

/-- The first that is none. -/
def firstNo {α : Type} (f : Nat → Option α) : Nat → Nat → Option Nat
  | _, 0 => none
  | j, m + 1 => if (f j).isNone = true then some j else firstNo f (j + 1) m


theorem firstNo_some {α : Type} {f : Nat → Option α} : ∀ {m j k : Nat}, firstNo f j m = some k → j ≤ k ∧ k < j + m ∧ f k = none ∧ ∀ i, j ≤ i → i < k → f i ≠ none
  | 0, j, k, h => by cases h
  | m + 1, j, k, h => by
    unfold firstNo at h
    split at h
    · rename_i hn
      cases h
      exact ⟨Nat.le_refl _, by omega, by simpa using hn, fun i h1 h2 => by omega⟩
    · rename_i hn
      obtain ⟨h1, h2, h3, h4⟩ := firstNo_some h
      refine ⟨by omega, by omega, h3, fun i h5 h6 => ?_⟩
      by_cases e : i = j
      · subst e; intro c; exact hn (by rw [c]; rfl)
      · exact h4 i (by omega) h6
theorem firstNo_none {α : Type} {f : Nat → Option α} : ∀ {m j : Nat}, firstNo f j m = none → ∀ i, j ≤ i → i < j + m → f i ≠ none
  | 0, j, _, i, h1, h2 => by omega
  | m + 1, j, h, i, h1, h2 => by
    unfold firstNo at h
    split at h
    · cases h
    · rename_i hn
      by_cases e : i = j
      · subst e; intro c; exact hn (by rw [c]; rfl)
      · exact firstNo_none h i (by omega) (by omega)
theorem firstNo_map {α β : Type} {f : Nat → Option α} {g : Nat → Option β} : ∀ {m j : Nat}, (∀ i, j ≤ i → i < j + m → (f i).isNone = (g i).isNone) → firstNo f j m = firstNo g j m
  | 0, j, _ => rfl
  | m + 1, j, h => by
    unfold firstNo
    rw [h j (Nat.le_refl _) (by omega), firstNo_map fun i h1 h2 => h i (by omega) (by omega)]

theorem index_loop {h : Hp} {b o L : Nat} {cs : List MV} {ro : Bool} (hg : h.get b = .cells cs ro) (f : Nat → Option MA) (hf : ∀ j, j < L → cs[o + j]? = some (.ptr (f j))) (hL : (L : Int) ≤ 1000) : ∀ m N j, j + m = L → m < N →
    iter N (fun (go_4 : Int → M (Unit ⊕ Int)) (v_3 : Int) => if (decide (v_3 < ((⟨some ⟨b, o⟩, L⟩ : Sl).len : Int))) = true then (bd (idx 1 ⟨some ⟨b, o⟩, L⟩ v_3) fun q_5 => bd (ldP q_5) fun (y_6 : Option MA) => evPtr none y_6 fun z_7 => if z_7 = true then (ret (Sum.inr v_3)) else (go_4 (wr .i64 (v_3 + (1 : Int))))) else (ret ((Sum.inl ())))) (j : Int) h =
      some (match firstNo f j m with
        | some k => Sum.inr (k : Int)
        | none => Sum.inl (), h) := by
  intro m
  induction m with
  | zero =>
    intro N j hj hN
    obtain ⟨N, rfl⟩ : ∃ n, N = n + 1 := ⟨N - 1, by omega⟩
    have : ¬ (j < L) := by omega
    simp [iter, this, firstNo, ret]
  | succ m ih =>
    intro N j hj hN
    obtain ⟨N, rfl⟩ : ∃ n, N = n + 1 := ⟨N - 1, by omega⟩
    have hjL : j < L := by omega
    have hl := ldP_eq hg (hf j hjL)
    simp only [iter, hjL, Int.ofNat_lt, decide_true, if_true, bd, idx_nat hjL, Nat.mul_one, hl]
    unfold firstNo
    cases hfj : f j with
    | none => simp [evPtr, ret]
    | some q =>
      have hw : wr .i64 ((j : Int) + 1) = ((j + 1 : Nat) : Int) := by rw [wr64 (by omega) (by omega)]; simp
      simp only [evPtr, bd, Mini.ptrEq, Option.isNone_some, Bool.false_eq_true, if_false, hw]
      exact ih N (j + 1) (by omega) (by omega)

theorem index_spec {h : Hp} {b o L : Nat} {cs : List MV} {ro : Bool} (hg : h.get b = .cells cs ro) (f : Nat → Option MA) (hf : ∀ j, j < L → cs[o + j]? = some (.ptr (f j))) (hL : (L : Int) ≤ 1000) {N : Nat} (hN : L < N) :
    F_slices_Index_LPapi_Fd_Papi_Fd N ⟨some ⟨b, o⟩, L⟩ none h = some ((match firstNo f 0 L with
        | some k => (k : Int)
        | none => -1), h) := by
  unfold F_slices_Index_LPapi_Fd_Papi_Fd
  have := index_loop hg f hf hL L N 0 (by omega) hN
  simp only [bd]
  rw [show ((0 : Int)) = ((0 : Nat) : Int) from rfl, this]
  cases firstNo f 0 L <;> rfl

/-- A value for one place. -/
def upd2 {α : Type} (f : Nat → Nat → α) (i j : Nat) (x : α) : Nat → Nat → α := fun a b => if a = i ∧ b = j then x else f a b
theorem upd2_same {α : Type} (f : Nat → Nat → α) (i j : Nat) (x : α) : upd2 f i j x i j = x := if_pos ⟨rfl, rfl⟩
theorem upd2_ne {α : Type} (f : Nat → Nat → α) {i j a b : Nat} (x : α) (h : ¬(a = i ∧ b = j)) : upd2 f i j x a b = f a b := if_neg h
def upd1 {α : Type} (f : Nat → α) (i : Nat) (x : α) : Nat → α := fun a => if a = i then x else f a

section
variable {h : Hp} {t n : Nat} {lab : Nat → Int} {fd : Nat → Nat → Option (Int × Int)} {fp : Nat → Prop} (T : TabP h t n lab fd fp) {N : Nat}
include T

/-- What raising comes to. -/
def raiseR (n : Nat) (lab : Nat → Int) (p a : Int) : Int := if p < 0 ∨ (n : Int) ≤ p then 1 else if bitI .andNot .u16 (lab p.toNat) a = 0 then 0 else 7
def raiseL (n : Nat) (lab : Nat → Int) (p a : Int) : Nat → Int := if raiseR n lab p a = 0 then upd1 lab p.toNat a else lab

theorem raise_spec (p a : Int) : Wp (F_proc_Table_Raise N (some ⟨t, 0⟩) p a) h fun r h' => r = raiseR n lab p a ∧ TabP h' t n (raiseL n lab p a) fd fp ∧ Mod h fp h' fp := by
  obtain ⟨pb, cs, bl, T, h1, h2⟩ := T
  unfold F_proc_Table_Raise
  have stay : ∀ r, r = raiseR n lab p a → r ≠ 0 → Wp (ret r) h fun r h' => r = raiseR n lab p a ∧ TabP h' t n (raiseL n lab p a) fd fp ∧ Mod h fp h' fp := by
    intro r hr h0
    refine w_ret ⟨hr, ⟨pb, cs, bl, ?_, h1, h2⟩, Mod.refl _ _⟩
    unfold raiseL; rw [← hr, if_neg h0]; exact T
  by_cases hp : p < 0 ∨ (n : Int) ≤ p
  · refine w_bd_eq (one_no T N hp) ?_
    exact stay 1 (by unfold raiseR; rw [if_pos hp]) (by simp)
  · obtain ⟨i, rfl⟩ : ∃ i : Nat, p = i := ⟨p.toNat, by omega⟩
    have hi : i < n := by omega
    refine w_bd_eq (one_yes T N hi) ?_
    simp only [decide_true, Bool.not_true, Bool.false_eq_true, if_false]
    refine w_bd_eq (nonNil_eq _) (w_bd_eq (fld_eq _ _) (w_bd_eq (ldI_eq T.pc (o := i * 9) (T.labs i hi)) ?_))
    unfold F_label_Flows
    refine w_bd_ret ?_
    by_cases hf : bitI .andNot .u16 (lab i) a = 0
    · simp only [hf, decide_true, Bool.not_true, Bool.false_eq_true, if_false, if_true]
      have hlt : i * 9 < cs.length := by rw [T.len]; omega
      have hr : raiseR n lab i a = 0 := by unfold raiseR; rw [if_neg hp, Int.toNat_natCast, if_pos hf]
      have hL : raiseL n lab i a = upd1 lab i a := by unfold raiseL; rw [if_pos hr, Int.toNat_natCast]
      rw [hr, hL]
      refine w_bd_eq (nonNil_eq _) (w_bd_eq (fld_eq _ _) (w_bd_eq (stc_eq T.pc (o := i * 9) hlt rfl) (w_ret ⟨rfl, ⟨pb, cs.set (i * 9) (.int .u16 a), bl, ?_, ?_, ?_⟩, ?_⟩)))
      · refine ⟨?_, ?_, ?_, ?_, ?_, ?_, T.inj, T.ne, T.big⟩
        · rw [Hp.get_set_ne _ _ T.ne]; exact T.tb
        · simp
        · simpa using T.len
        · intro k hk
          rw [List.getElem?_set]
          unfold upd1
          by_cases e : i = k
          · subst e; simp [hlt]
          · rw [if_neg (by omega), if_neg (fun c => e c.symm)]; exact T.labs k hk
        · intro k j hk hj
          rw [List.getElem?_set, if_neg (by omega)]
          exact T.ptrs k j hk hj
        · intro k j x hk hj hx
          obtain ⟨g1, g2, g3⟩ := T.fds k j x hk hj hx
          exact ⟨by rw [Hp.get_set_ne _ _ g3]; exact g1, g2, g3⟩
      · exact h1
      · exact h2
      · exact ⟨Nat.le_refl _, fun b _ hb => Hp.get_set_ne _ _ (fun c => hb (h1 b (.inr (.inl c)))), fun b hb => .inl hb⟩
    · simp only [hf, decide_false, Bool.not_false, if_true]
      exact stay 7 (by unfold raiseR; rw [if_neg hp, Int.toNat_natCast, if_neg hf]) (by simp)

/-- What opening comes to. -/
def openR (n : Nat) (fd : Nat → Nat → Option (Int × Int)) (p ino : Int) : Int × Int :=
  if p < 0 ∨ (n : Int) ≤ p then (0, 1) else if ino < 0 ∨ 64 ≤ ino then (0, 1) else match firstNo (fd p.toNat) 0 8 with
    | some k => ((k : Int), 0)
    | none => (0, 5)
def openF (n : Nat) (fd : Nat → Nat → Option (Int × Int)) (p ino : Int) : Nat → Nat → Option (Int × Int) :=
  if (openR n fd p ino).2 = 0 then upd2 fd p.toNat (openR n fd p ino).1.toNat (some (ino, 0)) else fd

theorem open_spec (hN : 8 < N) (p ino : Int) : Wp (F_proc_Table_Open N (some ⟨t, 0⟩) p ino) h fun r h' =>
    r = openR n fd p ino ∧ ∃ fp', TabP h' t n lab (openF n fd p ino) fp' ∧ Mod h fp h' fp' := by
  obtain ⟨pb, cs, bl, T, h1, h2⟩ := T
  unfold F_proc_Table_Open
  have stay : ∀ r, r = openR n fd p ino → r.2 ≠ 0 → Wp (ret r) h fun r h' => r = openR n fd p ino ∧ ∃ fp', TabP h' t n lab (openF n fd p ino) fp' ∧ Mod h fp h' fp' := by
    intro r hr h0
    refine w_ret ⟨hr, fp, ⟨pb, cs, bl, ?_, ?_, h2⟩, Mod.refl _ _⟩
    · unfold openF; rw [← hr, if_neg h0]; exact T
    · unfold openF; rw [← hr, if_neg h0]; exact h1
  by_cases hp : p < 0 ∨ (n : Int) ≤ p
  · refine w_bd_eq (one_no T N hp) ?_
    exact stay (0, 1) (by unfold openR; rw [if_pos hp]) (by simp)
  · obtain ⟨i, rfl⟩ : ∃ i : Nat, p = i := ⟨p.toNat, by omega⟩
    have hi : i < n := by omega
    refine w_bd_eq (one_yes T N hi) ?_
    simp only [decide_true, Bool.not_true, Bool.false_eq_true, if_false]
    by_cases hin : ino < 0 ∨ 64 ≤ ino
    · have : ((decide (ino < 0)) || (decide ((64 : Int) ≤ ino))) = true := by simpa using hin
      rw [if_pos this]
      exact stay (0, 1) (by unfold openR; rw [if_neg hp, if_pos hin]) (by simp)
    · have : ¬ ((decide (ino < 0)) || (decide ((64 : Int) ≤ ino))) = true := by simpa using hin
      rw [if_neg this]
      have hlen : i * 9 + 1 + 8 * 1 ≤ cs.length := by rw [T.len]; omega
      refine w_bd_eq (nonNil_eq _) (w_bd_eq (fld_eq _ _) (w_bd_eq (slcA_eq T.pc (o := i * 9 + 1) (by omega) (by omega) (by omega) hlen) ?_))
      simp only [Int.toNat_zero, Nat.zero_mul, Nat.add_zero, Int.sub_zero, show (8 : Int).toNat = 8 from rfl]
      refine w_bd_eq (index_spec T.pc (fun j => (fd i j).map fun _ => ⟨bl i j, 0⟩) (fun j hj => T.ptrs i j hi hj) (by omega) hN) ?_
      have hfm : firstNo (fun j => (fd i j).map fun _ => (⟨bl i j, 0⟩ : MA)) 0 8 = firstNo (fd i) 0 8 := firstNo_map fun k _ _ => by simp
      rw [hfm]
      cases hk : firstNo (fd i) 0 8 with
      | none =>
        simp only [show decide ((-1 : Int) < 0) = true from rfl, if_true]
        exact stay (0, 5) (by unfold openR; rw [if_neg hp, if_neg hin, Int.toNat_natCast, hk]) (by simp)
      | some k =>
        obtain ⟨_, hk8, hkn, _⟩ := firstNo_some hk
        have hneg : ¬ ((k : Int) < 0) := by omega
        simp only [hneg, decide_false, Bool.false_eq_true, if_false]
        have hr : openR n fd i ino = ((k : Int), 0) := by unfold openR; rw [if_neg hp, if_neg hin, Int.toNat_natCast, hk]
        have hF : openF n fd i ino = upd2 fd i k (some (ino, 0)) := by unfold openF; rw [hr]; simp
        rw [hr, hF]
        have hpblt : pb < h.size := h2 pb (h1 pb (.inr (.inl rfl)))
        have htlt : t < h.size := h2 t (h1 t (.inl rfl))
        have hpc : (h.push (.cells [.int .i64 ino, .int .i64 0] false)).get pb = .cells cs false := by rw [Hp.get_push_lt _ _ hpblt]; exact T.pc
        have hix : i * 9 + 1 + k * 1 < cs.length := by rw [T.len]; omega
        refine w_bd_eq (alloc_eq _) (w_bd_eq (nonNil_eq _) (w_bd_eq (fld_eq _ _) (w_bd_eq (idxA_nat (by omega : k < 8)) (w_bd_eq (stc_eq hpc hix rfl) (w_ret ⟨rfl, fun b => fp b ∨ b = h.size, ⟨pb, cs.set (i * 9 + 1 + k * 1) (.ptr (some ⟨h.size, 0⟩)), upd2 bl i k h.size, ?_, ?_, ?_⟩, ?_⟩)))))
        · have old : ∀ b, b < h.size → b ≠ pb → ((h.push (.cells [.int .i64 ino, .int .i64 0] false)).set pb (.cells (cs.set (i * 9 + 1 + k * 1) (.ptr (some ⟨h.size, 0⟩))) false)).get b = h.get b := by
            intro b hb hne
            rw [Hp.get_set_ne _ _ hne, Hp.get_push_lt _ _ hb]
          refine ⟨?_, ?_, ?_, ?_, ?_, ?_, ?_, T.ne, T.big⟩
          · rw [old t htlt T.ne]; exact T.tb
          · simp
          · simpa using T.len
          · intro a ha
            rw [List.getElem?_set, if_neg (by omega)]
            exact T.labs a ha
          · intro a j ha hj
            rw [List.getElem?_set]
            by_cases e : a = i ∧ j = k
            · obtain ⟨rfl, rfl⟩ := e
              rw [if_pos (by omega), if_pos hix, upd2_same, upd2_same]
              rfl
            · rw [if_neg (by omega), upd2_ne _ _ e, upd2_ne _ _ e]
              exact T.ptrs a j ha hj
          · intro a j x ha hj hx
            by_cases e : a = i ∧ j = k
            · obtain ⟨rfl, rfl⟩ := e
              rw [upd2_same] at hx
              cases hx
              rw [upd2_same]
              refine ⟨?_, by omega, by omega⟩
              rw [Hp.get_set_ne _ _ (by omega)]
              simp
            · rw [upd2_ne _ _ e] at hx
              rw [upd2_ne _ _ e]
              obtain ⟨g1, g2, g3⟩ := T.fds a j x ha hj hx
              have : bl a j < h.size := h2 _ (h1 _ (.inr (.inr ⟨a, j, ha, hj, by rw [hx]; simp, rfl⟩)))
              exact ⟨by rw [old _ this g3]; exact g1, g2, g3⟩
          · intro a j a' j' ha hj ha' hj' hx hx' he
            have lt : ∀ a j, a < n → j < 8 → fd a j ≠ none → bl a j < h.size := fun a j ha hj hx => h2 _ (h1 _ (.inr (.inr ⟨a, j, ha, hj, hx, rfl⟩)))
            by_cases e : a = i ∧ j = k
            · by_cases e' : a' = i ∧ j' = k
              · exact ⟨e.1.trans e'.1.symm, e.2.trans e'.2.symm⟩
              · rw [upd2_ne _ _ e'] at hx'
                rw [e.1, e.2, upd2_same, upd2_ne _ _ e'] at he
                have := lt a' j' ha' hj' hx'
                omega
            · by_cases e' : a' = i ∧ j' = k
              · rw [upd2_ne _ _ e] at hx
                rw [e'.1, e'.2, upd2_same, upd2_ne _ _ e] at he
                have := lt a j ha hj hx
                omega
              · rw [upd2_ne _ _ e] at hx he
                rw [upd2_ne _ _ e'] at hx' he
                exact T.inj a j a' j' ha hj ha' hj' hx hx' he
        · rintro b (rfl | rfl | ⟨a, j, ha, hj, hx, rfl⟩)
          · exact .inl (h1 _ (.inl rfl))
          · exact .inl (h1 _ (.inr (.inl rfl)))
          · by_cases e : a = i ∧ j = k
            · obtain ⟨rfl, rfl⟩ := e
              rw [upd2_same]
              exact .inr rfl
            · rw [upd2_ne _ _ e] at hx
              rw [upd2_ne _ _ e]
              exact .inl (h1 _ (.inr (.inr ⟨a, j, ha, hj, hx, rfl⟩)))
        · rintro b (hb | rfl)
          · have := h2 b hb
            simp
            omega
          · simp
        · refine ⟨by simp, fun b hb hn => ?_, fun b hb => hb.imp id (fun e => by omega)⟩
          rw [Hp.get_set_ne _ _ (fun c => hn (h1 b (.inr (.inl c)))), Hp.get_push_lt _ _ hb]

/-- What closing comes to. -/
def closeR (n : Nat) (fd : Nat → Nat → Option (Int × Int)) (p k : Int) : Int × Int :=
  if whyT n fd p k = 0 then (((fd p.toNat k.toNat).getD (0, 0)).1, 0) else (0, whyT n fd p k)
def closeF (n : Nat) (fd : Nat → Nat → Option (Int × Int)) (p k : Int) : Nat → Nat → Option (Int × Int) :=
  if whyT n fd p k = 0 then upd2 fd p.toNat k.toNat none else fd

theorem close_spec (p k : Int) : Wp (F_proc_Table_Close N (some ⟨t, 0⟩) p k) h fun r h' => r = closeR n fd p k ∧ TabP h' t n lab (closeF n fd p k) fp ∧ Mod h fp h' fp := by
  obtain ⟨pb, cs, bl, T, h1, h2⟩ := T
  unfold F_proc_Table_Close
  by_cases hw : whyT n fd p k = 0
  · unfold closeR closeF
    rw [if_pos hw, if_pos hw]
    obtain ⟨i, j, rfl, rfl, hi, hj, x, hx⟩ := why_yes hw
    refine w_bd_eq (has_yes T N hi hj hx) ?_
    simp only [decide_true, Bool.not_true, Bool.false_eq_true, if_false, Int.toNat_natCast]
    have hix : i * 9 + 1 + j * 1 < cs.length := by rw [T.len]; omega
    obtain ⟨g1, g2, g3⟩ := T.fds i j x hi hj hx
    have hg : (h.set pb (.cells (cs.set (i * 9 + 1 + j * 1) (.ptr none)) false)).get (bl i j) = .cells [.int .i64 x.1, .int .i64 x.2] false := by rw [Hp.get_set_ne _ _ g3]; exact g1
    refine w_bd_eq (nonNil_eq _) (w_bd_eq (fld_eq _ _) (w_bd_eq (tab_ld T) (w_bd_eq (idx_nat hi) (w_bd_eq (fld_eq _ _) (w_bd_eq (idxA_nat hj) ?_)))))
    simp only [Nat.zero_add]
    refine w_bd_eq (stc_eq T.pc hix rfl) (w_bd_eq (nonNil_eq _) (w_bd_eq (fld_eq _ _) (w_bd_eq (ldI_eq hg (o := 0) rfl) (w_ret ⟨by rw [hx]; rfl, ⟨pb, cs.set (i * 9 + 1 + j * 1) (.ptr none), bl, ?_, ?_, h2⟩, ?_⟩))))
    · refine ⟨?_, ?_, ?_, ?_, ?_, ?_, ?_, T.ne, T.big⟩
      · rw [Hp.get_set_ne _ _ T.ne]; exact T.tb
      · simp
      · simpa using T.len
      · intro a ha
        rw [List.getElem?_set, if_neg (by omega)]
        exact T.labs a ha
      · intro a b ha hb
        rw [List.getElem?_set]
        by_cases e : a = i ∧ b = j
        · obtain ⟨rfl, rfl⟩ := e
          rw [if_pos (by omega), if_pos hix, upd2_same]
          rfl
        · rw [if_neg (by omega), upd2_ne _ _ e]
          exact T.ptrs a b ha hb
      · intro a b y ha hb hy
        by_cases e : a = i ∧ b = j
        · obtain ⟨rfl, rfl⟩ := e
          rw [upd2_same] at hy
          cases hy
        · rw [upd2_ne _ _ e] at hy
          obtain ⟨f1, f2, f3⟩ := T.fds a b y ha hb hy
          exact ⟨by rw [Hp.get_set_ne _ _ f3]; exact f1, f2, f3⟩
      · intro a b a' b' ha hb ha' hb' hy hy' he
        by_cases e : a = i ∧ b = j
        · obtain ⟨rfl, rfl⟩ := e
          rw [upd2_same] at hy
          exact absurd rfl hy
        · by_cases e' : a' = i ∧ b' = j
          · obtain ⟨rfl, rfl⟩ := e'
            rw [upd2_same] at hy'
            exact absurd rfl hy'
          · rw [upd2_ne _ _ e] at hy
            rw [upd2_ne _ _ e'] at hy'
            exact T.inj a b a' b' ha hb ha' hb' hy hy' he
    · rintro b (rfl | rfl | ⟨a, c, ha, hc, hy, rfl⟩)
      · exact h1 _ (.inl rfl)
      · exact h1 _ (.inr (.inl rfl))
      · by_cases e : a = i ∧ c = j
        · obtain ⟨rfl, rfl⟩ := e
          rw [upd2_same] at hy
          exact absurd rfl hy
        · rw [upd2_ne _ _ e] at hy
          exact h1 _ (.inr (.inr ⟨a, c, ha, hc, hy, rfl⟩))
    · exact ⟨Nat.le_refl _, fun b _ hb => Hp.get_set_ne _ _ (fun c => hb (h1 b (.inr (.inl c)))), fun b hb => .inl hb⟩
  · unfold closeR closeF
    rw [if_neg hw, if_neg hw]
    refine w_bd_eq (has_no T N hw) ?_
    simp only [hw, decide_false, Bool.not_false, if_true]
    exact w_ret ⟨rfl, ⟨pb, cs, bl, T, h1, h2⟩, Mod.refl _ _⟩

/-- What moving comes to. -/
def moveR (n : Nat) (fd : Nat → Nat → Option (Int × Int)) (p k a : Int) : Int :=
  if whyT n fd p k = 0 then (if a < 0 ∨ 3840 < a then 1 else 0) else whyT n fd p k
def moveF (n : Nat) (fd : Nat → Nat → Option (Int × Int)) (p k a : Int) : Nat → Nat → Option (Int × Int) :=
  if moveR n fd p k a = 0 then upd2 fd p.toNat k.toNat (some (((fd p.toNat k.toNat).getD (0, 0)).1, a)) else fd

theorem move_spec (p k a : Int) : Wp (F_proc_Table_Move N (some ⟨t, 0⟩) p k a) h fun r h' => r = moveR n fd p k a ∧ TabP h' t n lab (moveF n fd p k a) fp ∧ Mod h fp h' fp := by
  obtain ⟨pb, cs, bl, T, h1, h2⟩ := T
  unfold F_proc_Table_Move
  have stay : ∀ r, r = moveR n fd p k a → r ≠ 0 → Wp (ret r) h fun r h' => r = moveR n fd p k a ∧ TabP h' t n lab (moveF n fd p k a) fp ∧ Mod h fp h' fp := by
    intro r hr h0
    refine w_ret ⟨hr, ⟨pb, cs, bl, ?_, ?_, h2⟩, Mod.refl _ _⟩
    · unfold moveF; rw [← hr, if_neg h0]; exact T
    · unfold moveF; rw [← hr, if_neg h0]; exact h1
  by_cases hw : whyT n fd p k = 0
  · obtain ⟨i, j, rfl, rfl, hi, hj, x, hx⟩ := why_yes hw
    refine w_bd_eq (has_yes T N hi hj hx) ?_
    simp only [decide_true, Bool.not_true, Bool.false_eq_true, if_false]
    by_cases ha : a < 0 ∨ 3840 < a
    · have : ((decide (a < 0)) || (decide ((3840 : Int) < a))) = true := by simpa using ha
      rw [if_pos this]
      exact stay 1 (by unfold moveR; rw [if_pos hw, if_pos ha]) (by simp)
    · have : ¬ ((decide (a < 0)) || (decide ((3840 : Int) < a))) = true := by simpa using ha
      rw [if_neg this]
      have hr : moveR n fd i j a = 0 := by unfold moveR; rw [if_pos hw, if_neg ha]
      have hF : moveF n fd i j a = upd2 fd i j (some (x.1, a)) := by unfold moveF; rw [hr, if_pos rfl]; simp [hx]
      rw [hr, hF]
      obtain ⟨g1, g2, g3⟩ := T.fds i j x hi hj hx
      refine w_bd_eq (nonNil_eq _) (w_bd_eq (fld_eq _ _) (w_bd_eq (stc_eq g1 (o := 0 + 1) (by simp) rfl) (w_ret ⟨rfl, ⟨pb, cs, bl, ?_, ?_, h2⟩, ?_⟩)))
      · refine ⟨?_, ?_, T.len, T.labs, ?_, ?_, ?_, T.ne, T.big⟩
        · rw [Hp.get_set_ne _ _ (fun c => g2 c.symm)]; exact T.tb
        · rw [Hp.get_set_ne _ _ (fun c => g3 c.symm)]; exact T.pc
        · intro c d hc hd
          rw [T.ptrs c d hc hd]
          by_cases e : c = i ∧ d = j
          · obtain ⟨rfl, rfl⟩ := e
            rw [upd2_same, hx]; rfl
          · rw [upd2_ne _ _ e]
        · intro c d y hc hd hy
          by_cases e : c = i ∧ d = j
          · obtain ⟨rfl, rfl⟩ := e
            rw [upd2_same] at hy
            cases hy
            exact ⟨by simp, g2, g3⟩
          · rw [upd2_ne _ _ e] at hy
            obtain ⟨f1, f2, f3⟩ := T.fds c d y hc hd hy
            refine ⟨?_, f2, f3⟩
            rw [Hp.get_set_ne]
            · exact f1
            · intro he
              exact e (T.inj c d i j hc hd hi hj (by rw [hy]; simp) (by rw [hx]; simp) he)
        · intro c d c' d' hc hd hc' hd' hy hy' he
          refine T.inj c d c' d' hc hd hc' hd' ?_ ?_ he
          · by_cases e : c = i ∧ d = j
            · obtain ⟨rfl, rfl⟩ := e; rw [hx]; simp
            · rwa [upd2_ne _ _ e] at hy
          · by_cases e : c' = i ∧ d' = j
            · obtain ⟨rfl, rfl⟩ := e; rw [hx]; simp
            · rwa [upd2_ne _ _ e] at hy'
      · rintro b (rfl | rfl | ⟨c, d, hc, hd, hy, rfl⟩)
        · exact h1 _ (.inl rfl)
        · exact h1 _ (.inr (.inl rfl))
        · refine h1 _ (.inr (.inr ⟨c, d, hc, hd, ?_, rfl⟩))
          by_cases e : c = i ∧ d = j
          · obtain ⟨rfl, rfl⟩ := e; rw [hx]; simp
          · rwa [upd2_ne _ _ e] at hy
      · exact ⟨Nat.le_refl _, fun b _ hb => Hp.get_set_ne _ _ (fun c => hb (h1 b (.inr (.inr ⟨i, j, hi, hj, by rw [hx]; simp, c⟩)))), fun b hb => .inl hb⟩
  · refine w_bd_eq (has_no T N hw) ?_
    simp only [hw, decide_false, Bool.not_false, if_true]
    exact stay _ (by unfold moveR; rw [if_neg hw]) hw

end

/-- How many of a process's have an inode open; how many of all. -/
def cntJ (f : Nat → Option (Int × Int)) (ino : Int) : Nat → Nat → Nat
  | _, 0 => 0
  | j, m + 1 => (if (f j).map (·.1) = some ino then 1 else 0) + cntJ f ino (j + 1) m
def cntI (fd : Nat → Nat → Option (Int × Int)) (ino : Int) : Nat → Nat → Nat
  | _, 0 => 0
  | i, m + 1 => cntJ (fd i) ino 0 8 + cntI fd ino (i + 1) m

theorem cntJ_le (f : Nat → Option (Int × Int)) (ino : Int) : ∀ m j, cntJ f ino j m ≤ m
  | 0, _ => Nat.le_refl _
  | m + 1, j => by
    have := cntJ_le f ino m (j + 1)
    unfold cntJ
    split <;> omega
theorem cntI_le (fd : Nat → Nat → Option (Int × Int)) (ino : Int) : ∀ m i, cntI fd ino i m ≤ 8 * m
  | 0, _ => Nat.le_refl _
  | m + 1, i => by
    have := cntI_le fd ino m (i + 1)
    have := cntJ_le (fd i) ino 8 0
    unfold cntI
    omega

section
variable {h : Hp} {t pb n : Nat} {cs : List MV} {lab : Nat → Int} {fd : Nat → Nat → Option (Int × Int)} {bl : Nat → Nat → Nat} (T : Tab h t pb cs n lab fd bl) {N : Nat}
include T

theorem holds_spec (hN : 8 < N) (ino : Int) : F_proc_Table_Holds N (some ⟨t, 0⟩) ino h = some ((cntI fd ino 0 n : Int), h) := by
  have hb := T.big
  suffices Wp (F_proc_Table_Holds N (some ⟨t, 0⟩) ino) h fun r h' => r = (cntI fd ino 0 n : Int) ∧ h' = h by
    obtain ⟨r, h', e, rfl, rfl⟩ := this
    exact e
  unfold F_proc_Table_Holds
  simp only [Option.isNone_some, Bool.false_eq_true, if_false]
  refine w_bd_eq (nonNil_eq _) (w_bd_eq (fld_eq _ _) (w_bd_eq (tab_ld T) ?_))
  refine w_bd_mono (R := fun r h' => r = (cntI fd ino 0 n : Int) ∧ h' = h) ?_ fun r h' q => w_ret q
  refine w_iter (fun (v : Int × Int) h' => h' = h ∧ ∃ (acc i : Nat), v = ((acc : Int), (i : Int)) ∧ i ≤ n ∧ acc + cntI fd ino i (n - i) = cntI fd ino 0 n) (fun v => n - v.2.toNat) ?_ N ((0 : Int), (0 : Int)) h ⟨rfl, 0, 0, rfl, Nat.zero_le _, by simp⟩ (by show n - 0 < N; omega)
  rintro v h' ⟨rfl, acc, i, rfl, hi, htot⟩ rec hrec
  have hbound := cntI_le fd ino n 0
  by_cases hin : i < n
  · simp only [hin, Int.ofNat_lt, decide_true, if_true]
    refine w_bd_eq (idx_nat hin) ?_
    have hl9 : i * 9 + 9 ≤ cs.length := by rw [T.len]; omega
    refine w_bd_eq (ldn_eq (o := 0 + i * 9) T.pc (by omega)) ?_
    simp only [Nat.zero_add]
    have hlen : ((cs.drop (i * 9)).take 9).length = 9 := by simp; omega
    have hgetp : ∀ j, j < 8 → ((cs.drop (i * 9)).take 9)[1 + j]? = some (.ptr ((fd i j).map fun _ => ⟨bl i j, 0⟩)) := by
      intro j hj
      rw [List.getElem?_take, if_pos (by omega), List.getElem?_drop, ← Nat.add_assoc]
      exact T.ptrs i j hin hj
    have hall : ((cs.drop (i * 9)).take 9).all isCell = true := by
      rw [List.all_eq_true]
      intro x hx
      obtain ⟨k, hk⟩ := List.mem_iff_getElem?.1 hx
      have hk9 : k < 9 := by
        have := (List.getElem?_eq_some_iff.1 hk).1
        omega
      cases k with
      | zero =>
        rw [List.getElem?_take, if_pos (by omega), List.getElem?_drop, Nat.add_zero, T.labs i hin] at hk
        cases hk; rfl
      | succ k =>
        rw [Nat.add_comm, hgetp k (by omega)] at hk
        cases hk; rfl
    refine w_bd_eq (a := ()) (h' := h') (by rw [if_pos ⟨hlen, by simp, hall⟩]; rfl) ?_
    have hov : over [MV.int .u16 (0 : Int), MV.ptr (none : Option MA), MV.ptr (none : Option MA), MV.ptr (none : Option MA), MV.ptr (none : Option MA), MV.ptr (none : Option MA), MV.ptr (none : Option MA), MV.ptr (none : Option MA), MV.ptr (none : Option MA)] 0 ((cs.drop (i * 9)).take 9) = (cs.drop (i * 9)).take 9 := by
      unfold over
      rw [hlen]
      simp
    rw [hov]
    refine w_bd_eq (a := (((cs.drop (i * 9)).take 9).drop 1).take 8) (h' := h') (by rw [if_pos (by omega)]; rfl) ?_
    have hget : ∀ j, j < 8 → ((((cs.drop (i * 9)).take 9).drop 1).take 8)[j]? = some (.ptr ((fd i j).map fun _ => ⟨bl i j, 0⟩)) := by
      intro j hj
      rw [List.getElem?_take, if_pos hj, List.getElem?_drop]
      exact hgetp j hj
    generalize (((cs.drop (i * 9)).take 9).drop 1).take 8 = l10 at hget
    have hsplit : cntI fd ino i (n - i) = cntJ (fd i) ino 0 8 + cntI fd ino (i + 1) (n - (i + 1)) := by
      rw [show n - i = (n - (i + 1)) + 1 by omega]
      rfl
    refine w_bd_mono (R := fun r h2 => r = ((acc + cntJ (fd i) ino 0 8 : Nat) : Int) ∧ h2 = h') ?_ ?_
    · refine w_iter (fun (v : Int × Int) h2 => h2 = h' ∧ ∃ (a2 j : Nat), v = ((a2 : Int), (j : Int)) ∧ j ≤ 8 ∧ a2 + cntJ (fd i) ino j (8 - j) = acc + cntJ (fd i) ino 0 8) (fun v => 8 - v.2.toNat) ?_ N ((acc : Int), (0 : Int)) h' ⟨rfl, acc, 0, rfl, by omega, rfl⟩ (by show 8 - 0 < N; omega)
      rintro v h2 ⟨rfl, a2, j, rfl, hj, ht2⟩ rec2 hrec2
      by_cases hj8 : j < 8
      · have hj8' : ((j : Int) < 8) := by omega
        simp only [hj8', decide_true, if_true]
        have hidx : idxV 8 l10 (j : Int) h2 = some (.ptr ((fd i j).map fun _ => ⟨bl i j, 0⟩), h2) := by
          unfold idxV
          rw [if_pos ⟨by omega, by omega⟩, Int.toNat_natCast, hget j hj8]
          rfl
        refine w_bd_eq hidx (w_bd_eq (a := (fd i j).map fun _ => ⟨bl i j, 0⟩) (h' := h2) rfl ?_)
        have hs2 : cntJ (fd i) ino j (8 - j) = (if (fd i j).map (·.1) = some ino then 1 else 0) + cntJ (fd i) ino (j + 1) (8 - (j + 1)) := by
          rw [show 8 - j = (8 - (j + 1)) + 1 by omega]
          rfl
        have hgo : ∀ (c : Bool), (c = true ↔ (fd i j).map (·.1) = some ino) → Wp (bd (show M Int from if c = true then ret (wr .i64 ((a2 : Int) + 1)) else ret (a2 : Int)) fun j_19 => rec2 (j_19, wr .i64 ((j : Int) + 1))) h2 fun r h3 => r = ((acc + cntJ (fd i) ino 0 8 : Nat) : Int) ∧ h3 = h2 := by
          intro c hc
          have ha2 : a2 < 1000 := by have := cntJ_le (fd i) ino 8 0; omega
          cases c with
          | true =>
            simp only [if_true]
            refine w_bd_ret ?_
            rw [nat_wr (by omega), nat_wr (by omega)]
            refine hrec2 _ _ ⟨rfl, a2 + 1, j + 1, rfl, by omega, ?_⟩ (by show 8 - (j + 1) < 8 - j; omega)
            rw [hs2, if_pos (hc.1 rfl)] at ht2
            omega
          | false =>
            simp only [Bool.false_eq_true, if_false]
            refine w_bd_ret ?_
            rw [nat_wr (by omega)]
            refine hrec2 _ _ ⟨rfl, a2, j + 1, rfl, by omega, ?_⟩ (by show 8 - (j + 1) < 8 - j; omega)
            rw [hs2, if_neg (fun c => by have := hc.2 c; cases this)] at ht2
            omega
        cases hf : fd i j with
        | none =>
          simp only [Option.map_none, Option.isNone_none, Bool.not_true, Bool.false_eq_true, if_false]
          refine w_bd_ret (hgo false ?_)
          rw [hf]; simp
        | some x =>
          simp only [Option.map_some, Option.isNone_some, Bool.not_false, if_true]
          refine w_bd_eq (a := decide (x.1 = ino)) (h' := h2) ?_ (hgo _ ?_)
          · simp only [bd, nonNil_eq, fld_eq, ldI_eq (T.fds i j x hin hj8 hf).1 (o := 0 + 0) rfl, ret]
          · rw [hf]; simp
      · have hj8' : ¬ ((j : Int) < 8) := by omega
        simp only [hj8', decide_false, Bool.false_eq_true, if_false]
        obtain rfl : j = 8 := by omega
        refine w_ret ⟨?_, rfl⟩
        have : cntJ (fd i) ino 8 (8 - 8) = 0 := rfl
        rw [this] at ht2
        rw [← ht2]
        simp
    · rintro r h2 ⟨rfl, rfl⟩
      rw [nat_wr (by omega)]
      refine hrec _ _ ⟨rfl, acc + cntJ (fd i) ino 0 8, i + 1, rfl, by omega, ?_⟩ (by show n - (i + 1) < n - i; omega)
      rw [hsplit] at htot
      omega
  · have hin' : ¬ ((i : Int) < (n : Int)) := by omega
    simp only [hin', decide_false, Bool.false_eq_true, if_false]
    obtain rfl : i = n := by omega
    refine w_ret ⟨?_, rfl⟩
    rw [Nat.sub_self] at htot
    have : cntI fd ino i 0 = 0 := rfl
    rw [this] at htot
    rw [← htot]
    simp

end

/-- A new table. -/
theorem new_no {N : Nat} {n : Int} (hn : n < 1 ∨ 8 < n) (h : Hp) : F_proc_New N n h = some ((none, 1), h) := by
  unfold F_proc_New
  have : ((decide (n < 1)) || (decide ((8 : Int) < n))) = true := by simpa using hn
  rw [if_pos this]; rfl

theorem reps_length : ∀ (n : Nat) (z : List MV), (reps n z).length = n * z.length
  | 0, _ => by simp [reps]
  | n + 1, z => by simp only [reps, List.length_append, reps_length n z, Nat.add_mul]; omega
theorem reps_get (z : List MV) : ∀ (n i k : Nat), i < n → k < z.length → (reps n z)[i * z.length + k]? = z[k]?
  | 0, i, k, hi, _ => by omega
  | n + 1, i, k, hi, hk => by
    unfold reps
    cases i with
    | zero => rw [Nat.zero_mul, Nat.zero_add, List.getElem?_append_left hk]
    | succ i =>
      rw [List.getElem?_append_right (by rw [Nat.add_mul]; omega), show (i + 1) * z.length + k - z.length = i * z.length + k by rw [Nat.add_mul]; omega]
      exact reps_get z n i k (by omega) hk

/-- A process that has nothing. -/
abbrev zProc : List MV := [MV.int .u16 (0 : Int), MV.ptr (none : Option MA), MV.ptr (none : Option MA), MV.ptr (none : Option MA), MV.ptr (none : Option MA), MV.ptr (none : Option MA), MV.ptr (none : Option MA), MV.ptr (none : Option MA), MV.ptr (none : Option MA)]

theorem new_yes {N n : Nat} (h1 : 1 ≤ n) (h8 : n ≤ 8) (h : Hp) : Wp (F_proc_New N n) h fun r h' => r = (some ⟨h.size + 1, 0⟩, 0) ∧ TabP h' (h.size + 1) n (fun _ => 0) (fun _ _ => none) (fun b => b = h.size ∨ b = h.size + 1) ∧ Mod h (fun _ => False) h' (fun b => b = h.size ∨ b = h.size + 1) := by
  unfold F_proc_New
  have : ¬ ((decide ((n : Int) < 1)) || (decide ((8 : Int) < (n : Int)))) = true := by simp; omega
  rw [if_neg this]
  have hmk : mkSl 9 72 zProc (n : Int) (n : Int) h =
      some (⟨some ⟨h.size, 0⟩, n⟩, h.push (.cells (reps n zProc) false)) := by
    unfold mkSl
    rw [if_pos ⟨by omega, by omega, by unfold most; omega, rfl⟩, Int.toNat_natCast]
  refine w_bd_eq hmk (w_bd_eq (alloc_eq [.sl (some ⟨h.size, 0⟩) n 9]) (w_ret ⟨by simp, ?_, ?_⟩))
  · refine ⟨h.size, reps n zProc, fun _ _ => 0, ⟨?_, ?_, ?_, ?_, ?_, ?_, ?_, by omega, h8⟩, ?_, ?_⟩
    · exact Hp.get_push_same _ _
    · rw [Hp.get_push_lt _ _ (by simp), Hp.get_push_same]
    · exact reps_length _ _
    · intro i hi
      exact reps_get zProc n i 0 hi (by show 0 < 9; omega)
    · intro i j hi hj
      rw [Nat.add_assoc]
      rw [show (9 : Nat) = zProc.length from rfl, reps_get _ n i (1 + j) hi (by show 1 + j < 9; omega)]
      match j, hj with
      | 0, _ => rfl
      | 1, _ => rfl
      | 2, _ => rfl
      | 3, _ => rfl
      | 4, _ => rfl
      | 5, _ => rfl
      | 6, _ => rfl
      | 7, _ => rfl
    · intro i j x _ _ hx; cases hx
    · intro i j i' j' _ _ _ _ hx; exact absurd rfl hx
    · rintro b (rfl | rfl | ⟨i, j, _, _, hx, _⟩)
      · exact .inr rfl
      · exact .inl rfl
      · exact absurd rfl hx
    · rintro b (rfl | rfl) <;> simp <;> omega
  · refine ⟨by simp; omega, fun b hb _ => ?_, ?_⟩
    · rw [Hp.get_push_lt _ _ (by simp; omega), Hp.get_push_lt _ _ hb]
    · rintro b (rfl | rfl) <;> right <;> omega

end Go.Moat
