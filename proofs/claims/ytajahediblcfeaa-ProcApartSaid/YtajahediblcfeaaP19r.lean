/- Layer 19: the document's table in memory; what each of its functions comes to. -/
import Derived.Test.YtajahediblcfeaaP19
namespace Go.Moat
open Go.Mini

structure RTab (h : Hp) (t pb : Nat) (cs : List MV) (n : Nat) (lab : Nat → Int) (fd : Nat → Nat → Option (Int × Int)) : Prop where
  tb : h.get t = .cells [.sl (some ⟨pb, 0⟩) n 25] false
  pc : h.get pb = .cells cs false
  len : cs.length = n * 25
  labs : ∀ i, i < n → cs[i * 25]? = some (.int .u16 (lab i))
  ons : ∀ i j, i < n → j < 8 → cs[i * 25 + 1 + j * 3]? = some (.bool (fd i j).isSome)
  inos : ∀ i j, i < n → j < 8 → cs[i * 25 + 1 + j * 3 + 1]? = some (.int .i64 ((fd i j).getD (0, 0)).1)
  ats : ∀ i j, i < n → j < 8 → cs[i * 25 + 1 + j * 3 + 2]? = some (.int .i64 ((fd i j).getD (0, 0)).2)
  ne : t ≠ pb
  big : n ≤ 8

def RTabP (h : Hp) (t n : Nat) (lab : Nat → Int) (fd : Nat → Nat → Option (Int × Int)) (fp : Nat → Prop) : Prop :=
  ∃ pb cs, RTab h t pb cs n lab fd ∧ (∀ b, fp b ↔ (b = t ∨ b = pb)) ∧ t < h.size ∧ pb < h.size

theorem RTabP.frame {h h' : Hp} {t n : Nat} {lab fd fp} (T : RTabP h t n lab fd fp) (hs : h.size ≤ h'.size) (same : ∀ b, fp b → h'.get b = h.get b) : RTabP h' t n lab fd fp := by
  obtain ⟨pb, cs, T, h1, h2, h3⟩ := T
  exact ⟨pb, cs, ⟨by rw [same t ((h1 t).2 (.inl rfl))]; exact T.tb, by rw [same pb ((h1 pb).2 (.inr rfl))]; exact T.pc, T.len, T.labs, T.ons, T.inos, T.ats, T.ne, T.big⟩, h1, by omega, by omega⟩
theorem RTabP.lt {h : Hp} {t n : Nat} {lab fd fp} (T : RTabP h t n lab fd fp) {b : Nat} (hb : fp b) : b < h.size := by
  obtain ⟨pb, cs, _, h1, h2, h3⟩ := T
  rcases (h1 b).1 hb with rfl | rfl <;> assumption

section
variable {h : Hp} {t pb n : Nat} {cs : List MV} {lab : Nat → Int} {fd : Nat → Nat → Option (Int × Int)} (T : RTab h t pb cs n lab fd) (N : Nat)
include T

theorem rt_ld : ldL 25 (some ⟨t, 0⟩) h = some (⟨some ⟨pb, 0⟩, n⟩, h) := ldL_eq T.tb rfl

theorem rhas (p : Int) : F_moatref19_Table_Has N (some ⟨t, 0⟩) p h = some (!decide (p < 0 ∨ (n : Int) ≤ p), h) := by
  unfold F_moatref19_Table_Has
  by_cases h0 : (0 : Int) ≤ p
  · have : ¬ p < 0 := by omega
    simp only [h0, decide_true, if_true, bd, nonNil_eq, fld_eq, Nat.zero_add, rt_ld T, ret, this, false_or]
    by_cases h1 : p < (n : Int)
    · have : ¬ (n : Int) ≤ p := by omega
      simp [h1, this]
    · have : (n : Int) ≤ p := by omega
      simp [h1, this]
  · have : p < 0 := by omega
    simp [h0, this, bd, ret]

theorem rwhy (p k : Int) : F_moatref19_Table_why N (some ⟨t, 0⟩) p k h = some (whyT n fd p k, h) := by
  unfold F_moatref19_Table_why whyT
  by_cases hp : p < 0 ∨ (n : Int) ≤ p
  · simp [bd, ret, rhas T N p, hp]
  · rw [if_neg hp]
    obtain ⟨i, rfl⟩ : ∃ i : Nat, p = i := ⟨p.toNat, by omega⟩
    have hi : i < n := by omega
    by_cases hk : k < 0 ∨ 8 ≤ k
    · have hk2 : ((decide (k < 0)) || (decide ((8 : Int) ≤ k))) = true := by simpa using hk
      have : k < 0 ∨ 8 ≤ k ∨ fd (i : Int).toNat k.toNat = none := by
        rcases hk with h | h
        · exact .inl h
        · exact .inr (.inl h)
      have hp' : ¬ ((i : Int) < 0 ∨ n ≤ i) := by omega
      simp only [bd, rhas T N i, decide_eq_false hp, Bool.not_false, Bool.not_true, Bool.false_eq_true, if_false, hk2, if_pos this, ret]
      rfl
    · obtain ⟨j, rfl⟩ : ∃ j : Nat, k = j := ⟨k.toNat, by omega⟩
      have hj : j < 8 := by omega
      have hk2 : ((decide ((j : Int) < 0)) || (decide ((8 : Int) ≤ (j : Int)))) = false := by simp; omega
      have hl := ldB_eq T.pc (T.ons i j hi hj)
      simp only [bd, rhas T N i, decide_eq_false hp, Bool.not_false, Bool.not_true, Bool.false_eq_true, if_false, hk2, if_true, nonNil_eq, fld_eq, Nat.zero_add, rt_ld T, idx_nat hi, idxA_nat hj, Nat.add_zero, hl, ret]
      cases hf : fd i j with
      | none => simp [hf, ret]
      | some x =>
        have : ¬ ((j : Int) < 0 ∨ 8 ≤ (j : Int) ∨ fd (i : Int).toNat (j : Int).toNat = none) := by
          rintro (h | h | h)
          · omega
          · omega
          · rw [Int.toNat_natCast, Int.toNat_natCast, hf] at h; cases h
        rw [if_neg this]
        simp [ret]

theorem rfd (p k : Int) : F_moatref19_Table_Fd N (some ⟨t, 0⟩) p k h = some ((if whyT n fd p k = 0 then ((fd p.toNat k.toNat).getD (0, 0), 0) else ((0, 0), whyT n fd p k)), h) := by
  unfold F_moatref19_Table_Fd
  by_cases hw : whyT n fd p k = 0
  · rw [if_pos hw]
    obtain ⟨i, j, rfl, rfl, hi, hj, x, hx⟩ := why_yes hw
    have hb : i * 25 + 25 ≤ cs.length := by rw [T.len]; omega
    have hl : ldSt [.int .i64, .int .i64] (some ⟨pb, i * 25 + 1 + j * 3 + 1⟩) h = some (x, h) := by
      simp only [ldSt, bd, ldn_eq T.pc (show i * 25 + 1 + j * 3 + 1 + [CTy.int .i64, CTy.int .i64].length ≤ cs.length by show _ + 2 ≤ _; omega)]
      have e : (cs.drop (i * 25 + 1 + j * 3 + 1)).take [CTy.int .i64, CTy.int .i64].length = [.int .i64 x.1, .int .i64 x.2] := by
        apply List.ext_getElem?
        intro m
        rw [List.getElem?_take]
        match m with
        | 0 => rw [if_pos (by decide), List.getElem?_drop, Nat.add_zero, T.inos i j hi hj, hx]; rfl
        | 1 => rw [if_pos (by decide), List.getElem?_drop, T.ats i j hi hj, hx]; rfl
        | m + 2 => rw [if_neg (by show ¬ m + 2 < 2; omega)]; rfl
      rw [e]
      rfl
    simp only [bd, rwhy T N, hw, decide_true, Bool.not_true, Bool.false_eq_true, if_false, nonNil_eq, fld_eq, Nat.zero_add, rt_ld T, idx_nat hi, idxA_nat hj, hl, ret, Int.toNat_natCast, hx, Option.getD_some]
  · simp [bd, ret, rwhy T N, hw]

end

/-- Three cells of a slot are written. -/
theorem over3 {cs : List MV} {o : Nat} {a b c : MV} (hl : o + 3 ≤ cs.length) (k : Nat) : (over cs o [a, b, c])[k]? = if k = o then some a else if k = o + 1 then some b else if k = o + 2 then some c else cs[k]? := by
  unfold over
  have h1 : (cs.take o).length = o := by simp; omega
  by_cases e0 : k < o
  · rw [if_neg (by omega), if_neg (by omega), if_neg (by omega), List.append_assoc, List.getElem?_append_left (by omega), List.getElem?_take, if_pos e0]
  · rw [List.append_assoc, List.getElem?_append_right (by omega), h1]
    by_cases e1 : k - o < 3
    · rw [List.getElem?_append_left (by simpa using e1)]
      match hk : k - o, e1 with
      | 0, _ => rw [if_pos (by omega)]; rfl
      | 1, _ => rw [if_neg (by omega), if_pos (by omega)]; rfl
      | 2, _ => rw [if_neg (by omega), if_neg (by omega), if_pos (by omega)]; rfl
    · rw [if_neg (by omega), if_neg (by omega), if_neg (by omega), List.getElem?_append_right (by simp; omega), List.getElem?_drop]
      congr 1
      simp
      omega

theorem over3_len {cs : List MV} {o : Nat} {a b c : MV} (hl : o + 3 ≤ cs.length) : (over cs o [a, b, c]).length = cs.length := by
  unfold over; simp; omega

/-- A slot is written. -/
theorem slot_set {h : Hp} {t pb n : Nat} {cs : List MV} {lab : Nat → Int} {fd : Nat → Nat → Option (Int × Int)} (T : RTab h t pb cs n lab fd) {i j : Nat} (hi : i < n) (hj : j < 8) (x : Option (Int × Int)) :
    RTab (h.set pb (.cells (over cs (i * 25 + 1 + j * 3) [.bool x.isSome, .int .i64 (x.getD (0, 0)).1, .int .i64 (x.getD (0, 0)).2]) false)) t pb (over cs (i * 25 + 1 + j * 3) [.bool x.isSome, .int .i64 (x.getD (0, 0)).1, .int .i64 (x.getD (0, 0)).2]) n lab (upd2 fd i j x) := by
  have hb : i * 25 + 25 ≤ cs.length := by rw [T.len]; omega
  have hl : i * 25 + 1 + j * 3 + 3 ≤ cs.length := by omega
  refine ⟨?_, ?_, ?_, ?_, ?_, ?_, ?_, T.ne, T.big⟩
  · rw [Hp.get_set_ne _ _ T.ne]; exact T.tb
  · simp
  · rw [over3_len hl]; exact T.len
  · intro k hk
    rw [over3 hl, if_neg (by omega), if_neg (by omega), if_neg (by omega)]
    exact T.labs k hk
  · intro a b ha hb'
    rw [over3 hl]
    by_cases e : a = i ∧ b = j
    · obtain ⟨rfl, rfl⟩ := e
      rw [if_pos rfl, upd2_same]
    · rw [if_neg (by omega), if_neg (by omega), if_neg (by omega), upd2_ne _ _ e]
      exact T.ons a b ha hb'
  · intro a b ha hb'
    rw [over3 hl]
    by_cases e : a = i ∧ b = j
    · obtain ⟨rfl, rfl⟩ := e
      rw [if_neg (by omega), if_pos rfl, upd2_same]
    · rw [if_neg (by omega), if_neg (by omega), if_neg (by omega), upd2_ne _ _ e]
      exact T.inos a b ha hb'
  · intro a b ha hb'
    rw [over3 hl]
    by_cases e : a = i ∧ b = j
    · obtain ⟨rfl, rfl⟩ := e
      rw [if_neg (by omega), if_neg (by omega), if_pos rfl, upd2_same]
    · rw [if_neg (by omega), if_neg (by omega), if_neg (by omega), upd2_ne _ _ e]
      exact T.ats a b ha hb'

section
variable {h : Hp} {t n : Nat} {lab : Nat → Int} {fd : Nat → Nat → Option (Int × Int)} {fp : Nat → Prop} (T : RTabP h t n lab fd fp) {N : Nat}
include T

theorem rraise_spec (hN : 16 < N) {p a : Int} (hl : ∀ i, i < n → 0 ≤ lab i ∧ lab i < 65536) (ha : 0 ≤ a ∧ a < 65536) : Wp (F_moatref19_Table_Raise N (some ⟨t, 0⟩) p a) h fun r h' => r = raiseR n lab p a ∧ RTabP h' t n (raiseL n lab p a) fd fp ∧ Mod h fp h' fp := by
  obtain ⟨pb, cs, T, h1, h2, h3⟩ := T
  unfold F_moatref19_Table_Raise
  have stay : ∀ r, r = raiseR n lab p a → r ≠ 0 → Wp (ret r) h fun r h' => r = raiseR n lab p a ∧ RTabP h' t n (raiseL n lab p a) fd fp ∧ Mod h fp h' fp := by
    intro r hr h0
    refine w_ret ⟨hr, ⟨pb, cs, ?_, h1, h2, h3⟩, Mod.refl _ _⟩
    unfold raiseL; rw [← hr, if_neg h0]; exact T
  refine w_bd_eq (rhas T N p) ?_
  by_cases hp : p < 0 ∨ (n : Int) ≤ p
  · rw [decide_eq_true hp, if_pos (by simp)]
    exact stay 1 (by unfold raiseR; rw [if_pos hp]) (by simp)
  · rw [decide_eq_false hp, if_neg (by simp)]
    obtain ⟨i, rfl⟩ : ∃ i : Nat, p = i := ⟨p.toNat, by omega⟩
    have hi : i < n := by omega
    refine w_bd_eq (nonNil_eq _) (w_bd_eq (fld_eq _ _) (w_bd_eq (rt_ld T) (w_bd_eq (idx_nat hi) (w_bd_eq (fld_eq _ _) ?_))))
    simp only [Nat.zero_add, Nat.add_zero]
    refine w_bd_eq (ldI_eq T.pc (T.labs i hi)) (w_bd_eq (flows04_spec hN (hl i hi) ha h) ?_)
    by_cases hf : bitI .andNot .u16 (lab i) a = 0
    · rw [decide_eq_true hf, if_neg (by simp)]
      have hlt : i * 25 < cs.length := by rw [T.len]; omega
      have hr : raiseR n lab i a = 0 := by unfold raiseR; rw [if_neg hp, Int.toNat_natCast, if_pos hf]
      have hL : raiseL n lab i a = upd1 lab i a := by unfold raiseL; rw [if_pos hr, Int.toNat_natCast]
      rw [hr, hL]
      refine w_bd_eq (nonNil_eq _) (w_bd_eq (fld_eq _ _) (w_bd_eq (rt_ld T) (w_bd_eq (idx_nat hi) (w_bd_eq (fld_eq _ _) ?_))))
      simp only [Nat.zero_add, Nat.add_zero]
      refine w_bd_eq (stc_eq T.pc hlt rfl) (w_ret ⟨rfl, ⟨pb, cs.set (i * 25) (.int .u16 a), ?_, h1, h2, h3⟩, ?_⟩)
      · refine ⟨?_, ?_, ?_, ?_, ?_, ?_, ?_, T.ne, T.big⟩
        · rw [Hp.get_set_ne _ _ T.ne]; exact T.tb
        · simp
        · simpa using T.len
        · intro k hk
          rw [List.getElem?_set]
          unfold upd1
          by_cases e : i = k
          · subst e; simp [hlt]
          · rw [if_neg (by omega), if_neg (fun c => e c.symm)]; exact T.labs k hk
        · intro k j hk hj
          rw [List.getElem?_set, if_neg (by omega)]
          exact T.ons k j hk hj
        · intro k j hk hj
          rw [List.getElem?_set, if_neg (by omega)]
          exact T.inos k j hk hj
        · intro k j hk hj
          rw [List.getElem?_set, if_neg (by omega)]
          exact T.ats k j hk hj
      · exact ⟨Nat.le_refl _, fun b _ hb => Hp.get_set_ne _ _ (fun c => hb ((h1 b).2 (.inr c))), fun b hb => .inl hb⟩
    · rw [decide_eq_false hf, if_pos (by simp)]
      exact stay 7 (by unfold raiseR; rw [if_neg hp, Int.toNat_natCast, if_neg hf]) (by simp)

theorem ropen_spec (hN : 8 < N) (p ino : Int) : Wp (F_moatref19_Table_Open N (some ⟨t, 0⟩) p ino) h fun r h' => r = openR n fd p ino ∧ RTabP h' t n lab (openF n fd p ino) fp ∧ Mod h fp h' fp := by
  obtain ⟨pb, cs, T, h1, h2, h3⟩ := T
  unfold F_moatref19_Table_Open
  have stay : ∀ r, r = openR n fd p ino → r.2 ≠ 0 → Wp (ret r) h fun r h' => r = openR n fd p ino ∧ RTabP h' t n lab (openF n fd p ino) fp ∧ Mod h fp h' fp := by
    intro r hr h0
    refine w_ret ⟨hr, ⟨pb, cs, ?_, h1, h2, h3⟩, Mod.refl _ _⟩
    unfold openF; rw [← hr, if_neg h0]; exact T
  refine w_bd_eq (rhas T N p) ?_
  by_cases hp : p < 0 ∨ (n : Int) ≤ p
  · rw [decide_eq_true hp, if_pos (by simp)]
    exact stay (0, 1) (by unfold openR; rw [if_pos hp]) (by simp)
  · rw [decide_eq_false hp]
    by_cases hin : ino < 0 ∨ 64 ≤ ino
    · have : (((!!false) || (decide (ino < 0))) || (decide ((64 : Int) ≤ ino))) = true := by simpa using hin
      rw [if_pos this]
      exact stay (0, 1) (by unfold openR; rw [if_neg hp, if_pos hin]) (by simp)
    · have : ¬ (((!!false) || (decide (ino < 0))) || (decide ((64 : Int) ≤ ino))) = true := by simpa using hin
      rw [if_neg this]
      obtain ⟨i, rfl⟩ : ∃ i : Nat, p = i := ⟨p.toNat, by omega⟩
      have hi : i < n := by omega
      refine w_bd_mono (R := fun r h' => (r = Sum.inl () ∧ h' = h ∧ firstNo (fd i) 0 8 = none) ∨ ∃ k : Nat, r = Sum.inr ((k : Int), 0) ∧ firstNo (fd i) 0 8 = some k ∧ h' = h.set pb (.cells (over cs (i * 25 + 1 + k * 3) [.bool true, .int .i64 ino, .int .i64 0]) false)) ?_ ?_
      · refine w_iter (fun (v : Int) h' => h' = h ∧ ∃ j : Nat, v = (j : Int) ∧ j ≤ 8 ∧ firstNo (fd i) 0 8 = firstNo (fd i) j (8 - j)) (fun v => 8 - v.toNat) ?_ N (0 : Int) h ⟨rfl, 0, rfl, by omega, rfl⟩ (by show 8 - 0 < N; omega)
        rintro v h' ⟨rfl, j, rfl, hj, hfn⟩ rec hrec
        by_cases hj8 : j < 8
        · have hj' : (j : Int) < 8 := by omega
          simp only [hj', decide_true, if_true]
          have hl := ldB_eq T.pc (T.ons i j hi hj8)
          refine w_bd_eq (nonNil_eq _) (w_bd_eq (fld_eq _ _) (w_bd_eq (rt_ld T) (w_bd_eq (idx_nat hi) (w_bd_eq (fld_eq _ _) (w_bd_eq (idxA_nat hj8) (w_bd_eq (fld_eq _ _) ?_))))))
          simp only [Nat.zero_add, Nat.add_zero]
          refine w_bd_eq hl ?_
          have hs : firstNo (fd i) j (8 - j) = if (fd i j).isNone = true then some j else firstNo (fd i) (j + 1) (8 - (j + 1)) := by
            rw [show 8 - j = (8 - (j + 1)) + 1 by omega]
            rfl
          cases hf : fd i j with
          | none =>
            simp only [Option.isSome_none, Bool.not_false, if_true]
            refine w_bd_eq (nonNil_eq _) (w_bd_eq (fld_eq _ _) (w_bd_eq (rt_ld T) (w_bd_eq (idx_nat hi) (w_bd_eq (fld_eq _ _) (w_bd_eq (idxA_nat hj8) ?_)))))
            simp only [Nat.zero_add]
            have hlen : i * 25 + 1 + j * 3 + 3 ≤ cs.length := by rw [T.len]; omega
            refine w_bd_eq (stn_eq T.pc rfl hlen rfl) (w_ret (.inr ⟨j, rfl, ?_, rfl⟩))
            rw [hfn, hs, hf]; rfl
          | some x =>
            simp only [Option.isSome_some, Bool.not_true, Bool.false_eq_true, if_false]
            rw [nat_wr (by omega)]
            refine hrec _ _ ⟨rfl, j + 1, rfl, by omega, ?_⟩ (by show 8 - (j + 1) < 8 - j; omega)
            rw [hfn, hs, hf]; rfl
        · have hj' : ¬ (j : Int) < 8 := by omega
          simp only [hj', decide_false, Bool.false_eq_true, if_false]
          obtain rfl : j = 8 := by omega
          exact w_ret (.inl ⟨rfl, rfl, hfn⟩)
      · rintro r h' (⟨rfl, rfl, hf⟩ | ⟨k, rfl, hf, rfl⟩)
        · exact stay (0, 5) (by unfold openR; rw [if_neg hp, if_neg hin, Int.toNat_natCast, hf]) (by simp)
        · obtain ⟨_, hk8, _, _⟩ := firstNo_some hf
          have hr : openR n fd i ino = ((k : Int), 0) := by unfold openR; rw [if_neg hp, if_neg hin, Int.toNat_natCast, hf]
          have hF : openF n fd i ino = upd2 fd i k (some (ino, 0)) := by unfold openF; rw [hr]; simp
          rw [hr, hF]
          exact w_ret ⟨rfl, ⟨pb, _, slot_set T hi (by omega) (some (ino, 0)), h1, h2, h3⟩, Nat.le_refl _, fun b _ hb => Hp.get_set_ne _ _ (fun c => hb ((h1 b).2 (.inr c))), fun b hb => .inl hb⟩

theorem rclose_spec (p k : Int) : Wp (F_moatref19_Table_Close N (some ⟨t, 0⟩) p k) h fun r h' => r = closeR n fd p k ∧ RTabP h' t n lab (closeF n fd p k) fp ∧ Mod h fp h' fp := by
  obtain ⟨pb, cs, T, h1, h2, h3⟩ := T
  unfold F_moatref19_Table_Close
  refine w_bd_eq (rwhy T N p k) ?_
  by_cases hw : whyT n fd p k = 0
  · unfold closeR closeF
    rw [if_pos hw, if_pos hw, hw, if_neg (by simp)]
    obtain ⟨i, j, rfl, rfl, hi, hj, x, hx⟩ := why_yes hw
    have hlen : i * 25 + 1 + j * 3 + 3 ≤ cs.length := by rw [T.len]; omega
    refine w_bd_eq (nonNil_eq _) (w_bd_eq (fld_eq _ _) (w_bd_eq (rt_ld T) (w_bd_eq (idx_nat hi) (w_bd_eq (fld_eq _ _) (w_bd_eq (idxA_nat hj) (w_bd_eq (fld_eq _ _) (w_bd_eq (fld_eq _ _) ?_)))))))
    simp only [Nat.zero_add, Nat.add_zero]
    refine w_bd_eq (ldI_eq T.pc (T.inos i j hi hj)) (w_bd_eq (nonNil_eq _) (w_bd_eq (fld_eq _ _) (w_bd_eq (rt_ld T) (w_bd_eq (idx_nat hi) (w_bd_eq (fld_eq _ _) (w_bd_eq (idxA_nat hj) ?_))))))
    simp only [Nat.zero_add]
    refine w_bd_eq (stn_eq T.pc rfl hlen rfl) (w_ret ⟨rfl, ⟨pb, _, slot_set T hi hj none, h1, h2, h3⟩, Nat.le_refl _, fun b _ hb => Hp.get_set_ne _ _ (fun c => hb ((h1 b).2 (.inr c))), fun b hb => .inl hb⟩)
  · unfold closeR closeF
    rw [if_neg hw, if_neg hw, if_pos (by simpa using hw)]
    exact w_ret ⟨rfl, ⟨pb, cs, T, h1, h2, h3⟩, Mod.refl _ _⟩

theorem rmove_spec (p k a : Int) : Wp (F_moatref19_Table_Move N (some ⟨t, 0⟩) p k a) h fun r h' => r = moveR n fd p k a ∧ RTabP h' t n lab (moveF n fd p k a) fp ∧ Mod h fp h' fp := by
  obtain ⟨pb, cs, T, h1, h2, h3⟩ := T
  unfold F_moatref19_Table_Move
  have stay : ∀ r, r = moveR n fd p k a → r ≠ 0 → Wp (ret r) h fun r h' => r = moveR n fd p k a ∧ RTabP h' t n lab (moveF n fd p k a) fp ∧ Mod h fp h' fp := by
    intro r hr h0
    refine w_ret ⟨hr, ⟨pb, cs, ?_, h1, h2, h3⟩, Mod.refl _ _⟩
    unfold moveF; rw [← hr, if_neg h0]; exact T
  refine w_bd_eq (rwhy T N p k) ?_
  by_cases hw : whyT n fd p k = 0
  · rw [hw, if_neg (by simp)]
    by_cases ha : a < 0 ∨ 3840 < a
    · have : ((decide (a < 0)) || (decide ((3840 : Int) < a))) = true := by simpa using ha
      rw [if_pos this]
      exact stay 1 (by unfold moveR; rw [if_pos hw, if_pos ha]) (by simp)
    · have : ¬ ((decide (a < 0)) || (decide ((3840 : Int) < a))) = true := by simpa using ha
      rw [if_neg this]
      obtain ⟨i, j, rfl, rfl, hi, hj, x, hx⟩ := why_yes hw
      have hr : moveR n fd i j a = 0 := by unfold moveR; rw [if_pos hw, if_neg ha]
      have hF : moveF n fd i j a = upd2 fd i j (some (x.1, a)) := by unfold moveF; rw [hr, if_pos rfl]; simp [hx]
      rw [hr, hF]
      have hb : i * 25 + 25 ≤ cs.length := by rw [T.len]; omega
      have hlen : i * 25 + 1 + j * 3 + 1 + 1 < cs.length := by omega
      refine w_bd_eq (nonNil_eq _) (w_bd_eq (fld_eq _ _) (w_bd_eq (rt_ld T) (w_bd_eq (idx_nat hi) (w_bd_eq (fld_eq _ _) (w_bd_eq (idxA_nat hj) (w_bd_eq (fld_eq _ _) (w_bd_eq (fld_eq _ _) ?_)))))))
      simp only [Nat.zero_add]
      refine w_bd_eq (stc_eq T.pc hlen rfl) (w_ret ⟨rfl, ⟨pb, cs.set (i * 25 + 1 + j * 3 + 1 + 1) (.int .i64 a), ?_, h1, h2, h3⟩, Nat.le_refl _, fun b _ hb => Hp.get_set_ne _ _ (fun c => hb ((h1 b).2 (.inr c))), fun b hb => .inl hb⟩)
      refine ⟨?_, Hp.get_set_same _ _ _, ?_, ?_, ?_, ?_, ?_, T.ne, T.big⟩
      · rw [Hp.get_set_ne _ _ T.ne]; exact T.tb
      · simpa using T.len
      · intro c hc
        rw [List.getElem?_set, if_neg (by omega)]
        exact T.labs c hc
      · intro c d hc hd
        rw [List.getElem?_set, if_neg (by omega), T.ons c d hc hd]
        by_cases e : c = i ∧ d = j
        · obtain ⟨rfl, rfl⟩ := e
          rw [upd2_same, hx]; rfl
        · rw [upd2_ne _ _ e]
      · intro c d hc hd
        rw [List.getElem?_set, if_neg (by omega), T.inos c d hc hd]
        by_cases e : c = i ∧ d = j
        · obtain ⟨rfl, rfl⟩ := e
          rw [upd2_same, hx]; rfl
        · rw [upd2_ne _ _ e]
      · intro c d hc hd
        rw [List.getElem?_set]
        by_cases e : c = i ∧ d = j
        · obtain ⟨rfl, rfl⟩ := e
          rw [if_pos (by omega), if_pos hlen, upd2_same]
          rfl
        · rw [if_neg (by omega), upd2_ne _ _ e]
          exact T.ats c d hc hd
  · rw [if_pos (by simpa using hw)]
    exact stay _ (by unfold moveR; rw [if_neg hw]) hw

theorem rholds_spec (hN : 8 < N) (ino : Int) : F_moatref19_Table_Holds N (some ⟨t, 0⟩) ino h = some ((cntI fd ino 0 n : Int), h) := by
  obtain ⟨pb, cs, T, _, _, _⟩ := T
  have hb := T.big
  suffices Wp (F_moatref19_Table_Holds N (some ⟨t, 0⟩) ino) h fun r h' => r = (cntI fd ino 0 n : Int) ∧ h' = h by
    obtain ⟨r, h', e, rfl, rfl⟩ := this
    exact e
  unfold F_moatref19_Table_Holds
  refine w_bd_mono (R := fun r h' => r = (cntI fd ino 0 n : Int) ∧ h' = h) ?_ fun r h' q => w_ret q
  refine w_iter (fun (v : Int × Int) h' => h' = h ∧ ∃ (acc i : Nat), v = ((acc : Int), (i : Int)) ∧ i ≤ n ∧ acc + cntI fd ino i (n - i) = cntI fd ino 0 n) (fun v => n - v.2.toNat) ?_ N ((0 : Int), (0 : Int)) h ⟨rfl, 0, 0, rfl, Nat.zero_le _, by simp⟩ (by show n - 0 < N; omega)
  rintro v h' ⟨rfl, acc, i, rfl, hi, htot⟩ rec hrec
  have hbound := cntI_le fd ino n 0
  refine w_bd_eq (nonNil_eq _) (w_bd_eq (fld_eq _ _) (w_bd_eq (rt_ld T) ?_))
  by_cases hin : i < n
  · simp only [hin, Int.ofNat_lt, decide_true, if_true]
    have hsplit : cntI fd ino i (n - i) = cntJ (fd i) ino 0 8 + cntI fd ino (i + 1) (n - (i + 1)) := by
      rw [show n - i = (n - (i + 1)) + 1 by omega]
      rfl
    refine w_bd_mono (R := fun r h2 => r = ((acc + cntJ (fd i) ino 0 8 : Nat) : Int) ∧ h2 = h') ?_ ?_
    · refine w_iter (fun (v : Int × Int) h2 => h2 = h' ∧ ∃ (a2 j : Nat), v = ((a2 : Int), (j : Int)) ∧ j ≤ 8 ∧ a2 + cntJ (fd i) ino j (8 - j) = acc + cntJ (fd i) ino 0 8) (fun v => 8 - v.2.toNat) ?_ N ((acc : Int), (0 : Int)) h' ⟨rfl, acc, 0, rfl, by omega, rfl⟩ (by show 8 - 0 < N; omega)
      rintro v h2 ⟨rfl, a2, j, rfl, hj, ht2⟩ rec2 hrec2
      by_cases hj8 : j < 8
      · have hj8' : ((j : Int) < 8) := by omega
        simp only [hj8', decide_true, if_true]
        have hl := ldB_eq T.pc (T.ons i j hin hj8)
        refine w_bd_eq (nonNil_eq _) (w_bd_eq (fld_eq _ _) (w_bd_eq (rt_ld T) (w_bd_eq (idx_nat hin) (w_bd_eq (fld_eq _ _) (w_bd_eq (idxA_nat hj8) (w_bd_eq (fld_eq _ _) ?_))))))
        simp only [Nat.zero_add, Nat.add_zero]
        refine w_bd_eq hl ?_
        have hs2 : cntJ (fd i) ino j (8 - j) = (if (fd i j).map (·.1) = some ino then 1 else 0) + cntJ (fd i) ino (j + 1) (8 - (j + 1)) := by
          rw [show 8 - j = (8 - (j + 1)) + 1 by omega]
          rfl
        have hgo : ∀ (c : Bool), (c = true ↔ (fd i j).map (·.1) = some ino) → Wp (bd (show M Int from if c = true then ret (wr .i64 ((a2 : Int) + 1)) else ret (a2 : Int)) fun j_19 => rec2 (j_19, wr .i64 ((j : Int) + 1))) h2 fun r h3 => r = ((acc + cntJ (fd i) ino 0 8 : Nat) : Int) ∧ h3 = h2 := by
          intro c hc
          have ha2 : a2 < 1000 := by have := cntJ_le (fd i) ino 8 0; omega
          cases c with
          | true =>
            simp only [if_true]
            refine w_bd_ret ?_
            rw [nat_wr (by omega), nat_wr (by omega)]
            refine hrec2 _ _ ⟨rfl, a2 + 1, j + 1, rfl, by omega, ?_⟩ (by show 8 - (j + 1) < 8 - j; omega)
            rw [hs2, if_pos (hc.1 rfl)] at ht2
            omega
          | false =>
            simp only [Bool.false_eq_true, if_false]
            refine w_bd_ret ?_
            rw [nat_wr (by omega)]
            refine hrec2 _ _ ⟨rfl, a2, j + 1, rfl, by omega, ?_⟩ (by show 8 - (j + 1) < 8 - j; omega)
            rw [hs2, if_neg (fun c => by have := hc.2 c; cases this)] at ht2
            omega
        cases hf : fd i j with
        | none =>
          simp only [Option.isSome_none, Bool.false_eq_true, if_false]
          refine w_bd_ret (hgo false ?_)
          rw [hf]; simp
        | some x =>
          simp only [Option.isSome_some, if_true]
          refine w_bd_eq (a := decide (x.1 = ino)) (h' := h2) ?_ (hgo _ ?_)
          · have hl2 := ldI_eq T.pc (T.inos i j hin hj8)
            rw [hf] at hl2
            simp only [bd, nonNil_eq, fld_eq, Nat.zero_add, rt_ld T, idx_nat hin, idxA_nat hj8, Nat.add_zero, hl2, ret, Option.getD_some]
          · rw [hf]; simp
      · have hj8' : ¬ ((j : Int) < 8) := by omega
        simp only [hj8', decide_false, Bool.false_eq_true, if_false]
        obtain rfl : j = 8 := by omega
        refine w_ret ⟨?_, rfl⟩
        have : cntJ (fd i) ino 8 (8 - 8) = 0 := rfl
        rw [this] at ht2
        rw [← ht2]
        simp
    · rintro r h2 ⟨rfl, rfl⟩
      rw [nat_wr (by omega)]
      refine hrec _ _ ⟨rfl, acc + cntJ (fd i) ino 0 8, i + 1, rfl, by omega, ?_⟩ (by show n - (i + 1) < n - i; omega)
      rw [hsplit] at htot
      omega
  · have hin' : ¬ ((i : Int) < (n : Int)) := by omega
    simp only [hin', decide_false, Bool.false_eq_true, if_false]
    obtain rfl : i = n := by omega
    refine w_ret ⟨?_, rfl⟩
    rw [Nat.sub_self] at htot
    have : cntI fd ino i 0 = 0 := rfl
    rw [this] at htot
    rw [← htot]
    simp

end

theorem rnew_no {N : Nat} {n : Int} (hn : n < 1 ∨ 8 < n) (h : Hp) : F_moatref19_New N n h = some ((none, 1), h) := by
  unfold F_moatref19_New
  have : ((decide (n < 1)) || (decide ((8 : Int) < n))) = true := by simpa using hn
  rw [if_pos this]; rfl

/-- A process of the document's that has nothing. -/
abbrev zRef : List MV := [MV.int .u16 (0 : Int), MV.bool false, MV.int .i64 (0 : Int), MV.int .i64 (0 : Int), MV.bool false, MV.int .i64 (0 : Int), MV.int .i64 (0 : Int), MV.bool false, MV.int .i64 (0 : Int), MV.int .i64 (0 : Int), MV.bool false, MV.int .i64 (0 : Int), MV.int .i64 (0 : Int), MV.bool false, MV.int .i64 (0 : Int), MV.int .i64 (0 : Int), MV.bool false, MV.int .i64 (0 : Int), MV.int .i64 (0 : Int), MV.bool false, MV.int .i64 (0 : Int), MV.int .i64 (0 : Int), MV.bool false, MV.int .i64 (0 : Int), MV.int .i64 (0 : Int)]

theorem rnew_yes {N n : Nat} (h1 : 1 ≤ n) (h8 : n ≤ 8) (h : Hp) : Wp (F_moatref19_New N n) h fun r h' => r = (some ⟨h.size + 1, 0⟩, 0) ∧ RTabP h' (h.size + 1) n (fun _ => 0) (fun _ _ => none) (fun b => b = h.size + 1 ∨ b = h.size) ∧ Mod h (fun _ => False) h' (fun b => b = h.size + 1 ∨ b = h.size) := by
  unfold F_moatref19_New
  have : ¬ ((decide ((n : Int) < 1)) || (decide ((8 : Int) < (n : Int)))) = true := by simp; omega
  rw [if_neg this]
  have hmk : mkSl 25 200 zRef (n : Int) (n : Int) h = some (⟨some ⟨h.size, 0⟩, n⟩, h.push (.cells (reps n zRef) false)) := by
    unfold mkSl
    rw [if_pos ⟨by omega, by omega, by unfold most; omega, rfl⟩, Int.toNat_natCast]
  refine w_bd_eq hmk (w_bd_eq (alloc_eq [MV.sl (some ⟨h.size, 0⟩) n 25]) (w_ret ⟨by simp, ?_, ?_⟩))
  · have cell : ∀ i k, i < n → k < 25 → (reps n zRef)[i * 25 + k]? = zRef[k]? := fun i k hi hk => reps_get zRef n i k hi hk
    refine ⟨h.size, reps n zRef, ⟨?_, ?_, ?_, ?_, ?_, ?_, ?_, by omega, h8⟩, fun b => Iff.rfl, by simp, by simp; omega⟩
    · exact Hp.get_push_same _ _
    · rw [Hp.get_push_lt _ _ (by simp), Hp.get_push_same]
    · exact reps_length _ _
    · intro i hi
      exact cell i 0 hi (by omega)
    · intro i j hi hj
      rw [Nat.add_assoc, cell i (1 + j * 3) hi (by omega)]
      match j, hj with
      | 0, _ => rfl
      | 1, _ => rfl
      | 2, _ => rfl
      | 3, _ => rfl
      | 4, _ => rfl
      | 5, _ => rfl
      | 6, _ => rfl
      | 7, _ => rfl
    · intro i j hi hj
      rw [show i * 25 + 1 + j * 3 + 1 = i * 25 + (1 + j * 3 + 1) by omega, cell i (1 + j * 3 + 1) hi (by omega)]
      match j, hj with
      | 0, _ => rfl
      | 1, _ => rfl
      | 2, _ => rfl
      | 3, _ => rfl
      | 4, _ => rfl
      | 5, _ => rfl
      | 6, _ => rfl
      | 7, _ => rfl
    · intro i j hi hj
      rw [show i * 25 + 1 + j * 3 + 2 = i * 25 + (1 + j * 3 + 2) by omega, cell i (1 + j * 3 + 2) hi (by omega)]
      match j, hj with
      | 0, _ => rfl
      | 1, _ => rfl
      | 2, _ => rfl
      | 3, _ => rfl
      | 4, _ => rfl
      | 5, _ => rfl
      | 6, _ => rfl
      | 7, _ => rfl
  · refine ⟨by simp; omega, fun b hb _ => ?_, ?_⟩
    · rw [Hp.get_push_lt _ _ (by simp; omega), Hp.get_push_lt _ _ hb]
    · rintro b (rfl | rfl) <;> right <;> omega

theorem RTabP.fdq {h : Hp} {t n : Nat} {lab : Nat → Int} {fd : Nat → Nat → Option (Int × Int)} {fp : Nat → Prop} (T : RTabP h t n lab fd fp) (N : Nat) (p k : Int) : F_moatref19_Table_Fd N (some ⟨t, 0⟩) p k h = some ((if whyT n fd p k = 0 then ((fd p.toNat k.toNat).getD (0, 0), 0) else ((0, 0), whyT n fd p k)), h) := by
  obtain ⟨pb, cs, T, _⟩ := T
  exact rfd T N p k
theorem RTabP.hasq {h : Hp} {t n : Nat} {lab : Nat → Int} {fd : Nat → Nat → Option (Int × Int)} {fp : Nat → Prop} (T : RTabP h t n lab fd fp) (N : Nat) (p : Int) : F_moatref19_Table_Has N (some ⟨t, 0⟩) p h = some (!decide (p < 0 ∨ (n : Int) ≤ p), h) := by
  obtain ⟨pb, cs, T, _⟩ := T
  exact rhas T N p

end Go.Moat
