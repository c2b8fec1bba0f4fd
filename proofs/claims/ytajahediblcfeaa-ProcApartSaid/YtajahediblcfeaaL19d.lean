/- Layer 19: 'ProcApart'. -/
import Derived.Test.YtajahediblcfeaaL19b
namespace Go.Moat
open Go.Mini

/-- What an act of another one leaves. -/
theorem actL_ne {n : Nat} {lab : Nat → Int} {a : Int × Int × Int × Int × Int} {p : Nat} (hp : a.2.1 ≠ p) : actL n lab a p = lab p := by
  unfold actL raiseL
  split
  · split
    · rename_i h0
      unfold upd1
      rw [if_neg]
      intro c
      unfold raiseR at h0
      split at h0
      · cases h0
      · omega
    · rfl
  · rfl

theorem actF_ne {n : Nat} {fd : Nat → Nat → Option (Int × Int)} {a : Int × Int × Int × Int × Int} {p : Nat} (hp : a.2.1 ≠ p) : actF n fd a p = fd p := by
  have key : ∀ (q k : Int) (x : Option (Int × Int)), 0 ≤ q → q ≠ p → upd2 fd q.toNat k.toNat x p = fd p := by
    intro q k x h0 hne
    funext b
    exact upd2_ne _ _ (by omega)
  have hwhy : ∀ {q k : Int}, whyT n fd q k = 0 → 0 ≤ q := by
    intro q k hw
    obtain ⟨i, j, rfl, _⟩ := why_yes hw
    omega
  unfold actF
  split
  · rfl
  · split
    · unfold openF
      split
      · rename_i h0
        refine key _ _ _ ?_ hp
        unfold openR at h0
        split at h0
        · cases h0
        · omega
      · rfl
    · split
      · unfold closeF
        split
        · rename_i hw
          exact key _ _ _ (hwhy hw) hp
        · rfl
      · unfold moveF
        split
        · rename_i h0
          refine key _ _ _ ?_ hp
          unfold moveR at h0
          split at h0
          · rename_i hw
            exact hwhy hw
          · rename_i hw
            exact absurd h0 hw
        · rfl

/-- A label never has less than it had. -/
theorem actL_flows {n : Nat} {lab : Nat → Int} {a : Int × Int × Int × Int × Int} (p : Nat) : bitI .andNot .u16 (lab p) (actL n lab a p) = 0 := by
  have self : ∀ x : Int, bitI .andNot .u16 x x = 0 := by
    intro x
    unfold bitI
    have : (BitVec.ofInt IntKind.u16.bits x &&& ~~~ BitVec.ofInt IntKind.u16.bits x) = 0#_ := by
      apply BitVec.eq_of_getLsbD_eq
      intro k hk
      simp
    show IntKind.u16.wrap (((BitVec.ofInt IntKind.u16.bits x &&& ~~~ BitVec.ofInt IntKind.u16.bits x).toNat : Nat) : Int) = 0
    rw [this]
    rfl
  unfold actL raiseL
  split
  · split
    · rename_i h0
      unfold raiseR at h0
      split at h0
      · cases h0
      · split at h0
        · rename_i hf
          unfold upd1
          split
          · rename_i e
            rw [e]
            exact hf
          · exact self _
        · cases h0
    · exact self _
  · exact self _

/-- What is told of one that is open, or not. -/
def fdE (n : Nat) (fd : Nat → Nat → Option (Int × Int)) (p k : Int) : (Int × Int) × Int := if whyT n fd p k = 0 then ((fd p.toNat k.toNat).getD (0, 0), 0) else ((0, 0), whyT n fd p k)

theorem fdE_same {n : Nat} {fd fd' : Nat → Nat → Option (Int × Int)} {p : Nat} (h : fd' p = fd p) (k : Int) : fdE n fd' p k = fdE n fd p k := by
  have : whyT n fd' p k = whyT n fd p k := by
    unfold whyT
    rw [Int.toNat_natCast, h]
  unfold fdE
  rw [this, Int.toNat_natCast, h]

/-- Two cells are written. -/
theorem over2 {cs : List MV} {o : Nat} {a b : MV} (hl : o + 2 ≤ cs.length) (k : Nat) : (over cs o [a, b])[k]? = if k = o then some a else if k = o + 1 then some b else cs[k]? := by
  unfold over
  have h1 : (cs.take o).length = o := by simp; omega
  by_cases e0 : k < o
  · rw [if_neg (by omega), if_neg (by omega), List.append_assoc, List.getElem?_append_left (by omega), List.getElem?_take, if_pos e0]
  · rw [List.append_assoc, List.getElem?_append_right (by omega), h1]
    by_cases e1 : k - o < 2
    · rw [List.getElem?_append_left (by simpa using e1)]
      match hk : k - o, e1 with
      | 0, _ => rw [if_pos (by omega)]; rfl
      | 1, _ => rw [if_neg (by omega), if_pos (by omega)]; rfl
    · rw [if_neg (by omega), if_neg (by omega), List.getElem?_append_right (by simp; omega), List.getElem?_drop]
      congr 1
      simp
      omega
theorem over2_len {cs : List MV} {o : Nat} {a b : MV} (hl : o + 2 ≤ cs.length) : (over cs o [a, b]).length = cs.length := by
  unfold over; simp; omega

/-- 'ProcApart', whatever comes in. -/
theorem apart_run {xs : List (HC actTs)} {s : Sl} {w : Int} (hw : 0 ≤ w ∧ w < 256) {h : Hp} (hs : SlIn h s 5 (rowsOf actTs xs)) : Wp (F_moatlaw19_ProcApart 1000 s w) h fun r _ => r = true := by
  unfold F_moatlaw19_ProcApart
  have hlen : s.len = xs.length := by
    have := hs.1
    rw [rowsOf_length] at this
    have h5 : actTs.length = 5 := rfl
    rw [h5] at this
    omega
  refine w_bd_mono (shown_spec (by omega) h) ?_
  rintro r0 h0 ⟨rfl, hsz0, hsame0⟩
  have hs0 : SlIn h0 s 5 (rowsOf actTs xs) := hs.frame hsz0 fun b hb => hsame0 b (hs.lt hb)
  refine w_bd_mono (new_yes (N := 1000) (n := 8) (by omega) (by omega) h0) ?_
  rintro r1 h1 ⟨rfl, T1, M1⟩
  simp only [Option.isNone_some, decide_true, Bool.not_true, Bool.or_self, Bool.false_eq_true, if_false]
  obtain ⟨same1, apart1⟩ := M1.apart (g := SlB s (rowsOf actTs xs)) (fun b hb => hs0.lt hb) (fun b _ c => c)
  have hs1 := hs0.frame M1.size same1
  refine w_bd_eq (few_spec hlen h1) ?_
  obtain ⟨m, hm⟩ : ∃ m : Nat, m = if 200 < xs.length then 200 else xs.length := ⟨_, rfl⟩
  rw [← hm]
  have hmx : m ≤ xs.length := by rw [hm]; split <;> omega
  have hm2 : m ≤ 200 := by rw [hm]; split <;> omega
  obtain ⟨p, hp, hp8⟩ : ∃ p : Nat, wr .i64 (w.tmod 8) = (p : Int) ∧ p < 8 := by
    have e : w.tmod 8 = w % 8 := Int.tmod_eq_emod_of_nonneg hw.1
    rw [e, wr64 (by omega) (by omega)]
    exact ⟨(w % 8).toNat, by omega, by omega⟩
  rw [hp]
  generalize ht : h0.size + 1 = t at *
  refine w_bd_mono (R := fun r _ => r = Sum.inl ()) ?_ (by rintro r h' rfl; exact w_ret rfl)
  refine w_iter (fun (v : Int) h' => ∃ (i : Nat) (lab : Nat → Int) (fd : Nat → Nat → Option (Int × Int)) (fp : Nat → Prop), v = (i : Int) ∧ i ≤ m ∧ TabP h' t 8 lab fd fp ∧ SlIn h' s 5 (rowsOf actTs xs) ∧ ∀ b, SlB s (rowsOf actTs xs) b → ¬ fp b)
    (fun v => m - v.toNat) ?_ 1000 (0 : Int) h1 ⟨0, _, _, _, rfl, Nat.zero_le _, T1, hs1, apart1⟩ (by show m - 0 < 1000; omega)
  rintro v h' ⟨i, lab, fd, fp, rfl, him, T, hsl, ha⟩ rec hrec
  by_cases hi : i < m
  · simp only [Int.ofNat_lt, hi, decide_true, if_true]
    obtain ⟨q, g1, g2⟩ := ldSt_row hsl (by decide) (m := m) (by omega) hi (by omega)
    generalize xs[i] = x at g2
    obtain ⟨a, rfl⟩ : ∃ a : Int × Int × Int × Int × Int, a = x := ⟨x, rfl⟩
    refine w_bd_eq g1 (w_bd_eq g2 (w_bd_eq (T.labelq 1000 p) ?_))
    have hpn : ¬ ((p : Int) < 0 ∨ ((8 : Nat) : Int) ≤ (p : Int)) := by omega
    rw [if_neg hpn, Int.toNat_natCast]
    -- what he has open
    refine w_bd_mono (R := fun (r : List MV × List Int) h2 => h2 = h' ∧ r.1.length = 16 ∧ r.2.length = 8 ∧ ∀ k : Nat, k < 8 → r.1[2 * k]? = some (.int .i64 (fdE 8 fd p k).1.1) ∧ r.1[2 * k + 1]? = some (.int .i64 (fdE 8 fd p k).1.2) ∧ r.2[k]? = some (fdE 8 fd p k).2) ?_ ?_
    · refine w_iter (fun (v : Int × List MV × List Int) h2 => h2 = h' ∧ ∃ k : Nat, v.1 = (k : Int) ∧ k ≤ 8 ∧ v.2.1.length = 16 ∧ v.2.2.length = 8 ∧ ∀ j : Nat, j < k → v.2.1[2 * j]? = some (.int .i64 (fdE 8 fd p j).1.1) ∧ v.2.1[2 * j + 1]? = some (.int .i64 (fdE 8 fd p j).1.2) ∧ v.2.2[j]? = some (fdE 8 fd p j).2)
        (fun v => 8 - v.1.toNat) ?_ 1000 ((0 : Int), (List.replicate 16 (MV.int .i64 (0 : Int))), List.replicate 8 (0 : Int)) h' ⟨rfl, 0, rfl, by omega, List.length_replicate, List.length_replicate, fun j hj => by omega⟩ (by show 8 - 0 < 1000; omega)
      rintro ⟨_, cs, es⟩ h2 ⟨rfl, k, rfl, hk, hcl, hel, hg⟩ rec2 hrec2
      dsimp only at hcl hel hg
      by_cases hk8 : k < 8
      · have hk' : (k : Int) < 8 := by omega
        simp only [hk', decide_true, if_true]
        refine w_bd_eq (T.fdq 1000 p k) ?_
        have hfe : (if whyT 8 fd p k = 0 then ((fd (p : Int).toNat (k : Int).toNat).getD (0, 0), (0 : Int)) else ((0, 0), whyT 8 fd p k)) = fdE 8 fd p k := rfl
        rw [hfe]
        refine w_bd_eq (w_chk ⟨Int.natCast_nonneg k, trivial⟩) (w_bd_eq (w_chk ?_) (w_bd_eq (w_chk ⟨Int.natCast_nonneg k, trivial⟩) (w_bd_eq (w_chk ?_) ?_)))
        · exact ⟨rfl, by rw [hcl, Int.toNat_natCast]; omega, rfl⟩
        · rw [hel, Int.toNat_natCast]; omega
        rw [nat_wr (by omega), Int.toNat_natCast, Nat.zero_add, Nat.zero_add, Nat.mul_one]
        refine hrec2 _ _ ⟨rfl, k + 1, rfl, by omega, by dsimp only; rw [over2_len (by omega)]; exact hcl, by simpa using hel, fun j hj => ?_⟩ (by show 8 - (k + 1) < 8 - k; omega)
        dsimp only
        rw [over2 (by omega), over2 (by omega), List.getElem?_set]
        by_cases e : j = k
        · subst e
          rw [if_pos (by omega), if_neg (by omega), if_pos (by omega), if_pos rfl, if_pos (by omega)]
          exact ⟨rfl, rfl, rfl⟩
        · rw [if_neg (by omega), if_neg (by omega), if_neg (by omega), if_neg (by omega), if_neg (fun c => e c.symm)]
          exact hg j (by omega)
      · have hk' : ¬ (k : Int) < 8 := by omega
        simp only [hk', decide_false, Bool.false_eq_true, if_false]
        obtain rfl : k = 8 := by omega
        exact w_ret ⟨rfl, hcl, hel, hg⟩
    rintro ⟨cs, es⟩ h2 ⟨rfl, hcl, hel, hg⟩
    dsimp only at hcl hel hg ⊢
    refine w_bd_mono (does_spec T (by omega) a) ?_
    rintro r15 h3 ⟨rfl, fp3, T3, M3⟩
    obtain ⟨sameS, apartS⟩ := M3.apart (g := SlB s (rowsOf actTs xs)) (fun b hb => hsl.lt hb) ha
    have hsl3 := hsl.frame M3.size sameS
    have hfl := actL_flows (n := 8) (lab := lab) (a := a) p
    have hLn : a.2.1 ≠ p → actL 8 lab a p = lab p := actL_ne
    have hFn : a.2.1 ≠ p → actF 8 fd a p = fd p := actF_ne
    generalize actL 8 lab a = lab3 at *
    generalize actF 8 fd a = fd3 at *
    refine w_bd_eq (T3.labelq 1000 p) ?_
    rw [if_neg hpn, Int.toNat_natCast]
    simp only [decide_true, Bool.not_true, if_true]
    refine w_bd_eq (a := false) (h' := h3) (by unfold F_label_Flows; simp only [bd, ret, hfl, decide_true, Bool.not_true]) ?_
    have hc2 : (false || ((!decide (a.2.1 = (p : Int))) && (!decide (lab p = lab3 p)))) = false := by
      by_cases e : a.2.1 = (p : Int)
      · simp [e]
      · simp [hLn e]
    rw [hc2, if_neg (by simp)]
    refine w_bd_mono (R := fun (r : Unit ⊕ Bool) h4 => r = Sum.inl () ∧ h4 = h3) ?_ ?_
    · refine w_iter (fun (v : Int) h4 => h4 = h3 ∧ ∃ k : Nat, v = (k : Int) ∧ k ≤ 8) (fun v => 8 - v.toNat) ?_ 1000 (0 : Int) h3 ⟨rfl, 0, rfl, by omega⟩ (by show 8 - 0 < 1000; omega)
      rintro v h4 ⟨rfl, k, rfl, hk⟩ rec2 hrec2
      by_cases hk8 : k < 8
      · have hk' : (k : Int) < 8 := by omega
        simp only [hk', decide_true, if_true]
        refine w_bd_eq (T3.fdq 1000 p k) ?_
        have hfe : (if whyT 8 fd3 p k = 0 then ((fd3 (p : Int).toNat (k : Int).toNat).getD (0, 0), (0 : Int)) else ((0, 0), whyT 8 fd3 p k)) = fdE 8 fd3 p k := rfl
        rw [hfe]
        refine w_bd_eq (a := false) (h' := h4) ?_ ?_
        · by_cases e : a.2.1 = (p : Int)
          · simp only [e, decide_true, Bool.not_true, Bool.false_eq_true, if_false]; rfl
          · have hsame := fdE_same (n := 8) (hFn e) k
            obtain ⟨c1, c2, c3⟩ := hg k hk8
            have hrow : (cs.drop (0 + (k : Int).toNat * 2)).take 2 = [.int .i64 (fdE 8 fd p k).1.1, .int .i64 (fdE 8 fd p k).1.2] := by
              apply List.ext_getElem?
              intro j
              rw [List.getElem?_take]
              match j with
              | 0 => rw [if_pos (by decide), List.getElem?_drop, Int.toNat_natCast, show 0 + k * 2 + 0 = 2 * k by omega, c1]; rfl
              | 1 => rw [if_pos (by decide), List.getElem?_drop, Int.toNat_natCast, show 0 + k * 2 + 1 = 2 * k + 1 by omega, c2]; rfl
              | j + 2 => rw [if_neg (by omega)]; rfl
            have hle : 0 + (k : Int).toNat * 2 + 2 ≤ cs.length := by rw [hcl, Int.toNat_natCast]; omega
            have hdec : HC.dec [.int .i64, .int .i64] [MV.int .i64 (fdE 8 fd p k).1.1, .int .i64 (fdE 8 fd p k).1.2] = some (fdE 8 fd p k).1 := rfl
            have hes : es[0 + (k : Int).toNat * 1]? = some (fdE 8 fd p k).2 := by rw [Int.toNat_natCast, Nat.zero_add, Nat.mul_one]; exact c3
            simp only [e, decide_false, Bool.not_false, if_true, bd, w_chk (h := h4) (show (0 : Int) ≤ (k : Int) ∧ True from ⟨Int.natCast_nonneg k, trivial⟩), if_pos hle, ret, hrow, hdec, someOr, hsame, decide_true, Bool.and_self, Bool.not_true, hes]
        · simp only [Bool.false_eq_true, if_false]
          rw [nat_wr (by omega)]
          exact hrec2 _ _ ⟨rfl, k + 1, rfl, by omega⟩ (by show 8 - (k + 1) < 8 - k; omega)
      · have hk' : ¬ (k : Int) < 8 := by omega
        simp only [hk', decide_false, Bool.false_eq_true, if_false]
        exact w_ret ⟨rfl, rfl⟩
    rintro r h4 ⟨rfl, rfl⟩
    dsimp only
    rw [nat_wr (by omega)]
    exact hrec _ _ ⟨i + 1, lab3, fd3, fp3, rfl, by omega, T3, hsl3, apartS⟩ (by show m - (i + 1) < m - i; omega)
  · obtain rfl : i = m := by omega
    simp only [Int.lt_irrefl, decide_false, Bool.false_eq_true, if_false]
    exact w_ret rfl

end Go.Moat
