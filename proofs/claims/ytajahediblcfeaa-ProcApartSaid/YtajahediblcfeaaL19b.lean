/- Layer 19: 'ProcPlays'. -/
import Derived.Test.YtajahediblcfeaaP19r
import Derived.Test.YtajahediblcfeaaL19a
import Derived.Test.YtajahediblcfeaaMLR
namespace Go.Moat
open Go.Mini

/-- What an act comes to. -/
def actR (n : Nat) (lab : Nat → Int) (fd : Nat → Nat → Option (Int × Int)) (a : Int × Int × Int × Int × Int) : Int × Int :=
  if a.1.tmod 4 = 0 then (0, raiseR n lab a.2.1 a.2.2.2.2) else if a.1.tmod 4 = 1 then openR n fd a.2.1 a.2.2.2.1 else if a.1.tmod 4 = 2 then closeR n fd a.2.1 a.2.2.1 else (0, moveR n fd a.2.1 a.2.2.1 a.2.2.2.1)
def actL (n : Nat) (lab : Nat → Int) (a : Int × Int × Int × Int × Int) : Nat → Int := if a.1.tmod 4 = 0 then raiseL n lab a.2.1 a.2.2.2.2 else lab
def actF (n : Nat) (fd : Nat → Nat → Option (Int × Int)) (a : Int × Int × Int × Int × Int) : Nat → Nat → Option (Int × Int) :=
  if a.1.tmod 4 = 0 then fd else if a.1.tmod 4 = 1 then openF n fd a.2.1 a.2.2.2.1 else if a.1.tmod 4 = 2 then closeF n fd a.2.1 a.2.2.1 else moveF n fd a.2.1 a.2.2.1 a.2.2.2.1

theorem does_spec {h : Hp} {t n : Nat} {lab : Nat → Int} {fd : Nat → Nat → Option (Int × Int)} {fp : Nat → Prop} (T : TabP h t n lab fd fp) {N : Nat} (hN : 8 < N) (a : Int × Int × Int × Int × Int) :
    Wp (F_moatlaw19_does N (some ⟨t, 0⟩) (a.1, a.2.1, a.2.2.1, a.2.2.2.1, a.2.2.2.2)) h fun r h' => r = actR n lab fd a ∧ ∃ fp', TabP h' t n (actL n lab a) (actF n fd a) fp' ∧ Mod h fp h' fp' := by
  unfold F_moatlaw19_does actR actL actF
  by_cases h0 : a.1.tmod 4 = 0
  · simp only [h0, decide_true, if_true]
    refine w_bd_mono (raise_spec T a.2.1 a.2.2.2.2) ?_
    rintro r h' ⟨rfl, T', M⟩
    exact w_ret ⟨rfl, fp, T', M⟩
  · by_cases h1 : a.1.tmod 4 = 1
    · simp only [h1, decide_true, if_true]
      refine w_bd_mono (open_spec T hN a.2.1 a.2.2.2.1) ?_
      rintro r h' ⟨rfl, fp', T', M⟩
      exact w_ret ⟨rfl, fp', T', M⟩
    · by_cases h2 : a.1.tmod 4 = 2
      · simp only [h2, decide_true, if_true]
        refine w_bd_mono (close_spec T a.2.1 a.2.2.1) ?_
        rintro r h' ⟨rfl, T', M⟩
        exact w_ret ⟨rfl, fp, T', M⟩
      · simp only [h0, h1, h2, decide_false, Bool.false_eq_true, if_false]
        refine w_bd_mono (move_spec T a.2.1 a.2.2.1 a.2.2.2.1) ?_
        rintro r h' ⟨rfl, T', M⟩
        exact w_ret ⟨rfl, fp, T', M⟩

theorem model_spec {h : Hp} {t n : Nat} {lab : Nat → Int} {fd : Nat → Nat → Option (Int × Int)} {fp : Nat → Prop} (T : RTabP h t n lab fd fp) {N : Nat} (hN : 16 < N) (a : Int × Int × Int × Int × Int)
    (hl : ∀ i, i < n → 0 ≤ lab i ∧ lab i < 65536) (ha : 0 ≤ a.2.2.2.2 ∧ a.2.2.2.2 < 65536) :
    Wp (F_moatlaw19_model N (some ⟨t, 0⟩) (a.1, a.2.1, a.2.2.1, a.2.2.2.1, a.2.2.2.2)) h fun r h' => r = actR n lab fd a ∧ RTabP h' t n (actL n lab a) (actF n fd a) fp ∧ Mod h fp h' fp := by
  unfold F_moatlaw19_model actR actL actF
  by_cases h0 : a.1.tmod 4 = 0
  · simp only [h0, decide_true, if_true]
    refine w_bd_mono (rraise_spec T hN hl ha) ?_
    rintro r h' ⟨rfl, T', M⟩
    exact w_ret ⟨rfl, T', M⟩
  · by_cases h1 : a.1.tmod 4 = 1
    · simp only [h1, decide_true, if_true]
      refine w_bd_mono (ropen_spec T (by omega) a.2.1 a.2.2.2.1) ?_
      rintro r h' ⟨rfl, T', M⟩
      exact w_ret ⟨rfl, T', M⟩
    · by_cases h2 : a.1.tmod 4 = 2
      · simp only [h2, decide_true, if_true]
        refine w_bd_mono (rclose_spec T a.2.1 a.2.2.1) ?_
        rintro r h' ⟨rfl, T', M⟩
        exact w_ret ⟨rfl, T', M⟩
      · simp only [h0, h1, h2, decide_false, Bool.false_eq_true, if_false]
        refine w_bd_mono (rmove_spec T a.2.1 a.2.2.1 a.2.2.2.1) ?_
        rintro r h' ⟨rfl, T', M⟩
        exact w_ret ⟨rfl, T', M⟩

theorem actL_range {n : Nat} {lab : Nat → Int} {a : Int × Int × Int × Int × Int} (hl : ∀ i, i < n → 0 ≤ lab i ∧ lab i < 65536) (ha : 0 ≤ a.2.2.2.2 ∧ a.2.2.2.2 < 65536) : ∀ i, i < n → 0 ≤ actL n lab a i ∧ actL n lab a i < 65536 := by
  intro i hi
  unfold actL raiseL
  split
  · split
    · unfold upd1
      split
      · exact ha
      · exact hl i hi
    · exact hl i hi
  · exact hl i hi

/-- The cells of an act. -/
abbrev actTs : List CTy := [.int .u8, .int .i64, .int .i64, .int .i64, .int .u16]

/-- The acts that are done: the first 200. -/
theorem few_spec {N : Nat} {s : Sl} {k : Nat} (hk : s.len = k) (h : Hp) : F_moatlaw19_few N s h = some (⟨s.p, if 200 < k then 200 else k⟩, h) := by
  unfold F_moatlaw19_few
  have e : (if (200 : Int) < (s.len : Int) then (200 : Int) else (s.len : Int)) = ((if 200 < k then 200 else k : Nat) : Int) := by
    rw [hk]
    by_cases h : 200 < k
    · rw [if_pos h, if_pos (by omega)]; rfl
    · rw [if_neg h, if_neg (by omega)]
  rw [e]
  simp only [bd, slc_few (s := s) (m := if 200 < k then 200 else k) (by rw [hk]; split <;> omega) h]
  rfl

/-- An act's label. -/
def labOf : HC actTs → Int := fun (x : Int × Int × Int × Int × Int) => x.2.2.2.2

theorem labOf_mem {xs : List (HC actTs)} {y : HC actTs} (hy : y ∈ xs) : MV.int .u16 (labOf y) ∈ rowsOf actTs xs :=
  List.mem_flatMap.2 ⟨y, hy, .tail _ (.tail _ (.tail _ (.tail _ (.head _))))⟩

/-- 'ProcPlays', whatever comes in. -/
theorem plays_run {xs : List (HC actTs)} (hb : ∀ x ∈ xs, 0 ≤ labOf x ∧ labOf x < 65536) {n : Int} {s : Sl} {h : Hp} (hs : SlIn h s 5 (rowsOf actTs xs)) : Wp (F_moatlaw19_ProcPlays 1000 n s) h fun r _ => r = true := by
  unfold F_moatlaw19_ProcPlays
  have hlen : s.len = xs.length := by
    have := hs.1
    rw [rowsOf_length] at this
    have h5 : actTs.length = 5 := rfl
    rw [h5] at this
    omega
  refine w_bd_mono (shown_spec (by omega) h) ?_
  rintro r0 h0 ⟨rfl, hsz0, hsame0⟩
  have hs0 : SlIn h0 s 5 (rowsOf actTs xs) := hs.frame hsz0 fun b hb => hsame0 b (hs.lt hb)
  by_cases hn : n < 1 ∨ 8 < n
  · refine w_bd_eq (new_no hn h0) (w_bd_eq (rnew_no hn h0) ?_)
    exact w_ret rfl
  · obtain ⟨n, rfl⟩ : ∃ k : Nat, n = k := ⟨n.toNat, by omega⟩
    refine w_bd_mono (new_yes (N := 1000) (n := n) (by omega) (by omega) h0) ?_
    rintro r1 h1 ⟨rfl, T1, M1⟩
    refine w_bd_mono (rnew_yes (N := 1000) (n := n) (by omega) (by omega) h1) ?_
    rintro r2 h2 ⟨rfl, R2, M2⟩
    simp only [Option.isNone_some, decide_true, Bool.not_true, Bool.or_self, Bool.false_eq_true, if_false]
    have lt1 : ∀ b, (b = h0.size ∨ b = h0.size + 1) → b < h1.size := by obtain ⟨_, _, _, _, _, l⟩ := T1; exact l
    have T2 := T1.frame M2.size fun b hb => M2.same b (lt1 b hb) (fun c => c)
    obtain ⟨same1, apart1⟩ := M1.apart (g := SlB s (rowsOf actTs xs)) (fun b hb => hs0.lt hb) (fun b _ c => c)
    have hs1 := hs0.frame M1.size same1
    obtain ⟨same2, apart2⟩ := M2.apart (g := SlB s (rowsOf actTs xs)) (fun b hb => hs1.lt hb) (fun b _ c => c)
    have hs2 := hs1.frame M2.size same2
    refine w_bd_eq (few_spec hlen h2) ?_
    obtain ⟨m, hm⟩ : ∃ m : Nat, m = if 200 < xs.length then 200 else xs.length := ⟨_, rfl⟩
    rw [← hm]
    have hmx : m ≤ xs.length := by rw [hm]; split <;> omega
    have hm2 : m ≤ 200 := by rw [hm]; split <;> omega
    have hdis : ∀ b, (b = h1.size + 1 ∨ b = h1.size) → ¬ (b = h0.size ∨ b = h0.size + 1) := by
      intro b hb hc
      have := lt1 b hc
      omega
    generalize ht : h0.size + 1 = t at *
    generalize ht2 : h1.size + 1 = t2 at *
    generalize hfp : (fun b => b = h0.size ∨ b = t) = fp at *
    generalize hfr : (fun b => b = t2 ∨ b = h1.size) = fr at *
    have hdis' : ∀ b, fr b → ¬ fp b := by subst hfp hfr; exact hdis
    have hap1 : ∀ b, SlB s (rowsOf actTs xs) b → ¬ fp b := by subst hfp; exact apart1
    have hap2 : ∀ b, SlB s (rowsOf actTs xs) b → ¬ fr b := by subst hfr; exact apart2
    clear hdis lt1 apart1 apart2 same1 same2 M1 M2 T1
    refine w_bd_mono (R := fun r _ => r = Sum.inl ()) ?_ (by rintro r h' rfl; exact w_ret rfl)
    refine w_iter (fun (v : Int) h' => ∃ (i : Nat) (lab : Nat → Int) (fd : Nat → Nat → Option (Int × Int)) (fp : Nat → Prop), v = (i : Int) ∧ i ≤ m ∧ TabP h' t n lab fd fp ∧ RTabP h' t2 n lab fd fr ∧ SlIn h' s 5 (rowsOf actTs xs) ∧ (∀ b, fr b → ¬ fp b) ∧ (∀ b, SlB s (rowsOf actTs xs) b → ¬ fp b) ∧ ∀ i, i < n → 0 ≤ lab i ∧ lab i < 65536)
      (fun v => m - v.toNat) ?_ 1000 (0 : Int) h2 ⟨0, _, _, fp, rfl, Nat.zero_le _, T2, R2, hs2, hdis', hap1, fun i _ => ⟨by omega, by omega⟩⟩ (by show m - 0 < 1000; omega)
    rintro v h' ⟨i, lab, fd, fp, rfl, him, T, R, hsl, hd, ha, hl⟩ rec hrec
    by_cases hi : i < m
    · simp only [Int.ofNat_lt, hi, decide_true, if_true]
      obtain ⟨q, g1, g2⟩ := ldSt_row hsl (by decide) (m := m) (by omega) hi (by omega)
      have hin := hb xs[i] (List.getElem_mem (by omega))
      generalize xs[i] = x at g2 hin
      obtain ⟨a, rfl⟩ : ∃ a : Int × Int × Int × Int × Int, a = x := ⟨x, rfl⟩
      have hin' : 0 ≤ a.2.2.2.2 ∧ a.2.2.2.2 < 65536 := hin
      refine w_bd_eq g1 (w_bd_eq g2 ?_)
      refine w_bd_mono (does_spec T (by omega) a) ?_
      rintro r11 h3 ⟨rfl, fp3, T3, M3⟩
      obtain ⟨sameR, apartR⟩ := M3.apart (g := fr) (fun b hb => R.lt hb) hd
      obtain ⟨sameS, apartS⟩ := M3.apart (g := SlB s (rowsOf actTs xs)) (fun b hb => hsl.lt hb) ha
      have R3 := R.frame M3.size sameR
      have hsl3 := hsl.frame M3.size sameS
      refine w_bd_mono (model_spec R3 (by omega) a hl hin') ?_
      rintro r12 h4 ⟨rfl, R4, M4⟩
      have lt3 : ∀ b, fp3 b → b < h3.size := by obtain ⟨_, _, _, _, _, l⟩ := T3; exact l
      have T4 := T3.frame M4.size fun b hb => M4.same b (lt3 b hb) (fun c => apartR b c hb)
      have hsl4 := hsl3.frame M4.size fun b hb => M4.same b (hsl3.lt hb) (hap2 b hb)
      have hl4 := actL_range (n := n) (lab := lab) hl hin'
      have hR4 : ∀ b, fr b → ¬ fp3 b := apartR
      generalize actL n lab a = lab4 at *
      generalize actF n fd a = fd4 at *
      refine w_bd_eq (T4.fdq 1000 a.2.1 a.2.2.1) (w_bd_eq (R4.fdq 1000 a.2.1 a.2.2.1) (w_bd_eq (T4.labelq 1000 a.2.1) ?_))
      simp only [eq_self, decide_true, Bool.not_true, Bool.or_self, Bool.and_self, if_true]
      refine w_bd_ret ?_
      simp only [eq_self, decide_true, Bool.not_true, Bool.or_self, if_true]
      refine w_bd_eq (a := false) (h' := h4) ?_ ?_
      · simp only [bd, frz_of (T4.holds (N := 1000) (by omega) a.2.2.2.1) (Grows.refl _), frz_of (rholds_spec R4 (N := 1000) (by omega) a.2.2.2.1) (Grows.refl _), ret, eq_self, decide_true, Bool.not_true]
      simp only [if_true]
      refine w_bd_eq (a := false) (h' := h4) ?_ ?_
      · simp only [bd, frz_of (R4.hasq 1000 a.2.1) (Grows.refl _), ret]
        by_cases hp : a.2.1 < 0 ∨ (n : Int) ≤ a.2.1
        · rw [if_pos hp, decide_eq_true hp]; rfl
        · rw [if_neg hp, decide_eq_false hp]; rfl
      simp only [if_true]
      refine w_bd_eq (a := false) (h' := h4) ?_ ?_
      · by_cases hp : a.2.1 < 0 ∨ (n : Int) ≤ a.2.1
        · rw [if_pos hp]; rfl
        · rw [if_neg hp]
          obtain ⟨k, hk⟩ : ∃ k : Nat, a.2.1 = k := ⟨a.2.1.toNat, by omega⟩
          have hkn : k < n := by omega
          obtain ⟨pb, cs, RT, _⟩ := R4
          simp only [hk, decide_true, if_true, bd, nonNil_eq, fld_eq, Nat.zero_add, rt_ld RT, idx_nat hkn, Nat.add_zero, ldI_eq RT.pc (RT.labs k hkn), ret, Int.toNat_natCast, eq_self, Bool.not_true]
      have hend : (false || ((!decide ((if a.2.1 < 0 ∨ (n : Int) ≤ a.2.1 then ((0 : Int), (1 : Int)) else (lab4 a.2.1.toNat, 0)).2 = 0)) && ((!decide ((if a.2.1 < 0 ∨ (n : Int) ≤ a.2.1 then ((0 : Int), (1 : Int)) else (lab4 a.2.1.toNat, 0)).2 = 1)) || (!decide ((if a.2.1 < 0 ∨ (n : Int) ≤ a.2.1 then ((0 : Int), (1 : Int)) else (lab4 a.2.1.toNat, 0)).1 = 0))))) = false := by
        by_cases hp : a.2.1 < 0 ∨ (n : Int) ≤ a.2.1
        · rw [if_pos hp]; rfl
        · rw [if_neg hp]; rfl
      rw [hend, if_neg (by simp), nat_wr (by omega)]
      exact hrec _ _ ⟨i + 1, lab4, fd4, fp3, rfl, by omega, T4, R4, hsl4, hR4, apartS, hl4⟩ (by show m - (i + 1) < m - i; omega)
    · obtain rfl : i = m := by omega
      simp only [Int.lt_irrefl, decide_false, Bool.false_eq_true, if_false]
      exact w_ret rfl

end Go.Moat
