/- Layer 19: the document's examples; 'ProcLeast'. -/
import Derived.Test.YtajahediblcfeaaP19
import Derived.Test.YtajahediblcfeaaMLM
namespace Go.Moat
open Go.Mini

theorem TabP.holds {h : Hp} {t n : Nat} {lab : Nat → Int} {fd : Nat → Nat → Option (Int × Int)} {fp : Nat → Prop} (T : TabP h t n lab fd fp) {N : Nat} (hN : 8 < N) (ino : Int) : F_proc_Table_Holds N (some ⟨t, 0⟩) ino h = some ((cntI fd ino 0 n : Int), h) := by
  obtain ⟨pb, cs, bl, T, _⟩ := T
  exact holds_spec T hN ino
theorem TabP.fdq {h : Hp} {t n : Nat} {lab : Nat → Int} {fd : Nat → Nat → Option (Int × Int)} {fp : Nat → Prop} (T : TabP h t n lab fd fp) (N : Nat) (p k : Int) : F_proc_Table_Fd N (some ⟨t, 0⟩) p k h = some ((if whyT n fd p k = 0 then ((fd p.toNat k.toNat).getD (0, 0), 0) else ((0, 0), whyT n fd p k)), h) := by
  obtain ⟨pb, cs, bl, T, _⟩ := T
  exact fd_spec T N p k
theorem TabP.labelq {h : Hp} {t n : Nat} {lab : Nat → Int} {fd : Nat → Nat → Option (Int × Int)} {fp : Nat → Prop} (T : TabP h t n lab fd fp) (N : Nat) (p : Int) : F_proc_Table_Label N (some ⟨t, 0⟩) p h = some ((if p < 0 ∨ (n : Int) ≤ p then (0, 1) else (lab p.toNat, 0)), h) := by
  obtain ⟨pb, cs, bl, T, _⟩ := T
  exact label_spec T N p

/-- The document's examples are met, and leave what was there. -/
theorem shown_spec {N : Nat} (hN : 8 < N) (h : Hp) : Wp (F_moatlaw19_shown N) h fun r h' => r = true ∧ h.size ≤ h'.size ∧ ∀ b, b < h.size → h'.get b = h.get b := by
  unfold F_moatlaw19_shown
  refine w_bd_mono (new_yes (N := N) (n := 2) (by omega) (by omega) h) ?_
  rintro r h1 ⟨rfl, T1, M1⟩
  simp only [Option.isNone_some, decide_true, Bool.not_true, Bool.or_self, Bool.false_eq_true, if_false]
  refine w_bd_mono (open_spec T1 hN 0 5) ?_
  rintro r2 h2 ⟨rfl, fp2, T2, M2⟩
  refine w_bd_mono (open_spec T2 hN 0 6) ?_
  rintro r3 h3 ⟨rfl, fp3, T3, M3⟩
  refine w_bd_mono (close_spec T3 0 0) ?_
  rintro r4 h4 ⟨rfl, T4, M4⟩
  refine w_bd_mono (open_spec T4 hN 0 7) ?_
  rintro r5 h5 ⟨rfl, fp5, T5, M5⟩
  have hm := (((M1.trans M2).trans M3).trans M4).trans M5
  generalize hx2 : openF 2 (fun _ _ => none) 0 5 = f2 at *
  generalize hx3 : openF 2 f2 0 6 = f3 at *
  generalize hx4 : closeF 2 f3 0 0 = f4 at *
  generalize hx5 : openF 2 f4 0 7 = f5 at *
  have e1 : (openR 2 (fun _ _ => none) 0 5) = (0, 0) := rfl
  have e2 : (openR 2 f2 0 6) = (1, 0) := by subst hx2; rfl
  have e3 : (closeR 2 f3 0 0) = (5, 0) := by subst hx3 hx2; rfl
  have e4 : (openR 2 f4 0 7) = (0, 0) := by subst hx4 hx3 hx2; rfl
  have e5 : cntI f5 6 0 2 = 1 := by subst hx5 hx4 hx3 hx2; rfl
  rw [e1, e2, e3, e4]
  simp only [decide_true, Bool.and_self, if_true]
  refine w_bd_eq (a := true) (h' := h5) ?_ (w_ret ⟨rfl, hm.size, fun b hb => hm.same b hb (fun c => c)⟩)
  refine (show bd (F_proc_Table_Holds N (some ⟨h.size + 1, 0⟩) 6) (fun r_6 => ret (decide (r_6 = 1))) h5 = _ from ?_)
  simp only [bd, T5.holds hN 6, e5]
  rfl

/-- What is open, once so many were opened of a list of numbers. -/
def opened (xs : List Int) (n : Nat) : Nat → Nat → Option (Int × Int) := fun i j => if i = 0 ∧ j < n then (xs[j]?).map fun x => (x.tmod 64, 0) else none

theorem opened_first {xs : List Int} {n : Nat} (hn : n ≤ xs.length) : ∀ (m j : Nat), j ≤ n → firstNo (opened xs n 0) j m = if n < j + m then some n else none
  | 0, j, hj => by
    unfold firstNo
    rw [if_neg (by omega)]
  | m + 1, j, hj => by
    unfold firstNo
    by_cases e : j = n
    · subst e
      have : opened xs j 0 j = none := by unfold opened; rw [if_neg (by omega)]
      rw [this]
      simp
    · have : opened xs n 0 j = some ((xs[j]'(by omega)).tmod 64, 0) := by
        unfold opened
        rw [if_pos ⟨rfl, by omega⟩, List.getElem?_eq_getElem (by omega)]
        rfl
      rw [this]
      simp only [Option.isNone_some, Bool.false_eq_true, if_false]
      rw [opened_first hn m (j + 1) (by omega), show j + 1 + m = j + (m + 1) by omega]

theorem opened_next {xs : List Int} {n : Nat} (hn : n < xs.length) : upd2 (opened xs n) 0 n (some (xs[n].tmod 64, 0)) = opened xs (n + 1) := by
  funext i j
  unfold upd2 opened
  by_cases e : i = 0 ∧ j = n
  · obtain ⟨rfl, rfl⟩ := e
    rw [if_pos ⟨rfl, rfl⟩, if_pos ⟨rfl, by omega⟩, List.getElem?_eq_getElem hn]
    rfl
  · rw [if_neg e]
    by_cases e2 : i = 0 ∧ j < n
    · rw [if_pos e2, if_pos ⟨e2.1, by omega⟩]
    · rw [if_neg e2, if_neg (by omega)]

theorem cntJ_next {f : Nat → Option (Int × Int)} {n : Nat} {x : Int × Int} (hf : f n = none) (ino : Int) : ∀ m j, j ≤ n → n < j + m → cntJ (fun k => if k = n then some x else f k) ino j m = cntJ f ino j m + if x.1 = ino then 1 else 0
  | 0, j, h1, h2 => by omega
  | m + 1, j, h1, h2 => by
    unfold cntJ
    by_cases e : j = n
    · subst e
      have same : ∀ m k, j < k → cntJ (fun k => if k = j then some x else f k) ino k m = cntJ f ino k m := by
        intro m
        induction m with
        | zero => intro k _; rfl
        | succ m ih =>
          intro k hk
          unfold cntJ
          rw [if_neg (show ¬ k = j by omega), ih (k + 1) (by omega)]
      rw [same m (j + 1) (by omega), hf]
      simp
      omega
    · rw [cntJ_next hf ino m (j + 1) (by omega) (by omega), if_neg e]
      omega

theorem opened_cnt {xs : List Int} {n : Nat} (hn : n < xs.length) (hn8 : n < 8) (ino : Int) : cntI (opened xs (n + 1)) ino 0 1 = cntI (opened xs n) ino 0 1 + if xs[n].tmod 64 = ino then 1 else 0 := by
  have h0 : opened xs n 0 n = none := by unfold opened; rw [if_neg (by omega)]
  have h1 : opened xs (n + 1) 0 = fun k => if k = n then some (xs[n].tmod 64, 0) else opened xs n 0 k := by
    rw [← opened_next hn]
    funext k
    unfold upd2
    by_cases e : k = n
    · rw [if_pos ⟨rfl, e⟩, if_pos e]
    · rw [if_neg (by omega), if_neg e]
  unfold cntI
  show cntJ (opened xs (n + 1) 0) ino 0 8 + 0 = cntJ (opened xs n 0) ino 0 8 + 0 + _
  rw [h1, cntJ_next h0 ino 8 0 (by omega) (by omega)]
  show _ + (if xs[n].tmod 64 = ino then 1 else 0) + 0 = _
  omega

theorem opened_openR {xs : List Int} {n : Nat} (hn : n ≤ xs.length) {k : Int} (hk : 0 ≤ k ∧ k < 64) : openR 1 (opened xs n) 0 k = if n < 8 then ((n : Int), 0) else (0, 5) := by
  unfold openR
  rw [if_neg (by omega), if_neg (by omega), Int.toNat_zero]
  rw [opened_first hn 8 0 (by omega), Nat.zero_add]
  by_cases e : n < 8
  · rw [if_pos e, if_pos e]
  · rw [if_neg e, if_neg e]

/-- 'ProcLeast', whatever bytes come in. -/
theorem least_run {xs : List Int} (hb : ∀ x ∈ xs, 0 ≤ x ∧ x < 256) {w : Int} (hw : 0 ≤ w ∧ w < 256) {s : Sl} {h : Hp} (hs : SlIn h s 1 (xs.map (.int .u8))) : Wp (F_moatlaw19_ProcLeast 1000 s w) h fun r _ => r = true := by
  unfold F_moatlaw19_ProcLeast
  have hlen : xs.length = s.len := by have := hs.1; simpa using this
  generalize hcs : xs.map (MV.int .u8) = cs at hs
  have hcsg : ∀ (i : Nat) (hi : i < xs.length), cs[i]? = some (.int .u8 xs[i]) := by
    intro i hi
    rw [← hcs, List.getElem?_map, List.getElem?_eq_getElem hi]
    rfl
  refine w_bd_mono (shown_spec (by omega) h) ?_
  rintro r0 h0 ⟨rfl, hsz0, hsame0⟩
  have hs0 : SlIn h0 s 1 cs := hs.frame hsz0 fun b hb => hsame0 b (hs.lt hb)
  refine w_bd_mono (new_yes (N := 1000) (n := 1) (by omega) (by omega) h0) ?_
  rintro r1 h1 ⟨rfl, T1, M1⟩
  obtain ⟨same1, apart1⟩ := M1.apart (g := SlB s cs) (fun b hb => hs0.lt hb) (fun b _ c => c)
  have hs1 : SlIn h1 s 1 cs := hs0.frame M1.size same1
  simp only [Option.isNone_some, decide_true, Bool.not_true, Bool.or_self, Bool.false_eq_true, if_false]
  obtain ⟨hmk, hm⟩ := mkMap_eq h1 .i64
  refine w_bd_eq hmk ?_
  have hlt1 : ∀ b, (b = h0.size ∨ b = h0.size + 1) → b < h1.size := by obtain ⟨_, _, _, _, _, l⟩ := T1; exact l
  have T2 : TabP (h1.push (.map [])) (h0.size + 1) 1 (fun _ => 0) (opened xs 0) (fun b => b = h0.size ∨ b = h0.size + 1) := by
    have e : (fun _ _ => none) = opened xs 0 := by
      funext i j
      unfold opened
      rw [if_neg (by omega)]
    rw [← e]
    exact T1.frame (by simp) fun b hb => Hp.get_push_lt _ _ (hlt1 b hb)
  have hs2 : SlIn (h1.push (.map [])) s 1 cs := hs1.frame (by simp) fun b hb => Hp.get_push_lt _ _ (hs1.lt hb)
  have hsep : ∀ b, (b = h1.size ∨ SlB s cs b) → b < (h1.push (.map [])).size ∧ ¬ (b = h0.size ∨ b = h0.size + 1) := by
    rintro b (rfl | hb)
    · refine ⟨by simp, fun c => ?_⟩
      have := hlt1 _ c
      omega
    · have := hs1.lt hb
      exact ⟨by simp; omega, apart1 b hb⟩
  have hmne : ¬ SlB s cs h1.size := fun c => by have := hs1.lt c; omega
  generalize h1.size = mb at *
  generalize (h1.push (.map [])) = h2 at *
  -- the rounds
  obtain ⟨m, hmdef⟩ : ∃ m : Nat, m = if 20 < xs.length then 20 else xs.length := ⟨_, rfl⟩
  have hmm : (if (20 : Int) < (s.len : Int) then (20 : Int) else (s.len : Int)) = (m : Int) := by
    subst hmdef
    rw [← hlen]
    by_cases e : 20 < xs.length
    · rw [if_pos e, if_pos (by omega)]; rfl
    · rw [if_neg e, if_neg (by omega)]
  rw [hmm]
  have hml : m ≤ xs.length := by rw [hmdef]; split <;> omega
  have hm20 : m ≤ 20 := by rw [hmdef]; split <;> omega
  have ktm : ∀ (i : Nat) (hi : i < xs.length), wr .i64 (xs[i].tmod 64) = xs[i].tmod 64 ∧ 0 ≤ xs[i].tmod 64 ∧ xs[i].tmod 64 < 64 := by
    intro i hi
    have h1 := hb xs[i] (List.getElem_mem hi)
    have e : xs[i].tmod 64 = xs[i] % 64 := Int.tmod_eq_emod_of_nonneg h1.1
    rw [e]
    have h2 := Int.emod_nonneg xs[i] (show (64 : Int) ≠ 0 by omega)
    have h3 := Int.emod_lt_of_pos xs[i] (show (0 : Int) < 64 by omega)
    exact ⟨wr64 (by omega) (by omega), h2, h3⟩
  refine w_bd_mono (R := fun r h' => ∃ (n : Nat) (fp : Nat → Prop), r = Sum.inl (n : Int) ∧ n = (if m < 8 then m else 8) ∧ TabP h' (h0.size + 1) 1 (fun _ => 0) (opened xs n) fp ∧ SlIn h' s 1 cs ∧ ∀ b, SlB s cs b → ¬ fp b) ?_ ?_
  · refine w_iter (fun (v : Int × Int) h' => ∃ (n i : Nat) (fp : Nat → Prop), v = ((n : Int), (i : Int)) ∧ i ≤ m ∧ n = (if i < 8 then i else 8) ∧ TabP h' (h0.size + 1) 1 (fun _ => 0) (opened xs n) fp ∧ SlIn h' s 1 cs ∧ (∀ b, (b = mb ∨ SlB s cs b) → b < h'.size ∧ ¬ fp b) ∧
      IMap h' .i64 mb fun k => if cntI (opened xs n) k 0 1 = 0 then none else some (.int .i64 (cntI (opened xs n) k 0 1 : Nat)))
      (fun v => m - v.2.toNat) ?_ 1000 ((0 : Int), (0 : Int)) h2 ⟨0, 0, _, rfl, Nat.zero_le _, rfl, T2, hs2, hsep, ?_⟩ (by show m - 0 < 1000; omega)
    rotate_left
    · have : (fun k => if cntI (opened xs 0) k 0 1 = 0 then none else some (MV.int .i64 (cntI (opened xs 0) k 0 1 : Nat))) = fun _ => none := by
        funext k
        have : cntI (opened xs 0) k 0 1 = 0 := by
          unfold cntI
          have : ∀ m j, cntJ (opened xs 0 0) k j m = 0 := by
            intro m
            induction m with
            | zero => intro j; rfl
            | succ m ih =>
              intro j
              unfold cntJ
              rw [ih (j + 1), show opened xs 0 0 j = none by unfold opened; rw [if_neg (by omega)]]
              simp
          rw [this]; rfl
        rw [if_pos this]
      rw [this]
      exact hm
    rintro v h' ⟨n, i, fp, rfl, him, hn, T, hsl, hap, hmap⟩ rec hrec
    by_cases hi : i < m
    · have hix : i < xs.length := by omega
      have hnx : n ≤ xs.length := by rw [hn]; split <;> omega
      have hn8 : n ≤ 8 := by rw [hn]; split <;> omega
      simp only [Int.ofNat_lt, hi, decide_true, if_true]
      obtain ⟨k1, k2, k3⟩ := ktm i hix
      obtain ⟨b, ro, g1, g2, g3⟩ := hsl.one (i := i) (by omega)
      -- one round, and what is behind it
      refine w_bd_mono (R := fun r h'' => ∃ (n' : Nat) (fp' : Nat → Prop), r = Sum.inl (n' : Int) ∧ n' = (if i + 1 < 8 then i + 1 else 8) ∧ TabP h'' (h0.size + 1) 1 (fun _ => 0) (opened xs n') fp' ∧ SlIn h'' s 1 cs ∧ (∀ b, (b = mb ∨ SlB s cs b) → b < h''.size ∧ ¬ fp' b) ∧
          IMap h'' .i64 mb fun k => if cntI (opened xs n') k 0 1 = 0 then none else some (.int .i64 (cntI (opened xs n') k 0 1 : Nat))) ?_ ?_
      · refine w_bd_eq g1 (w_bd_eq (ldI_eq g2 (hcsg i hix)) ?_)
        rw [k1]
        refine w_bd_mono (open_spec T (by omega) 0 (xs[i].tmod 64)) ?_
        rintro r10 h3 ⟨rfl, fp3, T3, M3⟩
        obtain ⟨same3, apart3⟩ := M3.apart (g := fun b => b = mb ∨ SlB s cs b) (fun b hb => (hap b hb).1) (fun b hb => (hap b hb).2)
        have hsl3 : SlIn h3 s 1 cs := hsl.frame M3.size fun b hb => same3 b (.inr hb)
        have hmap3 := hmap.frame (same3 mb (.inl rfl))
        have hap3 : ∀ b, (b = mb ∨ SlB s cs b) → b < h3.size ∧ ¬ fp3 b := fun b hb => ⟨Nat.lt_of_lt_of_le (hap b hb).1 M3.size, apart3 b hb⟩
        have hoR := opened_openR hnx ⟨k2, k3⟩
        have hoF : openF 1 (opened xs n) 0 (xs[i].tmod 64) = if n < 8 then upd2 (opened xs n) 0 n (some (xs[i].tmod 64, 0)) else opened xs n := by
          unfold openF
          rw [hoR]
          by_cases e : n < 8
          · rw [if_pos e, if_pos rfl, if_pos e]; rfl
          · rw [if_neg e, if_neg (by simp), if_neg e]
        rw [hoF] at T3
        rw [hoR]
        by_cases e : n < 8
        · have hni : n = i := by
            rw [hn] at e ⊢
            split at e
            · rw [if_pos (by assumption)]
            · omega
          subst hni
          have hne : ¬ ((n : Int) = 8) := by omega
          rw [if_pos e]
          simp only [hne, decide_false, Bool.false_eq_true, if_false, decide_true, Bool.not_true, Bool.or_self]
          rw [if_pos e, opened_next hix] at T3
          have hc := opened_cnt hix e
          refine w_bd_eq (look_eq hmap3 _) ?_
          have hdec : someOr ((CTy.int .i64).dec (Option.getD (if cntI (opened xs n) (xs[n].tmod 64) 0 1 = 0 then none else some (MV.int .i64 (cntI (opened xs n) (xs[n].tmod 64) 0 1 : Nat))) (MV.int .i64 0))) h3 = some (((cntI (opened xs n) (xs[n].tmod 64) 0 1 : Nat) : Int), h3) := by
            by_cases e0 : cntI (opened xs n) (xs[n].tmod 64) 0 1 = 0
            · rw [if_pos e0, e0]; rfl
            · rw [if_neg e0]; rfl
          refine w_bd_eq hdec ?_
          have hcle := cntI_le (opened xs n) (xs[n].tmod 64) 1 0
          rw [nat_wr (by omega)]
          refine w_bd_mono (put_wp hmap3 _ _) ?_
          rintro _ h4 ⟨hmap4, hsz4, same4⟩
          have T4 := T3.frame (h' := h4) (by omega) fun b hb => same4 b (fun c => (hap3 mb (.inl rfl)).2 (c ▸ hb))
          have hsl4 : SlIn h4 s 1 cs := hsl3.frame (by omega) fun b hb => same4 b (fun c => hmne (c ▸ hb))
          refine w_bd_eq (frz_of (T4.holds (by omega) _) (Grows.refl _)) ?_
          refine w_bd_eq (look_eq hmap4 _) ?_
          simp only [if_true, Option.getD_some]
          refine w_bd_eq (a := ((cntI (opened xs n) (xs[n].tmod 64) 0 1 + 1 : Nat) : Int)) (h' := h4) rfl ?_
          rw [hc, if_pos rfl]
          simp only [decide_true, Bool.not_true, Bool.false_eq_true, if_false]
          rw [nat_wr (by omega)]
          refine w_ret ⟨n + 1, fp3, rfl, by split <;> omega, T4, hsl4, fun b hb => ⟨by have := (hap3 b hb).1; omega, (hap3 b hb).2⟩, ?_⟩
          have : (fun k => if cntI (opened xs (n + 1)) k 0 1 = 0 then none else some (MV.int .i64 (cntI (opened xs (n + 1)) k 0 1 : Nat))) =
              fun k' => if k' = xs[n].tmod 64 then some (MV.int .i64 (cntI (opened xs n) (xs[n].tmod 64) 0 1 + 1 : Nat)) else if cntI (opened xs n) k' 0 1 = 0 then none else some (MV.int .i64 (cntI (opened xs n) k' 0 1 : Nat)) := by
            funext k
            rw [hc k]
            by_cases ek : k = xs[n].tmod 64
            · subst ek
              rw [if_pos rfl, if_pos rfl, if_neg (by omega)]
            · rw [show (if xs[n].tmod 64 = k then 1 else 0) = 0 from if_neg (fun c => ek c.symm), if_neg ek, Nat.add_zero]
          rw [this]
          exact hmap4
        · have hn8' : n = 8 := by omega
          have hi8 : 8 ≤ i := by
            rcases Nat.lt_or_ge i 8 with h | h
            · rw [if_pos h] at hn; omega
            · exact h
          subst hn8'
          rw [if_neg (show ¬ (8 < 8) by omega)]
          have h8 : decide (((8 : Nat) : Int) = 8) = true := rfl
          have h5 : ¬ (!decide (((0 : Int), (5 : Int)).2 = 5)) = true := by decide
          rw [if_pos h8, if_neg h5]
          rw [if_neg (show ¬ (8 < 8) by omega)] at T3
          exact w_ret ⟨8, fp3, rfl, by rw [if_neg (by omega)], T3, hsl3, hap3, hmap3⟩
      · rintro r h'' ⟨n', fp', rfl, hn', T', hsl', hap', hmap'⟩
        show Wp (rec ((n' : Int), wr .i64 ((i : Int) + 1))) h'' _
        rw [nat_wr (by omega)]
        exact hrec _ _ ⟨n', i + 1, fp', rfl, by omega, hn', T', hsl', hap', hmap'⟩ (by show m - (i + 1) < m - i; omega)
    · obtain rfl : i = m := by omega
      have : ¬ ((i : Int) < (i : Int)) := by omega
      simp only [this, decide_false, Bool.false_eq_true, if_false]
      exact w_ret ⟨n, fp, rfl, hn, T, hsl, fun b hb => (hap b (.inr hb)).2⟩
  · rintro r h' ⟨n, fp, rfl, hn, T, hsl, hap⟩
    dsimp only
    by_cases hn0 : n = 0
    · subst hn0
      simp only [show decide (((0 : Nat) : Int) = 0) = true from rfl, if_true]
      exact w_ret rfl
    · have hne : ¬ ((n : Int) = 0) := by omega
      simp only [hne, decide_false, Bool.false_eq_true, if_false]
      have hnx : n ≤ xs.length := by rw [hn]; split <;> omega
      have hn8 : n ≤ 8 := by rw [hn]; split <;> omega
      obtain ⟨c, hc, hcn⟩ : ∃ c : Nat, (wr .i64 w).tmod (n : Int) = (c : Int) ∧ c < n := by
        rw [wr64 (by omega) (by omega), Int.tmod_eq_emod_of_nonneg hw.1]
        have h2 := Int.emod_nonneg w (show (n : Int) ≠ 0 by omega)
        have h3 := Int.emod_lt_of_pos w (show (0 : Int) < (n : Int) by omega)
        exact ⟨(w % n).toNat, by omega, by omega⟩
      rw [hc]
      have hfd : opened xs n 0 c = some ((xs[c]'(by omega)).tmod 64, 0) := by
        unfold opened
        rw [if_pos ⟨rfl, hcn⟩, List.getElem?_eq_getElem (by omega)]
        rfl
      have hwhy : whyT 1 (opened xs n) 0 c = 0 := by
        unfold whyT
        rw [if_neg (by omega), if_neg]
        rintro (h | h | h)
        · omega
        · omega
        · rw [Int.toNat_zero, Int.toNat_natCast, hfd] at h; cases h
      have hR1 : closeR 1 (opened xs n) 0 c = ((xs[c]'(by omega)).tmod 64, 0) := by
        unfold closeR
        rw [if_pos hwhy, Int.toNat_zero, Int.toNat_natCast, hfd]
        rfl
      have hF1 : closeF 1 (opened xs n) 0 c = upd2 (opened xs n) 0 c none := by
        unfold closeF
        rw [if_pos hwhy, Int.toNat_zero, Int.toNat_natCast]
      refine w_bd_mono (close_spec T 0 c) ?_
      rintro r22 h3 ⟨rfl, T3, M3⟩
      rw [hF1] at T3
      have hwhy2 : whyT 1 (upd2 (opened xs n) 0 c none) 0 c = 2 := by
        unfold whyT
        rw [if_neg (by omega), if_pos]
        right; right
        rw [Int.toNat_zero, Int.toNat_natCast, upd2_same]
      refine w_bd_mono (close_spec T3 0 c) ?_
      rintro r23 h4 ⟨rfl, T4, M4⟩
      have hR2 : closeR 1 (upd2 (opened xs n) 0 c none) 0 c = (0, 2) := by
        unfold closeR
        rw [hwhy2]
        rfl
      have hF2 : closeF 1 (upd2 (opened xs n) 0 c none) 0 c = upd2 (opened xs n) 0 c none := by
        unfold closeF
        rw [hwhy2]
        rfl
      rw [hF2] at T4
      refine w_bd_mono (open_spec T4 (by omega) 0 9) ?_
      rintro r24 h5 ⟨rfl, fp5, T5, M5⟩
      have hfirst : firstNo (upd2 (opened xs n) 0 c none 0) 0 8 = some c := by
        cases hk : firstNo (upd2 (opened xs n) 0 c none 0) 0 8 with
        | none => exact absurd (upd2_same _ 0 c _) (firstNo_none hk c (by omega) (by omega))
        | some k =>
          obtain ⟨_, h8, hkn, hbef⟩ := firstNo_some hk
          congr 1
          rcases Nat.lt_trichotomy k c with h | h | h
          · rw [upd2_ne _ _ (by omega)] at hkn
            unfold opened at hkn
            rw [if_pos ⟨rfl, by omega⟩, List.getElem?_eq_getElem (by omega)] at hkn
            cases hkn
          · exact h
          · exact absurd (upd2_same _ 0 c _) (hbef c (by omega) h)
      have hR3 : openR 1 (upd2 (opened xs n) 0 c none) 0 9 = ((c : Int), 0) := by
        unfold openR
        rw [if_neg (by omega), if_neg (by omega), Int.toNat_zero, hfirst]
      have hM := (M3.trans M4).trans M5
      obtain ⟨same5, _⟩ := hM.apart (g := SlB s cs) (fun b hb => hsl.lt hb) hap
      have hsl5 : SlIn h5 s 1 cs := hsl.frame hM.size same5
      obtain ⟨b, ro, g1, g2, g3⟩ := hsl5.one (i := c) (by omega)
      rw [hR1, hR2, hR3]
      simp only [decide_true, Bool.and_self, if_true]
      refine w_bd_eq (a := true) (h' := h5) ?_ (w_ret rfl)
      have hload := ldI_eq g2 (hcsg c (by omega))
      simp only [bd, g1, hload, ret, (ktm c (by omega)).1, decide_true]

end Go.Moat
