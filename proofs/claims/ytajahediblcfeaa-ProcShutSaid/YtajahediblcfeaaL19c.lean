/- Layer 19: 'ProcShut'. -/
import Derived.Test.YtajahediblcfeaaL19b
namespace Go.Moat
open Go.Mini

/-- All that is open has an inode's number. -/
def InoOk (n : Nat) (fd : Nat → Nat → Option (Int × Int)) : Prop := ∀ i j x, i < n → j < 8 → fd i j = some x → 0 ≤ x.1 ∧ x.1 < 64

theorem InoOk.act {n : Nat} {fd : Nat → Nat → Option (Int × Int)} (k : InoOk n fd) (a : Int × Int × Int × Int × Int) : InoOk n (actF n fd a) := by
  unfold actF
  split
  · exact k
  · split
    · unfold openF
      split
      · rename_i h0
        intro i j x hi hj hx
        by_cases e : i = a.2.1.toNat ∧ j = (openR n fd a.2.1 a.2.2.2.1).1.toNat
        · obtain ⟨rfl, rfl⟩ := e
          rw [upd2_same] at hx
          cases hx
          unfold openR at h0
          split at h0
          · cases h0
          · split at h0
            · cases h0
            · dsimp only
              omega
        · rw [upd2_ne _ _ e] at hx
          exact k i j x hi hj hx
      · exact k
    · split
      · unfold closeF
        split
        · intro i j x hi hj hx
          by_cases e : i = a.2.1.toNat ∧ j = a.2.2.1.toNat
          · obtain ⟨rfl, rfl⟩ := e
            rw [upd2_same] at hx
            cases hx
          · rw [upd2_ne _ _ e] at hx
            exact k i j x hi hj hx
        · exact k
      · unfold moveF
        split
        · rename_i h0
          intro i j x hi hj hx
          by_cases e : i = a.2.1.toNat ∧ j = a.2.2.1.toNat
          · obtain ⟨rfl, rfl⟩ := e
            rw [upd2_same] at hx
            cases hx
            unfold moveR at h0
            split at h0
            · rename_i hw
              obtain ⟨p, q, e1, e2, hp, hq, y, hy⟩ := why_yes hw
              rw [e1, e2, Int.toNat_natCast, Int.toNat_natCast, hy]
              exact k p q y hp hq hy
            · rename_i hw
              exact absurd h0 hw
          · rw [upd2_ne _ _ e] at hx
            exact k i j x hi hj hx
        · exact k

theorem cntJ_drop {f : Nat → Option (Int × Int)} {ino : Int} {k : Nat} : ∀ m j, j ≤ k → k < j + m → cntJ (fun b => if b = k then none else f b) ino j m + (if (f k).map (·.1) = some ino then 1 else 0) = cntJ f ino j m
  | 0, j, h1, h2 => by omega
  | m + 1, j, h1, h2 => by
    unfold cntJ
    by_cases e : j = k
    · subst e
      have same : ∀ m l, j < l → cntJ (fun b => if b = j then none else f b) ino l m = cntJ f ino l m := by
        intro m
        induction m with
        | zero => intro l _; rfl
        | succ m ih =>
          intro l hl
          unfold cntJ
          rw [if_neg (show ¬ l = j by omega), ih (l + 1) (by omega)]
      rw [same m (j + 1) (by omega), if_pos rfl]
      simp
      omega
    · have := cntJ_drop (f := f) (ino := ino) (k := k) m (j + 1) (by omega) (by omega)
      rw [if_neg e]
      omega

theorem cntI_drop {fd : Nat → Nat → Option (Int × Int)} {ino : Int} {p k : Nat} (hk : k < 8) : ∀ m i, i ≤ p → p < i + m → cntI (upd2 fd p k none) ino i m + (if (fd p k).map (·.1) = some ino then 1 else 0) = cntI fd ino i m
  | 0, i, h1, h2 => by omega
  | m + 1, i, h1, h2 => by
    unfold cntI
    by_cases e : i = p
    · subst e
      have same : ∀ m l, i < l → cntI (upd2 fd i k none) ino l m = cntI fd ino l m := by
        intro m
        induction m with
        | zero => intro l _; rfl
        | succ m ih =>
          intro l hl
          unfold cntI
          have : upd2 fd i k none l = fd l := by
            funext b
            exact upd2_ne _ _ (by omega)
          rw [this, ih (l + 1) (by omega)]
      have h3 : upd2 fd i k none i = fun b => if b = k then none else fd i b := by
        funext b
        unfold upd2
        by_cases e : b = k
        · rw [if_pos ⟨rfl, e⟩, if_pos e]
        · rw [if_neg (by omega), if_neg e]
      have := cntJ_drop (f := fd i) (ino := ino) (k := k) 8 0 (by omega) (by omega)
      rw [same m (i + 1) (by omega), h3]
      omega
    · have := cntI_drop (fd := fd) (ino := ino) (p := p) hk m (i + 1) (by omega) (by omega)
      have h3 : upd2 fd p k none i = fd i := by
        funext b
        exact upd2_ne _ _ (by omega)
      rw [h3]
      omega

theorem cntI_none {fd : Nat → Nat → Option (Int × Int)} {ino : Int} {n : Nat} (hn : ∀ i j, i < n → j < 8 → fd i j = none) : ∀ m i, i + m ≤ n → cntI fd ino i m = 0
  | 0, _, _ => rfl
  | m + 1, i, h => by
    unfold cntI
    have : ∀ m j, j + m ≤ 8 → cntJ (fd i) ino j m = 0 := by
      intro m
      induction m with
      | zero => intro j _; rfl
      | succ m ih =>
        intro j hj
        unfold cntJ
        rw [ih (j + 1) (by omega), hn i j (by omega) (by omega)]
        simp
    rw [this 8 0 (by omega), cntI_none hn m (i + 1) (by omega)]

theorem close_cnt {fd : Nat → Nat → Option (Int × Int)} {p k : Nat} (hp : p < 8) (hk : k < 8) (ino : Int) : cntI (closeF 8 fd p k) ino 0 8 + (if (fd p k).map (·.1) = some ino then 1 else 0) = cntI fd ino 0 8 := by
  unfold closeF
  split
  · rw [Int.toNat_natCast, Int.toNat_natCast]
    exact cntI_drop hk 8 0 (by omega) (by omega)
  · rename_i hw
    have : fd p k = none := by
      unfold whyT at hw
      rw [if_neg (by omega)] at hw
      split at hw
      · rename_i h
        rw [Int.toNat_natCast, Int.toNat_natCast] at h
        rcases h with h | h | h
        · omega
        · omega
        · exact h
      · exact absurd rfl hw
    rw [this]
    simp

/-- 'ProcShut', whatever comes in. -/
theorem shut_run {xs : List (HC actTs)} {s : Sl} {h : Hp} (hs : SlIn h s 5 (rowsOf actTs xs)) : Wp (F_moatlaw19_ProcShut 1000 s) h fun r _ => r = true := by
  unfold F_moatlaw19_ProcShut
  have hlen : s.len = xs.length := by
    have := hs.1
    rw [rowsOf_length] at this
    have h5 : actTs.length = 5 := rfl
    rw [h5] at this
    omega
  refine w_bd_mono (shown_spec (by omega) h) ?_
  rintro r0 h0 ⟨rfl, hsz0, hsame0⟩
  have hs0 : SlIn h0 s 5 (rowsOf actTs xs) := hs.frame hsz0 fun b hb => hsame0 b (hs.lt hb)
  refine w_bd_mono (new_yes (N := 1000) (n := 8) (by omega) (by omega) h0) ?_
  rintro r1 h1 ⟨rfl, T1, M1⟩
  simp only [Option.isNone_some, decide_true, Bool.not_true, Bool.or_self, Bool.false_eq_true, if_false]
  obtain ⟨same1, apart1⟩ := M1.apart (g := SlB s (rowsOf actTs xs)) (fun b hb => hs0.lt hb) (fun b _ c => c)
  have hs1 := hs0.frame M1.size same1
  refine w_bd_eq (few_spec hlen h1) ?_
  obtain ⟨m, hm⟩ : ∃ m : Nat, m = if 200 < xs.length then 200 else xs.length := ⟨_, rfl⟩
  rw [← hm]
  have hmx : m ≤ xs.length := by rw [hm]; split <;> omega
  have hm2 : m ≤ 200 := by rw [hm]; split <;> omega
  generalize ht : h0.size + 1 = t at *
  -- the acts
  refine w_bd_mono (R := fun _ h' => ∃ lab fd fp, TabP h' t 8 lab fd fp ∧ InoOk 8 fd) ?_ ?_
  · refine w_iter (fun (v : Int) h' => ∃ (i : Nat) (lab : Nat → Int) (fd : Nat → Nat → Option (Int × Int)) (fp : Nat → Prop), v = (i : Int) ∧ i ≤ m ∧ TabP h' t 8 lab fd fp ∧ SlIn h' s 5 (rowsOf actTs xs) ∧ (∀ b, SlB s (rowsOf actTs xs) b → ¬ fp b) ∧ InoOk 8 fd)
      (fun v => m - v.toNat) ?_ 1000 (0 : Int) h1 ⟨0, _, _, _, rfl, Nat.zero_le _, T1, hs1, apart1, fun i j x _ _ hx => by cases hx⟩ (by show m - 0 < 1000; omega)
    rintro v h' ⟨i, lab, fd, fp, rfl, him, T, hsl, ha, hk⟩ rec hrec
    by_cases hi : i < m
    · simp only [Int.ofNat_lt, hi, decide_true, if_true]
      obtain ⟨q, g1, g2⟩ := ldSt_row hsl (by decide) (m := m) (by omega) hi (by omega)
      generalize xs[i] = x at g2
      obtain ⟨a, rfl⟩ : ∃ a : Int × Int × Int × Int × Int, a = x := ⟨x, rfl⟩
      refine w_bd_eq g1 (w_bd_eq g2 ?_)
      refine w_bd_mono (does_spec T (by omega) a) ?_
      rintro r11 h3 ⟨rfl, fp3, T3, M3⟩
      obtain ⟨sameS, apartS⟩ := M3.apart (g := SlB s (rowsOf actTs xs)) (fun b hb => hsl.lt hb) ha
      rw [nat_wr (by omega)]
      exact hrec _ _ ⟨i + 1, _, _, fp3, rfl, by omega, T3, hsl.frame M3.size sameS, apartS, hk.act a⟩ (by show m - (i + 1) < m - i; omega)
    · obtain rfl : i = m := by omega
      simp only [Int.lt_irrefl, decide_false, Bool.false_eq_true, if_false]
      exact w_ret ⟨lab, fd, fp, T, hk⟩
  rintro _ h2 ⟨lab, fd, fp, T2, hk⟩
  have hcle : ∀ ino, cntI fd ino 0 8 ≤ 64 := fun ino => cntI_le fd ino 8 0
  -- how often each is held
  refine w_bd_mono (R := fun (many : List Int) h' => h' = h2 ∧ many.length = 64 ∧ ∀ k : Nat, k < 64 → many[k]? = some (cntI fd k 0 8 : Int)) ?_ ?_
  · refine w_iter (fun (v : Int × List Int) h' => h' = h2 ∧ ∃ (i : Nat), v.1 = (i : Int) ∧ i ≤ 64 ∧ v.2.length = 64 ∧ ∀ k : Nat, k < i → v.2[k]? = some (cntI fd k 0 8 : Int))
      (fun v => 64 - v.1.toNat) ?_ 1000 ((0 : Int), List.replicate 64 (0 : Int)) h2 ⟨rfl, 0, rfl, by omega, List.length_replicate, fun k hk => by omega⟩ (by show 64 - 0 < 1000; omega)
    rintro ⟨_, l⟩ h' ⟨rfl, i, rfl, hi, hl, hg⟩ rec hrec
    dsimp only at hl hg
    by_cases hi64 : i < 64
    · have hi' : (i : Int) < 64 := by omega
      simp only [hi', decide_true, if_true]
      refine w_bd_eq (T2.holds (by omega) i) ?_
      refine w_bd_eq (w_chk ⟨Int.natCast_nonneg i, trivial⟩) (w_bd_eq (w_chk (by rw [hl, Int.toNat_natCast]; omega)) ?_)
      rw [nat_wr (by omega), Int.toNat_natCast, Nat.zero_add, Nat.mul_one]
      refine hrec _ _ ⟨rfl, i + 1, rfl, by omega, by simpa using hl, fun k hk => ?_⟩ (by show 64 - (i + 1) < 64 - i; omega)
      dsimp only
      rw [List.getElem?_set]
      by_cases e : i = k
      · subst e
        rw [if_pos rfl, if_pos (by omega)]
      · rw [if_neg e]
        exact hg k (by omega)
    · have hi' : ¬ (i : Int) < 64 := by omega
      simp only [hi', decide_false, Bool.false_eq_true, if_false]
      exact w_ret ⟨rfl, hl, fun k hk => hg k (by omega)⟩
  rintro many h2 ⟨rfl, hml, hmany⟩
  -- all is closed
  refine w_bd_mono (R := fun (r : List Int ⊕ Bool) h' => ∃ told fd' fp', r = Sum.inl told ∧ TabP h' t 8 lab fd' fp' ∧ (∀ i j, i < 8 → j < 8 → fd' i j = none) ∧ told.length = 64 ∧ ∀ k : Nat, k < 64 → told[k]? = some (cntI fd k 0 8 : Int)) ?_ ?_
  · -- what holds in between
    let I : Nat → Nat → List Int → Hp → Prop := fun p k told h' => ∃ fd' fp', TabP h' t 8 lab fd' fp' ∧ InoOk 8 fd' ∧ (∀ i j, i < 8 → j < 8 → (i < p ∨ (i = p ∧ j < k)) → fd' i j = none) ∧ told.length = 64 ∧ ∀ ino : Nat, ino < 64 → ∃ c : Nat, told[ino]? = some (c : Int) ∧ c + cntI fd' ino 0 8 = cntI fd ino 0 8
    refine w_iter (fun (v : Int × List Int) h' => ∃ (p : Nat), v.1 = (p : Int) ∧ p ≤ 8 ∧ I p 0 v.2 h')
      (fun v => 8 - v.1.toNat) ?_ 1000 ((0 : Int), List.replicate 64 (0 : Int)) h2 ⟨0, rfl, by omega, fd, fp, T2, hk, fun i j _ _ h => by omega, List.length_replicate, fun ino h => ⟨0, by rw [List.getElem?_replicate, if_pos h]; rfl, by omega⟩⟩ (by show 8 - 0 < 1000; omega)
    rintro ⟨_, told⟩ h3 ⟨p, rfl, hp, hI⟩ rec hrec
    by_cases hp8 : p < 8
    · have hp' : (p : Int) < 8 := by omega
      simp only [hp', decide_true, if_true]
      refine w_bd_mono (R := fun (r : List Int ⊕ Bool) h' => ∃ told', r = Sum.inl told' ∧ I p 8 told' h') ?_ ?_
      · refine w_iter (fun (v : Int × List Int) h' => ∃ (k : Nat), v.1 = (k : Int) ∧ k ≤ 8 ∧ I p k v.2 h') (fun v => 8 - v.1.toNat) ?_ 1000 ((0 : Int), told) h3 ⟨0, rfl, by omega, hI⟩ (by show 8 - 0 < 1000; omega)
        rintro ⟨_, told2⟩ h4 ⟨k, rfl, hk8', fd', fp', T4, hk4, hnone, htl, htold⟩ rec2 hrec2
        dsimp only at htl htold
        by_cases hk8 : k < 8
        · have hk' : (k : Int) < 8 := by omega
          simp only [hk', decide_true, if_true]
          refine w_bd_eq (T4.fdq 1000 p k) (w_bd_mono (close_spec T4 p k) ?_)
          rintro r20 h5 ⟨rfl, T5, M5⟩
          have hcnt := fun ino => close_cnt (fd := fd') hp8 hk8 ino
          have hk5 : InoOk 8 (closeF 8 fd' p k) := by
            intro i j x hi hj hx
            unfold closeF at hx
            split at hx
            · simp only [Int.toNat_natCast] at hx
              by_cases e : i = p ∧ j = k
              · obtain ⟨rfl, rfl⟩ := e
                rw [upd2_same] at hx
                cases hx
              · rw [upd2_ne _ _ e] at hx
                exact hk4 i j x hi hj hx
            · exact hk4 i j x hi hj hx
          have hself : closeF 8 fd' p k p k = none := by
            unfold closeF
            split
            · rw [Int.toNat_natCast, Int.toNat_natCast, upd2_same]
            · rename_i hw
              unfold whyT at hw
              rw [if_neg (by omega)] at hw
              split at hw
              · rename_i h
                rw [Int.toNat_natCast, Int.toNat_natCast] at h
                rcases h with h | h | h
                · omega
                · omega
                · exact h
              · exact absurd rfl hw
          have hnone5 : ∀ i j, i < 8 → j < 8 → (i < p ∨ (i = p ∧ j < k + 1)) → closeF 8 fd' p k i j = none := by
            intro i j hi hj hor
            by_cases e : i = p ∧ j = k
            · obtain ⟨rfl, rfl⟩ := e; exact hself
            · have h6 := hnone i j hi hj (by omega)
              unfold closeF
              split
              · rw [upd2_ne _ _ (by rw [Int.toNat_natCast, Int.toNat_natCast]; exact e)]; exact h6
              · exact h6
          cases hf : fd' p k with
          | none =>
            have hw : whyT 8 fd' p k = 2 := by
              unfold whyT
              rw [if_neg (by omega), if_pos]
              right; right
              rw [Int.toNat_natCast, Int.toNat_natCast]; exact hf
            have hR : closeR 8 fd' p k = (0, 2) := by unfold closeR; rw [hw]; rfl
            rw [hR, hw]
            have e1 : (if (2 : Int) = 0 then ((fd' (p : Int).toNat (k : Int).toNat).getD (0, 0), (0 : Int)) else ((0, 0), 2)) = ((0, 0), 2) := if_neg (by omega)
            rw [e1, if_neg (by decide), if_neg (by decide)]
            refine w_bd_ret ?_
            dsimp only
            rw [nat_wr (by omega)]
            refine hrec2 _ _ ⟨k + 1, rfl, by omega, _, fp', T5, hk5, hnone5, htl, fun ino hi => ?_⟩ (by show 8 - (k + 1) < 8 - k; omega)
            obtain ⟨c, h6, h7⟩ := htold ino hi
            have h8 := hcnt ino
            rw [hf] at h8
            simp at h8
            exact ⟨c, h6, by omega⟩
          | some x =>
            have hw : whyT 8 fd' p k = 0 := by
              unfold whyT
              rw [if_neg (by omega), if_neg]
              rintro (h | h | h)
              · omega
              · omega
              · rw [Int.toNat_natCast, Int.toNat_natCast, hf] at h; cases h
            have hR : closeR 8 fd' p k = (x.1, 0) := by
              unfold closeR
              rw [if_pos hw, Int.toNat_natCast, Int.toNat_natCast, hf]
              rfl
            obtain ⟨hx0, hx1⟩ := hk4 p k x hp8 hk8 hf
            rw [hR, hw]
            simp only [if_true, Int.toNat_natCast, hf, Option.getD_some, decide_true, Bool.not_true, Bool.false_and, Bool.or_self, Bool.and_false, Bool.false_eq_true, if_false]
            have hx' : ¬ ((decide (x.1 < (0 : Int))) || (decide ((63 : Int) < x.1))) = true := by simp; omega
            rw [if_neg hx']
            obtain ⟨ino, hino⟩ : ∃ ino : Nat, x.1 = ino := ⟨x.1.toNat, by omega⟩
            rw [hino]
            have hi64 : ino < 64 := by omega
            obtain ⟨c, h6, h7⟩ := htold ino hi64
            have hck := hcle ino
            refine w_bd (w_bd_eq (w_chk (by omega)) (w_bd_eq (a := (c : Int)) (h' := h5) (by rw [Int.toNat_natCast, Nat.zero_add, Nat.mul_one, h6]; rfl) (w_bd_eq (w_chk (by omega)) (w_bd_eq (w_chk (by rw [htl, Int.toNat_natCast]; omega)) (w_ret ?_)))))
            dsimp only
            rw [nat_wr (by omega), nat_wr (by omega), Int.toNat_natCast, Nat.zero_add, Nat.mul_one]
            refine hrec2 _ _ ⟨k + 1, rfl, by omega, _, fp', T5, hk5, hnone5, by simpa using htl, fun i2 hi2 => ?_⟩ (by show 8 - (k + 1) < 8 - k; omega)
            have h8 := hcnt i2
            rw [hf] at h8
            dsimp only
            by_cases e : ino = i2
            · subst e
              refine ⟨c + 1, by rw [List.getElem?_set, if_pos rfl, if_pos (by omega)], ?_⟩
              rw [if_pos (by simp [hino])] at h8
              omega
            · obtain ⟨c2, h9, h10⟩ := htold i2 hi2
              refine ⟨c2, by rw [List.getElem?_set, if_neg e]; exact h9, ?_⟩
              rw [if_neg (by simp [hino]; omega)] at h8
              omega
        · have hk' : ¬ (k : Int) < 8 := by omega
          simp only [hk', decide_false, Bool.false_eq_true, if_false]
          obtain rfl : k = 8 := by omega
          exact w_ret ⟨told2, rfl, fd', fp', T4, hk4, hnone, htl, htold⟩
      · rintro r h4 ⟨told', rfl, fd', fp', T4, hk4, hnone, htl, htold⟩
        dsimp only
        rw [nat_wr (by omega)]
        exact hrec _ _ ⟨p + 1, rfl, by omega, fd', fp', T4, hk4, fun i j hi hj h => hnone i j hi hj (by omega), htl, htold⟩ (by show 8 - (p + 1) < 8 - p; omega)
    · have hp' : ¬ (p : Int) < 8 := by omega
      simp only [hp', decide_false, Bool.false_eq_true, if_false]
      obtain rfl : p = 8 := by omega
      obtain ⟨fd', fp', T4, _, hnone, htl, htold⟩ := hI
      refine w_ret ⟨told, fd', fp', rfl, T4, fun i j hi hj => hnone i j hi hj (.inl hi), htl, fun k hk => ?_⟩
      obtain ⟨c, h6, h7⟩ := htold k hk
      rw [cntI_none (n := 8) (fun i j hi hj => hnone i j hi hj (.inl hi)) 8 0 (by omega)] at h7
      rw [h6, ← h7, Nat.add_zero]
  rintro r h3 ⟨told, fd', fp', rfl, T3, hnone, htl, htold⟩
  dsimp only
  refine w_bd_mono (R := fun (r : Unit ⊕ Bool) _ => r = Sum.inl ()) ?_ (by rintro r h' rfl; exact w_ret rfl)
  refine w_iter (fun (v : Int) h' => h' = h3 ∧ ∃ (i : Nat), v = (i : Int) ∧ i ≤ 64) (fun v => 64 - v.toNat) ?_ 1000 (0 : Int) h3 ⟨rfl, 0, rfl, by omega⟩ (by show 64 - 0 < 1000; omega)
  rintro v h' ⟨rfl, i, rfl, hi⟩ rec hrec
  by_cases hi64 : i < 64
  · have hi' : (i : Int) < 64 := by omega
    simp only [hi', decide_true, if_true]
    refine w_bd_eq (w_chk ⟨Int.natCast_nonneg i, trivial⟩) (w_bd_eq (a := (cntI fd i 0 8 : Int)) (h' := h') (by rw [Int.toNat_natCast, Nat.zero_add, Nat.mul_one, hmany i hi64]; rfl) (w_bd_eq (w_chk ⟨Int.natCast_nonneg i, trivial⟩) (w_bd_eq (a := (cntI fd i 0 8 : Int)) (h' := h') (by rw [Int.toNat_natCast, Nat.zero_add, Nat.mul_one, htold i hi64]; rfl) ?_)))
    simp only [decide_true, Bool.not_true, if_true]
    refine w_bd_eq (a := false) (h' := h') (by simp only [bd, T3.holds (N := 1000) (by omega) i, cntI_none (n := 8) hnone 8 0 (by omega)]; rfl) ?_
    simp only [Bool.false_eq_true, if_false]
    rw [nat_wr (by omega)]
    exact hrec _ _ ⟨rfl, i + 1, rfl, by omega⟩ (by show 64 - (i + 1) < 64 - i; omega)
  · have hi' : ¬ (i : Int) < 64 := by omega
    simp only [hi', decide_false, Bool.false_eq_true, if_false]
    exact w_ret rfl

end Go.Moat
