/- The laws' own toolkit: slices of ints that are one's own: Index, Delete, Insert. -/
import Derived.Test.YtpnppebjcenkkaaMSLM
import Derived.Test.YtpnppebjcenkkaaMINS
namespace Go.Mini

def ints (ks : List Int) : List MV := ks.map (.int .i64)
theorem ints_len (ks : List Int) : (ints ks).length = ks.length := by simp [ints]
theorem ints_cell (ks : List Int) : (ints ks).all isCell = true := by simp [ints, isCell]
theorem ints_get {ks : List Int} {i : Nat} (h : i < ks.length) : (ints ks)[i]? = some (.int .i64 ks[i]) := by simp [ints, h]
theorem intsOf_ints : ∀ (ks : List Int), intsOf .i64 (ints ks) = some ks
  | [] => rfl
  | k :: ks => by
    have ih := intsOf_ints ks
    unfold ints at ih ⊢
    simp only [List.map_cons, intsOf, if_true, ih]

section
variable {β : Type} {l : List HA} {S : β → HA}

/-- One element is read. -/
theorem tri_own_I (n : Nat) {s : Sl} {ks : List Int} (hl : l[n]? = some (OwnA s 1 (ints ks))) {i : Nat} (hi : i < ks.length) {f : Int → M β} (kk : Tri (stars l) (f ks[i]) S) : Tri (stars l) (bd (idx 1 s (i : Int)) fun q => bd (ldI .i64 q) f) S := by
  refine tri_own n hl (fun h1 h2 => ?_) fun b ln h1 h2 => ?_
  · have := congrArg List.length h2
    rw [ints_len] at this
    simp at this
    subst this
    simp at hi
  · subst h1
    rw [ints_len] at h2
    refine tri_idx (by omega) (tri_ldI n (nth_upd l n _ hl) (by rw [Nat.zero_add, Nat.mul_one]; exact ints_get hi) ?_)
    refine kk.pre fun q hq => ?_
    have := stars_set_imp n (l := upd l n (pts b (.cells (ints ks) false))) (B := OwnA ⟨some ⟨b, 0⟩, ln⟩ 1 (ints ks)) (nth_upd l n _ hl) (fun q h => .mk (by rw [ints_len]; exact h2) h) q hq
    rwa [upd_upd, upd_same l n hl] at this

theorem own_len (n : Nat) {s : Sl} {e : Nat} {cs : List MV} {m : M β} (hl : l[n]? = some (OwnA s e cs)) (k : cs.length = s.len * e → Tri (stars l) m S) : Tri (stars l) m S := tri_know n hl (fun _ h => h.len) k
theorem own_lenI (n : Nat) {s : Sl} {ks : List Int} {m : M β} (hl : l[n]? = some (OwnA s 1 (ints ks))) (k : s.len = ks.length → Tri (stars l) m S) : Tri (stars l) m S :=
  own_len n hl fun h => k (by rw [ints_len] at h; omega)

theorem own_del {s : Sl} {ks : List Int} {i : Nat} (hi : i < ks.length) : Tri (stars [OwnA s 1 (ints ks)]) (delI s (i : Int) ((i : Int) + 1)) fun r => stars [OwnA r 1 (ints (ks.eraseIdx i))] := by
  refine tri_own 0 rfl (fun h1 h2 => ?_) fun b ln h1 h2 => ?_
  · have := congrArg List.length h2
    rw [ints_len] at this
    simp at this
    subst this
    simp at hi
  · subst h1
    rw [ints_len] at h2
    have hln : ks.length = ln := by omega
    subst hln
    show Tri (stars [pts b (.cells (ints ks) false)]) _ _
    rw [stars_one]
    refine (tri_move1 (z := .dead) (y := .cells (ints (ks.eraseIdx i)) false) (g := fun b' => (⟨some ⟨b', 0⟩, ks.length - 1⟩ : Sl)) fun h _ hg => ?_).post fun r q hq => ?_
    · unfold delI
      dsimp only
      rw [hg]
      dsimp only
      rw [List.drop_zero, List.take_of_length_le (by rw [ints_len]; exact Nat.le_refl _), intsOf_ints]
      dsimp only
      rw [if_pos ⟨by omega, by omega, by omega, by omega, by rw [ints_len]; omega⟩]
      have e1 : ((i : Int) + 1 - (i : Int)).toNat = 1 := by omega
      have e2 : ((i : Int) + 1).toNat = i + 1 := by omega
      rw [e1, e2, Int.toNat_natCast]
      simp [ints, List.eraseIdx_eq_take_drop_succ]
    · obtain ⟨b', rfl, h⟩ := hq
      rw [stars_one]
      exact .mk (by rw [ints_len, List.length_eraseIdx_of_lt hi]; simp) h

theorem own_ins (hp : plain = true) {s : Sl} {ks : List Int} {b : Nat} {x : Int} (hb : (ks.length + 1) * 8 ≤ most) : Tri (stars [OwnA s 1 (ints ks), pts b (.cells [.int .i64 x] false)]) (insI s 0 ⟨some ⟨b, 0⟩, 1⟩) fun r => stars [OwnA r 1 (ints (x :: ks))] := by
  refine tri_own 0 rfl (fun h1 h2 => ?_) fun a ln h1 h2 => ?_
  · subst h1
    have hk : ks = [] := by
      have := congrArg List.length h2
      rw [ints_len] at this
      exact List.length_eq_zero_iff.1 this
    subst hk
    refine tri_drop emp ?_
    refine Tri.post (Q := fun r => star (exA fun b' => pu (r = ⟨some ⟨b', 0⟩, 1⟩) (pts b' (.cells (ints [x]) false))) emp) ?_ fun r q hq => ?_
    · show Tri (star emp (star (pts b _) emp)) _ _
      rw [star_emp, star_comm, star_emp]
      intro h q hq hh
      obtain ⟨g1, g2⟩ := pts_get hq hh
      obtain ⟨r, h', q', e, r1⟩ := tri_new1 (m := fun h => some ((⟨some ⟨h.size, 0⟩, 1⟩ : Sl), h.push (.cells (ints [x]) false))) (x := .cells (ints [x]) false) (g := fun b' => ⟨some ⟨b', 0⟩, 1⟩) (fun h => rfl) h (fun _ => none) (fun _ => rfl) (fun _ _ e => by cases e)
      refine ⟨r, h', q', ?_, by dsimp only; rw [star_emp]; exact r1.1, r1.2.1, r1.2.2.1, fun b hb hn => r1.2.2.2.1 b hb rfl, fun b hb => ?_⟩
      · rw [← e]
        unfold insI
        dsimp only
        rw [g2]
        have hm : most = 70368744177664 := rfl
        simp [hp, isCell, hm, ints]
      · rcases r1.2.2.2.2 b hb with c | c
        · exact absurd rfl c
        · exact .inr c
    · obtain ⟨q1, q2, ⟨b', rfl, h1⟩, h2, d, rfl⟩ := hq
      exact ⟨q1, q2, by rw [stars_one]; exact .mk (by simp [ints]) h1, h2, d, rfl⟩
  · subst h1
    rw [ints_len] at h2
    have hln : ks.length = ln := by omega
    subst hln
    show Tri (star (pts a (.cells (ints ks) false)) (star (pts b (.cells [.int .i64 x] false)) emp)) _ _
    rw [star_emp]
    refine tri_drop (pts b (.cells [.int .i64 x] false)) ?_
    refine (tri_move2' (z := .dead) (w := .cells (ints (x :: ks)) false) (g := fun b' => (⟨some ⟨b', 0⟩, ks.length + 1⟩ : Sl)) fun h hne _ hg hg2 => ?_).post fun r q hq => ?_
    · unfold insI
      dsimp only
      rw [hg2]
      dsimp only [List.getElem?_cons_zero]
      rw [if_pos ⟨hp, rfl, rfl, by omega, by omega, hb⟩, hg]
      dsimp only
      have e1 : (List.take ks.length (List.drop 0 (ints ks))) = ints ks := by rw [List.drop_zero, List.take_of_length_le (by rw [ints_len]; exact Nat.le_refl _)]
      rw [e1, if_pos ⟨by rw [ints_len]; omega, hne, ints_cell ks⟩]
      rfl
    · obtain ⟨b', rfl, q1, q2, h3, h4, d, rfl⟩ := hq
      exact ⟨q1, q2, by rw [stars_one]; exact .mk (by simp [ints]) h3, h4, d, rfl⟩

/-- Where a number stands first; -1: nowhere. -/
def IsIdx (ks : List Int) (v r : Int) : Prop := (v ∉ ks ∧ r = -1) ∨ ∃ (i : Nat) (h : i < ks.length), r = i ∧ ks[i] = v ∧ v ∉ ks.take i

theorem nodup_erase {v : Int} : ∀ {ks : List Int} {i : Nat} (h : i < ks.length), ks.Nodup → ks[i] = v → ks.eraseIdx i = ks.filter fun k => decide (k ≠ v)
  | k :: ks, 0, _, hn, hv => by
    simp only [List.getElem_cons_zero] at hv
    subst hv
    rw [List.nodup_cons] at hn
    rw [List.eraseIdx_cons_zero, List.filter_cons, if_neg (by simp), List.filter_eq_self.2]
    intro a ha
    simp
    rintro rfl
    exact hn.1 ha
  | k :: ks, i + 1, h, hn, hv => by
    rw [List.nodup_cons] at hn
    simp only [List.getElem_cons_succ] at hv
    have hi : i < ks.length := by simpa using h
    rw [List.eraseIdx_cons_succ, List.filter_cons, if_pos, nodup_erase hi hn.2 hv]
    simp
    rintro rfl
    exact hn.1 (hv ▸ List.getElem_mem hi)

def indexM (N : Nat) (vs_1 : Sl) (v_2 : Int) : M (Int) := bd (show M (Unit ⊕ Int) from iter N (fun go_4 (v_3 : Int) => if (decide (v_3 < (vs_1.len : Int))) = true then (bd (idx 1 vs_1 v_3) fun q_5 => bd (ldI .i64 q_5) fun (y_6 : Int) => if (decide (v_2 = y_6)) = true then (ret (Sum.inr v_3)) else (go_4 (wr .i64 (v_3 + (1 : Int))))) else (ret ((Sum.inl ())))) (0 : Int)) fun j_7 => (match j_7 with | Sum.inl j_8 => ret (-1 : Int) | Sum.inr j_9 => ret j_9)

theorem own_index {N : Nat} {s : Sl} {ks : List Int} (v : Int) (hN : ks.length < N) (hk : ks.length < 4611686018427387904) : Tri (stars [OwnA s 1 (ints ks)]) (indexM N s v) fun r => pu (IsIdx ks v r) (stars [OwnA s 1 (ints ks)]) := by
  unfold indexM
  refine own_lenI 0 rfl fun hs => ?_
  have loop : ∀ (N : Nat) (j : Nat), ks.length - j < N → Tri (pu (j ≤ ks.length ∧ v ∉ ks.take j) (stars [OwnA s 1 (ints ks)])) (iter N (fun go_4 (v_3 : Int) => if (decide (v_3 < (s.len : Int))) = true then (bd (idx 1 s v_3) fun q_5 => bd (ldI .i64 q_5) fun (y_6 : Int) => if (decide (v = y_6)) = true then (ret (Sum.inr v_3)) else (go_4 (wr .i64 (v_3 + (1 : Int))))) else (ret ((Sum.inl ())))) (j : Int) : M (Unit ⊕ Int))
      fun r => pu (match r with | .inl _ => v ∉ ks | .inr i => IsIdx ks v i) (stars [OwnA s 1 (ints ks)]) := by
    intro N
    induction N with
    | zero => intro j hj; omega
    | succ N ih =>
      intro j hj
      rintro h q ⟨⟨h1, h2⟩, hq⟩ hh
      revert h q
      refine fun h q hq hh => (?_ : Tri (stars [OwnA s 1 (ints ks)]) _ _) h q hq hh
      show Tri _ (if _ then _ else _) _
      by_cases hj2 : j < ks.length
      · refine tri_t (by simp [hs]; omega) ?_
        refine tri_own_I 0 rfl hj2 ?_
        by_cases hv : v = ks[j]
        · refine tri_t (by simpa using hv) (tri_ret fun q hq => ⟨?_, hq⟩)
          exact .inr ⟨j, hj2, rfl, hv.symm, h2⟩
        · refine tri_f (by simpa using hv) ?_
          rw [wr64 (by omega) (by omega)]
          refine (ih (j + 1) (by omega)).pre fun q hq => ⟨⟨hj2, ?_⟩, hq⟩
          rw [List.take_succ_eq_append_getElem hj2, List.mem_append]
          rintro (c | c)
          · exact h2 c
          · simp at c; exact hv c
      · refine tri_f (by simp [hs]; omega) (tri_ret fun q hq => ⟨?_, hq⟩)
        have : ks.take j = ks := List.take_of_length_le (by omega)
        rwa [this] at h2
  refine tri_call [0] ((loop N 0 (by omega)).pre fun q hq => ⟨⟨Nat.zero_le _, by simp⟩, hq⟩) fun r => tri_pu fun hr => tri_flat ?_
  cases r with
  | inl u => exact tri_end [0] fun q hq => ⟨.inl ⟨hr, rfl⟩, hq⟩
  | inr i => exact tri_end [0] fun q hq => ⟨hr, hq⟩

def sameM (N : Nat) (a_1 : Sl) (vb_2 : Sl) : M (Bool) := if (!decide ((a_1.len : Int) = (vb_2.len : Int))) = true then (ret false) else (bd (show M (Unit ⊕ Bool) from iter N (fun go_4 (v_3 : Int) => if (decide (v_3 < (a_1.len : Int))) = true then (bd (idx 1 a_1 v_3) fun q_5 => bd (ldI .i64 q_5) fun (y_6 : Int) => bd (idx 1 vb_2 v_3) fun q_7 => bd (ldI .i64 q_7) fun (y_8 : Int) => if (!decide (y_6 = y_8)) = true then (ret (Sum.inr false)) else (go_4 (wr .i64 (v_3 + (1 : Int))))) else (ret ((Sum.inl ())))) (0 : Int)) fun j_9 => (match j_9 with | Sum.inl j_10 => ret true | Sum.inr j_11 => ret j_11))

theorem own_same {N : Nat} {s t : Sl} {ks js : List Int} (hN : ks.length < N) (hk : ks.length < 4611686018427387904) : Tri (stars [OwnA s 1 (ints ks), OwnA t 1 (ints js)]) (sameM N s t) fun r => pu (r = decide (ks = js)) (stars [OwnA s 1 (ints ks), OwnA t 1 (ints js)]) := by
  unfold sameM
  refine own_lenI 0 rfl fun hs => own_lenI 1 rfl fun ht => ?_
  by_cases hl : ks.length = js.length
  case neg =>
    refine tri_t (by simp [hs, ht]; omega) (tri_end [0, 0] fun q hq => ⟨?_, hq⟩)
    symm
    exact decide_eq_false fun c => hl (congrArg List.length c)
  refine tri_f (by simp [hs, ht]; omega) ?_
  have loop : ∀ (N : Nat) (j : Nat), ks.length - j < N → Tri (pu (j ≤ ks.length ∧ ks.take j = js.take j) (stars [OwnA s 1 (ints ks), OwnA t 1 (ints js)])) (iter N (fun go_4 (v_3 : Int) => if (decide (v_3 < (s.len : Int))) = true then (bd (idx 1 s v_3) fun q_5 => bd (ldI .i64 q_5) fun (y_6 : Int) => bd (idx 1 t v_3) fun q_7 => bd (ldI .i64 q_7) fun (y_8 : Int) => if (!decide (y_6 = y_8)) = true then (ret (Sum.inr false)) else (go_4 (wr .i64 (v_3 + (1 : Int))))) else (ret ((Sum.inl ())))) (j : Int) : M (Unit ⊕ Bool))
      fun r => pu ((match r with | .inl _ => true | .inr i => i) = decide (ks = js)) (stars [OwnA s 1 (ints ks), OwnA t 1 (ints js)]) := by
    intro N
    induction N with
    | zero => intro j hj; omega
    | succ N ih =>
      intro j hj
      rintro h q ⟨⟨h1, h2⟩, hq⟩ hh
      revert h q
      refine fun h q hq hh => (?_ : Tri (stars [OwnA s 1 (ints ks), OwnA t 1 (ints js)]) _ _) h q hq hh
      show Tri _ (if _ then _ else _) _
      by_cases hj2 : j < ks.length
      · refine tri_t (by simp [hs]; omega) ?_
        refine tri_own_I 0 rfl hj2 (tri_own_I 1 rfl (hl ▸ hj2) ?_)
        have hj3 : j < js.length := by omega
        by_cases hv : ks[j] = js[j]
        · refine tri_f (by simpa using hv) ?_
          rw [wr64 (by omega) (by omega)]
          refine (ih (j + 1) (by omega)).pre fun q hq => ⟨⟨hj2, ?_⟩, hq⟩
          rw [List.take_succ_eq_append_getElem hj2, List.take_succ_eq_append_getElem hj3, h2, hv]
        · refine tri_t (by simpa using hv) (tri_ret fun q hq => ⟨?_, hq⟩)
          symm
          refine decide_eq_false fun c => hv ?_
          subst c
          rfl
      · refine tri_f (by simp [hs]; omega) (tri_ret fun q hq => ⟨?_, hq⟩)
        symm
        refine decide_eq_true ?_
        rwa [List.take_of_length_le (by omega), List.take_of_length_le (by omega)] at h2
  refine tri_call [0, 0] ((loop N 0 (by omega)).pre fun q hq => ⟨⟨Nat.zero_le _, rfl⟩, hq⟩) fun r => tri_pu fun hr => tri_flat ?_
  cases r with
  | inl u => exact tri_end [0, 0] fun q hq => ⟨hr, hq⟩
  | inr i => exact tri_end [0, 0] fun q hq => ⟨hr, hq⟩

theorem own_samef {N : Nat} {s t : Sl} {ks js : List Int} (hN : ks.length < N) (hk : ks.length < 4611686018427387904) : Tri (stars [OwnA s 1 (ints ks), OwnA t 1 (ints js)]) (frz (sameM N s t)) fun r => pu (r = decide (ks = js)) (stars [OwnA s 1 (ints ks), OwnA t 1 (ints js)]) :=
  tri_frz0 (exact_stars fun A hA => by
    simp only [List.mem_cons, List.not_mem_nil, or_false] at hA
    rcases hA with rfl | rfl
    · exact exact_own
    · exact exact_own) (own_same hN hk)

end
end Go.Mini
