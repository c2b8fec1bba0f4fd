/- Layer 6: acts as they come in; the law CacheFirst, over plain functions. -/
import Derived.Test.YtpnppebjcenkkaaP06b
import Derived.Test.YtpnppebjcenkkaaMLR
namespace Go.Mini

/-- Rows of structs that came in. -/
def InA (s : Sl) (cts : List CTy) (xs : List (HC cts)) : HA := fun q => (xs = [] ∧ emp q) ∨ (s.p = some ⟨0, 0⟩ ∧ pts 0 (.cells (rowsOf cts xs) true) q)

section
variable {β : Type} {l : List HA} {S : β → HA} {cts : List CTy}

theorem tri_in (n : Nat) {s : Sl} {xs : List (HC cts)} {m : M β} (hl : l[n]? = some (InA s cts xs)) (h0 : xs ≠ []) (k : s.p = some ⟨0, 0⟩ → Tri (stars (upd l n (pts 0 (.cells (rowsOf cts xs) true)))) m S) : Tri (stars l) m S := by
  rintro h q hq hh
  rw [stars_pick n l hl] at hq
  obtain ⟨q1, q2, h1, h2, d, rfl⟩ := hq
  rcases h1 with ⟨h3, _⟩ | ⟨h3, h4⟩
  · exact absurd h3 h0
  · exact k h3 h _ (by rw [upd_eq, star_set n l hl]; exact ⟨q1, q2, h4, h2, d, rfl⟩) hh
/-- One row is read. -/
theorem tri_row (n : Nat) {s : Sl} {xs : List (HC cts)} (hl : l[n]? = some (InA s cts xs)) (h0 : 0 < cts.length) {m i : Nat} (hm : i < m) (hi : i < xs.length) {f : HC cts → M β} (kk : Tri (stars l) (f xs[i]) S) : Tri (stars l) (bd (idx cts.length ⟨s.p, m⟩ (i : Int)) fun q => bd (ldSt cts q) f) S := by
  refine tri_in n hl (fun c => by rw [c] at hi; simp at hi) fun hp => ?_
  rw [hp]
  refine tri_idx hm (tri_read n (nth_upd l n _ hl) (a := xs[i]) (fun h hg => ?_) ?_)
  · have hlen : 0 + i * cts.length + cts.length ≤ (rowsOf cts xs).length := by
      rw [rowsOf_length]
      have := flat_bound (e := cts.length) hi
      omega
    unfold ldSt
    simp only [bd, ldn_eq hg hlen]
    rw [Nat.zero_add, rows_get xs i hi, HC.dec_enc]
    rfl
  · refine kk.pre fun q hq => ?_
    have := stars_set_imp n (l := upd l n (pts 0 (.cells (rowsOf cts xs) true))) (B := InA s cts xs) (nth_upd l n _ hl) (fun q h => .inr ⟨hp, h⟩) q hq
    rwa [upd_upd, upd_same l n hl] at this
end
end Go.Mini

namespace Go.Moat
open Go.Mini

abbrev actT : List CTy := [.int .u8, .int .i64, .int .u8, .sl 1]
abbrev ActT : Type := Int × Int × Int × Sl

section
variable {N : Nat} {β : Type} {l : List HA} {S : β → HA}

theorem row_slice {xs : List ActT} {i : Nat} (hi : i < xs.length) : (rowsOf actT xs)[i * 4 + 3]? = some (.sl xs[i].2.2.2.p xs[i].2.2.2.len 1) := by
  have h : ((rowsOf actT xs).drop (i * 4)).take 4 = [.int .u8 xs[i].1, .int .i64 xs[i].2.1, .int .u8 xs[i].2.2.1, .sl xs[i].2.2.2.p xs[i].2.2.2.len 1] := rows_get (cts := actT) xs i hi
  have h2 : (((rowsOf actT xs).drop (i * 4)).take 4)[3]? = some (.sl xs[i].2.2.2.p xs[i].2.2.2.len 1) := by rw [h]; rfl
  rw [List.getElem?_take, if_pos (by decide), List.getElem?_drop] at h2
  exact h2

theorem few_spec {s : Sl} {xs : List ActT} (hs : s.len = xs.length) (hN : 900 < N) : Tri (stars [InA s actT xs]) (F_moatlaw06_few N s) fun r => pu (∃ k, k ≤ 120 ∧ k ≤ xs.length ∧ r = ⟨s.p, k⟩) (stars [InA s actT xs]) := by
  unfold F_moatlaw06_few
  have loop : ∀ (K : Nat) (j : Nat), 121 - j < K → j ≤ 120 → j ≤ xs.length → Tri (stars [InA s actT xs]) (iter K (fun go_3 (v_2 : Int) => if (decide (v_2 < (s.len : Int))) = true then (bd (if (decide ((120 : Int) ≤ v_2)) = false then (bd (idx 4 s v_2) fun q_4 => bd (fld q_4 3) fun q_5 => bd (ldL 1 q_5) fun (y_6 : Sl) => ret ((decide ((200 : Int) < (y_6.len : Int))))) else ret true) fun c_7 => if c_7 = true then (bd (slc 4 s (0 : Int) v_2) fun l_8 => ret (Sum.inr l_8)) else (go_3 (wr .i64 (v_2 + (1 : Int))))) else (ret ((Sum.inl ())))) (j : Int) : M (Unit ⊕ Sl))
      fun r => pu (match r with | .inl _ => xs.length ≤ 120 | .inr r => ∃ k, k ≤ 120 ∧ k ≤ xs.length ∧ r = ⟨s.p, k⟩) (stars [InA s actT xs]) := by
    intro K
    induction K with
    | zero => intro j hj; omega
    | succ K ih =>
      intro j hj h1 h2
      show Tri _ (if _ then _ else _) _
      by_cases hj2 : j < xs.length
      · refine tri_t (by simp [hs]; omega) ?_
        refine Tri.bd (Q := fun r : Bool => pu (r = false → j < 120) (stars [InA s actT xs])) ?_ fun r => ?_
        · by_cases h120 : j < 120
          · refine tri_t (by simp; omega) ?_
            refine tri_in 0 rfl (fun c => absurd (congrArg List.length c) (show ¬ xs.length = 0 by omega)) fun hp => ?_
            obtain ⟨p, ln⟩ := s
            dsimp only at hp hs
            subst hp
            refine tri_idx (by omega) (tri_fl ?_)
            refine tri_ldL 0 rfl (by rw [Nat.zero_add]; exact row_slice hj2) ?_
            exact tri_end [0] fun q hq => ⟨fun _ => h120, ent_head (fun q h => .inr ⟨rfl, h⟩) hq⟩
          · exact tri_f (by simp; omega) (tri_end [0] fun q hq => ⟨fun c => (by cases c), hq⟩)
        · rintro h q ⟨hr, hq⟩ hh
          revert h q
          refine fun h q hq hh => (?_ : Tri (stars [InA s actT xs]) _ _) h q hq hh
          cases r with
          | true =>
            refine tri_t rfl (tri_op (a := (⟨s.p, j⟩ : Sl)) (fun h => ?_) (tri_ret fun q hq => ⟨⟨j, h1, h2, rfl⟩, hq⟩))
            rw [slc_few (by omega)]
          | false =>
            refine tri_f (by simp) ?_
            rw [wr64 (by omega) (by omega)]
            have := hr rfl
            exact ih (j + 1) (by omega) (by omega) (by omega)
      · exact tri_f (by simp [hs]; omega) (tri_ret fun q hq => ⟨by dsimp only; omega, hq⟩)
  refine tri_call [0] (loop N 0 (by omega) (by omega) (by omega)) fun r => tri_pu fun hr => tri_flat ?_
  cases r with
  | inl u =>
    refine tri_end [0] fun q hq => ⟨⟨xs.length, hr, Nat.le_refl _, ?_⟩, hq⟩
    obtain ⟨p, ln⟩ := s
    dsimp only at hs ⊢
    rw [hs]
  | inr r => exact tri_end [0] fun q hq => ⟨hr, hq⟩
end
end Go.Moat
