/- Layer 6: the examples at the head of the laws. -/
import Derived.Test.YtpnppebjcenkkaaP06
import Derived.Test.YtpnppebjcenkkaaMLR
namespace Go.Moat
open Go.Mini

section
variable {N : Nat}

def pat (c : Int) : List UInt8 := List.replicate 64 (UInt8.ofNat c.toNat)
theorem pat_len (c : Int) : (pat c).length = 64 := by simp [pat]

theorem set_rep {α : Type} (x y : α) : ∀ (i n : Nat), i < n → (List.replicate i x ++ List.replicate (n - i) y).set i x = List.replicate (i + 1) x ++ List.replicate (n - (i + 1)) y := by
  intro i n h
  rw [List.set_append_right _ _ (by simp), List.length_replicate, Nat.sub_self]
  obtain ⟨k, hk⟩ : ∃ k, n - i = k + 1 := ⟨n - i - 1, by omega⟩
  rw [hk, List.replicate_succ, List.set_cons_zero, List.replicate_succ', List.append_assoc, List.singleton_append]
  congr 3
  omega

theorem patch_spec (hN : 64 < N) (at' c : Int) (hc : 0 ≤ c ∧ c < 256) : Tri (stars []) (F_moatlaw06_patch N at' c) fun r => pu (r.1 = at' ∧ r.2.2 = c ∧ r.2.1.len = 64) (stars [OwnA r.2.1 1 (bytesOf (pat c))]) := by
  unfold F_moatlaw06_patch
  refine tri_new (l := []) (g := fun b => ⟨some ⟨b, 0⟩, 64⟩) (x := .cells (List.replicate 64 (.int .u8 0)) false) (fun h => ?_) fun b => ?_
  · unfold mkSl
    rw [if_pos ⟨by omega, by omega, by have : most = 70368744177664 := rfl; omega, rfl⟩, reps_one]
    rfl
  have loop : ∀ (N : Nat) (j : Nat), 64 - j < N → j ≤ 64 → Tri (stars [pts b (.cells (List.replicate j (.int .u8 c) ++ List.replicate (64 - j) (.int .u8 0)) false)])
      (iter N (fun go_5 (v_4 : Int) => if (decide (v_4 < ((64 : Nat) : Int))) = true then (bd (idx 1 ⟨some ⟨b, 0⟩, 64⟩ v_4) fun q_6 => bd (stc q_6 (MV.int .u8 c)) fun _ => go_5 (wr .i64 (v_4 + (1 : Int)))) else (ret ())) (j : Int) : M Unit) fun _ => stars [pts b (.cells (List.replicate 64 (.int .u8 c)) false)] := by
    intro N
    induction N with
    | zero => intro j hj; omega
    | succ N ih =>
      intro j hj hj2
      show Tri _ (if _ then _ else _) _
      by_cases h : j < 64
      · refine tri_t (by simp; omega) ?_
        refine tri_idx h (tri_stc 0 rfl (by simp; omega) rfl ?_)
        rw [Nat.zero_add, Nat.mul_one, set_rep _ _ _ _ h, wr64 (by omega) (by omega)]
        dsimp only [sel, rem, nth, del, cat, upd]
        exact ih (j + 1) (by omega) (by omega)
      · have : j = 64 := by omega
        subst this
        refine tri_f (by simp) (tri_ret fun q hq => ?_)
        simpa using hq
  refine tri_call [0] ((loop N 0 (by omega) (by omega)).pre fun q hq => hq) fun _ => tri_flat ?_
  refine tri_end [0] fun q hq => ⟨⟨rfl, ?_, rfl⟩, ?_⟩
  · dsimp only
    simp [wr, IntKind.wrap, IntKind.bits, IntKind.signed]
    omega
  · have e : bytesOf (pat c) = List.replicate 64 (.int .u8 c) := by
      simp only [bytesOf, pat, List.map_replicate]
      congr 2
      have : c.toNat < 256 := by omega
      rw [UInt8.toNat_ofNat']
      omega
    rw [e]
    refine ent_head (fun q h => .mk (by simp) h) ?_
    exact hq

theorem shown_spec (hp : plain = true) (hN : 900 < N) : Tri (stars []) (F_moatlaw06_shown N) fun r => pu (r = true) emp := by
  unfold F_moatlaw06_shown
  refine tri_call [] (disk_new (n := 9) (by omega)) fun r => tri_ex fun d => tri_pu fun hr => tri_flat ?_
  subst hr
  dsimp only [sel, rem, nth, del, cat, upd]
  refine tri_call [] (cache_new d 9 (room := 1) (by omega)) fun r => tri_ex fun c => tri_pu fun hr => tri_flat ?_
  subst hr
  dsimp only [sel, rem, nth, del, cat, upd]
  have hL0 : Live 9 (newD 9) := ⟨rfl, rfl, by decide, by decide, by simp [newD]⟩
  -- the first cache
  refine tri_call [0, 0] (Q := fun r : Bool => pu (r = false) (stars [CacheA c d 9 1 0 [(3, putX [] 3 (pat 7) 7)], DiskA d (newD 9)])) ?_ fun r => tri_pu fun hr => tri_flat ?_
  · dsimp only [sel, rem, nth, del, cat, upd]
    refine tri_t rfl ?_
    refine tri_call [] (patch_spec (by omega) 3 7 (by omega)) fun r => tri_pu fun ⟨h1, h2, h3⟩ => tri_flat ?_
    rw [h1, h2]
    dsimp only [sel, rem, nth, del, cat, upd]
    refine tri_call [1, 1, 0] (put_spec hp 3 (bs := pat 7) 7 (pat_len 7) hL0 (by decide) (by omega) (by omega)) fun r => tri_pu fun hr => tri_flat ?_
    dsimp only [sel, rem, nth, del, cat, upd]
    have e : getCE 9 1 [] 3 = 0 := rfl
    rw [e] at hr
    refine tri_end [0, 0] fun q hq => ⟨by rw [hr]; rfl, hq⟩
  subst hr
  dsimp only [sel, rem, nth, del, cat, upd]
  refine tri_f (by simp) ?_
  refine tri_call [0, 0] (get_spec hp 5 hL0 (by decide) hN (by omega)) fun r6 => tri_pu fun hr6 => tri_flat ?_
  have e1 : getCE 9 1 [(3, putX [] 3 (pat 7) 7)] 5 = 0 := rfl
  have e2 : accD 9 1 [(3, putX [] 3 (pat 7) 7)] (newD 9) 5 = wrD (newD 9) 3 ⟨pat 7, 7⟩ := rfl
  rw [e1] at hr6
  rw [e2]
  have hL1 : Live 9 (wrD (newD 9) 3 ⟨pat 7, 7⟩) := wrD_live hL0 (by omega) (by omega) (pat_len 7)
  dsimp only [sel, rem, nth, del, cat, upd]
  refine tri_call [1] (disk_read 3) fun r7 => tri_pu fun ⟨hr7, _⟩ => tri_flat ?_
  have e3 : getE (wrD (newD 9) 3 ⟨pat 7, 7⟩) 3 = 0 := rfl
  have e4 : (getS (wrD (newD 9) 3 ⟨pat 7, 7⟩) 3).b = pat 7 := rfl
  rw [if_pos e3, e4]
  dsimp only [sel, rem, nth, del, cat, upd]
  -- the second cache
  refine tri_call [] (cache_new d 9 (room := 1) (by omega)) fun r => tri_ex fun k => tri_pu fun hr => tri_flat ?_
  subst hr
  dsimp only [sel, rem, nth, del, cat, upd]
  refine tri_call [0, 0] (Q := fun r : Bool => pu (r = false) (stars [CacheA k d 9 1 0 [(3, putX [] 3 (pat 8) 8)], DiskA d (wrD (newD 9) 3 ⟨pat 7, 7⟩)])) ?_ fun r => tri_pu fun hr => tri_flat ?_
  · dsimp only [sel, rem, nth, del, cat, upd]
    refine tri_t rfl ?_
    refine tri_call [] (patch_spec (by omega) 3 8 (by omega)) fun r => tri_pu fun ⟨h1, h2, h3⟩ => tri_flat ?_
    rw [h1, h2]
    dsimp only [sel, rem, nth, del, cat, upd]
    refine tri_call [1, 1, 0] (put_spec hp 3 (bs := pat 8) 8 (pat_len 8) hL1 (by decide) (by omega) (by omega)) fun r => tri_pu fun hr => tri_flat ?_
    dsimp only [sel, rem, nth, del, cat, upd]
    have e : getCE 9 1 [] 3 = 0 := rfl
    rw [e] at hr
    refine tri_end [0, 0] fun q hq => ⟨by rw [hr]; rfl, hq⟩
  subst hr
  dsimp only [sel, rem, nth, del, cat, upd]
  refine tri_call [0] (Q := fun r : Bool => pu (r = false) (stars [CacheA k d 9 1 1 (updL [(3, putX [] 3 (pat 8) 8)] 3 { putX [] 3 (pat 8) 8 with pins := 1 })])) ?_ fun r => tri_pu fun hr => tri_flat ?_
  · dsimp only [sel, rem, nth, del, cat, upd]
    refine tri_t rfl ?_
    refine tri_call [0] (pin_spec 3 (by omega)) fun r => tri_pu fun hr => tri_flat ?_
    dsimp only [sel, rem, nth, del, cat, upd]
    have hr' : r = 0 := hr
    refine tri_end [0] fun q hq => ⟨by rw [hr']; rfl, hq⟩
  subst hr
  dsimp only [sel, rem, nth, del, cat, upd]
  refine tri_f (by simp) ?_
  refine tri_call [0, 0] (get_spec hp 5 hL1 (by decide) hN (by omega)) fun r14 => tri_pu fun hr14 => tri_flat ?_
  have e5 : getCE 9 1 (updL [(3, putX [] 3 (pat 8) 8)] 3 { putX [] 3 (pat 8) 8 with pins := 1 }) 5 = 5 := rfl
  rw [e5] at hr14
  dsimp only [sel, rem, nth, del, cat, upd]
  refine tri_hold fun b => ?_
  refine tri_call [4] (Q := fun r : Bool => pu (r = true) emp) ?_ fun r => tri_pu fun hr => ?_
  · dsimp only [sel, rem, nth, del, cat, upd]
    refine tri_t (by rw [hr6]; rfl) ?_
    refine tri_call [0] own_toStr fun w => tri_pu fun hw => tri_flat ?_
    subst hw
    dsimp only [sel, rem, nth, del, cat, upd]
    refine tri_call [] (tri_frzn (patch_spec (by omega) 3 7 (by omega))) fun r => tri_pu fun ⟨h1, h2, h3⟩ => tri_flat ?_
    dsimp only [sel, rem, nth, del, cat, upd]
    refine tri_call [0] own_toStr fun w => tri_pu fun hw => tri_flat ?_
    subst hw
    refine tri_end [] fun q hq => ⟨by simp, hq⟩
  subst hr
  dsimp only [sel, rem, nth, del, cat, upd]
  refine Tri.bd (Q := fun r : Bool => pu (r = true) emp) ?_ fun r => ?_
  · refine tri_t rfl ?_
    refine tri_call [5] has_frz fun r => tri_flat ?_
    have hks : (getCL 9 1 [(3, putX [] 3 (pat 7) 7)] (newD 9) 5).map (·.1) = [5] := rfl
    rw [hks]
    dsimp only [sel, rem, nth, del, cat, upd]
    refine tri_allocAt 3 rfl ?_
    dsimp only [sel, rem, nth, del, cat, upd]
    refine tri_turn 3 (B := OwnA ⟨some ⟨b, 0⟩, 1⟩ 1 (ints [5])) rfl (fun q h => .mk rfl h) ?_
    dsimp only [sel, rem, nth, del, cat, upd]
    refine tri_call [1, 2] (own_samef (by simp; omega) (by decide)) fun r => tri_pu fun hr => tri_flat ?_
    exact tri_end [] fun q hq => ⟨by rw [hr]; rfl, hq⟩
  · rintro h q ⟨rfl, hq⟩ hh
    exact tri_ret (Q := fun r => pu (r = true) emp) (fun q hq => ⟨by simp [hr14], hq⟩) h q hq hh
end
end Go.Moat

/- Layer 6: acts as they come in; the law CacheFirst, over plain functions. -/
namespace Go.Mini

/-- Rows of structs that came in. -/
def InA (s : Sl) (cts : List CTy) (xs : List (HC cts)) : HA := fun q => (xs = [] ∧ emp q) ∨ (s.p = some ⟨0, 0⟩ ∧ pts 0 (.cells (rowsOf cts xs) true) q)

section
variable {β : Type} {l : List HA} {S : β → HA} {cts : List CTy}

theorem tri_in (n : Nat) {s : Sl} {xs : List (HC cts)} {m : M β} (hl : l[n]? = some (InA s cts xs)) (h0 : xs ≠ []) (k : s.p = some ⟨0, 0⟩ → Tri (stars (upd l n (pts 0 (.cells (rowsOf cts xs) true)))) m S) : Tri (stars l) m S := by
  rintro h q hq hh
  rw [stars_pick n l hl] at hq
  obtain ⟨q1, q2, h1, h2, d, rfl⟩ := hq
  rcases h1 with ⟨h3, _⟩ | ⟨h3, h4⟩
  · exact absurd h3 h0
  · exact k h3 h _ (by rw [upd_eq, star_set n l hl]; exact ⟨q1, q2, h4, h2, d, rfl⟩) hh
/-- One row is read. -/
theorem tri_row (n : Nat) {s : Sl} {xs : List (HC cts)} (hl : l[n]? = some (InA s cts xs)) (h0 : 0 < cts.length) {m i : Nat} (hm : i < m) (hi : i < xs.length) {f : HC cts → M β} (kk : Tri (stars l) (f xs[i]) S) : Tri (stars l) (bd (idx cts.length ⟨s.p, m⟩ (i : Int)) fun q => bd (ldSt cts q) f) S := by
  refine tri_in n hl (fun c => by rw [c] at hi; simp at hi) fun hp => ?_
  rw [hp]
  refine tri_idx hm (tri_read n (nth_upd l n _ hl) (a := xs[i]) (fun h hg => ?_) ?_)
  · have hlen : 0 + i * cts.length + cts.length ≤ (rowsOf cts xs).length := by
      rw [rowsOf_length]
      have := flat_bound (e := cts.length) hi
      omega
    unfold ldSt
    simp only [bd, ldn_eq hg hlen]
    rw [Nat.zero_add, rows_get xs i hi, HC.dec_enc]
    rfl
  · refine kk.pre fun q hq => ?_
    have := stars_set_imp n (l := upd l n (pts 0 (.cells (rowsOf cts xs) true))) (B := InA s cts xs) (nth_upd l n _ hl) (fun q h => .inr ⟨hp, h⟩) q hq
    rwa [upd_upd, upd_same l n hl] at this
end
end Go.Mini

namespace Go.Moat
open Go.Mini

abbrev actT : List CTy := [.int .u8, .int .i64, .int .u8, .sl 1]
abbrev ActT : Type := Int × Int × Int × Sl

section
variable {N : Nat} {β : Type} {l : List HA} {S : β → HA}

theorem row_slice {xs : List ActT} {i : Nat} (hi : i < xs.length) : (rowsOf actT xs)[i * 4 + 3]? = some (.sl xs[i].2.2.2.p xs[i].2.2.2.len 1) := by
  have h : ((rowsOf actT xs).drop (i * 4)).take 4 = [.int .u8 xs[i].1, .int .i64 xs[i].2.1, .int .u8 xs[i].2.2.1, .sl xs[i].2.2.2.p xs[i].2.2.2.len 1] := rows_get (cts := actT) xs i hi
  have h2 : (((rowsOf actT xs).drop (i * 4)).take 4)[3]? = some (.sl xs[i].2.2.2.p xs[i].2.2.2.len 1) := by rw [h]; rfl
  rw [List.getElem?_take, if_pos (by decide), List.getElem?_drop] at h2
  exact h2

theorem few_spec {s : Sl} {xs : List ActT} (hs : s.len = xs.length) (hN : 900 < N) : Tri (stars [InA s actT xs]) (F_moatlaw06_few N s) fun r => pu (∃ k, k ≤ 120 ∧ k ≤ xs.length ∧ r = ⟨s.p, k⟩) (stars [InA s actT xs]) := by
  unfold F_moatlaw06_few
  have loop : ∀ (K : Nat) (j : Nat), 121 - j < K → j ≤ 120 → j ≤ xs.length → Tri (stars [InA s actT xs]) (iter K (fun go_3 (v_2 : Int) => if (decide (v_2 < (s.len : Int))) = true then (bd (if (decide ((120 : Int) ≤ v_2)) = false then (bd (idx 4 s v_2) fun q_4 => bd (fld q_4 3) fun q_5 => bd (ldL 1 q_5) fun (y_6 : Sl) => ret ((decide ((200 : Int) < (y_6.len : Int))))) else ret true) fun c_7 => if c_7 = true then (bd (slc 4 s (0 : Int) v_2) fun l_8 => ret (Sum.inr l_8)) else (go_3 (wr .i64 (v_2 + (1 : Int))))) else (ret ((Sum.inl ())))) (j : Int) : M (Unit ⊕ Sl))
      fun r => pu (match r with | .inl _ => xs.length ≤ 120 | .inr r => ∃ k, k ≤ 120 ∧ k ≤ xs.length ∧ r = ⟨s.p, k⟩) (stars [InA s actT xs]) := by
    intro K
    induction K with
    | zero => intro j hj; omega
    | succ K ih =>
      intro j hj h1 h2
      show Tri _ (if _ then _ else _) _
      by_cases hj2 : j < xs.length
      · refine tri_t (by simp [hs]; omega) ?_
        refine Tri.bd (Q := fun r : Bool => pu (r = false → j < 120) (stars [InA s actT xs])) ?_ fun r => ?_
        · by_cases h120 : j < 120
          · refine tri_t (by simp; omega) ?_
            refine tri_in 0 rfl (fun c => absurd (congrArg List.length c) (show ¬ xs.length = 0 by omega)) fun hp => ?_
            obtain ⟨p, ln⟩ := s
            dsimp only at hp hs
            subst hp
            refine tri_idx (by omega) (tri_fl ?_)
            refine tri_ldL 0 rfl (by rw [Nat.zero_add]; exact row_slice hj2) ?_
            exact tri_end [0] fun q hq => ⟨fun _ => h120, ent_head (fun q h => .inr ⟨rfl, h⟩) hq⟩
          · exact tri_f (by simp; omega) (tri_end [0] fun q hq => ⟨fun c => (by cases c), hq⟩)
        · rintro h q ⟨hr, hq⟩ hh
          revert h q
          refine fun h q hq hh => (?_ : Tri (stars [InA s actT xs]) _ _) h q hq hh
          cases r with
          | true =>
            refine tri_t rfl (tri_op (a := (⟨s.p, j⟩ : Sl)) (fun h => ?_) (tri_ret fun q hq => ⟨⟨j, h1, h2, rfl⟩, hq⟩))
            rw [slc_few (by omega)]
          | false =>
            refine tri_f (by simp) ?_
            rw [wr64 (by omega) (by omega)]
            have := hr rfl
            exact ih (j + 1) (by omega) (by omega) (by omega)
      · exact tri_f (by simp [hs]; omega) (tri_ret fun q hq => ⟨by dsimp only; omega, hq⟩)
  refine tri_call [0] (loop N 0 (by omega) (by omega) (by omega)) fun r => tri_pu fun hr => tri_flat ?_
  cases r with
  | inl u =>
    refine tri_end [0] fun q hq => ⟨⟨xs.length, hr, Nat.le_refl _, ?_⟩, hq⟩
    obtain ⟨p, ln⟩ := s
    dsimp only at hs ⊢
    rw [hs]
  | inr r => exact tri_end [0] fun q hq => ⟨hr, hq⟩
end
end Go.Moat
