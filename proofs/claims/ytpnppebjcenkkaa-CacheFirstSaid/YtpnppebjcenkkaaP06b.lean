/- Layer 6: the examples at the head of the laws. -/
import Derived.Test.YtpnppebjcenkkaaP06
namespace Go.Moat
open Go.Mini

section
variable {N : Nat}

def pat (c : Int) : List UInt8 := List.replicate 64 (UInt8.ofNat c.toNat)
theorem pat_len (c : Int) : (pat c).length = 64 := by simp [pat]

theorem set_rep {α : Type} (x y : α) : ∀ (i n : Nat), i < n → (List.replicate i x ++ List.replicate (n - i) y).set i x = List.replicate (i + 1) x ++ List.replicate (n - (i + 1)) y := by
  intro i n h
  rw [List.set_append_right _ _ (by simp), List.length_replicate, Nat.sub_self]
  obtain ⟨k, hk⟩ : ∃ k, n - i = k + 1 := ⟨n - i - 1, by omega⟩
  rw [hk, List.replicate_succ, List.set_cons_zero, List.replicate_succ', List.append_assoc, List.singleton_append]
  congr 3
  omega

theorem patch_spec (hN : 64 < N) (at' c : Int) (hc : 0 ≤ c ∧ c < 256) : Tri (stars []) (F_moatlaw06_patch N at' c) fun r => pu (r.1 = at' ∧ r.2.2 = c ∧ r.2.1.len = 64) (stars [OwnA r.2.1 1 (bytesOf (pat c))]) := by
  unfold F_moatlaw06_patch
  refine tri_new (l := []) (g := fun b => ⟨some ⟨b, 0⟩, 64⟩) (x := .cells (List.replicate 64 (.int .u8 0)) false) (fun h => ?_) fun b => ?_
  · unfold mkSl
    rw [if_pos ⟨by omega, by omega, by have : most = 70368744177664 := rfl; omega, rfl⟩, reps_one]
    rfl
  have loop : ∀ (N : Nat) (j : Nat), 64 - j < N → j ≤ 64 → Tri (stars [pts b (.cells (List.replicate j (.int .u8 c) ++ List.replicate (64 - j) (.int .u8 0)) false)])
      (iter N (fun go_5 (v_4 : Int) => if (decide (v_4 < ((64 : Nat) : Int))) = true then (bd (idx 1 ⟨some ⟨b, 0⟩, 64⟩ v_4) fun q_6 => bd (stc q_6 (MV.int .u8 c)) fun _ => go_5 (wr .i64 (v_4 + (1 : Int)))) else (ret ())) (j : Int) : M Unit) fun _ => stars [pts b (.cells (List.replicate 64 (.int .u8 c)) false)] := by
    intro N
    induction N with
    | zero => intro j hj; omega
    | succ N ih =>
      intro j hj hj2
      show Tri _ (if _ then _ else _) _
      by_cases h : j < 64
      · refine tri_t (by simp; omega) ?_
        refine tri_idx h (tri_stc 0 rfl (by simp; omega) rfl ?_)
        rw [Nat.zero_add, Nat.mul_one, set_rep _ _ _ _ h, wr64 (by omega) (by omega)]
        dsimp only [sel, rem, nth, del, cat, upd]
        exact ih (j + 1) (by omega) (by omega)
      · have : j = 64 := by omega
        subst this
        refine tri_f (by simp) (tri_ret fun q hq => ?_)
        simpa using hq
  refine tri_call [0] ((loop N 0 (by omega) (by omega)).pre fun q hq => hq) fun _ => tri_flat ?_
  refine tri_end [0] fun q hq => ⟨⟨rfl, ?_, rfl⟩, ?_⟩
  · dsimp only
    simp [wr, IntKind.wrap, IntKind.bits, IntKind.signed]
    omega
  · have e : bytesOf (pat c) = List.replicate 64 (.int .u8 c) := by
      simp only [bytesOf, pat, List.map_replicate]
      congr 2
      have : c.toNat < 256 := by omega
      rw [UInt8.toNat_ofNat']
      omega
    rw [e]
    refine ent_head (fun q h => .mk (by simp) h) ?_
    exact hq

theorem shown_spec (hp : plain = true) (hN : 900 < N) : Tri (stars []) (F_moatlaw06_shown N) fun r => pu (r = true) emp := by
  unfold F_moatlaw06_shown
  refine tri_call [] (disk_new (n := 9) (by omega)) fun r => tri_ex fun d => tri_pu fun hr => tri_flat ?_
  subst hr
  dsimp only [sel, rem, nth, del, cat, upd]
  refine tri_call [] (cache_new d 9 (room := 1) (by omega)) fun r => tri_ex fun c => tri_pu fun hr => tri_flat ?_
  subst hr
  dsimp only [sel, rem, nth, del, cat, upd]
  have hL0 : Live 9 (newD 9) := ⟨rfl, rfl, by decide, by decide, by simp [newD]⟩
  -- the first cache
  refine tri_call [0, 0] (Q := fun r : Bool => pu (r = false) (stars [CacheA c d 9 1 0 [(3, putX [] 3 (pat 7) 7)], DiskA d (newD 9)])) ?_ fun r => tri_pu fun hr => tri_flat ?_
  · dsimp only [sel, rem, nth, del, cat, upd]
    refine tri_t rfl ?_
    refine tri_call [] (patch_spec (by omega) 3 7 (by omega)) fun r => tri_pu fun ⟨h1, h2, h3⟩ => tri_flat ?_
    rw [h1, h2]
    dsimp only [sel, rem, nth, del, cat, upd]
    refine tri_call [1, 1, 0] (put_spec hp 3 (bs := pat 7) 7 (pat_len 7) hL0 (by decide) (by omega) (by omega)) fun r => tri_pu fun hr => tri_flat ?_
    dsimp only [sel, rem, nth, del, cat, upd]
    have e : getCE 9 1 [] 3 = 0 := rfl
    rw [e] at hr
    refine tri_end [0, 0] fun q hq => ⟨by rw [hr]; rfl, hq⟩
  subst hr
  dsimp only [sel, rem, nth, del, cat, upd]
  refine tri_f (by simp) ?_
  refine tri_call [0, 0] (get_spec hp 5 hL0 (by decide) hN (by omega)) fun r6 => tri_pu fun hr6 => tri_flat ?_
  have e1 : getCE 9 1 [(3, putX [] 3 (pat 7) 7)] 5 = 0 := rfl
  have e2 : accD 9 1 [(3, putX [] 3 (pat 7) 7)] (newD 9) 5 = wrD (newD 9) 3 ⟨pat 7, 7⟩ := rfl
  rw [e1] at hr6
  rw [e2]
  have hL1 : Live 9 (wrD (newD 9) 3 ⟨pat 7, 7⟩) := wrD_live hL0 (by omega) (by omega) (pat_len 7)
  dsimp only [sel, rem, nth, del, cat, upd]
  refine tri_call [1] (disk_read 3) fun r7 => tri_pu fun ⟨hr7, _⟩ => tri_flat ?_
  have e3 : getE (wrD (newD 9) 3 ⟨pat 7, 7⟩) 3 = 0 := rfl
  have e4 : (getS (wrD (newD 9) 3 ⟨pat 7, 7⟩) 3).b = pat 7 := rfl
  rw [if_pos e3, e4]
  dsimp only [sel, rem, nth, del, cat, upd]
  -- the second cache
  refine tri_call [] (cache_new d 9 (room := 1) (by omega)) fun r => tri_ex fun k => tri_pu fun hr => tri_flat ?_
  subst hr
  dsimp only [sel, rem, nth, del, cat, upd]
  refine tri_call [0, 0] (Q := fun r : Bool => pu (r = false) (stars [CacheA k d 9 1 0 [(3, putX [] 3 (pat 8) 8)], DiskA d (wrD (newD 9) 3 ⟨pat 7, 7⟩)])) ?_ fun r => tri_pu fun hr => tri_flat ?_
  · dsimp only [sel, rem, nth, del, cat, upd]
    refine tri_t rfl ?_
    refine tri_call [] (patch_spec (by omega) 3 8 (by omega)) fun r => tri_pu fun ⟨h1, h2, h3⟩ => tri_flat ?_
    rw [h1, h2]
    dsimp only [sel, rem, nth, del, cat, upd]
    refine tri_call [1, 1, 0] (put_spec hp 3 (bs := pat 8) 8 (pat_len 8) hL1 (by decide) (by omega) (by omega)) fun r => tri_pu fun hr => tri_flat ?_
    dsimp only [sel, rem, nth, del, cat, upd]
    have e : getCE 9 1 [] 3 = 0 := rfl
    rw [e] at hr
    refine tri_end [0, 0] fun q hq => ⟨by rw [hr]; rfl, hq⟩
  subst hr
  dsimp only [sel, rem, nth, del, cat, upd]
  refine tri_call [0] (Q := fun r : Bool => pu (r = false) (stars [CacheA k d 9 1 1 (updL [(3, putX [] 3 (pat 8) 8)] 3 { putX [] 3 (pat 8) 8 with pins := 1 })])) ?_ fun r => tri_pu fun hr => tri_flat ?_
  · dsimp only [sel, rem, nth, del, cat, upd]
    refine tri_t rfl ?_
    refine tri_call [0] (pin_spec 3 (by omega)) fun r => tri_pu fun hr => tri_flat ?_
    dsimp only [sel, rem, nth, del, cat, upd]
    have hr' : r = 0 := hr
    refine tri_end [0] fun q hq => ⟨by rw [hr']; rfl, hq⟩
  subst hr
  dsimp only [sel, rem, nth, del, cat, upd]
  refine tri_f (by simp) ?_
  refine tri_call [0, 0] (get_spec hp 5 hL1 (by decide) hN (by omega)) fun r14 => tri_pu fun hr14 => tri_flat ?_
  have e5 : getCE 9 1 (updL [(3, putX [] 3 (pat 8) 8)] 3 { putX [] 3 (pat 8) 8 with pins := 1 }) 5 = 5 := rfl
  rw [e5] at hr14
  dsimp only [sel, rem, nth, del, cat, upd]
  refine tri_hold fun b => ?_
  refine tri_call [4] (Q := fun r : Bool => pu (r = true) emp) ?_ fun r => tri_pu fun hr => ?_
  · dsimp only [sel, rem, nth, del, cat, upd]
    refine tri_t (by rw [hr6]; rfl) ?_
    refine tri_call [0] own_toStr fun w => tri_pu fun hw => tri_flat ?_
    subst hw
    dsimp only [sel, rem, nth, del, cat, upd]
    refine tri_call [] (tri_frzn (patch_spec (by omega) 3 7 (by omega))) fun r => tri_pu fun ⟨h1, h2, h3⟩ => tri_flat ?_
    dsimp only [sel, rem, nth, del, cat, upd]
    refine tri_call [0] own_toStr fun w => tri_pu fun hw => tri_flat ?_
    subst hw
    refine tri_end [] fun q hq => ⟨by simp, hq⟩
  subst hr
  dsimp only [sel, rem, nth, del, cat, upd]
  refine Tri.bd (Q := fun r : Bool => pu (r = true) emp) ?_ fun r => ?_
  · refine tri_t rfl ?_
    refine tri_call [5] has_frz fun r => tri_flat ?_
    have hks : (getCL 9 1 [(3, putX [] 3 (pat 7) 7)] (newD 9) 5).map (·.1) = [5] := rfl
    rw [hks]
    dsimp only [sel, rem, nth, del, cat, upd]
    refine tri_allocAt 3 rfl ?_
    dsimp only [sel, rem, nth, del, cat, upd]
    refine tri_turn 3 (B := OwnA ⟨some ⟨b, 0⟩, 1⟩ 1 (ints [5])) rfl (fun q h => .mk rfl h) ?_
    dsimp only [sel, rem, nth, del, cat, upd]
    refine tri_call [1, 2] (own_samef (by simp; omega) (by decide)) fun r => tri_pu fun hr => tri_flat ?_
    exact tri_end [] fun q hq => ⟨by rw [hr]; rfl, hq⟩
  · rintro h q ⟨rfl, hq⟩ hh
    exact tri_ret (Q := fun r => pu (r = true) emp) (fun q hq => ⟨by simp [hr14], hq⟩) h q hq hh
end
end Go.Moat
