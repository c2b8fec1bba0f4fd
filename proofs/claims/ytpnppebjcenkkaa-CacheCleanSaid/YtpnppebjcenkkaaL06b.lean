/- Layer 6: the law CacheFirst, over plain functions. -/
import Derived.Test.YtpnppebjcenkkaaP06b
import Derived.KernelRfl
namespace Go.Moat
open Go.Mini

def wantM (N : Nat) (was : Sl) (at' : Int) : M (Sl × Bool) := iter N (fun go_28 (v_27 : Sl × Bool × Int) => if (decide (v_27.2.2 < (was.len : Int))) = true then (bd (idx 1 was v_27.2.2) fun q_29 => bd (ldI .i64 q_29) fun (y_30 : Int) => bd (show M (Sl × Bool) from if (decide (y_30 = at')) = true then (ret (v_27.1, true)) else (bd (alloc [MV.int .i64 y_30]) fun q_31 => bd (app 1 8 v_27.1 (⟨q_31, 1⟩)) fun l_32 => ret (l_32, v_27.2.1))) fun j_33 => go_28 ((j_33.1, j_33.2, wr .i64 (v_27.2.2 + (1 : Int))))) else (ret (v_27.1, v_27.2.1))) ((⟨(none : Option MA), 0⟩, false, (0 : Int)))
def pinsM (N : Nat) (mp : Option Nat) (w : Sl) : M Int := iter N (fun go_36 (v_35 : Int) => bd (if (decide ((0 : Int) ≤ v_35)) = true then (bd (idx 1 w v_35) fun q_37 => bd (ldI .i64 q_37) fun (y_38 : Int) => bd (mapLook mp (MV.int .i64 y_38)) fun o_39 => bd (someOr (CTy.dec (.int .i64) (o_39.getD (MV.int .i64 (0 : Int))))) fun (y_40 : Int) => ret ((decide ((0 : Int) < y_40)))) else ret false) fun c_41 => if c_41 = true then (go_36 (wr .i64 (v_35 - (1 : Int)))) else (ret v_35)) (wr .i64 ((w.len : Int) - (1 : Int)))
def restF (N : Nat) (room : Int) (cp : Option MA) (mp : Option Nat) (at' : Int) (was : Sl) : M (Unit ⊕ Bool) :=
  bd (show M (Sl × Bool) from wantM N was at') fun j_34 => bd (show M (Sl ⊕ Bool) from if ((!j_34.2) && (decide ((was.len : Int) = wr .i64 ((wr .i64 (room.tmod (9 : Int))) + (1 : Int))))) = true then (bd (show M (Int) from pinsM N mp j_34.1) fun j_42 => if (decide (j_42 < (0 : Int))) = true then (ret (Sum.inr false)) else (bd (alloc []) fun q_43 => bd (slc 1 j_34.1 (0 : Int) j_42) fun l_44 => bd (app 1 8 (⟨q_43, 0⟩) l_44) fun l_45 => bd (slc 1 j_34.1 (wr .i64 (j_42 + (1 : Int))) (j_34.1.len : Int)) fun l_46 => bd (app 1 8 l_45 l_46) fun l_47 => ret (Sum.inl l_47))) else (ret (Sum.inl j_34.1))) fun j_48 => (match j_48 with | Sum.inl j_49 => bd (hold 1) fun vb_51 => bd (frz (F_cache_Cache_Has N cp)) fun r_52 => bd (allocAt (vb_51 + 0) [MV.int .i64 at']) fun q_53 => bd (app 1 8 (⟨q_53, 1⟩) j_49) fun l_54 => bd (frz (F_moatref06_SameInts N r_52 l_54)) fun r_55 => if (!r_55) = true then (ret (Sum.inr false)) else (ret ((Sum.inl ()))) | Sum.inr j_50 => ret (Sum.inr j_50))

section
variable {N : Nat} {β : Type} {l : List HA} {S : β → HA}

theorem bigEnough {k : Nat} (h : k < 1000000) : (k + 1) * 8 ≤ most := by have : most = 70368744177664 := rfl; omega

theorem want_spec {was : Sl} {ks : List Int} (a : Int) (hN : ks.length < N) (hk : ks.length < 1000000) : Tri (stars [OwnA was 1 (ints ks)]) (wantM N was a) fun r => pu (r.2 = decide (a ∈ ks)) (stars [OwnA r.1 1 (ints (ks.filter fun k => decide (k ≠ a))), OwnA was 1 (ints ks)]) := by
  unfold wantM
  refine own_lenI 0 rfl fun hs => ?_
  have loop : ∀ (K : Nat) (j : Nat) (w : Sl) (kp : Bool), ks.length - j < K → j ≤ ks.length → kp = decide (a ∈ ks.take j) → Tri (stars [OwnA w 1 (ints ((ks.take j).filter fun k => decide (k ≠ a))), OwnA was 1 (ints ks)])
      (iter K (fun go_28 (v_27 : Sl × Bool × Int) => if (decide (v_27.2.2 < (was.len : Int))) = true then (bd (idx 1 was v_27.2.2) fun q_29 => bd (ldI .i64 q_29) fun (y_30 : Int) => bd (show M (Sl × Bool) from if (decide (y_30 = a)) = true then (ret (v_27.1, true)) else (bd (alloc [MV.int .i64 y_30]) fun q_31 => bd (app 1 8 v_27.1 (⟨q_31, 1⟩)) fun l_32 => ret (l_32, v_27.2.1))) fun j_33 => go_28 ((j_33.1, j_33.2, wr .i64 (v_27.2.2 + (1 : Int))))) else (ret (v_27.1, v_27.2.1))) ((w, kp, (j : Int))))
      fun r => pu (r.2 = decide (a ∈ ks)) (stars [OwnA r.1 1 (ints (ks.filter fun k => decide (k ≠ a))), OwnA was 1 (ints ks)]) := by
    intro K
    induction K with
    | zero => intro j w kp hj; omega
    | succ K ih =>
      intro j w kp hj h1 h2
      show Tri _ (if _ then _ else _) _
      by_cases hj2 : j < ks.length
      · refine tri_t (by simp [hs]; omega) ?_
        refine tri_own_I 1 rfl hj2 ?_
        have htk := List.take_succ_eq_append_getElem hj2
        refine Tri.bd (Q := fun r : Sl × Bool => pu (r.2 = decide (a ∈ ks.take (j + 1))) (stars [OwnA r.1 1 (ints ((ks.take (j + 1)).filter fun k => decide (k ≠ a))), OwnA was 1 (ints ks)])) ?_ fun r => ?_
        · rw [htk, List.filter_append]
          by_cases hv : ks[j] = a
          · refine tri_t (by simpa using hv) (tri_ret fun q hq => ⟨by simp [hv], ?_⟩)
            rw [show [ks[j]].filter (fun k => decide (k ≠ a)) = [] by simp [hv], List.append_nil]
            exact hq
          · refine tri_f (by simpa using hv) ?_
            refine tri_alloc fun b => ?_
            refine own_lenI 1 rfl fun hw => ?_
            have hfl := List.length_filter_le (fun k => decide (k ≠ a)) (ks.take j)
            rw [List.length_take] at hfl
            refine tri_call [1, 0] (pts_app (k := 1) (e := 1) (by' := 8) (by omega) (by simp) rfl (by have : most = 70368744177664 := rfl; omega)) fun r => tri_flat ?_
            dsimp only [sel, rem, nth, del, cat, upd]
            refine tri_end [0, 1] fun q hq => ⟨?_, ?_⟩
            · dsimp only
              rw [h2]
              refine decide_eq_decide.2 ⟨fun c => List.mem_append_left _ c, fun c => ?_⟩
              rcases List.mem_append.1 c with c | c
              · exact c
              · exact absurd (List.mem_singleton.1 c).symm hv
            · have e : ints ((ks.take j).filter fun k => decide (k ≠ a)) ++ [MV.int .i64 ks[j]].take (1 * 1) = ints ((ks.take j).filter (fun k => decide (k ≠ a)) ++ [ks[j]].filter fun k => decide (k ≠ a)) := by
                simp [ints, hv]
              rw [← e]
              exact hq
        · obtain ⟨w', kp'⟩ := r
          rintro h q ⟨hr, hq⟩ hh
          dsimp only
          rw [wr64 (by omega) (by omega)]
          exact ih (j + 1) w' kp' (by omega) (by omega) hr h q hq hh
      · have e : ks.take j = ks := List.take_of_length_le (by omega)
        rw [e] at h2 ⊢
        exact tri_f (by simp [hs]; omega) (tri_ret fun q hq => ⟨h2, hq⟩)
  refine Tri.pre (loop N 0 ⟨none, 0⟩ false (by omega) (by omega) (by simp)) fun q hq => ?_
  exact ent_emp (fun q h => .nil 1 h) hq

/-- What a map of pins tells. -/
def pinsOf (L : List (Int × SlotS)) (k : Int) : Int := match lookS L k with
  | some x => x.pins
  | none => 0
def PinsOk (L : List (Int × SlotS)) (kvs : List (Int × MV)) : Prop := ∀ k, (getK kvs k).getD (.int .i64 0) = .int .i64 (pinsOf L k)

theorem dec_int (n : Int) : CTy.dec (.int .i64) (.int .i64 n) = some n := rfl

theorem pins_spec {w : Sl} {mb : Nat} {L : List (Int × SlotS)} {kvs : List (Int × MV)} (hp : PinsOk L kvs) (hn : (L.map (·.1)).Nodup) (hN : L.length + 1 < N) (hk : L.length < 1000000) : Tri (stars [OwnA w 1 (ints (L.map (·.1))), MapK .i64 mb kvs]) (pinsM N (some mb) w)
    fun r => pu ((r = -1 ∧ victim L = none) ∨ ∃ (j : Nat) (h : j < L.length), r = j ∧ victim L = some L[j]) (stars [OwnA w 1 (ints (L.map (·.1))), MapK .i64 mb kvs]) := by
  unfold pinsM
  refine own_lenI 0 rfl fun hs => ?_
  rw [List.length_map] at hs
  have loop : ∀ (K : Nat) (j : Nat), j < K → j ≤ L.length → (∀ e ∈ L.drop j, 0 < e.2.pins) → Tri (stars [OwnA w 1 (ints (L.map (·.1))), MapK .i64 mb kvs])
      (iter K (fun go_36 (v_35 : Int) => bd (if (decide ((0 : Int) ≤ v_35)) = true then (bd (idx 1 w v_35) fun q_37 => bd (ldI .i64 q_37) fun (y_38 : Int) => bd (mapLook (some mb) (MV.int .i64 y_38)) fun o_39 => bd (someOr (CTy.dec (.int .i64) (o_39.getD (MV.int .i64 (0 : Int))))) fun (y_40 : Int) => ret ((decide ((0 : Int) < y_40)))) else ret false) fun c_41 => if c_41 = true then (go_36 (wr .i64 (v_35 - (1 : Int)))) else (ret v_35)) ((j : Int) - 1))
      fun r => pu ((r = -1 ∧ victim L = none) ∨ ∃ (j : Nat) (h : j < L.length), r = j ∧ victim L = some L[j]) (stars [OwnA w 1 (ints (L.map (·.1))), MapK .i64 mb kvs]) := by
    intro K
    induction K with
    | zero => intro j hj; omega
    | succ K ih =>
      intro j hj h1 h2
      show Tri _ (bd (if _ then _ else _) _) _
      cases j with
      | zero =>
        refine Tri.bd (Q := fun r : Bool => pu (r = false) (stars [OwnA w 1 (ints (L.map (·.1))), MapK .i64 mb kvs])) (tri_f (by simp) (tri_ret fun q hq => ⟨rfl, hq⟩)) fun r => ?_
        refine tri_p fun hr => ?_
        subst hr
        exact tri_f (by simp) (tri_ret fun q hq => ⟨.inl ⟨rfl, victim_pinned (by simpa using h2)⟩, hq⟩)
      | succ j =>
        have e1 : ((j + 1 : Nat) : Int) - 1 = (j : Int) := by omega
        rw [e1]
        have hjL : j < L.length := by omega
        have hpj : pinsOf L L[j].1 = L[j].2.pins := by
          unfold pinsOf
          rw [lookS_of_mem hn (List.getElem_mem hjL)]
        refine Tri.bd (Q := fun r : Bool => pu (r = decide (0 < L[j].2.pins)) (stars [OwnA w 1 (ints (L.map (·.1))), MapK .i64 mb kvs])) ?_ fun r => ?_
        · refine tri_t (by simp) ?_
          refine tri_own_I 0 rfl (by simpa using hjL) ?_
          refine tri_look 1 rfl _ ?_
          rw [hp, dec_int]
          refine tri_some (tri_ret fun q hq => ⟨?_, hq⟩)
          rw [List.getElem_map, hpj]
        · rintro h q ⟨rfl, hq⟩ hh
          revert h q
          refine fun h q hq hh => (?_ : Tri (stars [OwnA w 1 (ints (L.map (·.1))), MapK .i64 mb kvs]) _ _) h q hq hh
          by_cases hpp : 0 < L[j].2.pins
          · refine tri_t (by simpa using hpp) ?_
            rw [wr64 (by omega) (by omega)]
            refine ih j (by omega) (by omega) ?_
            rw [← List.getElem_cons_drop hjL]
            intro e he
            rcases List.mem_cons.1 he with rfl | he
            · exact hpp
            · exact h2 e he
          · exact tri_f (by simpa using hpp) (tri_ret fun q hq => ⟨.inr ⟨j, hjL, rfl, victim_at hjL h2 (by omega)⟩, hq⟩)
  have e0 : wr .i64 ((w.len : Int) - 1) = ((L.length : Nat) : Int) - 1 := by rw [hs, wr64 (by omega) (by omega)]
  rw [e0]
  exact loop N L.length (by omega) (Nat.le_refl _) (by simp)

/-- Which numbers are kept behind a Get or a Put. -/
theorem keys_without {L : List (Int × SlotS)} (hn : (L.map (·.1)).Nodup) {j : Nat} (hj : j < L.length) : (without L L[j].1).map (·.1) = (L.map (·.1)).eraseIdx j := by
  rw [nodup_erase (v := L[j].1) (by simpa using hj) hn (by simp)]
  unfold without
  rw [List.filter_map]
  rfl
theorem keys_filter (L : List (Int × SlotS)) (k : Int) : (without L k).map (·.1) = (L.map (·.1)).filter fun x => decide (x ≠ k) := by
  unfold without
  rw [List.filter_map]
  rfl

theorem restF_spec {c d mb : Nat} {n room P i : Int} {L : List (Int × SlotS)} {x : SlotS} {kvs : List (Int × MV)} {was : Sl} (hr : wr .i64 ((wr .i64 (room.tmod (9 : Int))) + (1 : Int)) = n) (hW : WfE 8 n P L) (hk : PinsOk L kvs) (h0 : 0 ≤ i ∧ i < (8 : Nat)) (he : getCE 8 n L i = 0) (hN : 999 < N) :
    Tri (stars [CacheA c d 8 n P ((i, x) :: restC n L i), MapK .i64 mb kvs, OwnA was 1 (ints (L.map (·.1)))]) (restF N room (some ⟨c, 0⟩) (some mb) i was)
      fun r => pu (r = .inl ()) (stars [CacheA c d 8 n P ((i, x) :: restC n L i), MapK .i64 mb kvs]) := by
  unfold restF
  have hl1 := hW.len
  have hl2 := hW.most
  have hks : (L.map (·.1)).length = L.length := by simp
  have hnd := hW.nodup
  refine own_lenI 2 rfl fun hwl => ?_
  rw [hks] at hwl
  refine tri_call [2] (want_spec i (by omega) (by omega)) fun r => tri_pu fun hr2 => tri_flat ?_
  dsimp only [sel, rem, nth, del, cat, upd]
  obtain ⟨w, kp⟩ := r
  dsimp only at hr2
  subst hr2
  rw [hr]
  -- what is wanted
  refine tri_call [0, 2] (Q := fun r : Sl ⊕ Bool => match r with
      | .inl s => stars [OwnA s 1 (ints ((restC n L i).map (·.1))), MapK .i64 mb kvs]
      | .inr b => pu False emp) ?_ fun r => ?_
  · dsimp only [sel, rem, nth, del, cat, upd]
    have hmem : (i ∈ L.map (·.1)) ↔ lookS L i ≠ none := by rw [Ne, lookS_none, Classical.not_not]
    cases hl : lookS L i with
    | some y =>
      have hin : i ∈ L.map (·.1) := hmem.2 (by rw [hl]; simp)
      refine tri_f (by simp [hin]) (tri_ret fun q hq => ?_)
      have : restC n L i = without L i := by unfold restC; rw [hl]
      dsimp only
      rw [this, keys_filter]
      exact hq
    | none =>
      have hin : i ∉ L.map (·.1) := fun c => hmem.1 c hl
      have hf : (L.map (·.1)).filter (fun k => decide (k ≠ i)) = L.map (·.1) := by
        rw [List.filter_eq_self]
        intro a ha
        simp
        rintro rfl
        exact hin ha
      have hrc : restC n L i = placeL n L := by unfold restC; rw [hl]
      have hge : placeE n L = 0 := by
        unfold getCE at he
        rw [if_pos h0, hl] at he
        exact he
      rw [hf]
      by_cases hlen : (L.length : Int) = n
      case neg =>
        refine tri_f (by simp [hwl, hlen]) (tri_ret fun q hq => ?_)
        have : placeL n L = L := by unfold placeL; rw [if_pos (by omega)]
        dsimp only
        rw [hrc, this]
        exact hq
      refine tri_t (by simp [hwl, hlen]; simpa using hin) ?_
      refine tri_call [0, 0] (pins_spec hk hnd (by omega) (by omega)) fun r => tri_pu fun hr => tri_flat ?_
      dsimp only [sel, rem, nth, del, cat, upd]
      rcases hr with ⟨rfl, hv⟩ | ⟨j, hj, rfl, hv⟩
      · exfalso
        unfold placeE at hge
        rw [if_neg (by omega), hv] at hge
        simp at hge
      refine tri_f (by simp) ?_
      refine tri_alloc fun b => ?_
      refine tri_turn 0 (B := OwnA ⟨some ⟨b, 0⟩, 0⟩ 1 (ints [])) rfl (fun q h => .mk rfl h) ?_
      dsimp only [sel, rem, nth, del, cat, upd]
      refine tri_own 1 rfl (fun h1 h2 => ?_) fun wb ln h1 h2 => ?_
      · have := congrArg List.length h2
        simp [ints] at this
        subst this
        simp at hj
      subst h1
      rw [ints_len, hks, Nat.mul_one] at h2
      subst h2
      dsimp only [sel, rem, nth, del, cat, upd]
      have hil : (ints (L.map (·.1))).length = L.length := by rw [ints_len, hks]
      refine tri_op (a := (⟨some ⟨wb, 0⟩, j⟩ : Sl)) (fun h => by rw [slc_eq (by omega) (by omega) (by omega)]; simp [MA.add]) ?_
      have hall : ∀ o m, (((ints (L.map (·.1))).drop o).take m).all isCell = true := fun o m => by
        rw [List.all_eq_true]
        exact fun x hx => List.all_eq_true.1 (ints_cell _) x (List.mem_of_mem_drop (List.mem_of_mem_take hx))
      have hm : most = 70368744177664 := rfl
      refine tri_call [0, 0] (pts_app (k := j) (e := 1) (by' := 8) (by omega) (by rw [hil]; omega) (by have := hall 0 (j * 1); simpa using this) (by dsimp only; omega)) fun r => tri_flat ?_
      dsimp only [sel, rem, nth, del, cat, upd]
      rw [wr64 (by omega) (by omega)]
      refine tri_op (a := (⟨some ⟨wb, j + 1⟩, L.length - (j + 1)⟩ : Sl)) (fun h => by
        rw [slc_eq (by omega) (by omega) (by omega)]
        have e1 : ((j : Int) + 1).toNat = j + 1 := by omega
        have e2 : ((L.length : Int) - ((j : Int) + 1)).toNat = L.length - (j + 1) := by omega
        rw [e1, e2]
        simp [MA.add]) ?_
      refine own_len 0 rfl fun hr0 => ?_
      have hr1 : r.len = j := by
        rw [List.length_append, List.length_take, hil] at hr0
        simp [ints] at hr0
        omega
      refine tri_call [0, 0] (mid_app (o := j + 1) (k := L.length - (j + 1)) (e := 1) (by' := 8) (by omega) (by rw [hil]; omega) (hall _ _) (by omega)) fun r2 => tri_flat ?_
      dsimp only [sel, rem, nth, del, cat, upd]
      refine tri_end [0, 1] fun q hq => ?_
      dsimp only
      have hpl : placeL n L = without L L[j].1 := by unfold placeL; rw [if_neg (by omega), hv]
      rw [hrc, hpl, keys_without hnd hj, List.eraseIdx_eq_take_drop_succ]
      have e : (ints [] ++ (ints (L.map (·.1))).take (j * 1)) ++ ((ints (L.map (·.1))).drop (j + 1)).take ((L.length - (j + 1)) * 1) = ints ((L.map (·.1)).take j ++ (L.map (·.1)).drop (j + 1)) := by
        have e3 : ((ints (L.map (·.1))).drop (j + 1)).take (L.length - (j + 1)) = (ints (L.map (·.1))).drop (j + 1) := List.take_of_length_le (by rw [List.length_drop, hil]; exact Nat.le_refl _)
        rw [Nat.mul_one, Nat.mul_one, e3]
        unfold ints
        rw [List.map_nil, List.nil_append, List.map_append, List.map_take, List.map_drop]
      rw [← e]
      exact hq
  · cases r with
    | inr b => exact fun h q ⟨q1, q2, h1, _⟩ => absurd h1.1 id
    | inl s =>
      refine tri_flat ?_
      dsimp only [sel, rem, nth, del, cat, upd]
      refine tri_hold fun b => ?_
      refine tri_call [4] has_frz fun r => tri_flat ?_
      dsimp only [sel, rem, nth, del, cat, upd]
      refine tri_allocAt 2 rfl ?_
      dsimp only [sel, rem, nth, del, cat, upd]
      refine tri_turn 2 (B := OwnA ⟨some ⟨b, 0⟩, 1⟩ 1 (ints [i])) rfl (fun q h => .mk rfl h) ?_
      dsimp only [sel, rem, nth, del, cat, upd]
      have hlr : ((restC n L i).map (·.1)).length ≤ 900 := by
        rw [List.length_map]
        have := hW.len
        unfold restC
        split
        · have := List.length_filter_le (fun e : Int × SlotS => decide (e.1 ≠ i)) L
          unfold without
          omega
        · have h := (wfe_place hW).len
          omega
      refine own_lenI 3 rfl fun hsl => ?_
      refine tri_call [2, 2] (own_app (e := 1) (by' := 8) (by omega) (ints_cell _) (by have : most = 70368744177664 := rfl; dsimp only; omega)) fun r2 => tri_flat ?_
      dsimp only [sel, rem, nth, del, cat, upd]
      have e : ints [i] ++ ints ((restC n L i).map (·.1)) = ints (((i, x) :: restC n L i).map (·.1)) := rfl
      rw [e]
      refine tri_call [3, 0] (own_samef (by rw [List.map_cons, List.length_cons]; omega) (by rw [List.map_cons, List.length_cons]; omega)) fun r3 => tri_pu fun hr3 => tri_flat ?_
      dsimp only [sel, rem, nth, del, cat, upd]
      refine tri_f (by rw [hr3]; simp) (tri_end [3, 3] fun q hq => ⟨rfl, hq⟩)

theorem pinsOf_rest {n P i : Int} {L : List (Int × SlotS)} (hW : WfE 8 n P L) {x : SlotS} (hx : x.pins = pinsOf L i) (h0 : 0 ≤ i ∧ i < (8 : Nat)) (k : Int) : pinsOf ((i, x) :: restC n L i) k = pinsOf L k := by
  unfold pinsOf at hx ⊢
  show (match (if k = i then some x else lookS (restC n L i) k) with | some x => x.pins | none => 0) = _
  by_cases h : k = i
  · rw [if_pos h, h]
    exact hx
  · rw [if_neg h]
    unfold restC
    cases hl : lookS L i with
    | some y => dsimp only; rw [lookS_without, if_neg h]
    | none =>
      dsimp only
      unfold placeL
      by_cases hlen : (L.length : Int) < n
      · rw [if_pos hlen]
      · rw [if_neg hlen]
        cases hv : victim L with
        | none => rfl
        | some v =>
          dsimp only
          rw [lookS_without]
          by_cases hkv : k = v.1
          · obtain ⟨h1, h2⟩ := victim_mem hv
            have h3 := (hW.pins v h1).1
            rw [if_pos hkv, hkv, lookS_of_mem hW.nodup h1]
            show 0 = v.2.pins
            omega
          · rw [if_neg hkv]
theorem pins_ok_rest {n P i : Int} {L : List (Int × SlotS)} {kvs : List (Int × MV)} (hW : WfE 8 n P L) {x : SlotS} (hx : x.pins = pinsOf L i) (h0 : 0 ≤ i ∧ i < (8 : Nat)) (h : PinsOk L kvs) : PinsOk ((i, x) :: restC n L i) kvs := fun k => by
  rw [pinsOf_rest hW hx h0]
  exact h k
theorem getCX_pins {room : Int} {L : List (Int × SlotS)} {D : DskS} {i : Int} : (getCX room L D i).pins = pinsOf L i := by
  unfold getCX pinsOf
  cases lookS L i <;> rfl
theorem putX_pins {L : List (Int × SlotS)} {i : Int} {bs : List UInt8} {t : Int} : (putX L i bs t).pins = pinsOf L i := rfl

theorem accD_live {n : Nat} {room P : Int} {L : List (Int × SlotS)} {D : DskS} (h : Live n D) (hW : WfE n room P L) (i : Int) : Live n (accD n room L D i) ∧ D.done ≤ (accD n room L D i).done ∧ (accD n room L D i).done ≤ D.done + 1 := by
  unfold accD
  split
  · split
    · exact ⟨h, by omega, by omega⟩
    · exact ⟨placeD_live h hW, placeD_done h hW⟩
  · exact ⟨h, by omega, by omega⟩

/-- How all stands behind so many acts. -/
def StF (c d mb : Nat) (n : Int) (v : Nat) : HA := exA fun y : List (Int × SlotS) × DskS × List (Int × MV) => pu (Live 8 y.2.1 ∧ y.2.1.done ≤ v ∧ PinsOk y.1 y.2.2) (stars [CacheA c d 8 n v y.1, DiskA d y.2.1, MapK .i64 mb y.2.2])

theorem stf_mk {c d mb : Nat} {n : Int} {v : Nat} {L : List (Int × SlotS)} {D : DskS} {kvs : List (Int × MV)} (h1 : Live 8 D) (h2 : D.done ≤ v) (h3 : PinsOk L kvs) {q : PH} (h : stars [CacheA c d 8 n v L, DiskA d D, MapK .i64 mb kvs] q) : StF c d mb n v q := ⟨(L, D, kvs), ⟨h1, h2, h3⟩, h⟩
theorem cache_mono {c d n : Nat} {room P P' : Int} {L : List (Int × SlotS)} (h : P ≤ P') (ht : P' ≤ 4611686018427387904) {q : PH} (k : CacheA c d n room P L q) : CacheA c d n room P' L q := by
  obtain ⟨y, ⟨h1, h2⟩, h3⟩ := k
  exact ⟨y, ⟨h1, wfe_mono h2 h ht⟩, h3⟩
theorem cache_wf (i : Nat) {c d n : Nat} {room P : Int} {L : List (Int × SlotS)} {m : M β} (hl : l[i]? = some (CacheA c d n room P L)) (k : WfE n room P L → Tri (stars l) m S) : Tri (stars l) m S :=
  tri_know i hl (fun _ ⟨_, h, _⟩ => h.2) k

theorem pins_upd {L : List (Int × SlotS)} {kvs : List (Int × MV)} (h : PinsOk L kvs) {i p : Int} {x : SlotS} (hl : lookS L i = some x) : PinsOk (updL L i { x with pins := p }) (putK kvs i (.int .i64 p)) := by
  intro k
  rw [getK_put]
  unfold pinsOf
  rw [lookS_upd]
  by_cases hk : k = i
  · rw [if_pos hk, if_pos hk, hl]
    rfl
  · rw [if_neg hk, if_neg hk]
    exact h k


/-- One act. -/
def actG (N : Nat) (room : Int) (cp : Option MA) (mp : Option Nat) (y : ActT) : M (Unit ⊕ Bool) := bd (F_cache_Cache_Has N cp) fun r_12 => if (decide (y.1.tmod (8 : Int) = (2 : Int))) = true then (bd (F_cache_Cache_Pin N cp y.2.1) fun r_13 => bd (show M (Unit) from if (decide (r_13 = (0 : Int))) = true then (bd (mapLook mp (MV.int .i64 y.2.1)) fun o_14 => bd (someOr (CTy.dec (.int .i64) (o_14.getD (MV.int .i64 (0 : Int))))) fun (y_15 : Int) => bd (mapPut mp (MV.int .i64 y.2.1) (MV.int .i64 (wr .i64 (y_15 + (1 : Int))))) fun _ => ret ()) else (ret ())) fun j_16 => ret ((Sum.inl ()))) else (if (decide (y.1.tmod (8 : Int) = (3 : Int))) = true then (bd (F_cache_Cache_Unpin N cp y.2.1) fun r_17 => bd (show M (Unit) from if (decide (r_17 = (0 : Int))) = true then (bd (mapLook mp (MV.int .i64 y.2.1)) fun o_18 => bd (someOr (CTy.dec (.int .i64) (o_18.getD (MV.int .i64 (0 : Int))))) fun (y_19 : Int) => bd (mapPut mp (MV.int .i64 y.2.1) (MV.int .i64 (wr .i64 (y_19 - (1 : Int))))) fun _ => ret ()) else (ret ())) fun j_20 => ret ((Sum.inl ()))) else (bd (show M (Unit ⊕ Unit) from if (decide (y.1.tmod (8 : Int) = (0 : Int))) = true then (bd (F_cache_Cache_Get N cp y.2.1) fun r_21 => if (!decide (r_21.2 = (0 : Int))) = true then (ret ((Sum.inr ()))) else (ret ((Sum.inl ())))) else (if (decide (y.1.tmod (8 : Int) = (1 : Int))) = true then (bd (F_moatlaw06_patch N y.2.1 y.2.2.1) fun r_22 => bd (F_cache_Cache_Put N cp (r_22.1, r_22.2.1, r_22.2.2)) fun r_23 => if (!decide (r_23 = (0 : Int))) = true then (ret ((Sum.inr ()))) else (ret ((Sum.inl ())))) else (ret ((Sum.inr ()))))) fun j_24 => (match j_24 with | Sum.inl j_25 => restF N room cp mp y.2.1 r_12 | Sum.inr j_26 => ret ((Sum.inl ())))))
/-- The law's function, in pieces. -/
def firstF (N : Nat) (room_1 : Int) (l_2 : Sl) : M Bool := bd (F_moatlaw06_shown N) fun r_3 => bd (F_disk_New N (8 : Int)) fun r_4 => bd (F_cache_New N r_4.1 (wr .i64 ((wr .i64 (room_1.tmod (9 : Int))) + (1 : Int)))) fun r_5 => if ((Option.isNone r_5.1) || (!decide (r_5.2 = (0 : Int)))) = true then (ret false) else (bd (mkMap) fun m_6 => bd (F_moatlaw06_few N l_2) fun r_7 => bd (show M (Unit ⊕ Bool) from iter N (fun go_9 (v_8 : Int) => if (decide (v_8 < (r_7.len : Int))) = true then (bd (show M (Unit ⊕ Bool) from bd (idx 4 r_7 v_8) fun q_10 => bd (ldSt [.int .u8, .int .i64, .int .u8, .sl 1] q_10) fun (y_11 : Int × Int × Int × Sl) => actG N room_1 r_5.1 m_6 y_11) fun j_56 => (match j_56 with | Sum.inl j_57 => go_9 (wr .i64 (v_8 + (1 : Int))) | Sum.inr j_58 => ret (Sum.inr j_58))) else (ret ((Sum.inl ())))) (0 : Int)) fun j_59 => (match j_59 with | Sum.inl j_60 => ret r_3 | Sum.inr j_61 => ret j_61))
theorem firstF_eq (N : Nat) (room : Int) (s : Sl) : F_moatlaw06_CacheFirst N room s = firstF N room s := by kernel_rfl

theorem actF_spec (hp : plain = true) (hN : 999 < N) {room n : Int} (hn : wr .i64 ((wr .i64 (room.tmod (9 : Int))) + (1 : Int)) = n) (hn1 : 1 ≤ n ∧ n ≤ 9) {c d mb v : Nat} (hv : v < 120) {y : ActT} (hy : 0 ≤ y.2.2.1 ∧ y.2.2.1 < 256) : Tri (stars [StF c d mb n v]) (actG N room (some ⟨c, 0⟩) (some mb) y) fun r => pu (r = .inl ()) (stars [StF c d mb n (v + 1)]) := by
  unfold actG
  refine tri_ex fun st => tri_pu fun ⟨hL, hd, hk⟩ => tri_flat ?_
  obtain ⟨L, D, kvs⟩ := st
  dsimp only at hL hd hk
  dsimp only [sel, rem, nth, del, cat, upd]
  refine cache_wf 0 rfl fun hW => ?_
  have hcast : ((v + 1 : Nat) : Int) = (v : Int) + 1 := by omega
  have stay : ∀ q, stars [CacheA c d 8 n v L, DiskA d D, MapK .i64 mb kvs] q → stars [StF c d mb n (v + 1)] q := fun q hq => by
    rw [stars_one]
    exact stf_mk hL (by omega) hk (ent_head (fun q h => cache_mono (by omega) (by omega) h) hq)
  refine tri_call [0] has_spec fun was => tri_flat ?_
  dsimp only [sel, rem, nth, del, cat, upd]
  by_cases h2 : y.1.tmod 8 = 2
  · refine tri_t (by simpa using h2) ?_
    refine tri_call [0] (pin_spec y.2.1 (by omega)) fun r => tri_pu fun hr => tri_flat ?_
    dsimp only [sel, rem, nth, del, cat, upd]
    cases hl : lookS L y.2.1 with
    | none =>
      rw [hl] at hr
      dsimp only at hr
      subst hr
      refine tri_bdret (tri_end [0, 1, 1] fun q hq => ⟨rfl, ?_⟩)
      rw [stars_one]
      refine stf_mk (L := L) hL (by omega) hk ?_
      rw [hcast]
      exact hq
    | some x =>
      rw [hl] at hr
      dsimp only at hr
      subst hr
      dsimp only
      refine Tri.bd (Q := fun _ => stars [CacheA c d 8 n (v + 1) (updL L y.2.1 { x with pins := x.pins + 1 }), OwnA was 1 (ints (L.map (·.1))), DiskA d D, MapK .i64 mb (putK kvs y.2.1 (.int .i64 (x.pins + 1)))]) ?_ fun _ => ?_
      · refine tri_t (by decide) ?_
        refine tri_look 3 rfl _ ?_
        have hpx : pinsOf L y.2.1 = x.pins := by unfold pinsOf; rw [hl]
        have hpb := hW.pins _ (lookS_mem hl)
        dsimp only at hpb
        rw [hk, dec_int, hpx]
        refine tri_some ?_
        rw [wr64 (by omega) (by omega)]
        exact tri_put 3 rfl _ _ (tri_ret fun q hq => hq)
      · refine tri_end [0, 1, 1] fun q hq => ⟨rfl, ?_⟩
        rw [stars_one]
        refine stf_mk hL (by omega) (pins_upd (p := x.pins + 1) hk hl) ?_
        rw [hcast]
        exact hq
  refine tri_f (by simpa using h2) ?_
  by_cases h3 : y.1.tmod 8 = 3
  · refine tri_t (by simpa using h3) ?_
    refine tri_call [0] (unpin_spec y.2.1 (by omega)) fun r => tri_pu fun hr => tri_flat ?_
    dsimp only [sel, rem, nth, del, cat, upd]
    cases hl : canUnpin L y.2.1 with
    | none =>
      rw [hl] at hr
      dsimp only at hr
      subst hr
      exact tri_bdret (tri_end [0, 1, 1] fun q hq => ⟨rfl, stay q hq⟩)
    | some x =>
      rw [hl] at hr
      dsimp only at hr
      subst hr
      dsimp only
      have hll : lookS L y.2.1 = some x ∧ x.pins ≠ 0 := by
        unfold canUnpin at hl
        cases hx : lookS L y.2.1 with
        | none => rw [hx] at hl; cases hl
        | some z =>
          rw [hx] at hl
          dsimp only at hl
          by_cases hz : z.pins = 0
          · rw [if_pos hz] at hl; cases hl
          · rw [if_neg hz] at hl; cases hl; exact ⟨rfl, hz⟩
      refine Tri.bd (Q := fun _ => stars [CacheA c d 8 n v (updL L y.2.1 { x with pins := x.pins - 1 }), OwnA was 1 (ints (L.map (·.1))), DiskA d D, MapK .i64 mb (putK kvs y.2.1 (.int .i64 (x.pins - 1)))]) ?_ fun _ => ?_
      · refine tri_t (by decide) ?_
        refine tri_look 3 rfl _ ?_
        have hpx : pinsOf L y.2.1 = x.pins := by unfold pinsOf; rw [hll.1]
        have hpb := hW.pins _ (lookS_mem hll.1)
        dsimp only at hpb
        rw [hk, dec_int, hpx]
        refine tri_some ?_
        rw [wr64 (by omega) (by omega)]
        exact tri_put 3 rfl _ _ (tri_ret fun q hq => hq)
      · refine tri_end [0, 1, 1] fun q hq => ⟨rfl, ?_⟩
        rw [stars_one]
        refine stf_mk hL (by omega) (pins_upd (p := x.pins - 1) hk hll.1) ?_
        exact ent_head (fun q h => cache_mono (by omega) (by omega) h) hq
  refine tri_f (by simpa using h3) ?_
  -- Get and Put
  have hac := accD_live hL hW y.2.1
  refine Tri.bd (Q := fun r : Unit ⊕ Unit => match r with
      | .inl _ => exA fun x : SlotS => pu (getCE 8 n L y.2.1 = 0 ∧ 0 ≤ y.2.1 ∧ y.2.1 < 8 ∧ x.pins = pinsOf L y.2.1) (stars [CacheA c d 8 n v ((y.2.1, x) :: restC n L y.2.1), DiskA d (accD 8 n L D y.2.1), MapK .i64 mb kvs, OwnA was 1 (ints (L.map (·.1)))])
      | .inr _ => stars [StF c d mb n (v + 1)]) ?_ fun r => ?_
  · have hrng : getCE 8 n L y.2.1 = 0 → 0 ≤ y.2.1 ∧ y.2.1 < 8 := fun h => by
      unfold getCE at h
      by_cases hh : 0 ≤ y.2.1 ∧ y.2.1 < (8 : Nat)
      · exact hh
      · rw [if_neg hh] at h; cases h
    by_cases h0 : y.1.tmod 8 = 0
    · refine tri_t (by simpa using h0) ?_
      refine tri_call [0, 1] (get_spec hp y.2.1 hL (by omega) (by omega) (by omega)) fun r => tri_pu fun hr => tri_flat ?_
      dsimp only [sel, rem, nth, del, cat, upd]
      by_cases he : getCE 8 n L y.2.1 = 0
      · refine tri_f (by rw [hr]; simpa using he) (tri_end [0, 0, 2, 1] fun q hq => ⟨getCX n L D y.2.1, ⟨he, (hrng he).1, (hrng he).2, getCX_pins⟩, ?_⟩)
        unfold getCL at hq
        rw [if_pos he] at hq
        exact hq
      · refine tri_t (by rw [hr]; simpa using he) (tri_end [0, 0, 2] fun q hq => ?_)
        unfold getCL at hq
        rw [if_neg he] at hq
        show stars [_] q
        rw [stars_one]
        exact stf_mk hac.1 (by omega) hk (ent_head (fun q h => cache_mono (by omega) (by omega) h) hq)
    · refine tri_f (by simpa using h0) ?_
      by_cases h1 : y.1.tmod 8 = 1
      · refine tri_t (by simpa using h1) ?_
        refine tri_call [] (patch_spec (by omega) y.2.1 y.2.2.1 hy) fun r => tri_pu fun ⟨g1, g2, g3⟩ => tri_flat ?_
        rw [g1, g2]
        dsimp only [sel, rem, nth, del, cat, upd]
        refine tri_call [1, 2, 0] (put_spec hp y.2.1 (bs := pat y.2.2.1) y.2.2.1 (pat_len _) hL (by omega) (by omega) (by omega)) fun r => tri_pu fun hr => tri_flat ?_
        dsimp only [sel, rem, nth, del, cat, upd]
        by_cases he : getCE 8 n L y.2.1 = 0
        · refine tri_f (by rw [hr]; simpa using he) (tri_end [0, 0, 2, 1] fun q hq => ⟨putX L y.2.1 (pat y.2.2.1) y.2.2.1, ⟨he, (hrng he).1, (hrng he).2, putX_pins⟩, ?_⟩)
          unfold putCL at hq
          rw [if_pos he] at hq
          exact hq
        · refine tri_t (by rw [hr]; simpa using he) (tri_end [0, 0, 2] fun q hq => ?_)
          unfold putCL at hq
          rw [if_neg he] at hq
          show stars [_] q
          rw [stars_one]
          exact stf_mk hac.1 (by omega) hk (ent_head (fun q h => cache_mono (by omega) (by omega) h) hq)
      · refine tri_f (by simpa using h1) (tri_end [0, 1, 1] fun q hq => stay q hq)
  · cases r with
    | inr u => exact tri_ret fun q hq => ⟨rfl, hq⟩
    | inl u =>
      refine tri_x fun x => tri_p fun ⟨he, g1, g2, hx⟩ => ?_
      refine tri_fin [0, 1, 1] (restF_spec hn hW hk ⟨g1, g2⟩ he hN) fun r q hq => ?_
      obtain ⟨hr, hq⟩ := ent_pu hq
      have hq := ent_sel [0, 1, 0] (ent_flat hq)
      refine ⟨hr, ?_⟩
      rw [stars_one]
      exact stf_mk hac.1 (by omega) (pins_ok_rest hW hx ⟨g1, g2⟩ hk) (ent_head (fun q h => cache_mono (by omega) (by omega) h) hq)

theorem first_spec' (hp : plain = true) (hN : 999 < N) {room : Int} (hroom : 0 ≤ room ∧ room < 256) {s : Sl} {xs : List ActT} (hs : s.len = xs.length) (hx : ∀ x ∈ xs, 0 ≤ x.2.2.1 ∧ x.2.2.1 < 256) : Tri (stars [InA s actT xs]) (F_moatlaw06_CacheFirst N room s) fun r => pu (r = true) emp := by
  rw [firstF_eq]
  unfold firstF
  obtain ⟨n, hn⟩ : ∃ n, n = wr .i64 ((wr .i64 (room.tmod (9 : Int))) + (1 : Int)) := ⟨_, rfl⟩
  have hn1 : 1 ≤ n ∧ n ≤ 9 := by
    have h1 : room.tmod 9 = room % 9 := Int.tmod_eq_emod_of_nonneg hroom.1
    have h2 := Int.emod_lt_of_pos room (show (0 : Int) < 9 by decide)
    have h3 := Int.emod_nonneg room (show (9 : Int) ≠ 0 by decide)
    rw [hn, h1, wr64 (n := room % 9) (by omega) (by omega), wr64 (by omega) (by omega)]
    omega
  refine tri_call [] (shown_spec hp (by omega)) fun r => tri_pu fun hr => ?_
  subst hr
  dsimp only [sel, rem, nth, del, cat, upd]
  refine tri_call [] (disk_new (n := 8) (by omega)) fun r => tri_ex fun d => tri_pu fun hr => tri_flat ?_
  subst hr
  dsimp only [sel, rem, nth, del, cat, upd]
  rw [← hn]
  refine tri_call [] (cache_new d 8 (room := n) (by omega)) fun r => tri_ex fun c => tri_pu fun hr => tri_flat ?_
  subst hr
  dsimp only [sel, rem, nth, del, cat, upd]
  refine tri_f (by simp) ?_
  refine tri_mk .i64 fun mb => ?_
  refine tri_call [4] (few_spec hs (by omega)) fun r => tri_pu fun ⟨kk, hk1, hk2, hr⟩ => tri_flat ?_
  subst hr
  dsimp only [sel, rem, nth, del, cat, upd]
  have hL0 : Live 8 (newD 8) := ⟨rfl, rfl, by decide, by decide, by simp [newD]⟩
  -- the acts
  refine tri_turn 2 (B := CacheA c d 8 n (0 : Nat) []) rfl (fun _ h => h) ?_
  have loop : ∀ (K : Nat) (j : Nat), kk - j < K → j ≤ kk → Tri (stars [StF c d mb n j, InA s actT xs]) (iter K (fun go_9 (v_8 : Int) => if (decide (v_8 < (kk : Int))) = true then (bd (show M (Unit ⊕ Bool) from bd (idx 4 ⟨s.p, kk⟩ v_8) fun q_10 => bd (ldSt [.int .u8, .int .i64, .int .u8, .sl 1] q_10) fun (y_11 : Int × Int × Int × Sl) => actG N room (some ⟨c, 0⟩) (some mb) y_11) fun j_56 => (match j_56 with | Sum.inl j_57 => go_9 (wr .i64 (v_8 + (1 : Int))) | Sum.inr j_58 => ret (Sum.inr j_58))) else (ret ((Sum.inl ()))))  (j : Int) : M (Unit ⊕ Bool)) fun r => pu (r = .inl ()) emp := by
    intro K
    induction K with
    | zero => intro j hj; omega
    | succ K ih =>
      intro j hj hj1
      show Tri _ (if _ then _ else _) _
      by_cases hj2 : j < kk
      · refine tri_t (by simp; omega) ?_
        have hjx : j < xs.length := by omega
        refine Tri.bd (Q := fun r : Unit ⊕ Bool => pu (r = .inl ()) (stars [StF c d mb n (j + 1), InA s actT xs])) ?_ fun r => tri_p fun hr => ?_
        · refine tri_row (cts := actT) 1 rfl (by decide) hj2 hjx ?_
          refine tri_fin [0] (actF_spec hp hN hn.symm hn1 (by omega) (hx _ (List.getElem_mem hjx))) fun r q hq => ?_
          obtain ⟨hr, hq⟩ := ent_pu hq
          exact ⟨hr, ent_flat hq⟩
        · subst hr
          dsimp only
          rw [wr64 (by omega) (by omega)]
          exact ih (j + 1) (by omega) (by omega)
      · exact tri_f (by simp; omega) (tri_end [] fun q hq => ⟨rfl, hq⟩)
  refine tri_call (Q := fun r : Unit ⊕ Bool => pu (r = .inl ()) emp) [1, 1, 1, 0] ?_ fun r => tri_pu fun hr => ?_
  · dsimp only [sel, rem, nth, del, cat, upd]
    refine Tri.pre (loop N 0 (by omega) (by omega)) fun q hq => ?_
    exact ent_fold (l := [InA s actT xs]) [_, _, _] (fun q h => stf_mk (L := []) (kvs := []) hL0 (by decide) (fun k => rfl) h) (ent_sel [1, 1, 0, 0] hq)
  · subst hr
    exact tri_end [] fun q hq => ⟨rfl, hq⟩
end
end Go.Moat
