/- Layer 6: the law CacheLast, over plain functions. -/
import Derived.Test.YtpnppebjcenkkaaP06c
import Derived.KernelRfl
namespace Go.Moat
open Go.Mini
set_option maxRecDepth 100000

def lastSw (N : Nat) (cp : Option MA) (y : ActT) (last : List Int) : M (List Int ⊕ Bool) := if (decide (y.1.tmod (8 : Int) = (0 : Int))) = true then (bd (F_cache_Cache_Get N cp y.2.1) fun r_11 => bd (if ((!decide (r_11.2 = (0 : Int))) && (!decide (r_11.2 = (5 : Int)))) = false then (bd (if (decide (r_11.2 = (0 : Int))) = true then (bd (toStr r_11.1) fun w_12 => bd (if 0 ≤ y.2.1 ∧ y.2.1 < 8 then ret () else fail) fun _ => bd (someOr last[0 + (y.2.1).toNat * 1]?) fun n_13 => bd (frz (F_moatlaw06_patch N (0 : Int) n_13)) fun r_14 => bd (toStr r_14.2.1) fun w_15 => ret ((!(decide (w_12 = w_15))))) else ret false) fun c_16 => ret c_16) else ret true) fun c_17 => if c_17 = true then (ret (Sum.inr false)) else (ret (Sum.inl last))) else (bd (show M (List Int ⊕ Bool) from if (decide (y.1.tmod (8 : Int) = (1 : Int))) = true then (bd (F_moatlaw06_patch N y.2.1 y.2.2.1) fun r_18 => bd (F_cache_Cache_Put N cp (r_18.1, r_18.2.1, r_18.2.2)) fun r_19 => bd (show M (List Int) from if (decide (r_19 = (0 : Int))) = true then (bd (if 0 ≤ y.2.1 ∧ y.2.1 < 8 then ret () else fail) fun _ => bd (if 0 + (y.2.1).toNat * 1 < last.length then ret () else fail) fun _ => ret (last.set (0 + (y.2.1).toNat * 1) y.2.2.1)) else (ret last)) fun j_20 => if ((!decide (r_19 = (0 : Int))) && (!decide (r_19 = (5 : Int)))) = true then (ret (Sum.inr false)) else (ret (Sum.inl j_20))) else (bd (show M (Unit ⊕ Bool) from if (decide (y.1.tmod (8 : Int) = (2 : Int))) = true then (bd (F_cache_Cache_Pin N cp y.2.1) fun r_21 => ret ((Sum.inl ()))) else (bd (show M (Unit ⊕ Bool) from if (decide (y.1.tmod (8 : Int) = (3 : Int))) = true then (bd (F_cache_Cache_Unpin N cp y.2.1) fun r_22 => ret ((Sum.inl ()))) else (bd (show M (Unit ⊕ Bool) from if (decide (y.1.tmod (8 : Int) = (4 : Int))) = true then (bd (F_cache_Cache_Flush N cp) fun r_23 => if (!decide (r_23 = (0 : Int))) = true then (ret (Sum.inr false)) else (ret ((Sum.inl ())))) else (ret ((Sum.inl ())))) fun j_24 => (match j_24 with | Sum.inl j_25 => ret ((Sum.inl ())) | Sum.inr j_26 => ret (Sum.inr j_26)))) fun j_27 => (match j_27 with | Sum.inl j_28 => ret ((Sum.inl ())) | Sum.inr j_29 => ret (Sum.inr j_29)))) fun j_30 => (match j_30 with | Sum.inl j_31 => ret (Sum.inl last) | Sum.inr j_32 => ret (Sum.inr j_32)))) fun j_33 => (match j_33 with | Sum.inl j_34 => ret (Sum.inl j_34) | Sum.inr j_35 => ret (Sum.inr j_35)))
def lastHad (N : Nat) (cp : Option MA) (room : Int) (last : List Int) : M (List Int ⊕ Bool) := bd (mkMap) fun m_39 => bd (F_cache_Cache_Has N cp) fun r_40 => bd (show M (Unit ⊕ Bool) from iter N (fun go_42 (v_41 : Int) => if (decide (v_41 < (r_40.len : Int))) = true then (bd (idx 1 r_40 v_41) fun q_43 => bd (ldI .i64 q_43) fun (y_44 : Int) => bd (mapLook m_39 (MV.int .i64 y_44)) fun o_45 => bd (someOr (CTy.dec (.bool) (o_45.getD (MV.bool false)))) fun (y_46 : Bool) => if y_46 = true then (ret (Sum.inr false)) else (bd (mapPut m_39 (MV.int .i64 y_44) (MV.bool true)) fun _ => go_42 (wr .i64 (v_41 + (1 : Int))))) else (ret ((Sum.inl ())))) (0 : Int)) fun j_47 => (match j_47 with | Sum.inl j_48 => bd (mapLen m_39) fun n_50 => if (decide (room < n_50)) = true then (ret (Sum.inr false)) else (ret (Sum.inl last)) | Sum.inr j_49 => ret (Sum.inr j_49))
def lastAct (N : Nat) (cp : Option MA) (room : Int) (y : ActT) (last : List Int) : M (List Int ⊕ Bool) := if ((decide (y.2.1 < (0 : Int))) || (decide ((7 : Int) < y.2.1))) = true then (ret (Sum.inl last)) else (bd (show M (List Int ⊕ Bool) from lastSw N cp y last) fun j_36 => (match j_36 with | Sum.inl j_37 => lastHad N cp room j_37 | Sum.inr j_38 => ret (Sum.inr j_38)))
def lastF (N : Nat) (room_1 : Int) (l_2 : Sl) : M Bool := bd (F_moatlaw06_shown N) fun r_3 => bd (F_disk_New N (8 : Int)) fun r_4 => bd (F_cache_New N r_4.1 (wr .i64 ((wr .i64 (room_1.tmod (9 : Int))) + (1 : Int)))) fun r_5 => if ((Option.isNone r_5.1) || (!decide (r_5.2 = (0 : Int)))) = true then (ret false) else (bd (F_moatlaw06_few N l_2) fun r_6 => bd (show M (List Int ⊕ Bool) from iter N (fun go_8 (v_7 : Int × List Int) => if (decide (v_7.1 < (r_6.len : Int))) = true then (bd (show M (List Int ⊕ Bool) from bd (idx 4 r_6 v_7.1) fun q_9 => bd (ldSt [.int .u8, .int .i64, .int .u8, .sl 1] q_9) fun (y_10 : Int × Int × Int × Sl) => lastAct N r_5.1 (wr .i64 ((wr .i64 (room_1.tmod (9 : Int))) + (1 : Int))) y_10 v_7.2) fun j_51 => (match j_51 with | Sum.inl j_52 => go_8 ((wr .i64 (v_7.1 + (1 : Int)), j_52)) | Sum.inr j_53 => ret (Sum.inr j_53))) else (ret (Sum.inl v_7.2))) (((0 : Int), List.replicate 8 (0 : Int)))) fun j_54 => (match j_54 with | Sum.inl j_55 => ret r_3 | Sum.inr j_56 => ret j_56))
theorem lastF_eq (N : Nat) (room : Int) (s : Sl) : F_moatlaw06_CacheLast N room s = lastF N room s := by kernel_rfl

section
variable {N : Nat} {c d : Nat} {n : Int}

/-- How all stands behind so many acts. -/
def StL (c d : Nat) (n : Int) (v : Nat) (last : List Int) : HA := exA fun y : List (Int × SlotS) × DskS => pu (Live 8 y.2 ∧ y.2.done ≤ 20 * v ∧ CleanOk y.1 y.2 ∧ last.length = 8 ∧ (∀ x ∈ last, 0 ≤ x ∧ x < 256) ∧ ∀ (k : Nat) (h : k < last.length), (valS y.1 y.2 k).b = pat last[k])
  (stars [CacheA c d 8 n v y.1, DiskA d y.2])

theorem had_spec {last : List Int} {L : List (Int × SlotS)} {v : Nat} (hN : 900 < N) (hW : WfE 8 n v L) : Tri (stars [CacheA c d 8 n v L]) (lastHad N (some ⟨c, 0⟩) n last) fun r => pu (r = .inl last) (stars [CacheA c d 8 n v L]) := by
  unfold lastHad
  refine tri_mk .i64 fun mb => ?_
  refine tri_call [1] has_spec fun w => tri_flat ?_
  dsimp only [sel, rem, nth, del, cat, upd]
  refine own_lenI 1 rfl fun hw => ?_
  have hlen := hW.len
  have hmo := hW.most
  generalize hks : L.map (·.1) = ks at hw ⊢
  have hkl : ks.length = L.length := by rw [← hks, List.length_map]
  have hnd : ks.Nodup := by rw [← hks]; exact hW.nodup
  have loop : ∀ (K : Nat) (j : Nat), ks.length - j < K → j ≤ ks.length → Tri (stars [MapK .i64 mb ((ks.take j).map fun k => (k, MV.bool true)), OwnA w 1 (ints ks)])
      (iter K (fun go_42 (v_41 : Int) => if (decide (v_41 < (w.len : Int))) = true then (bd (idx 1 w v_41) fun q_43 => bd (ldI .i64 q_43) fun (y_44 : Int) => bd (mapLook (some mb) (MV.int .i64 y_44)) fun o_45 => bd (someOr (CTy.dec (.bool) (o_45.getD (MV.bool false)))) fun (y_46 : Bool) => if y_46 = true then (ret (Sum.inr false)) else (bd (mapPut (some mb) (MV.int .i64 y_44) (MV.bool true)) fun _ => go_42 (wr .i64 (v_41 + (1 : Int))))) else (ret ((Sum.inl ())))) (j : Int) : M (Unit ⊕ Bool)) fun r => pu (r = .inl ()) (stars [MapK .i64 mb (ks.map fun k => (k, MV.bool true)), OwnA w 1 (ints ks)]) := by
    intro K
    induction K with
    | zero => intro j hj; omega
    | succ K ih =>
      intro j hj h1
      show Tri _ (if _ then _ else _) _
      by_cases hj2 : j < ks.length
      · refine tri_t (by simp [hw]; omega) ?_
        refine tri_own_I 1 rfl hj2 (tri_look 0 rfl _ ?_)
        have hnot : ks[j] ∉ ks.take j := by
          have e : ks = ks.take j ++ ks[j] :: ks.drop (j + 1) := by rw [List.getElem_cons_drop, List.take_append_drop]
          rw [e] at hnd
          have := (List.nodup_append.1 hnd).2.2
          intro h
          exact this _ h ks[j] List.mem_cons_self rfl
        have hg : getK ((ks.take j).map fun k => (k, MV.bool true)) ks[j] = none := by
          rw [getK_none]
          intro hc
          obtain ⟨x, hx, e⟩ := List.mem_map.1 hc
          obtain ⟨k', hk', rfl⟩ := List.mem_map.1 hx
          exact hnot (by rw [← e]; exact hk')
        rw [hg]
        refine tri_some (a := false) (tri_f (by simp) ?_)
        refine tri_put 0 rfl _ _ ?_
        have hput : putK ((ks.take j).map fun k => (k, MV.bool true)) ks[j] (.bool true) = (ks.take (j + 1)).map fun k => (k, MV.bool true) := by
          rw [List.take_succ_eq_append_getElem hj2, List.map_append]
          generalize ks.take j = l at hg
          induction l with
          | nil => rfl
          | cons a l ih2 =>
            simp only [List.map_cons, getK] at hg
            simp only [List.map_cons, putK, List.cons_append]
            by_cases e : ks[j] = a
            · rw [if_pos e] at hg; cases hg
            · rw [if_neg e] at hg ⊢
              rw [ih2 hg]
              rfl
        rw [hput, wr64 (by omega) (by omega)]
        dsimp only [sel, rem, nth, del, cat, upd]
        exact ih (j + 1) (by omega) (by omega)
      · have e : ks.take j = ks := List.take_of_length_le (by omega)
        rw [e]
        exact tri_f (by simp [hw]; omega) (tri_ret fun q hq => ⟨rfl, hq⟩)
  refine tri_call [2, 1] ((loop N 0 (by omega) (by omega)).pre fun q hq => hq) fun r => tri_pu fun hr => tri_flat ?_
  subst hr
  dsimp only [sel, rem, nth, del, cat, upd]
  refine tri_mlen 0 rfl ?_
  rw [List.length_map, hkl]
  exact tri_f (by simp; omega) (tri_end [2] fun q hq => ⟨rfl, hq⟩)

theorem stl_mk {v : Nat} {last : List Int} {L : List (Int × SlotS)} {D : DskS} (h1 : Live 8 D) (h2 : D.done ≤ 20 * v) (h3 : CleanOk L D) (h4 : last.length = 8) (h5 : ∀ x ∈ last, 0 ≤ x ∧ x < 256) (h6 : ∀ (k : Nat) (h : k < last.length), (valS L D k).b = pat last[k]) {q : PH} (h : stars [CacheA c d 8 n v L, DiskA d D] q) : stars [StL c d n v last] q := by
  rw [stars_one]
  exact ⟨(L, D), ⟨h1, h2, h3, h4, h5, h6⟩, h⟩

theorem lastSw_spec (hp : plain = true) (hN : 999 < N) (hn1 : 1 ≤ n ∧ n ≤ 9) {v : Nat} (hv : v < 120) {y : ActT} (hy : 0 ≤ y.2.2.1 ∧ y.2.2.1 < 256) (h0 : 0 ≤ y.2.1 ∧ y.2.1 < (8 : Nat)) {last : List Int} : Tri (stars [StL c d n v last]) (lastSw N (some ⟨c, 0⟩) y last) fun r => exA fun last' => pu (r = .inl last') (stars [StL c d n (v + 1) last']) := by
  unfold lastSw
  refine tri_ex fun st => tri_pu fun ⟨hL, hd, hc, hll, hlb, hlv⟩ => tri_flat ?_
  obtain ⟨L, D⟩ := st
  dsimp only at hL hd hc hlv
  dsimp only [sel, rem, nth, del, cat, upd]
  refine cache_wf 0 rfl fun hW => ?_
  have hcast : ((v + 1 : Nat) : Int) = (v : Int) + 1 := by omega
  obtain ⟨k, hk⟩ : ∃ k : Nat, y.2.1 = k := ⟨y.2.1.toNat, by omega⟩
  have hk8 : k < last.length := by omega
  have hac := accD_live hL hW y.2.1
  have up : ∀ {L' : List (Int × SlotS)} {D' : DskS} {q : PH}, stars [CacheA c d 8 n v L', DiskA d D'] q → stars [CacheA c d 8 n ((v + 1 : Nat) : Int) L', DiskA d D'] q := fun h => ent_head (fun q h => cache_mono (by omega) (by omega) h) h
  by_cases t0 : y.1.tmod 8 = 0
  · refine tri_t (by simpa using t0) ?_
    refine tri_call [0, 0] (get_spec hp y.2.1 hL (by omega) (by omega) (by omega)) fun r => tri_pu fun hr => tri_flat ?_
    dsimp only [sel, rem, nth, del, cat, upd]
    obtain ⟨g1, g2, g3⟩ := get_val hW hL hc h0
    refine tri_call [2] (Q := fun r : Bool => pu (r = false) emp) ?_ fun r => tri_pu fun hr2 => ?_
    · dsimp only [sel, rem, nth, del, cat, upd]
      rcases getCE_cases (room := n) (L := L) h0 with he | he
      · rw [he] at hr
        refine tri_t (by rw [hr]; rfl) ?_
        refine tri_call (f := fun c => ret c) [0] (Q := fun r : Bool => pu (r = false) emp) ?_ fun r => tri_pu fun hr2 => tri_end [] fun q hq => ⟨hr2, hq⟩
        refine tri_t (by rw [hr]; rfl) ?_
        rw [if_pos he, g1]
        refine tri_call [0] own_toStr fun w => tri_pu fun hw => tri_flat ?_
        subst hw
        dsimp only [sel, rem, nth, del, cat, upd]
        refine tri_chk (by omega) ?_
        have hlk : last[0 + y.2.1.toNat * 1]? = some last[k] := by
          rw [hk, Int.toNat_natCast, Nat.zero_add, Nat.mul_one, List.getElem?_eq_getElem hk8]
        rw [hlk]
        refine tri_some ?_
        refine tri_call [] (tri_frzn (patch_spec (by omega) 0 last[k] (hlb _ (List.getElem_mem hk8)))) fun r => tri_pu fun _ => tri_flat ?_
        dsimp only [sel, rem, nth, del, cat, upd]
        refine tri_call [0] own_toStr fun w => tri_pu fun hw => tri_flat ?_
        subst hw
        refine tri_end [] fun q hq => ⟨?_, hq⟩
        rw [hk, hlv k hk8]
        simp
      · rw [he] at hr
        refine tri_t (by rw [hr]; rfl) ?_
        refine tri_call (f := fun c => ret c) [] (Q := fun r : Bool => pu (r = false) emp) ?_ fun r => tri_pu fun hr2 => tri_end [] fun q hq => ⟨hr2, hq⟩
        exact tri_f (by rw [hr]; decide) (tri_end [] fun q hq => ⟨rfl, hq⟩)
    · subst hr2
      dsimp only [sel, rem, nth, del, cat, upd]
      refine tri_f (by simp) (tri_end [1, 1] fun q hq => ⟨last, rfl, ?_⟩)
      exact stl_mk hac.1 (by omega) g3 hll hlb (fun k h => by rw [g2 k (by omega)]; exact hlv k h) (up hq)
  refine tri_f (by simpa using t0) ?_
  refine Tri.bd (Q := fun r => exA fun last' => pu (r = .inl last') (stars [StL c d n (v + 1) last'])) ?_ fun r => tri_x fun last' => tri_p fun hr => ?_
  case refine_2 =>
    subst hr
    exact tri_ret fun q hq => ⟨last', rfl, hq⟩
  by_cases t1 : y.1.tmod 8 = 1
  · refine tri_t (by simpa using t1) ?_
    refine tri_call [] (patch_spec (by omega) y.2.1 y.2.2.1 hy) fun r => tri_pu fun ⟨g1, g2, g3⟩ => tri_flat ?_
    rw [g1, g2]
    dsimp only [sel, rem, nth, del, cat, upd]
    refine tri_call [1, 1, 0] (put_spec hp y.2.1 (bs := pat y.2.2.1) y.2.2.1 (pat_len _) hL (by omega) (by omega) (by omega)) fun r => tri_pu fun hr => tri_flat ?_
    dsimp only [sel, rem, nth, del, cat, upd]
    rcases getCE_cases (room := n) (L := L) h0 with he | he
    · rw [he] at hr
      obtain ⟨p1, p2⟩ := put_val hW hL hc h0 he (pat y.2.2.1) y.2.2.1
      subst hr
      refine Tri.bd (Q := fun r => pu (r = last.set k y.2.2.1) (stars [CacheA c d 8 n v (putCL 8 n L y.2.1 (pat y.2.2.1) y.2.2.1), DiskA d (accD 8 n L D y.2.1)])) ?_ fun r => tri_p fun hr => ?_
      · refine tri_t rfl ?_
        refine tri_chk (by omega) ?_
        refine tri_chk (by omega) ?_
        rw [hk, Int.toNat_natCast, Nat.zero_add, Nat.mul_one]
        exact tri_end [0, 0] fun q hq => ⟨rfl, hq⟩
      · subst hr
        refine tri_f (by decide) (tri_end [0, 0] fun q hq => ⟨last.set k y.2.2.1, rfl, ?_⟩)
        refine stl_mk hac.1 (by omega) p2 (by rw [List.length_set]; exact hll) (fun x hx => ?_) (fun j hj => ?_) (up hq)
        · rcases List.mem_or_eq_of_mem_set hx with hx | rfl
          · exact hlb x hx
          · exact hy
        · rw [p1 j (by omega), List.getElem_set]
          by_cases e : k = j
          · subst e
            rw [if_pos hk.symm, if_pos rfl]
          · rw [if_neg (by omega), if_neg e]
            exact hlv j (by rw [List.length_set] at hj; exact hj)
    · rw [he] at hr
      obtain ⟨p1, p2⟩ := put_not (D := D) (by rw [he]; decide) (pat y.2.2.1) y.2.2.1 h0
      rw [p1, p2]
      subst hr
      refine Tri.bd (Q := fun r => pu (r = last) (stars [CacheA c d 8 n v L, DiskA d D])) (tri_f (by decide) (tri_end [0, 0] fun q hq => ⟨rfl, hq⟩)) fun r => tri_p fun hr => ?_
      rw [hr]
      exact tri_f (by decide) (tri_end [0, 0] fun q hq => ⟨last, rfl, stl_mk hL (by omega) hc hll hlb hlv (up hq)⟩)
  refine tri_f (by simpa using t1) ?_
  -- the others turn no bytes
  refine Tri.bd (Q := fun r : Unit ⊕ Bool => pu (r = .inl ()) (stars [StL c d n (v + 1) last])) ?_ fun r => tri_p fun hr => ?_
  case refine_2 =>
    subst hr
    exact tri_ret fun q hq => ⟨last, rfl, hq⟩
  by_cases t2 : y.1.tmod 8 = 2
  · refine tri_t (by simpa using t2) ?_
    refine tri_call [0] (pin_spec y.2.1 (by omega)) fun r => tri_pu fun hr => tri_flat ?_
    dsimp only [sel, rem, nth, del, cat, upd]
    refine tri_end [0, 0] fun q hq => ⟨rfl, ?_⟩
    have hq : stars [CacheA c d 8 n ((v + 1 : Nat) : Int) (match lookS L y.2.1 with | some x => updL L y.2.1 { x with pins := x.pins + 1 } | none => L), DiskA d D] q := by rw [hcast]; exact hq
    cases hl : lookS L y.2.1 with
    | none =>
      rw [hl] at hq
      exact stl_mk hL (by omega) hc hll hlb hlv hq
    | some x =>
      rw [hl] at hq
      obtain ⟨p1, p2⟩ := pins_val (D := D) (p := x.pins + 1) hl
      exact stl_mk hL (by omega) (p2 hc) hll hlb (fun j h => by rw [p1]; exact hlv j h) hq
  refine tri_f (by simpa using t2) ?_
  refine Tri.bd (Q := fun r : Unit ⊕ Bool => pu (r = .inl ()) (stars [StL c d n (v + 1) last])) ?_ fun r => tri_p fun hr => ?_
  case refine_2 =>
    subst hr
    exact tri_ret fun q hq => ⟨rfl, hq⟩
  by_cases t3 : y.1.tmod 8 = 3
  · refine tri_t (by simpa using t3) ?_
    refine tri_call [0] (unpin_spec y.2.1 (by omega)) fun r => tri_pu fun hr => tri_flat ?_
    dsimp only [sel, rem, nth, del, cat, upd]
    refine tri_end [0, 0] fun q hq => ⟨rfl, ?_⟩
    have hq := up hq
    cases hl : canUnpin L y.2.1 with
    | none =>
      rw [hl] at hq
      exact stl_mk hL (by omega) hc hll hlb hlv hq
    | some x =>
      rw [hl] at hq
      have hx : lookS L y.2.1 = some x := by
        unfold canUnpin at hl
        cases hz : lookS L y.2.1 with
        | none => rw [hz] at hl; cases hl
        | some z =>
          rw [hz] at hl
          dsimp only at hl
          split at hl
          · cases hl
          · cases hl; rfl
      obtain ⟨p1, p2⟩ := pins_val (D := D) (p := x.pins - 1) hx
      exact stl_mk hL (by omega) (p2 hc) hll hlb (fun j h => by rw [p1]; exact hlv j h) hq
  refine tri_f (by simpa using t3) ?_
  refine Tri.bd (Q := fun r : Unit ⊕ Bool => pu (r = .inl ()) (stars [StL c d n (v + 1) last])) ?_ fun r => tri_p fun hr => ?_
  case refine_2 =>
    subst hr
    exact tri_ret fun q hq => ⟨rfl, hq⟩
  by_cases t4 : y.1.tmod 8 = 4
  · refine tri_t (by simpa using t4) ?_
    refine tri_call [0, 0] (flush_spec (by omega) (by omega) hL (by omega)) fun r => tri_ex fun ks => tri_pu fun ⟨hr, hpm⟩ => tri_flat ?_
    dsimp only [sel, rem, nth, del, cat, upd]
    obtain ⟨p1, p2, _, _, hF⟩ := flush_val hW hL hc hpm
    have hkl : ks.length ≤ 12 := by
      have h1 := hpm.length_eq
      have h2 := List.length_filter_le (fun e : Int × SlotS => e.2.dirty) L
      have h3 := hW.len
      unfold dirtyK at h1
      rw [List.length_map] at h1
      omega
    have hhi := hF.hi
    refine tri_f (by rw [hr]; decide) (tri_end [0, 0] fun q hq => ⟨rfl, ?_⟩)
    refine stl_mk (flushD_live hF.live) ?_ p2 hll hlb (fun j h => by rw [p1 j (by omega)]; exact hlv j h) (up hq)
    rw [flushD_eq hF.live]
    dsimp only
    omega
  · refine tri_f (by simpa using t4) (tri_end [0, 0] fun q hq => ⟨rfl, stl_mk hL (by omega) hc hll hlb hlv (up hq)⟩)

theorem lastAct_spec (hp : plain = true) (hN : 999 < N) (hn1 : 1 ≤ n ∧ n ≤ 9) {v : Nat} (hv : v < 120) {y : ActT} (hy : 0 ≤ y.2.2.1 ∧ y.2.2.1 < 256) {last : List Int} : Tri (stars [StL c d n v last]) (lastAct N (some ⟨c, 0⟩) n y last) fun r => exA fun last' => pu (r = .inl last') (stars [StL c d n (v + 1) last']) := by
  unfold lastAct
  by_cases h0 : 0 ≤ y.2.1 ∧ y.2.1 < (8 : Nat)
  · refine tri_f (by simp; omega) ?_
    refine tri_call [0] (lastSw_spec hp hN hn1 hv hy h0) fun r => tri_ex fun last' => tri_pu fun hr => tri_flat ?_
    subst hr
    dsimp only [sel, rem, nth, del, cat, upd]
    refine tri_ex fun st => tri_pu fun hst => tri_flat ?_
    obtain ⟨L, D⟩ := st
    dsimp only [sel, rem, nth, del, cat, upd]
    refine cache_wf 0 rfl fun hW => ?_
    refine tri_fin [0] (had_spec (last := last') (by omega) hW) fun r q hq => ?_
    obtain ⟨hr, hq⟩ := ent_pu hq
    refine ⟨last', hr, ?_⟩
    rw [stars_one]
    exact ⟨(L, D), hst, ent_flat hq⟩
  · refine tri_t (by simp; omega) (tri_end [0] fun q hq => ⟨last, rfl, ?_⟩)
    refine ent_head (fun q ⟨st, ⟨a1, a2, a3⟩, h⟩ => ⟨st, ⟨a1, by omega, a3⟩, ent_head (fun q h => cache_mono (by omega) (by omega) h) h⟩) hq

theorem last_law (hp : plain = true) (hN : 999 < N) {room : Int} (hroom : 0 ≤ room ∧ room < 256) {s : Sl} {xs : List ActT} (hs : s.len = xs.length) (hx : ∀ x ∈ xs, 0 ≤ x.2.2.1 ∧ x.2.2.1 < 256) : Tri (stars [InA s actT xs]) (F_moatlaw06_CacheLast N room s) fun r => pu (r = true) emp := by
  rw [lastF_eq]
  unfold lastF
  obtain ⟨n, hn⟩ : ∃ n, n = wr .i64 ((wr .i64 (room.tmod (9 : Int))) + (1 : Int)) := ⟨_, rfl⟩
  have hn1 : 1 ≤ n ∧ n ≤ 9 := by
    have h1 : room.tmod 9 = room % 9 := Int.tmod_eq_emod_of_nonneg hroom.1
    have h2 := Int.emod_lt_of_pos room (show (0 : Int) < 9 by decide)
    have h3 := Int.emod_nonneg room (show (9 : Int) ≠ 0 by decide)
    rw [hn, h1, wr64 (n := room % 9) (by omega) (by omega), wr64 (by omega) (by omega)]
    omega
  refine tri_call [] (shown_spec hp (by omega)) fun r => tri_pu fun hr => ?_
  subst hr
  dsimp only [sel, rem, nth, del, cat, upd]
  refine tri_call [] (disk_new (n := 8) (by omega)) fun r => tri_ex fun d => tri_pu fun hr => tri_flat ?_
  subst hr
  dsimp only [sel, rem, nth, del, cat, upd]
  rw [← hn]
  refine tri_call [] (cache_new d 8 (room := n) (by omega)) fun r => tri_ex fun c => tri_pu fun hr => tri_flat ?_
  subst hr
  dsimp only [sel, rem, nth, del, cat, upd]
  refine tri_f (by simp) ?_
  refine tri_call [3] (few_spec hs (by omega)) fun r => tri_pu fun ⟨kk, hk1, hk2, hr⟩ => tri_flat ?_
  subst hr
  dsimp only [sel, rem, nth, del, cat, upd]
  have hL0 : Live 8 (newD 8) := ⟨rfl, rfl, by decide, by decide, by simp [newD]⟩
  refine tri_turn 1 (B := CacheA c d 8 n (0 : Nat) []) rfl (fun _ h => h) ?_
  have loop : ∀ (K : Nat) (j : Nat) (last : List Int), kk - j < K → j ≤ kk → Tri (stars [StL c d n j last, InA s actT xs]) (iter K (fun go_8 (v_7 : Int × List Int) => if (decide (v_7.1 < (kk : Int))) = true then (bd (show M (List Int ⊕ Bool) from bd (idx 4 ⟨s.p, kk⟩ v_7.1) fun q_9 => bd (ldSt [.int .u8, .int .i64, .int .u8, .sl 1] q_9) fun (y_10 : Int × Int × Int × Sl) => lastAct N (some ⟨c, 0⟩) n y_10 v_7.2) fun j_51 => (match j_51 with | Sum.inl j_52 => go_8 ((wr .i64 (v_7.1 + (1 : Int)), j_52)) | Sum.inr j_53 => ret (Sum.inr j_53))) else (ret (Sum.inl v_7.2))) ((j : Int), last) : M (List Int ⊕ Bool)) fun r => exA fun last' => pu (r = .inl last') emp := by
    intro K
    induction K with
    | zero => intro j last hj; omega
    | succ K ih =>
      intro j last hj hj1
      show Tri _ (if _ then _ else _) _
      by_cases hj2 : j < kk
      · refine tri_t (by simp; omega) ?_
        have hjx : j < xs.length := by omega
        refine Tri.bd (Q := fun r : List Int ⊕ Bool => exA fun last' => pu (r = .inl last') (stars [StL c d n (j + 1) last', InA s actT xs])) ?_ fun r => tri_x fun last' => tri_p fun hr => ?_
        · refine tri_row (cts := actT) 1 rfl (by decide) hj2 hjx ?_
          refine tri_fin [0] (lastAct_spec hp hN hn1 (by omega) (hx _ (List.getElem_mem hjx))) fun r q hq => ?_
          obtain ⟨q1, q2, ⟨last', hr, h1⟩, h2, h3⟩ := hq
          exact ⟨last', hr, ent_flat ⟨q1, q2, h1, h2, h3⟩⟩
        · subst hr
          dsimp only
          rw [wr64 (by omega) (by omega)]
          exact ih (j + 1) last' (by omega) (by omega)
      · exact tri_f (by simp; omega) (tri_end [] fun q hq => ⟨last, rfl, hq⟩)
  refine tri_call (Q := fun r : List Int ⊕ Bool => exA fun last' => pu (r = .inl last') emp) [1, 1, 0] ?_ fun r => tri_ex fun last' => tri_pu fun hr => ?_
  · dsimp only [sel, rem, nth, del, cat, upd]
    refine Tri.pre (loop N 0 (List.replicate 8 0) (by omega) (by omega)) fun q hq => ?_
    refine ent_fold (l := [InA s actT xs]) [_, _] (fun q h => ?_) (ent_sel [0, 0, 0] hq)
    have := stl_mk (n := n) (v := 0) (last := List.replicate 8 0) (L := []) hL0 (by decide) (fun k x hx => by cases hx) (by simp) (fun x hx => by rw [(List.mem_replicate.1 hx).2]; omega) (fun k hk => ?_) h
    · rw [stars_one] at this
      exact this
    · rw [List.length_replicate] at hk
      rw [List.getElem_replicate]
      unfold valS secS newD
      dsimp only [lookS]
      rw [Int.toNat_natCast, List.getElem?_replicate, if_pos hk]
      rfl
  · subst hr
    exact tri_end [] fun q hq => ⟨rfl, hq⟩
end
end Go.Moat
