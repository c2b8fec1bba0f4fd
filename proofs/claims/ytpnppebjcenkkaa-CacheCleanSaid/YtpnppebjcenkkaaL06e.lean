/- Layer 6: the law CacheClean, over plain functions. -/
import Derived.Test.YtpnppebjcenkkaaP06c
import Derived.KernelRfl
namespace Go.Moat
open Go.Mini
set_option maxRecDepth 100000

def cleanSw (N : Nat) (cp : Option MA) (y : ActT) (last : List Int) : M (List Int ⊕ Bool) := if (decide (y.1.tmod (8 : Int) = (0 : Int))) = true then (bd (F_cache_Cache_Get N cp y.2.1) fun r_11 => ret (Sum.inl last)) else (bd (show M (List Int ⊕ Bool) from if (decide (y.1.tmod (8 : Int) = (1 : Int))) = true then (bd (F_moatlaw06_patch N y.2.1 y.2.2.1) fun r_12 => bd (F_cache_Cache_Put N cp (r_12.1, r_12.2.1, r_12.2.2)) fun r_13 => bd (show M (List Int ⊕ Bool) from if (decide (r_13 = (0 : Int))) = true then (if ((decide (y.2.1 < (0 : Int))) || (decide ((7 : Int) < y.2.1))) = true then (ret (Sum.inr false)) else (bd (if 0 ≤ y.2.1 ∧ y.2.1 < 8 then ret () else fail) fun _ => bd (if 0 + (y.2.1).toNat * 1 < last.length then ret () else fail) fun _ => ret ((Sum.inl (last.set (0 + (y.2.1).toNat * 1) y.2.2.1))))) else (ret (Sum.inl last))) fun j_14 => (match j_14 with | Sum.inl j_15 => ret (Sum.inl j_15) | Sum.inr j_16 => ret (Sum.inr j_16))) else (ret (Sum.inl last))) fun j_17 => (match j_17 with | Sum.inl j_18 => ret (Sum.inl j_18) | Sum.inr j_19 => ret (Sum.inr j_19)))
def cleanChk (N : Nat) (dp : Option MA) (head : Bool) (last : List Int) : M Bool := bd (show M (Unit ⊕ Bool) from iter N (fun go_35 (v_34 : Int) => if (decide (v_34 < (8 : Int))) = true then (bd (F_disk_Disk_Read N dp v_34) fun r_36 => bd (if (!decide (r_36.2 = (0 : Int))) = false then (bd (toStr r_36.1) fun w_37 => bd (if 0 ≤ v_34 ∧ v_34 < 8 then ret () else fail) fun _ => bd (someOr last[0 + (v_34).toNat * 1]?) fun n_38 => bd (frz (F_moatlaw06_patch N (0 : Int) n_38)) fun r_39 => bd (toStr r_39.2.1) fun w_40 => ret ((!(decide (w_37 = w_40))))) else ret true) fun c_41 => if c_41 = true then (ret (Sum.inr false)) else (go_35 (wr .i64 (v_34 + (1 : Int))))) else (ret ((Sum.inl ())))) (0 : Int)) fun j_42 => (match j_42 with | Sum.inl j_43 => ret head | Sum.inr j_44 => ret j_44)
def cleanFin (N : Nat) (cp dp : Option MA) (head : Bool) (last : List Int) : M Bool := bd (F_cache_Cache_Flush N cp) fun r_26 => bd (if (!decide (r_26 = (0 : Int))) = false then (bd (F_cache_Cache_Dirty N cp) fun r_27 => ret ((!decide ((r_27.len : Int) = (0 : Int))))) else ret true) fun c_28 => if c_28 = true then (ret false) else (bd (F_disk_Disk_Done N dp) fun r_29 => bd (F_cache_Cache_Flush N cp) fun r_30 => bd (if (!decide (r_30 = (0 : Int))) = false then (bd (F_disk_Disk_Done N dp) fun r_31 => ret ((!decide (r_31 = wr .i64 (r_29 + (1 : Int)))))) else ret true) fun c_32 => if c_32 = true then (ret false) else (bd (F_disk_Disk_Crash N dp (0 : Int)) fun r_33 => cleanChk N dp head last))
def cleanF (N : Nat) (room_1 : Int) (l_2 : Sl) : M Bool := bd (F_moatlaw06_shown N) fun r_3 => bd (F_disk_New N (8 : Int)) fun r_4 => bd (F_cache_New N r_4.1 (wr .i64 ((wr .i64 (room_1.tmod (9 : Int))) + (1 : Int)))) fun r_5 => if ((Option.isNone r_5.1) || (!decide (r_5.2 = (0 : Int)))) = true then (ret false) else (bd (F_moatlaw06_few N l_2) fun r_6 => bd (show M (List Int ⊕ Bool) from iter N (fun go_8 (v_7 : Int × List Int) => if (decide (v_7.1 < (r_6.len : Int))) = true then (bd (idx 4 r_6 v_7.1) fun q_9 => bd (ldSt [.int .u8, .int .i64, .int .u8, .sl 1] q_9) fun (y_10 : Int × Int × Int × Sl) => bd (show M (List Int ⊕ Bool) from cleanSw N r_5.1 y_10 v_7.2) fun j_20 => (match j_20 with | Sum.inl j_21 => go_8 ((wr .i64 (v_7.1 + (1 : Int)), j_21)) | Sum.inr j_22 => ret (Sum.inr j_22))) else (ret (Sum.inl v_7.2))) (((0 : Int), List.replicate 8 (0 : Int)))) fun j_23 => (match j_23 with | Sum.inl j_24 => cleanFin N r_5.1 r_4.1 r_3 j_24 | Sum.inr j_25 => ret j_25))
theorem cleanF_eq (N : Nat) (room : Int) (s : Sl) : F_moatlaw06_CacheClean N room s = cleanF N room s := by kernel_rfl

section
variable {N : Nat} {c d : Nat} {n : Int}

/-- A crash where nothing waits. -/
theorem disk_crash0 {D : DskS} (hw : D.waits = []) (hN : 1 ≤ N) : Tri (stars [DiskA d D]) (F_disk_Disk_Crash N (some ⟨d, 0⟩) 0) fun _ => stars [DiskA d { D with waits := [], dead := false, fuse := -1 }] := by
  unfold F_disk_Disk_Crash
  refine tri_f (by simp) ?_
  refine tri_disk 0 rfl fun bs ws hD => ?_
  dsimp only [sel, rem, nth, del, cat, upd]
  refine tri_gL 0 rfl rfl ?_
  rw [hw]
  refine own_len 2 rfl fun hl => ?_
  have hwl : ws.len = 0 := by
    have : (waitsC []).length = 0 := rfl
    omega
  dsimp only
  rw [hwl]
  obtain ⟨K, rfl⟩ : ∃ K, N = K + 1 := ⟨N - 1, by omega⟩
  refine Tri.bd (Q := fun _ => stars [pts d (.cells [.sl (some ⟨bs, 0⟩) D.secs.length 65, .sl ws.p 0 131, .bool D.dead, .int .i64 D.fuse, .int .i64 D.done] false), pts bs (.cells (secsC D.secs) false), OwnA ws 131 (waitsC [])]) ?_ fun _ => ?_
  · rw [iter_S]
    exact tri_f (by simp [wr, IntKind.wrap, IntKind.bits, IntKind.signed]) (tri_ret fun q hq => hq)
  · refine tri_gL 0 rfl rfl ?_
    refine Tri.bd (Q := fun _ => stars [pts d (.cells [.sl (some ⟨bs, 0⟩) D.secs.length 65, .sl ws.p 0 131, .bool D.dead, .int .i64 D.fuse, .int .i64 D.done] false), pts bs (.cells (secsC D.secs) false), OwnA ws 131 (waitsC [])]) ?_ fun _ => ?_
    · rw [iter_S]
      exact tri_f (by simp) (tri_ret fun q hq => hq)
    · refine tri_sF 0 rfl ?_
      dsimp only [sel, rem, nth, del, cat, upd]
      refine tri_sF 0 rfl ?_
      dsimp only [sel, rem, nth, del, cat, upd]
      refine tri_sF 0 rfl ?_
      refine tri_end [0, 0] fun q hq => ?_
      refine disk_fold (bs := bs) (ws := ⟨none, 0⟩) ⟨hD.secs, fun w hw => (by cases hw), hD.many, by dsimp only; omega⟩ ?_
      exact ent_tail (fun q h => ent_tail (fun q h => ent_emp (fun q h => .nil _ h) h) h) hq

/-- How all stands behind so many acts; nothing is pinned. -/
def StC (c d : Nat) (n : Int) (v : Nat) (last : List Int) : HA := exA fun y : List (Int × SlotS) × DskS => pu (Live 8 y.2 ∧ y.2.done ≤ 20 * v ∧ CleanOk y.1 y.2 ∧ last.length = 8 ∧ (∀ x ∈ last, 0 ≤ x ∧ x < 256) ∧ ∀ (k : Nat) (h : k < last.length), (valS y.1 y.2 k).b = pat last[k])
  (stars [CacheA c d 8 n 0 y.1, DiskA d y.2])
theorem stc_mk {v : Nat} {last : List Int} {L : List (Int × SlotS)} {D : DskS} (h1 : Live 8 D) (h2 : D.done ≤ 20 * v) (h3 : CleanOk L D) (h4 : last.length = 8) (h5 : ∀ x ∈ last, 0 ≤ x ∧ x < 256) (h6 : ∀ (k : Nat) (h : k < last.length), (valS L D k).b = pat last[k]) {q : PH} (h : stars [CacheA c d 8 n 0 L, DiskA d D] q) : stars [StC c d n v last] q := by
  rw [stars_one]
  exact ⟨(L, D), ⟨h1, h2, h3, h4, h5, h6⟩, h⟩

theorem out_same {L : List (Int × SlotS)} {D : DskS} {i : Int} (h0 : ¬ (0 ≤ i ∧ i < (8 : Nat))) (bs : List UInt8) (t : Int) : getCL 8 n L D i = L ∧ putCL 8 n L i bs t = L ∧ accD 8 n L D i = D := by
  have he := getCE_out (room := n) (L := L) h0
  unfold getCL putCL accD
  rw [if_neg (by rw [he]; decide), if_neg (by rw [he]; decide), if_neg h0]
  exact ⟨rfl, rfl, rfl⟩

theorem cleanSw_spec (hp : plain = true) (hN : 999 < N) (hn1 : 1 ≤ n ∧ n ≤ 9) {v : Nat} (hv : v < 120) {y : ActT} (hy : 0 ≤ y.2.2.1 ∧ y.2.2.1 < 256) {last : List Int} : Tri (stars [StC c d n v last]) (cleanSw N (some ⟨c, 0⟩) y last) fun r => exA fun last' => pu (r = .inl last') (stars [StC c d n (v + 1) last']) := by
  unfold cleanSw
  refine tri_ex fun st => tri_pu fun ⟨hL, hd, hc, hll, hlb, hlv⟩ => tri_flat ?_
  obtain ⟨L, D⟩ := st
  dsimp only at hL hd hc hlv
  dsimp only [sel, rem, nth, del, cat, upd]
  refine cache_wf 0 rfl fun hW => ?_
  have hac := accD_live hL hW y.2.1
  by_cases t0 : y.1.tmod 8 = 0
  · refine tri_t (by simpa using t0) ?_
    refine tri_call [0, 0] (get_spec hp y.2.1 hL (by omega) (by omega) (by omega)) fun r => tri_pu fun hr => tri_flat ?_
    dsimp only [sel, rem, nth, del, cat, upd]
    refine tri_end [0, 0] fun q hq => ⟨last, rfl, ?_⟩
    by_cases h0 : 0 ≤ y.2.1 ∧ y.2.1 < (8 : Nat)
    · obtain ⟨g1, g2, g3⟩ := get_val hW hL hc h0
      exact stc_mk hac.1 (by omega) g3 hll hlb (fun k h => by rw [g2 k (by omega)]; exact hlv k h) hq
    · obtain ⟨o1, o2, o3⟩ := out_same (n := n) (L := L) (D := D) h0 [] 0
      rw [o1, o3] at hq
      exact stc_mk hL (by omega) hc hll hlb hlv hq
  refine tri_f (by simpa using t0) ?_
  refine Tri.bd (Q := fun r => exA fun last' => pu (r = .inl last') (stars [StC c d n (v + 1) last'])) ?_ fun r => tri_x fun last' => tri_p fun hr => ?_
  case refine_2 =>
    subst hr
    exact tri_ret fun q hq => ⟨last', rfl, hq⟩
  by_cases t1 : y.1.tmod 8 = 1
  · refine tri_t (by simpa using t1) ?_
    refine tri_call [] (patch_spec (by omega) y.2.1 y.2.2.1 hy) fun r => tri_pu fun ⟨g1, g2, g3⟩ => tri_flat ?_
    rw [g1, g2]
    dsimp only [sel, rem, nth, del, cat, upd]
    refine tri_call [1, 1, 0] (put_spec hp y.2.1 (bs := pat y.2.2.1) y.2.2.1 (pat_len _) hL (by omega) (by omega) (by omega)) fun r => tri_pu fun hr => tri_flat ?_
    dsimp only [sel, rem, nth, del, cat, upd]
    by_cases he : getCE 8 n L y.2.1 = 0
    · have h0 : 0 ≤ y.2.1 ∧ y.2.1 < (8 : Nat) := by
        refine Classical.byContradiction fun hh => ?_
        have := getCE_out (room := n) (L := L) hh
        rw [he] at this
        cases this
      rw [he] at hr
      subst hr
      obtain ⟨p1, p2⟩ := put_val hW hL hc h0 he (pat y.2.2.1) y.2.2.1
      obtain ⟨k, hk⟩ : ∃ k : Nat, y.2.1 = k := ⟨y.2.1.toNat, by omega⟩
      have hk8 : k < last.length := by omega
      refine Tri.bd (Q := fun r : List Int ⊕ Bool => exA fun last' => pu (r = .inl last') (stars [StC c d n (v + 1) last'])) ?_ fun r => tri_x fun last' => tri_p fun hr => ?_
      · refine tri_t rfl (tri_f (by simp; omega) ?_)
        refine tri_chk (by omega) (tri_chk (by omega) ?_)
        rw [hk, Int.toNat_natCast, Nat.zero_add, Nat.mul_one]
        refine tri_end [0, 0] fun q hq => ⟨_, rfl, ?_⟩
        rw [hk] at p1 p2 hac
        refine stc_mk hac.1 (by omega) p2 (by rw [List.length_set]; exact hll) (fun x hx => ?_) (fun j hj => ?_) hq
        · rcases List.mem_or_eq_of_mem_set hx with hx | rfl
          · exact hlb x hx
          · exact hy
        · rw [p1 j (by omega), List.getElem_set]
          by_cases e : k = j
          · subst e
            rw [if_pos rfl, if_pos rfl]
          · rw [if_neg (by omega), if_neg e]
            exact hlv j (by rw [List.length_set] at hj; exact hj)
      · subst hr
        exact tri_ret fun q hq => ⟨last', rfl, hq⟩
    · refine Tri.bd (Q := fun r : List Int ⊕ Bool => exA fun last' => pu (r = .inl last') (stars [StC c d n (v + 1) last'])) ?_ fun r => tri_x fun last' => tri_p fun hr => ?_
      · refine tri_f (by rw [hr]; simpa using he) (tri_end [0, 0] fun q hq => ⟨last, rfl, ?_⟩)
        by_cases h0 : 0 ≤ y.2.1 ∧ y.2.1 < (8 : Nat)
        · obtain ⟨p1, p2⟩ := put_not (D := D) he (pat y.2.2.1) y.2.2.1 h0
          rw [p1, p2] at hq
          exact stc_mk hL (by omega) hc hll hlb hlv hq
        · obtain ⟨o1, o2, o3⟩ := out_same (n := n) (L := L) (D := D) h0 (pat y.2.2.1) y.2.2.1
          rw [o2, o3] at hq
          exact stc_mk hL (by omega) hc hll hlb hlv hq
      · subst hr
        exact tri_ret fun q hq => ⟨last', rfl, hq⟩
  · refine tri_f (by simpa using t1) (tri_end [0, 0] fun q hq => ⟨last, rfl, stc_mk hL (by omega) hc hll hlb hlv hq⟩)

theorem chk_spec (hN : 999 < N) {D : DskS} (hL : Live 8 D) {last : List Int} (hll : last.length = 8) (hlb : ∀ x ∈ last, 0 ≤ x ∧ x < 256) (hs : ∀ (k : Nat) (h : k < last.length), (secS D k).b = pat last[k]) : Tri (stars [DiskA d D]) (cleanChk N (some ⟨d, 0⟩) true last) fun r => pu (r = true) emp := by
  unfold cleanChk
  have loop : ∀ (K : Nat) (j : Nat), 8 - j < K → j ≤ 8 → Tri (stars [DiskA d D]) (iter K (fun go_35 (v_34 : Int) => if (decide (v_34 < (8 : Int))) = true then (bd (F_disk_Disk_Read N (some ⟨d, 0⟩) v_34) fun r_36 => bd (if (!decide (r_36.2 = (0 : Int))) = false then (bd (toStr r_36.1) fun w_37 => bd (if 0 ≤ v_34 ∧ v_34 < 8 then ret () else fail) fun _ => bd (someOr last[0 + (v_34).toNat * 1]?) fun n_38 => bd (frz (F_moatlaw06_patch N (0 : Int) n_38)) fun r_39 => bd (toStr r_39.2.1) fun w_40 => ret ((!(decide (w_37 = w_40))))) else ret true) fun c_41 => if c_41 = true then (ret (Sum.inr false)) else (go_35 (wr .i64 (v_34 + (1 : Int))))) else (ret ((Sum.inl ())))) (j : Int) : M (Unit ⊕ Bool)) fun r => pu (r = .inl ()) emp := by
    intro K
    induction K with
    | zero => intro j hj; omega
    | succ K ih =>
      intro j hj h1
      show Tri _ (if _ then _ else _) _
      by_cases hj2 : j < 8
      · refine tri_t (by simp; omega) ?_
        have he : getE D j = 0 := by
          unfold getE
          rw [if_pos ⟨by omega, by rw [hL.secs]; omega⟩, hL.dead]
          rfl
        refine tri_call [0] (disk_read j) fun r => tri_pu fun ⟨hr, _⟩ => tri_flat ?_
        rw [if_pos he, secS_getS hL ⟨by omega, by omega⟩, hs j (by omega)]
        rw [he] at hr
        dsimp only [sel, rem, nth, del, cat, upd]
        refine tri_call [1] (Q := fun r : Bool => pu (r = false) emp) ?_ fun r => tri_pu fun hr => ?_
        · dsimp only [sel, rem, nth, del, cat, upd]
          refine tri_t (by rw [hr]; rfl) ?_
          refine tri_call [0] own_toStr fun w => tri_pu fun hw => tri_flat ?_
          subst hw
          dsimp only [sel, rem, nth, del, cat, upd]
          refine tri_chk (by omega) ?_
          rw [Int.toNat_natCast, Nat.zero_add, Nat.mul_one, List.getElem?_eq_getElem (by omega)]
          refine tri_some ?_
          refine tri_call [] (tri_frzn (patch_spec (by omega) 0 _ (hlb _ (List.getElem_mem (by omega))))) fun r => tri_pu fun _ => tri_flat ?_
          dsimp only [sel, rem, nth, del, cat, upd]
          refine tri_call [0] own_toStr fun w => tri_pu fun hw => tri_flat ?_
          subst hw
          exact tri_end [] fun q hq => ⟨by simp, hq⟩
        · subst hr
          dsimp only [sel, rem, nth, del, cat, upd]
          refine tri_f (by simp) ?_
          rw [wr64 (by omega) (by omega)]
          exact tri_last [1] (ih (j + 1) (by omega) (by omega))
      · exact tri_f (by simp; omega) (tri_end [] fun q hq => ⟨rfl, hq⟩)
  refine tri_call [0] (loop N 0 (by omega) (by omega)) fun r => tri_pu fun hr => ?_
  subst hr
  exact tri_end [] fun q hq => ⟨rfl, hq⟩

theorem nil_of_no_mem {α : Type} {l : List α} (h : ∀ x, x ∉ l) : l = [] := by
  cases l with
  | nil => rfl
  | cons a l => exact absurd (by simp) (h a)

theorem cleanFin_spec (hp : plain = true) (hN : 999 < N) (hn1 : 1 ≤ n ∧ n ≤ 9) {v : Nat} (hv : v ≤ 120) {last : List Int} : Tri (stars [StC c d n v last]) (cleanFin N (some ⟨c, 0⟩) (some ⟨d, 0⟩) true last) fun r => pu (r = true) emp := by
  unfold cleanFin
  refine tri_ex fun st => tri_pu fun ⟨hL, hd, hc, hll, hlb, hlv⟩ => tri_flat ?_
  obtain ⟨L, D⟩ := st
  dsimp only at hL hd hc hlv
  dsimp only [sel, rem, nth, del, cat, upd]
  refine cache_wf 0 rfl fun hW => ?_
  refine tri_call [0, 0] (flush_spec (by omega) (by omega) hL (by omega)) fun r => tri_ex fun ks => tri_pu fun ⟨hr, hpm⟩ => tri_flat ?_
  subst hr
  dsimp only [sel, rem, nth, del, cat, upd]
  obtain ⟨p1, p2, p3, p4, hF⟩ := flush_val hW hL hc hpm
  have hkl : ks.length ≤ 12 := by
    have h1 := hpm.length_eq
    have h2 := List.length_filter_le (fun e : Int × SlotS => e.2.dirty) L
    have h3 := hW.len
    unfold dirtyK at h1
    rw [List.length_map] at h1
    omega
  have hnd1 : ∀ k, k ∉ dirtyK (ks.foldl fstep (L, D)).1 := by
    intro k hk
    obtain ⟨x, hx, hxd⟩ := (dirty_mem hF.wf.nodup).1 hk
    rw [hF.look k] at hx
    have hmem : k ∈ ks ↔ ∃ x, lookS L k = some x ∧ x.dirty = true := hpm.mem_iff.trans (dirty_mem hW.nodup)
    by_cases hm : k ∈ ks
    · rw [if_pos hm] at hx
      cases hl : lookS L k with
      | none => rw [hl] at hx; cases hx
      | some z =>
        rw [hl] at hx
        cases hx
        have := (hW.pins _ (lookS_mem hl)).2
        dsimp only at this
        unfold cleanS at hxd
        rw [if_neg (by omega)] at hxd
        cases hxd
    · rw [if_neg hm] at hx
      exact hm (hmem.2 ⟨x, hx, hxd⟩)
  have hd0 : dirtyK (ks.foldl fstep (L, D)).1 = [] := nil_of_no_mem hnd1
  have hL1 := flushD_live hF.live
  have hhi := hF.hi
  have hD1 := flushD_eq hF.live
  have hs1 : ∀ (k : Nat) (h : k < last.length), (secS (flushD (ks.foldl fstep (L, D)).2) k).b = pat last[k] := fun k h => by
    rw [p3 k (by omega) fun x hx => (hW.pins _ (lookS_mem hx)).2]
    exact hlv k h
  have hdone1 : (flushD (ks.foldl fstep (L, D)).2).done ≤ 20 * v + 13 := by
    rw [hD1]
    dsimp only
    omega
  generalize (ks.foldl fstep (L, D)).1 = L1 at hd0 ⊢
  generalize flushD (ks.foldl fstep (L, D)).2 = D1 at hL1 hs1 hdone1 ⊢
  refine tri_call [0] (Q := fun r : Bool => pu (r = false) (stars [CacheA c d 8 n 0 L1])) ?_ fun r => tri_pu fun hr => tri_flat ?_
  · dsimp only [sel, rem, nth, del, cat, upd]
    refine tri_t (by decide) ?_
    refine tri_call [0] (dirty_spec (by omega) (by omega)) fun r => tri_ex fun js => tri_pu fun hj => tri_flat ?_
    dsimp only [sel, rem, nth, del, cat, upd]
    rw [hd0] at hj
    have hj0 : js = [] := hj.eq_nil
    subst hj0
    refine own_lenI 1 rfl fun hlen => ?_
    refine tri_end [0] fun q hq => ⟨?_, hq⟩
    rw [hlen]
    rfl
  subst hr
  dsimp only [sel, rem, nth, del, cat, upd]
  refine tri_f (by simp) ?_
  refine tri_call [1] disk_done fun r29 => tri_pu fun hr29 => tri_flat ?_
  dsimp only [sel, rem, nth, del, cat, upd]
  refine tri_call [1, 0] (flush_spec (by omega) (by omega) hL1 (by omega)) fun r => tri_ex fun js => tri_pu fun ⟨hr, hj⟩ => tri_flat ?_
  subst hr
  rw [hd0] at hj
  have hj0 : js = [] := hj.eq_nil
  subst hj0
  dsimp only [sel, rem, nth, del, cat, upd]
  have hD2 := flushD_eq hL1
  have hL2 := flushD_live hL1
  dsimp only [List.foldl_nil]
  refine tri_call [1] (Q := fun r : Bool => pu (r = false) (stars [DiskA d (flushD D1)])) ?_ fun r => tri_pu fun hr => tri_flat ?_
  · dsimp only [sel, rem, nth, del, cat, upd]
    refine tri_t (by decide) ?_
    refine tri_call [0] disk_done fun r31 => tri_pu fun hr31 => tri_flat ?_
    dsimp only [sel, rem, nth, del, cat, upd]
    refine tri_end [0] fun q hq => ⟨?_, hq⟩
    have h0 := hL1.done
    have : (flushD D1).done = D1.done + 1 := by rw [hD2]
    rw [hr31, hr29, this, wr64 (by omega) (by omega)]
    simp
  subst hr
  dsimp only [sel, rem, nth, del, cat, upd]
  refine tri_f (by simp) ?_
  refine tri_call [0] (disk_crash0 (by rw [hD2]) (by omega)) fun _ => tri_flat ?_
  dsimp only [sel, rem, nth, del, cat, upd]
  have hD3 : ({ flushD D1 with waits := [], dead := false, fuse := -1 } : DskS) = flushD D1 := by
    rw [hD2]
    have h1 := hL1.dead
    have h2 := hL1.fuse
    cases D1
    dsimp only at h1 h2 ⊢
    rw [h1, h2]
  rw [hD3]
  refine tri_last [0] (chk_spec hN hL2 hll hlb fun k h => ?_)
  have : secS (flushD D1) k = secS D1 k := by unfold secS; rw [hD2]
  rw [this]
  exact hs1 k h

theorem clean_law (hp : plain = true) (hN : 999 < N) {room : Int} (hroom : 0 ≤ room ∧ room < 256) {s : Sl} {xs : List ActT} (hs : s.len = xs.length) (hx : ∀ x ∈ xs, 0 ≤ x.2.2.1 ∧ x.2.2.1 < 256) : Tri (stars [InA s actT xs]) (F_moatlaw06_CacheClean N room s) fun r => pu (r = true) emp := by
  rw [cleanF_eq]
  unfold cleanF
  obtain ⟨n, hn⟩ : ∃ n, n = wr .i64 ((wr .i64 (room.tmod (9 : Int))) + (1 : Int)) := ⟨_, rfl⟩
  have hn1 : 1 ≤ n ∧ n ≤ 9 := by
    have h1 : room.tmod 9 = room % 9 := Int.tmod_eq_emod_of_nonneg hroom.1
    have h2 := Int.emod_lt_of_pos room (show (0 : Int) < 9 by decide)
    have h3 := Int.emod_nonneg room (show (9 : Int) ≠ 0 by decide)
    rw [hn, h1, wr64 (n := room % 9) (by omega) (by omega), wr64 (by omega) (by omega)]
    omega
  refine tri_call [] (shown_spec hp (by omega)) fun r => tri_pu fun hr => ?_
  subst hr
  dsimp only [sel, rem, nth, del, cat, upd]
  refine tri_call [] (disk_new (n := 8) (by omega)) fun r => tri_ex fun d => tri_pu fun hr => tri_flat ?_
  subst hr
  dsimp only [sel, rem, nth, del, cat, upd]
  rw [← hn]
  refine tri_call [] (cache_new d 8 (room := n) (by omega)) fun r => tri_ex fun c => tri_pu fun hr => tri_flat ?_
  subst hr
  dsimp only [sel, rem, nth, del, cat, upd]
  refine tri_f (by simp) ?_
  refine tri_call [3] (few_spec hs (by omega)) fun r => tri_pu fun ⟨kk, hk1, hk2, hr⟩ => tri_flat ?_
  subst hr
  dsimp only [sel, rem, nth, del, cat, upd]
  have hL0 : Live 8 (newD 8) := ⟨rfl, rfl, by decide, by decide, by simp [newD]⟩
  have loop : ∀ (K : Nat) (j : Nat) (last : List Int), kk - j < K → j ≤ kk → Tri (stars [StC c d n j last, InA s actT xs]) (iter K (fun go_8 (v_7 : Int × List Int) => if (decide (v_7.1 < (kk : Int))) = true then (bd (idx 4 ⟨s.p, kk⟩ v_7.1) fun q_9 => bd (ldSt [.int .u8, .int .i64, .int .u8, .sl 1] q_9) fun (y_10 : Int × Int × Int × Sl) => bd (show M (List Int ⊕ Bool) from cleanSw N (some ⟨c, 0⟩) y_10 v_7.2) fun j_20 => (match j_20 with | Sum.inl j_21 => go_8 ((wr .i64 (v_7.1 + (1 : Int)), j_21)) | Sum.inr j_22 => ret (Sum.inr j_22))) else (ret (Sum.inl v_7.2))) ((j : Int), last) : M (List Int ⊕ Bool)) fun r => exA fun last' => pu (r = .inl last') (stars [StC c d n kk last']) := by
    intro K
    induction K with
    | zero => intro j last hj; omega
    | succ K ih =>
      intro j last hj hj1
      show Tri _ (if _ then _ else _) _
      by_cases hj2 : j < kk
      · refine tri_t (by simp; omega) ?_
        have hjx : j < xs.length := by omega
        refine tri_row (cts := actT) 1 rfl (by decide) hj2 hjx ?_
        refine tri_call [0] (cleanSw_spec hp hN hn1 (by omega) (hx _ (List.getElem_mem hjx))) fun r => tri_ex fun last' => tri_pu fun hr => tri_flat ?_
        subst hr
        dsimp only [sel, rem, nth, del, cat, upd]
        rw [wr64 (by omega) (by omega)]
        exact ih (j + 1) last' (by omega) (by omega)
      · have : j = kk := by omega
        subst this
        exact tri_f (by simp) (tri_end [0] fun q hq => ⟨last, rfl, hq⟩)
  refine tri_call (Q := fun r : List Int ⊕ Bool => exA fun last' => pu (r = .inl last') (stars [StC c d n kk last'])) [1, 1, 0] ?_ fun r => tri_ex fun last' => tri_pu fun hr => tri_flat ?_
  · dsimp only [sel, rem, nth, del, cat, upd]
    refine Tri.pre (loop N 0 (List.replicate 8 0) (by omega) (by omega)) fun q hq => ?_
    refine ent_fold (l := [InA s actT xs]) [_, _] (fun q h => ?_) (ent_sel [0, 0, 0] hq)
    have := stc_mk (n := n) (v := 0) (last := List.replicate 8 0) (L := []) hL0 (by decide) (fun k x hx => by cases hx) (by simp) (fun x hx => by rw [(List.mem_replicate.1 hx).2]; omega) (fun k hk => ?_) h
    · rw [stars_one] at this
      exact this
    · rw [List.length_replicate] at hk
      rw [List.getElem_replicate]
      unfold valS secS newD
      dsimp only [lookS]
      rw [Int.toNat_natCast, List.getElem?_replicate, if_pos hk]
      rfl
  · subst hr
    dsimp only [sel, rem, nth, del, cat, upd]
    exact tri_last [0] (cleanFin_spec hp hN hn1 (by omega))
end
end Go.Moat
