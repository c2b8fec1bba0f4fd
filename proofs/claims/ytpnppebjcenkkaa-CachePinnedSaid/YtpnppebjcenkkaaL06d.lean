/- Layer 6: the law CachePinned, over plain functions. -/
import Derived.Test.YtpnppebjcenkkaaP06c
import Derived.KernelRfl
namespace Go.Moat
open Go.Mini
set_option maxRecDepth 100000

def pinSw (N : Nat) (cp : Option MA) (y : ActT) : M (Unit ⊕ Bool) := if (decide (y.1.tmod (8 : Int) = (0 : Int))) = true then (bd (F_cache_Cache_Get N cp y.2.1) fun r_16 => ret ((Sum.inl ()))) else (bd (show M (Unit ⊕ Bool) from if (decide (y.1.tmod (8 : Int) = (1 : Int))) = true then (bd (F_moatlaw06_patch N y.2.1 y.2.2.1) fun r_17 => bd (F_cache_Cache_Put N cp (r_17.1, r_17.2.1, r_17.2.2)) fun r_18 => ret ((Sum.inl ()))) else (bd (show M (Unit ⊕ Bool) from if (decide (y.1.tmod (8 : Int) = (4 : Int))) = true then (bd (F_cache_Cache_Flush N cp) fun r_19 => if (!decide (r_19 = (0 : Int))) = true then (ret (Sum.inr false)) else (ret ((Sum.inl ())))) else (ret ((Sum.inl ())))) fun j_20 => (match j_20 with | Sum.inl j_21 => ret ((Sum.inl ())) | Sum.inr j_22 => ret (Sum.inr j_22)))) fun j_23 => (match j_23 with | Sum.inl j_24 => ret ((Sum.inl ())) | Sum.inr j_25 => ret (Sum.inr j_25)))
def pinRd (N : Nat) (r_29 : Sl × Int) : M Bool := (if (!decide (r_29.2 = (0 : Int))) = false then (bd (toStr r_29.1) fun w_30 => bd (frz (F_moatlaw06_patch N (0 : Int) (0 : Int))) fun r_31 => bd (toStr r_31.2.1) fun w_32 => ret ((!(decide (w_30 = w_32))))) else ret true)
def pinFin (N : Nat) (cp dp : Option MA) (head : Bool) : M Bool := bd (F_cache_Cache_Get N cp (2 : Int)) fun r_37 => bd (F_cache_Cache_Unpin N cp (2 : Int)) fun r_38 => bd (if (!decide (r_38 = (0 : Int))) = false then (bd (F_cache_Cache_Flush N cp) fun r_39 => ret ((!decide (r_39 = (0 : Int))))) else ret true) fun c_40 => if c_40 = true then (ret false) else (bd (F_disk_Disk_Read N dp (2 : Int)) fun r_41 => bd (if (head && (decide (r_41.2 = (0 : Int)))) = true then (bd (toStr r_41.1) fun w_42 => bd (toStr r_37.1) fun w_43 => ret ((decide (w_42 = w_43)))) else ret false) fun c_44 => ret ((c_44 && (decide ((r_37.1.len : Int) = (64 : Int))))))
def pinnedF (N : Nat) (room_1 : Int) (l_2 : Sl) : M Bool := bd (F_moatlaw06_shown N) fun r_3 => bd (F_disk_New N (8 : Int)) fun r_4 => bd (F_cache_New N r_4.1 (wr .i64 ((wr .i64 (room_1.tmod (8 : Int))) + (2 : Int)))) fun r_5 => bd (if ((Option.isNone r_5.1) || (!decide (r_5.2 = (0 : Int)))) = false then (bd (F_moatlaw06_patch N (2 : Int) (50 : Int)) fun r_6 => bd (F_cache_Cache_Put N r_5.1 (r_6.1, r_6.2.1, r_6.2.2)) fun r_7 => ret ((!decide (r_7 = (0 : Int))))) else ret true) fun c_8 => bd (if c_8 = false then (bd (F_cache_Cache_Pin N r_5.1 (2 : Int)) fun r_9 => ret ((!decide (r_9 = (0 : Int))))) else ret true) fun c_10 => if c_10 = true then (ret false) else (bd (F_moatlaw06_few N l_2) fun r_11 => bd (show M (Unit ⊕ Bool) from iter N (fun go_13 (v_12 : Int) => if (decide (v_12 < (r_11.len : Int))) = true then (bd (idx 4 r_11 v_12) fun q_14 => bd (ldSt [.int .u8, .int .i64, .int .u8, .sl 1] q_14) fun (y_15 : Int × Int × Int × Sl) => bd (show M (Unit ⊕ Bool) from pinSw N r_5.1 y_15) fun j_26 => (match j_26 with | Sum.inl j_27 => bd (F_disk_Disk_Read N r_4.1 (2 : Int)) fun r_29 => bd (pinRd N r_29) fun c_33 => if c_33 = true then (ret (Sum.inr false)) else (go_13 (wr .i64 (v_12 + (1 : Int)))) | Sum.inr j_28 => ret (Sum.inr j_28))) else (ret ((Sum.inl ())))) (0 : Int)) fun j_34 => (match j_34 with | Sum.inl j_35 => pinFin N r_5.1 r_4.1 r_3 | Sum.inr j_36 => ret j_36))
theorem pinnedF_eq (N : Nat) (room : Int) (s : Sl) : F_moatlaw06_CachePinned N room s = pinnedF N room s := by kernel_rfl

section
variable {N : Nat} {c d : Nat} {n : Int}

/-- How all stands behind so many acts: the pinned sector is kept, and the disk has nothing of it. -/
def PinOk (L : List (Int × SlotS)) (D : DskS) : Prop := Live 8 D ∧ CleanOk L D ∧ (∃ x, lookS L 2 = some x ∧ x.pins = 1 ∧ x.dirty = true) ∧ (secS D 2).b = pat 0
def StP (c d : Nat) (n : Int) (v : Nat) : HA := exA fun y : List (Int × SlotS) × DskS => pu (PinOk y.1 y.2 ∧ y.2.done ≤ 20 * v) (stars [CacheA c d 8 n 1 y.1, DiskA d y.2])
theorem stp_mk {v : Nat} {L : List (Int × SlotS)} {D : DskS} (h1 : PinOk L D) (h2 : D.done ≤ 20 * v) {q : PH} (h : stars [CacheA c d 8 n 1 L, DiskA d D] q) : stars [StP c d n v] q := by
  rw [stars_one]
  exact ⟨(L, D), ⟨h1, h2⟩, h⟩

theorem rest_two {P : Int} {L : List (Int × SlotS)} (hW : WfE 8 n P L) {i : Int} (hi : i ≠ 2) {x : SlotS} (hx : lookS L 2 = some x) (hp : x.pins = 1) : lookS (restC n L i) 2 = some x := by
  unfold restC
  cases hl : lookS L i with
  | some y => dsimp only; rw [lookS_without, if_neg (fun c => hi c.symm)]; exact hx
  | none =>
    dsimp only
    unfold placeL
    split
    · exact hx
    · split
      · rename_i v hv
        rw [lookS_without, if_neg]
        · exact hx
        · rintro h
          obtain ⟨h1, h2⟩ := victim_mem hv
          have := lookS_of_mem hW.nodup h1
          rw [← h, hx] at this
          cases this
          omega
      · exact hx

theorem get_pin {L : List (Int × SlotS)} {D : DskS} (h : PinOk L D) (hW : WfE 8 n 1 L) (i : Int) : PinOk (getCL 8 n L D i) (accD 8 n L D i) := by
  obtain ⟨hL, hc, ⟨x, hx, hx1, hx2⟩, hs⟩ := h
  by_cases h0 : 0 ≤ i ∧ i < (8 : Nat)
  · obtain ⟨g1, g2, g3⟩ := get_val hW hL hc h0
    obtain ⟨r1, r2, r3, r4⟩ := rest_val hW hL hc h0
    refine ⟨(accD_live hL hW i).1, g3, ⟨x, ?_, hx1, hx2⟩, ?_⟩
    · unfold getCL
      split
      · show (if (2 : Int) = i then some (getCX n L D i) else lookS (restC n L i) 2) = some x
        by_cases e : (2 : Int) = i
        · rw [if_pos e, ← e]
          unfold getCX
          rw [hx]
        · rw [if_neg e]
          exact rest_two hW (fun c => e c.symm) hx hx1
      · exact hx
    · rw [r4 2 (by decide) fun y hy => by rw [hx] at hy; cases hy; exact .inl (by omega)]
      exact hs
  · have he := getCE_out (room := n) (L := L) h0
    unfold getCL accD
    rw [if_neg (by rw [he]; decide), if_neg h0]
    exact ⟨hL, hc, ⟨x, hx, hx1, hx2⟩, hs⟩

theorem put_pin {L : List (Int × SlotS)} {D : DskS} (h : PinOk L D) (hW : WfE 8 n 1 L) (i : Int) (bs : List UInt8) (t : Int) : PinOk (putCL 8 n L i bs t) (accD 8 n L D i) := by
  obtain ⟨hL, hc, ⟨x, hx, hx1, hx2⟩, hs⟩ := h
  by_cases h0 : 0 ≤ i ∧ i < (8 : Nat)
  · rcases getCE_cases (room := n) (L := L) h0 with he | he
    · obtain ⟨g1, g2⟩ := put_val hW hL hc h0 he bs t
      obtain ⟨r1, r2, r3, r4⟩ := rest_val hW hL hc h0
      refine ⟨(accD_live hL hW i).1, g2, ?_, ?_⟩
      · unfold putCL
        rw [if_pos he]
        by_cases e : (2 : Int) = i
        · refine ⟨putX L i bs t, ?_, ?_, rfl⟩
          · show (if (2 : Int) = i then some (putX L i bs t) else lookS (restC n L i) 2) = _
            rw [if_pos e]
          · unfold putX
            rw [← e, hx]
            exact hx1
        · refine ⟨x, ?_, hx1, hx2⟩
          show (if (2 : Int) = i then some (putX L i bs t) else lookS (restC n L i) 2) = some x
          rw [if_neg e]
          exact rest_two hW (fun c => e c.symm) hx hx1
      · rw [r4 2 (by decide) fun y hy => by rw [hx] at hy; cases hy; exact .inl (by omega)]
        exact hs
    · obtain ⟨p1, p2⟩ := put_not (D := D) (by rw [he]; decide) bs t h0
      rw [p1, p2]
      exact ⟨hL, hc, ⟨x, hx, hx1, hx2⟩, hs⟩
  · have he := getCE_out (room := n) (L := L) h0
    unfold putCL accD
    rw [if_neg (by rw [he]; decide), if_neg h0]
    exact ⟨hL, hc, ⟨x, hx, hx1, hx2⟩, hs⟩

theorem pinSw_spec (hp : plain = true) (hN : 999 < N) (hn1 : 2 ≤ n ∧ n ≤ 9) {v : Nat} (hv : v < 120) {y : ActT} (hy : 0 ≤ y.2.2.1 ∧ y.2.2.1 < 256) : Tri (stars [StP c d n v]) (pinSw N (some ⟨c, 0⟩) y) fun r => pu (r = .inl ()) (stars [StP c d n (v + 1)]) := by
  unfold pinSw
  refine tri_ex fun st => tri_pu fun ⟨hok, hd⟩ => tri_flat ?_
  obtain ⟨L, D⟩ := st
  dsimp only at hok hd
  dsimp only [sel, rem, nth, del, cat, upd]
  refine cache_wf 0 rfl fun hW => ?_
  have hL := hok.1
  have hac := accD_live hL hW y.2.1
  by_cases t0 : y.1.tmod 8 = 0
  · refine tri_t (by simpa using t0) ?_
    refine tri_call [0, 0] (get_spec hp y.2.1 hL (by omega) (by omega) (by omega)) fun r => tri_pu fun hr => tri_flat ?_
    dsimp only [sel, rem, nth, del, cat, upd]
    exact tri_end [0, 0] fun q hq => ⟨rfl, stp_mk (get_pin hok hW _) (by omega) hq⟩
  refine tri_f (by simpa using t0) ?_
  refine Tri.bd (Q := fun r : Unit ⊕ Bool => pu (r = .inl ()) (stars [StP c d n (v + 1)])) ?_ fun r => tri_p fun hr => ?_
  case refine_2 =>
    subst hr
    exact tri_ret fun q hq => ⟨rfl, hq⟩
  by_cases t1 : y.1.tmod 8 = 1
  · refine tri_t (by simpa using t1) ?_
    refine tri_call [] (patch_spec (by omega) y.2.1 y.2.2.1 hy) fun r => tri_pu fun ⟨g1, g2, g3⟩ => tri_flat ?_
    rw [g1, g2]
    dsimp only [sel, rem, nth, del, cat, upd]
    refine tri_call [1, 1, 0] (put_spec hp y.2.1 (bs := pat y.2.2.1) y.2.2.1 (pat_len _) hL (by omega) (by omega) (by omega)) fun r => tri_pu fun hr => tri_flat ?_
    dsimp only [sel, rem, nth, del, cat, upd]
    exact tri_end [0, 0] fun q hq => ⟨rfl, stp_mk (put_pin hok hW _ _ _) (by omega) hq⟩
  refine tri_f (by simpa using t1) ?_
  refine Tri.bd (Q := fun r : Unit ⊕ Bool => pu (r = .inl ()) (stars [StP c d n (v + 1)])) ?_ fun r => tri_p fun hr => ?_
  case refine_2 =>
    subst hr
    exact tri_ret fun q hq => ⟨rfl, hq⟩
  by_cases t4 : y.1.tmod 8 = 4
  · refine tri_t (by simpa using t4) ?_
    refine tri_call [0, 0] (flush_spec (by omega) (by omega) hL (by omega)) fun r => tri_ex fun ks => tri_pu fun ⟨hr, hpm⟩ => tri_flat ?_
    dsimp only [sel, rem, nth, del, cat, upd]
    obtain ⟨_, hc, ⟨x, hx, hx1, hx2⟩, hs⟩ := hok
    obtain ⟨p1, p2, p3, p4, hF⟩ := flush_val hW hL hc hpm
    have hkl : ks.length ≤ 12 := by
      have h1 := hpm.length_eq
      have h2 := List.length_filter_le (fun e : Int × SlotS => e.2.dirty) L
      have h3 := hW.len
      unfold dirtyK at h1
      rw [List.length_map] at h1
      omega
    have hhi := hF.hi
    have hlk := hF.look 2
    refine tri_f (by rw [hr]; decide) (tri_end [0, 0] fun q hq => ⟨rfl, ?_⟩)
    refine stp_mk ⟨flushD_live hF.live, p2, ⟨x, ?_, hx1, hx2⟩, ?_⟩ ?_ hq
    · rw [hlk, hx]
      split
      · simp [cleanS, hx1]
      · rfl
    · rw [p4 2 (by decide) fun y hy => by rw [hx] at hy; cases hy; omega]
      exact hs
    · rw [flushD_eq hF.live]
      dsimp only
      omega
  · exact tri_f (by simpa using t4) (tri_end [0, 0] fun q hq => ⟨rfl, stp_mk hok (by omega) hq⟩)

theorem pinRd_spec (hN : 999 < N) {r : Sl × Int} (hr : r.2 = 0) : Tri (stars [OwnA r.1 1 (bytesOf (pat 0))]) (pinRd N r) fun r => pu (r = false) emp := by
  unfold pinRd
  refine tri_t (by rw [hr]; rfl) ?_
  refine tri_call [0] own_toStr fun w => tri_pu fun hw => tri_flat ?_
  subst hw
  dsimp only [sel, rem, nth, del, cat, upd]
  refine tri_call [] (tri_frzn (patch_spec (by omega) 0 0 (by omega))) fun r => tri_pu fun _ => tri_flat ?_
  dsimp only [sel, rem, nth, del, cat, upd]
  refine tri_call [0] own_toStr fun w => tri_pu fun hw => tri_flat ?_
  subst hw
  exact tri_end [] fun q hq => ⟨by simp, hq⟩

theorem read_two {n' : Nat} {D : DskS} (hL : Live 8 D) {k : Int} (hk : 0 ≤ k ∧ k < (8 : Nat)) : getE D k = 0 ∧ getS D k = secS D k := by
  refine ⟨?_, secS_getS hL hk⟩
  unfold getE
  rw [if_pos ⟨hk.1, by rw [hL.secs]; exact hk.2⟩, hL.dead]
  rfl

theorem pinFin_spec (hp : plain = true) (hN : 999 < N) (hn1 : 2 ≤ n ∧ n ≤ 9) {v : Nat} (hv : v ≤ 120) : Tri (stars [StP c d n v]) (pinFin N (some ⟨c, 0⟩) (some ⟨d, 0⟩) true) fun r => pu (r = true) emp := by
  unfold pinFin
  refine tri_ex fun st => tri_pu fun ⟨hok, hd⟩ => tri_flat ?_
  obtain ⟨L, D⟩ := st
  dsimp only at hok hd
  dsimp only [sel, rem, nth, del, cat, upd]
  refine cache_wf 0 rfl fun hW => ?_
  have hL := hok.1
  obtain ⟨_, hc, ⟨x, hx, hx1, hx2⟩, hs⟩ := hok
  have he : getCE 8 n L 2 = 0 := by unfold getCE; rw [if_pos (by decide), hx]
  have hcx : getCX n L D 2 = x := by unfold getCX; rw [hx]
  have hac : accD 8 n L D 2 = D := by unfold accD; rw [if_pos (by decide), hx]
  have hcl : getCL 8 n L D 2 = (2, x) :: without L 2 := by
    unfold getCL restC
    rw [if_pos he, hcx, hx]
  obtain ⟨_, gv2, gv3⟩ := get_val hW hL hc (i := 2) (by decide)
  rw [hcl, hac] at gv2 gv3
  refine tri_call [0, 0] (get_spec hp 2 hL (by omega) (by omega) (by omega)) fun r37 => tri_pu fun hr37 => tri_flat ?_
  rw [if_pos he, hcx, hcl, hac]
  dsimp only [sel, rem, nth, del, cat, upd]
  have hl2 : lookS ((2, x) :: without L 2) 2 = some x := rfl
  have hcu : canUnpin ((2, x) :: without L 2) 2 = some x := by
    unfold canUnpin
    rw [hl2]
    dsimp only
    rw [if_neg (by omega)]
  refine tri_call [0] (unpin_spec 2 (by omega)) fun r => tri_pu fun hr => tri_flat ?_
  rw [hcu] at hr ⊢
  dsimp only [sel, rem, nth, del, cat, upd]
  have hr' : r = 0 := hr
  subst hr'
  obtain ⟨pv1, pv2⟩ := pins_val (D := D) (p := x.pins - 1) hl2
  have hc2 := pv2 gv3
  have hl3 : lookS (updL ((2, x) :: without L 2) 2 { x with pins := x.pins - 1 }) 2 = some { x with pins := x.pins - 1 } := by rw [lookS_upd, if_pos rfl, hl2]; rfl
  generalize hLn : updL ((2, x) :: without L 2) 2 { x with pins := x.pins - 1 } = Ln at hc2 hl3 pv1
  refine tri_call [0, 0] (Q := fun r : Bool => pu (r = false) (exA fun D' : DskS => pu (Live 8 D' ∧ (secS D' 2).b = x.s.b) (stars [DiskA d D']))) ?_ fun r => tri_pu fun hr => ?_
  · dsimp only [sel, rem, nth, del, cat, upd]
    refine tri_t (by decide) ?_
    refine cache_wf 0 rfl fun hW2 => ?_
    refine tri_call [0, 0] (flush_spec (by omega) (by omega) hL (by omega)) fun r => tri_ex fun ks => tri_pu fun ⟨hr, hpm⟩ => tri_flat ?_
    dsimp only [sel, rem, nth, del, cat, upd]
    obtain ⟨p1, p2, p3, p4, hF⟩ := flush_val hW2 hL hc2 hpm
    refine tri_end [1] fun q hq => ⟨by rw [hr]; rfl, _, ⟨flushD_live hF.live, ?_⟩, hq⟩
    rw [p3 2 (by decide) fun y hy => by rw [hl3] at hy; cases hy; dsimp only; omega]
    unfold valS
    rw [hl3]
  · subst hr
    refine tri_ex fun D' => tri_pu fun ⟨hL', hs'⟩ => tri_flat ?_
    dsimp only [sel, rem, nth, del, cat, upd]
    refine tri_f (by simp) ?_
    obtain ⟨e1, e2⟩ := read_two (n' := 8) hL' (k := 2) (by decide)
    refine tri_call [0] (disk_read 2) fun r41 => tri_pu fun ⟨hr41, _⟩ => tri_flat ?_
    rw [if_pos e1, e2, hs']
    rw [e1] at hr41
    dsimp only [sel, rem, nth, del, cat, upd]
    refine own_len 2 rfl fun hlen => ?_
    rw [bytes_len, hW.ok _ (lookS_mem hx)] at hlen
    refine tri_call [1, 1] (Q := fun r : Bool => pu (r = true) emp) ?_ fun r => tri_pu fun hr => ?_
    · dsimp only [sel, rem, nth, del, cat, upd]
      refine tri_t (by rw [hr41]; rfl) ?_
      refine tri_call [0] own_toStr fun w => tri_pu fun hw => tri_flat ?_
      subst hw
      dsimp only [sel, rem, nth, del, cat, upd]
      refine tri_call [1] own_toStr fun w => tri_pu fun hw => tri_flat ?_
      subst hw
      exact tri_end [] fun q hq => ⟨by simp, hq⟩
    · subst hr
      refine tri_end [] fun q hq => ⟨?_, hq⟩
      have : r37.1.len = 64 := by omega
      rw [this]
      rfl

theorem pinned_law (hp : plain = true) (hN : 999 < N) {room : Int} (hroom : 0 ≤ room ∧ room < 256) {s : Sl} {xs : List ActT} (hs : s.len = xs.length) (hx : ∀ x ∈ xs, 0 ≤ x.2.2.1 ∧ x.2.2.1 < 256) : Tri (stars [InA s actT xs]) (F_moatlaw06_CachePinned N room s) fun r => pu (r = true) emp := by
  rw [pinnedF_eq]
  unfold pinnedF
  obtain ⟨n, hn⟩ : ∃ n, n = wr .i64 ((wr .i64 (room.tmod (8 : Int))) + (2 : Int)) := ⟨_, rfl⟩
  have hn1 : 2 ≤ n ∧ n ≤ 9 := by
    have h1 : room.tmod 8 = room % 8 := Int.tmod_eq_emod_of_nonneg hroom.1
    have h2 := Int.emod_lt_of_pos room (show (0 : Int) < 8 by decide)
    have h3 := Int.emod_nonneg room (show (8 : Int) ≠ 0 by decide)
    rw [hn, h1, wr64 (n := room % 8) (by omega) (by omega), wr64 (by omega) (by omega)]
    omega
  refine tri_call [] (shown_spec hp (by omega)) fun r => tri_pu fun hr => ?_
  subst hr
  dsimp only [sel, rem, nth, del, cat, upd]
  refine tri_call [] (disk_new (n := 8) (by omega)) fun r => tri_ex fun d => tri_pu fun hr => tri_flat ?_
  subst hr
  dsimp only [sel, rem, nth, del, cat, upd]
  rw [← hn]
  refine tri_call [] (cache_new d 8 (room := n) (by omega)) fun r => tri_ex fun c => tri_pu fun hr => tri_flat ?_
  subst hr
  dsimp only [sel, rem, nth, del, cat, upd]
  have hL0 : Live 8 (newD 8) := ⟨rfl, rfl, by decide, by decide, by simp [newD]⟩
  have he : getCE 8 n [] 2 = 0 := by
    unfold getCE placeE
    rw [if_pos (by decide)]
    dsimp only [lookS]
    rw [if_pos (by simp; omega)]
  have hcl : putCL 8 n [] 2 (pat 50) 50 = [(2, ⟨⟨pat 50, 50⟩, true, 0⟩)] := by
    unfold putCL restC placeL
    rw [if_pos he]
    dsimp only [lookS]
    rw [if_pos (by simp; omega)]
    rfl
  have hac : accD 8 n [] (newD 8) 2 = newD 8 := by
    unfold accD placeD
    rw [if_pos (by decide)]
    dsimp only [lookS]
    rw [if_pos (by simp; omega)]
  refine tri_call [0, 0] (Q := fun r : Bool => pu (r = false) (stars [CacheA c d 8 n 0 [(2, ⟨⟨pat 50, 50⟩, true, 0⟩)], DiskA d (newD 8)])) ?_ fun r => tri_pu fun hr => tri_flat ?_
  · dsimp only [sel, rem, nth, del, cat, upd]
    refine tri_t rfl ?_
    refine tri_call [] (patch_spec (by omega) 2 50 (by omega)) fun r => tri_pu fun ⟨h1, h2, h3⟩ => tri_flat ?_
    rw [h1, h2]
    dsimp only [sel, rem, nth, del, cat, upd]
    refine tri_call [1, 1, 0] (put_spec hp 2 (bs := pat 50) 50 (pat_len 50) hL0 (by decide) (by omega) (by omega)) fun r => tri_pu fun hr => tri_flat ?_
    rw [hcl, hac]
    dsimp only [sel, rem, nth, del, cat, upd]
    rw [he] at hr
    exact tri_end [0, 0] fun q hq => ⟨by rw [hr]; rfl, hq⟩
  subst hr
  dsimp only [sel, rem, nth, del, cat, upd]
  refine tri_call [0] (Q := fun r : Bool => pu (r = false) (stars [CacheA c d 8 n 1 [(2, ⟨⟨pat 50, 50⟩, true, 1⟩)]])) ?_ fun r => tri_pu fun hr => tri_flat ?_
  · dsimp only [sel, rem, nth, del, cat, upd]
    refine tri_t rfl ?_
    refine tri_call [0] (pin_spec 2 (by omega)) fun r => tri_pu fun hr => tri_flat ?_
    dsimp only [sel, rem, nth, del, cat, upd]
    have hr' : r = 0 := hr
    exact tri_end [0] fun q hq => ⟨by rw [hr']; rfl, hq⟩
  subst hr
  dsimp only [sel, rem, nth, del, cat, upd]
  refine tri_f (by simp) ?_
  refine tri_call [3] (few_spec hs (by omega)) fun r => tri_pu fun ⟨kk, hk1, hk2, hr⟩ => tri_flat ?_
  subst hr
  dsimp only [sel, rem, nth, del, cat, upd]
  have loop : ∀ (K : Nat) (j : Nat), kk - j < K → j ≤ kk → Tri (stars [StP c d n j, InA s actT xs]) (iter K (fun go_13 (v_12 : Int) => if (decide (v_12 < (kk : Int))) = true then (bd (idx 4 ⟨s.p, kk⟩ v_12) fun q_14 => bd (ldSt [.int .u8, .int .i64, .int .u8, .sl 1] q_14) fun (y_15 : Int × Int × Int × Sl) => bd (show M (Unit ⊕ Bool) from pinSw N (some ⟨c, 0⟩) y_15) fun j_26 => (match j_26 with | Sum.inl j_27 => bd (F_disk_Disk_Read N (some ⟨d, 0⟩) (2 : Int)) fun r_29 => bd (pinRd N r_29) fun c_33 => if c_33 = true then (ret (Sum.inr false)) else (go_13 (wr .i64 (v_12 + (1 : Int)))) | Sum.inr j_28 => ret (Sum.inr j_28))) else (ret ((Sum.inl ())))) (j : Int) : M (Unit ⊕ Bool)) fun r => pu (r = .inl ()) (stars [StP c d n kk]) := by
    intro K
    induction K with
    | zero => intro j hj; omega
    | succ K ih =>
      intro j hj hj1
      show Tri _ (if _ then _ else _) _
      by_cases hj2 : j < kk
      · refine tri_t (by simp; omega) ?_
        have hjx : j < xs.length := by omega
        refine tri_row (cts := actT) 1 rfl (by decide) hj2 hjx ?_
        refine tri_call [0] (pinSw_spec hp hN hn1 (by omega) (hx _ (List.getElem_mem hjx))) fun r => tri_pu fun hr => tri_flat ?_
        subst hr
        dsimp only [sel, rem, nth, del, cat, upd]
        refine tri_ex fun st => tri_pu fun hst => tri_flat ?_
        obtain ⟨L, D⟩ := st
        dsimp only [sel, rem, nth, del, cat, upd]
        obtain ⟨e1, e2⟩ := read_two (n' := 8) hst.1.1 (k := 2) (by decide)
        have e3 := hst.1.2.2.2
        dsimp only at e1 e2 e3
        refine tri_call [1] (disk_read 2) fun r => tri_pu fun ⟨hr, _⟩ => tri_flat ?_
        rw [if_pos e1, e2, e3]
        rw [e1] at hr
        dsimp only [sel, rem, nth, del, cat, upd]
        refine tri_call [1] (pinRd_spec hN hr) fun r => tri_pu fun hr => ?_
        subst hr
        dsimp only [sel, rem, nth, del, cat, upd]
        refine tri_f (by simp) ?_
        rw [wr64 (by omega) (by omega)]
        refine tri_last [2, 1, 1] (Tri.pre (ih (j + 1) (by omega) (by omega)) fun q hq => ?_)
        exact ent_fold (l := [InA s actT xs]) [_, _] (fun q h => ⟨(L, D), ⟨hst.1, by have := hst.2; dsimp only at this ⊢; omega⟩, h⟩) hq
      · have : j = kk := by omega
        subst this
        exact tri_f (by simp) (tri_end [0] fun q hq => ⟨rfl, hq⟩)
  refine tri_call (Q := fun r : Unit ⊕ Bool => pu (r = .inl ()) (stars [StP c d n kk])) [1, 1, 0] ?_ fun r => tri_pu fun hr => tri_flat ?_
  · dsimp only [sel, rem, nth, del, cat, upd]
    refine Tri.pre (loop N 0 (by omega) (by omega)) fun q hq => ?_
    refine ent_fold (l := [InA s actT xs]) [_, _] (fun q h => ⟨([(2, ⟨⟨pat 50, 50⟩, true, 1⟩)], newD 8), ⟨⟨hL0, fun k x hx hd => ?_, ⟨⟨⟨pat 50, 50⟩, true, 1⟩, rfl, rfl, rfl⟩, rfl⟩, by decide⟩, h⟩) hq
    have hx' : (if k = 2 then some (⟨⟨pat 50, 50⟩, true, 1⟩ : SlotS) else none) = some x := hx
    split at hx'
    · cases hx'
      cases hd
    · cases hx'
  · subst hr
    exact tri_last [0] (pinFin_spec hp hN hn1 (by omega))
end
end Go.Moat
