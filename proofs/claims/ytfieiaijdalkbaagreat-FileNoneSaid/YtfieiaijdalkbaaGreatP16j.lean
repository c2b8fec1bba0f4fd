/- Layers 7 and 15: a disk is laid, and mounted, when nothing is to be done again. -/
import Derived.Test.YtfieiaijdalkbaaGreatP16g
namespace Go.Moat
open Go.Mini
section
variable {N : Nat} {β : Type} {l : List HA} {S : β → HA} {v d : Nat} {g : Geo} {V : VolS} {m : M β} {T : HA} {D : DskS}
theorem write_live (hd : D.dead = false) (hf : D.fuse = -1) {i : Nat} (hi : i < D.secs.length) {bs : List UInt8} (h64 : bs.length = 64) (t : Int) :
  writeE D i bs = 0 ∧ writeD D i bs t = { D with secs := D.secs.set i ⟨bs, t⟩, waits := D.waits ++ [⟨i, D.secs[i], ⟨bs, t⟩⟩], done := D.done + 1 } := by
 have hc : 0 ≤ (i : Int) ∧ (i : Int) < D.secs.length ∧ bs.length = 64 := ⟨by omega, by omega, h64⟩
 have hp : powerE D = 0 := by unfold powerE; rw [hd, hf]; rfl
 have hpd : powerD D = { D with done := D.done + 1 } := by
  unfold powerD
  rw [hd, hf]
  simp
 unfold writeE writeD
 rw [if_pos hc, if_pos hc, hp, if_pos rfl, hpd]
 refine ⟨rfl, ?_⟩
 rw [Int.toNat_natCast, List.getElem?_eq_getElem hi]
 rfl
theorem flush_live (hd : D.dead = false) (hf : D.fuse = -1) : powerE D = 0 ∧ flushD D = { D with waits := [], done := D.done + 1 } := by
 have hp : powerE D = 0 := by unfold powerE; rw [hd, hf]; rfl
 have hpd : powerD D = { D with done := D.done + 1 } := by
  unfold powerD
  rw [hd, hf]
  simp
 refine ⟨hp, ?_⟩
 unfold flushD
 rw [if_pos hp, hpd]
def superS (g : Geo) : SecS := ⟨superB g, 0⟩
def fmtD (g : Geo) : DskS := ⟨(List.replicate g.all zsec).set 0 (superS g), [], false, -1, g.all + 1⟩
theorem tri_frz_own {α : Type} {A : HA} {m : M α} {φ : α → Prop} {R : α → HA} (hA : Exact A) (t : Tri (stars [A]) m fun a => pu (φ a) (stars [R a, A])) : Tri (stars [A]) (frz m) fun a => pu (φ a) (stars [R a, A]) := by
 have e : ∀ (X : HA), stars [X, A] = star A X := fun X => by
  show star X (star A emp) = _
  rw [star_emp, star_comm]
 rw [stars_one] at t ⊢
 refine (tri_frzx (R := fun a => pu (φ a) (R a)) hA (t.post fun a q hq => ?_)).post fun a q hq => ?_
 ·have h2 := hq.2
  rw [e] at h2
  obtain ⟨q1, q2, k1, k2, k3⟩ := h2
  exact ⟨q1, q2, k1, ⟨hq.1, k2⟩, k3⟩
 ·obtain ⟨q1, q2, k1, ⟨k0, k2⟩, k3⟩ := hq
  refine ⟨k0, ?_⟩
  rw [e]
  exact ⟨q1, q2, k1, k2, k3⟩
theorem sumF_lo : ∀ (bs : List UInt8) (v : Int × Int), 1 ≤ v.1 → v.1 + 255 * bs.length ≤ 60000 → 1 ≤ (bs.foldl (fun v c => (wr .u32 (v.1 + wr .u32 c.toNat), wr .u32 (v.2 + wr .u32 (v.1 + wr .u32 c.toNat)))) v).1 ∧ (bs.foldl (fun v c => (wr .u32 (v.1 + wr .u32 c.toNat), wr .u32 (v.2 + wr .u32 (v.1 + wr .u32 c.toNat)))) v).1 ≤ v.1 + 255 * bs.length
 | [], v, h1, h2 => ⟨h1, by simp⟩
 | b :: r, v, h1, h2 => by
  have hb : b.toNat < 256 := b.toNat_lt
  simp only [List.length_cons] at h2
  rw [List.foldl_cons]
  have e : wr .u32 (v.1 + wr .u32 (b.toNat : Int)) = v.1 + b.toNat := by rw [wr32 (n := (b.toNat : Int)) (by omega) (by omega), wr32 (by omega) (by omega)]
  have := sumF_lo r (wr .u32 (v.1 + wr .u32 b.toNat), wr .u32 (v.2 + wr .u32 (v.1 + wr .u32 b.toNat))) (by dsimp only; rw [e]; omega) (by dsimp only; rw [e]; omega)
  refine ⟨this.1, Int.le_trans this.2 ?_⟩
  dsimp only
  rw [e, List.length_cons]
  omega
theorem sum_pos {bs : List UInt8} (h : bs.length ≤ 100) : 0 < sumI bs := by
 obtain ⟨h1, h2⟩ := sumF_lo bs (1, 0) (by decide) (by dsimp only; omega)
 change 1 ≤ (sumF bs).1 at h1
 change (sumF bs).1 ≤ 1 + 255 * bs.length at h2
 unfold sumI
 obtain ⟨n, hn⟩ : ∃ n : Nat, (sumF bs).1 = n := ⟨(sumF bs).1.toNat, by omega⟩
 have e : (sumF bs).1.tmod 65521 = (n : Int) := by
  rw [hn]
  have : (n : Int).tmod 65521 = ((n % 65521 : Nat) : Int) := rfl
  rw [this, Nat.mod_eq_of_lt (by omega)]
 rw [e]
 obtain ⟨k1, k2⟩ := wr_rng (k := .u32) (((sumF bs).2.tmod 65521) * 2 ^ (Min.min (16 : Int).toNat IntKind.u32.bits)) rfl
 have hs : shlI .u32 ((sumF bs).2.tmod 65521) 16 = wr .u32 (((sumF bs).2.tmod 65521) * 2 ^ (Min.min (16 : Int).toNat IntKind.u32.bits)) := rfl
 rw [hs]
 generalize wr .u32 (((sumF bs).2.tmod 65521) * 2 ^ (Min.min (16 : Int).toNat IntKind.u32.bits)) = x at k1 k2
 obtain ⟨a, rfl⟩ : ∃ a : Nat, x = a := ⟨x.toNat, by omega⟩
 have k3 : (2 : Int) ^ IntKind.u32.bits = 4294967296 := by decide
 rw [(bit_nat (k := .u32) rfl (a := a) (b := n) (by show a < 4294967296; omega) (by show n < 4294967296; omega)).2.1]
 have : n ≤ a ||| n := Nat.right_le_or
 omega
theorem ro_need (n : Int) : RO (F_0p N n) := by
 unfold F_0p
 split
 ·exact ro_ret _
 ·exact ro_ret _
theorem ro_roomy (hg : g.ok) : RO (F_03 N g.t) := by
 unfold F_03
 refine ro_hold0 fun _ => ?_
 have e := meta_eq (N := N) hg
 unfold Geo.t at e ⊢
 rw [e]
 exact ro_bd (ro_ret _) fun _ => ro_bd (ro_need _) fun _ => ro_ret _
theorem format_spec (hg : g.ok) (hr : g.roomy) (hN : 5000 < N) : Tri (stars [DiskA d (newD g.all)]) (F_19 N (some ⟨d, 0⟩) g.t) fun r => pu (r = 0) (stars [DiskA d (fmtD g)]) := by
 have hall := hg.all_le
 have hpos : 0 < g.all := by unfold Geo.all Geo.blk; omega
 unfold F_19
 refine tri_call [] (plan_spec hg) fun r3 => tri_pu fun h3 => tri_flat ?_
 subst h3
 dsimp only [sel, rem, nth, del, cat, upd]
 refine tri_f (by simp) ?_
 rw [frz_ro (RO_isLen _)]
 refine tri_call [0] (Q := fun c => pu (c = false) (stars [DiskA d (newD g.all)])) ?_ fun c => tri_pu fun hc => tri_flat ?_
 ·refine tri_t (by simp) (tri_call [0] disk_len fun r => tri_pu fun h => tri_flat (tri_end [0] fun q hq => ⟨?_, hq⟩))
  rw [h]
  simp [newD, Geo.lay]
 subst hc
 dsimp only [sel, rem, nth, del, cat, upd]
 have e2 : frz (F_03 N (g.t.1, g.t.2.1, g.t.2.2.1, g.t.2.2.2)) = F_03 N g.t := frz_ro (ro_roomy hg)
 rw [e2]
 refine tri_call [0] (Q := fun c => pu (c = false) (stars [DiskA d (newD g.all)])) ?_ fun c => tri_pu fun hc => tri_flat ?_
 ·refine tri_t rfl (tri_call [0] (roomy_spec hg) fun r => tri_pu fun h => tri_flat (tri_end [0] fun q hq => ⟨?_, hq⟩))
  rw [h]
  simp [hr]
 subst hc
 dsimp only [sel, rem, nth, del, cat, upd]
 refine tri_f (by simp) ?_
 refine tri_call [] (slay_spec hg hN) fun r8 => tri_pu fun h8 => tri_flat ?_
 dsimp only [sel, rem, nth, del, cat, upd]
 have loop : ∀ (K j : Nat) (b : Sl) (bs : List UInt8) (D : DskS), g.all - j < K → j ≤ g.all → bs = (if j = 0 then superB g else zeros64) → b.len = 64 → D.dead = false → D.fuse = -1 → D.done = j → D.waits.length = j →
   D.secs = (if j = 0 then List.replicate g.all zsec else (List.replicate g.all zsec).set 0 (superS g)) →
   Tri (stars [OwnA b 1 (bytesOf bs), DiskA d D]) (iter K (F_3m N (some ⟨d, 0⟩) (g.lay, 0)) (b, (j : Int))) fun r => exA fun D' => pu (r = .inl () ∧ D'.dead = false ∧ D'.fuse = -1 ∧ D'.done = (g.all : Int) ∧ D'.secs = (List.replicate g.all zsec).set 0 (superS g)) (stars [DiskA d D']) := by
  intro K
  induction K with
  | zero => intro j b bs D h; omega
  | succ K ih =>
   intro j b bs D h hj hbs hb h1 h2 h3 h4 h5
   rw [iter_S]
   unfold F_3m
   by_cases hjk : j < g.all
   ·refine tri_t (by simp [Geo.lay]; omega) ?_
    have h64 : bs.length = 64 := by
     rw [hbs]
     split
     ·exact superB_len g
     ·simp [zeros64]
    have hjl : j < D.secs.length := by
     rw [h5]
     split <;> simp <;> omega
    obtain ⟨e1, e2⟩ := write_live h1 h2 hjl h64 0
    refine tri_call [1, 0] (disk_write (N := N) (j : Int) 0 (by omega) (by omega) (by omega) (by omega)) fun r => tri_pu fun hr' => tri_flat ?_
    dsimp only [sel, rem, nth, del, cat, upd]
    rw [e1] at hr'
    rw [e2]
    refine tri_f (by simp [hr']) ?_
    refine tri_mkB 64 (by omega) fun sb => ?_
    refine tri_turn 0 (B := OwnA ⟨some ⟨sb, 0⟩, 64⟩ 1 (bytesOf zeros64)) rfl (fun q hq => .mk (by rw [bytes_len]; simp [zeros64]) hq) ?_
    dsimp only [sel, rem, nth, del, cat, upd]
    rw [wr64 (by omega) (by omega)]
    refine tri_last [0, 0] (ih (j + 1) ⟨some ⟨sb, 0⟩, 64⟩ zeros64 _ (by omega) (by omega) (by rw [if_neg (by omega)]) rfl h1 h2 (by dsimp only; omega) (by dsimp only; rw [List.length_append, h4]; rfl) ?_)
    dsimp only
    rw [if_neg (by omega), h5]
    by_cases hj0 : j = 0
    ·subst hj0
     rw [if_pos rfl] at hbs ⊢
     rw [hbs]
     rfl
    ·rw [if_neg hj0] at hbs ⊢
     rw [hbs]
     apply List.ext_getElem (by simp)
     intro i hi1 hi2
     rw [List.getElem_set]
     split
     ·rename_i hji
      subst hji
      rw [List.getElem_set_ne (by omega), List.getElem_replicate]
      rfl
     ·rfl
   ·obtain rfl : j = g.all := by omega
    refine tri_f (by simp [Geo.lay]) (tri_end [1] fun q hq => ⟨D, ⟨rfl, h1, h2, h3, ?_⟩, hq⟩)
    rw [h5, if_neg (by omega)]
 refine own_ln 0 rfl fun h0 => ?_
 rw [bytes_len, superB_len] at h0
 refine tri_call [0, 0] (loop N 0 r8.1 (superB g) (newD g.all) (by omega) (by omega) (by rw [if_pos rfl]) (by omega) rfl rfl rfl rfl (by rw [if_pos rfl]; rfl)) fun r => tri_ex fun D' => tri_pu fun ⟨k1, k2, k3, k4, k5⟩ => tri_flat ?_
 subst k1
 dsimp only [sel, rem, nth, del, cat, upd]
 obtain ⟨e1, e2⟩ := flush_live k2 k3
 refine tri_call [0] (disk_flush (N := N) (by omega) (by omega)) fun r => tri_pu fun hr' => tri_flat (tri_end [0] fun q hq => ⟨by rw [hr', e1], ?_⟩)
 rw [e2] at hq
 have : ({ D' with waits := [], done := D'.done + 1 } : DskS) = fmtD g := by
  unfold fmtD
  rw [← k5, ← k2, ← k3, k4]
 rw [this] at hq
 exact hq
def headB (seq cnt : Nat) : List UInt8 := sealed (filled (le 8 seq ++ le 2 cnt) 60)
theorem headB_len (seq cnt : Nat) : (headB seq cnt).length = 64 := by
 unfold headB
 rw [sealed_len, filled_len (by rw [List.length_append, le_len, le_len]; omega)]
theorem lays1 (k n : Nat) : lays k [n] = le k n := by simp [lays]
theorem head_spec {j : Nat} {seq cnt : Nat} {sq : Nat} (h1 : seq < 2 ^ 64) (h2 : cnt < 65536) (hN : 5000 < N) : Tri (stars [pts j (.cells (jrnC d g sq) false)]) (F_1c N (some ⟨j, 0⟩) (seq : Int) (cnt : Int)) fun r => pu (r.1 = 1 ∧ r.2.2 = 0) (stars [OwnA r.2.1 1 (bytesOf (headB seq cnt)), pts j (.cells (jrnC d g sq) false)]) := by
 unfold F_1c
 refine tri_alloc fun b => ?_
 refine tri_call [0] (lay_spec (size := 8) (ns := [seq]) (T := pts b (.cells [.int .u64 seq] false)) (by omega) (by omega) (rd_pts0 (by simp)) (by
  intro n hn
  simp at hn
  subst hn
  exact h1) (by simp) hN) fun r5 => tri_pu fun h5 => tri_flat ?_
 dsimp only [sel, rem, nth, del, cat, upd]
 rw [wrU64 (by omega) (by omega)]
 refine tri_alloc fun b6 => ?_
 refine tri_call [0] (lay_spec (size := 2) (ns := [cnt]) (T := pts b6 (.cells [.int .u64 cnt] false)) (by omega) (by omega) (rd_pts0 (by simp)) (by
  intro n hn
  simp at hn
  subst hn
  exact h2) (by simp) hN) fun r7 => tri_pu fun h7 => tri_flat ?_
 dsimp only [sel, rem, nth, del, cat, upd]
 rw [lays1, lays1]
 refine own_ln 0 rfl fun l7 => own_ln 2 rfl fun l5 => ?_
 have hm : most = 70368744177664 := rfl
 rw [bytes_len, le_len] at l7 l5
 refine tri_call [2, 0] (rd_app (rd_own (by rw [bytes_len, le_len]; omega)) (by omega) (bytes_cell _) (by omega)) fun r8 => tri_flat ?_
 dsimp only [sel, rem, nth, del, cat, upd]
 rw [← bytesOf_app]
 refine own_ln 0 rfl fun l8 => ?_
 refine tri_call [0] (fill_spec (n := 60) (rd_own l8) (by rw [List.length_append, le_len, le_len]; omega) (by omega)) fun r9 => tri_pu fun h9 => tri_flat ?_
 dsimp only [sel, rem, nth, del, cat, upd]
 refine tri_gI 5 rfl (v := 1) rfl ?_
 refine own_ln 0 rfl fun l9 => ?_
 refine tri_call [0] (tri_frz_own (φ := fun _ => True) (R := fun r => OwnA r 1 (bytesOf (headB seq cnt))) exact_own ((seal_spec (rd_own l9) (by rw [filled_len (by rw [List.length_append, le_len, le_len]; omega)]; omega) hN).post fun r q hq => ⟨trivial, hq⟩)) fun r13 => tri_pu fun _ => tri_flat ?_
 dsimp only [sel, rem, nth, del, cat, upd]
 exact tri_end [0, 5] fun q hq => ⟨⟨rfl, rfl⟩, hq⟩
def IsHead (b : List UInt8) (seq : Nat) : Prop := (b = zeros64 ∧ seq = 0) ∨ (b = headB seq 0 ∧ seq < 2 ^ 64)
theorem IsHead.len {b : List UInt8} {seq : Nat} (h : IsHead b seq) : b.length = 64 := by
 rcases h with ⟨rfl, _⟩ | ⟨rfl, _⟩
 ·simp [zeros64]
 ·exact headB_len _ _
theorem ro_room (p : Option MA) : RO (F_0q N p) := by
 unfold F_0q
 split
 ·exact ro_ret _
 ·exact ro_bd (ro_nonNil _) fun _ => ro_bd (ro_fld _ _) fun _ => ro_bd (ro_ldI _ _) fun _ => ro_ret _
def roomN (n : Nat) : Nat := (n - 1) - (n - 1 + 15) / 16
theorem room_spec {j sq : Nat} (hg : g.ok) : Tri (stars [pts j (.cells (jrnC d g sq) false)]) (F_0q N (some ⟨j, 0⟩)) fun r => pu (r = (roomN g.J : Nat)) (stars [pts j (.cells (jrnC d g sq) false)]) := by
 have h1 := hg.j1
 have h2 := hg.j2
 unfold F_0q
 refine tri_f (by simp) (tri_gI 0 rfl (v := g.J) rfl (tri_end [0] fun q hq => ⟨?_, hq⟩))
 have e1 : wr .i64 ((g.J : Int) - 1) = ((g.J - 1 : Nat) : Int) := by rw [wr64 (by omega) (by omega)]; omega
 have e2 : wr .i64 (((g.J - 1 : Nat) : Int) + 15) = ((g.J - 1 + 15 : Nat) : Int) := by rw [wr64 (by omega) (by omega)]; omega
 have e3 : ((g.J - 1 + 15 : Nat) : Int).tdiv 16 = (((g.J - 1 + 15) / 16 : Nat) : Int) := rfl
 rw [e1, e2, e3, wr64 (n := (((g.J - 1 + 15) / 16 : Nat) : Int)) (by omega) (by omega), wr64 (by omega) (by omega)]
 unfold roomN
 omega
theorem begin_spec {j : Nat} (hg : g.ok) {s : Sl} {bs : List UInt8} {seq : Nat} (h : IsHead bs seq) (hr : RdC T s 1 (bytesOf bs)) (hN : 5000 < N) :
  Tri (stars [pts j (.cells (jrnC d g 0) false), T]) (F_23 N (some ⟨j, 0⟩) s) fun r => pu (r = (0, true)) (stars [pts j (.cells (jrnC d g seq) false), T]) := by
 unfold F_23
 refine tri_rStr 1 rfl hr ?_
 refine tri_mkB 64 (by omega) fun zb => ?_
 refine tri_rStr 0 rfl (bs := zeros64) (rd_pts0 (by rw [bytes_len]; simp [zeros64])) ?_
 by_cases hz : bs = zeros64
 ·have hs : seq = 0 := by
   rcases h with ⟨_, h2⟩ | ⟨h1, _⟩
   ·exact h2
   ·exfalso
    have h4 : leN ((headB seq 0).drop 60) = leN (zeros64.drop 60) := by rw [h1.symm.trans hz]
    have e : leN ((headB seq 0).drop 60) = (sumI (filled (le 8 seq ++ le 2 0) 60)).toNat := by
     unfold headB sealed
     rw [List.drop_left' (by rw [filled_len (by rw [List.length_append, le_len, le_len]; omega)]), leN_le, Nat.mod_eq_of_lt]
     have := sum_rng (filled (le 8 seq ++ le 2 0) 60)
     omega
    rw [e] at h4
    have h5 : leN (zeros64.drop 60) = 0 := by decide
    have := sum_pos (bs := filled (le 8 seq ++ le 2 0) 60) (by rw [filled_len (by rw [List.length_append, le_len, le_len]; omega)]; omega)
    omega
  subst hs
  exact tri_t (by simp [hz]) (tri_end [1, 1] fun q hq => ⟨rfl, hq⟩)
 ·rcases h with ⟨h1, _⟩ | ⟨h1, h64⟩
  ·exact absurd h1 hz
  subst h1
  refine tri_f (by simpa using hz) ?_
  have hL : (le 8 seq ++ le 2 0).length = 10 := by rw [List.length_append, le_len, le_len]
  refine tri_call [2] (open_spec (bs := filled (le 8 seq ++ le 2 0) 60) hr (by rw [filled_len (by omega)]; omega) hN) fun r6 => tri_pu fun h6 => tri_flat ?_
  dsimp only [sel, rem, nth, del, cat, upd]
  refine tri_f (by simp [h6]) ?_
  refine own_ln 0 rfl fun l6 => ?_
  have hf : filled (le 8 seq ++ le 2 0) 60 = le 8 seq ++ (le 2 0 ++ List.replicate 50 0) := by
   unfold filled
   rw [hL, List.append_assoc]
  refine tri_call [0] (Get_spec (a := 0) (z := 8) (rd_own l6) (by omega) (by omega) (by rw [filled_len (by omega)]; omega) (by rw [filled_len (by omega)]; omega) (by omega)) fun r7 => tri_pu fun h7 => tri_flat ?_
  dsimp only [sel, rem, nth, del, cat, upd]
  refine tri_call [0] (Get_spec (a := 8) (z := 2) (rd_own l6) (by omega) (by omega) (by rw [filled_len (by omega)]; omega) (by rw [filled_len (by omega)]; omega) (by omega)) fun r8 => tri_pu fun h8 => tri_flat ?_
  dsimp only [sel, rem, nth, del, cat, upd]
  have e7 : leN (((filled (le 8 seq ++ le 2 0) 60).drop 0).take 8) = seq := by
   rw [List.drop_zero, hf, List.take_left' (le_len _ _), leN_le, Nat.mod_eq_of_lt (by simpa using h64)]
  have e8 : leN (((filled (le 8 seq ++ le 2 0) 60).drop 8).take 2) = 0 := by
   rw [hf, List.drop_left' (le_len _ _), List.take_left' (le_len _ _), leN_le]
  rw [e7] at h7
  rw [e8] at h8
  subst h7 h8
  refine tri_sF 3 rfl ?_
  dsimp only [sel, rem, nth, del, cat, upd]
  have e9 : (jrnC d g 0).set 3 (.int .u64 (seq : Int)) = jrnC d g seq := rfl
  rw [e9]
  have e10 : wr .i64 ((0 : Nat) : Int) = ((0 : Nat) : Int) := by decide
  rw [e10]
  have hh := tri_frz_own (R := fun (r : Int × Sl × Int) => OwnA r.2.1 1 (bytesOf (headB seq 0))) (φ := fun (r : Int × Sl × Int) => r.1 = 1 ∧ r.2.2 = 0) (exact_pts j (.cells (jrnC d g seq) false)) (head_spec (N := N) (cnt := 0) h64 (by omega) hN)
  refine tri_call [3] hh fun r11 => tri_pu fun _ => tri_flat ?_
  dsimp only [sel, rem, nth, del, cat, upd]
  refine own_ln 0 rfl fun l11 => ?_
  refine tri_rStr 0 rfl (rd_own l11) ?_
  refine tri_rStr 3 rfl hr ?_
  refine tri_call [1, 2] (Q := fun c => pu (c = true) (stars [pts j (.cells (jrnC d g seq) false), T])) ?_ fun c => tri_pu fun hc => tri_flat ?_
  ·refine tri_t (by simp [headB]) ?_
   rw [frz_ro (ro_room _)]
   refine tri_call [0] (room_spec hg) fun r14 => tri_pu fun h14 => tri_flat (tri_end [0, 0] fun q hq => ⟨?_, hq⟩)
   rw [h14]
   simp
  ·subst hc
   exact tri_end [0, 0] fun q hq => ⟨rfl, hq⟩
end
end Go.Moat

/- Layers 7 and 15: a disk that is mounted. -/
namespace Go.Mini
section
variable {β : Type} {l : List HA} {S : β → HA} {m : M β}
theorem tri_flatn (n : Nat) {l1 : List HA} (hl : l[n]? = some (stars l1)) (k : Tri (stars (cat l1 (del l n))) m S) : Tri (stars l) m S := by
 rw [cat_eq, del_eq, stars_append] at k
 rw [stars_pick n l hl]
 exact k
end
end Go.Mini
namespace Go.Moat
open Go.Mini
section
variable {N : Nat} {β : Type} {l : List HA} {S : β → HA} {v d : Nat} {g : Geo} {V : VolS} {m : M β} {T : HA} {D : DskS}
theorem getE_ok (hd : D.dead = false) {i : Nat} (hi : i < D.secs.length) : getE D i = 0 := by
 unfold getE
 rw [if_pos ⟨by omega, by omega⟩, hd]
 rfl
theorem dread_live (hd : D.dead = false) {i : Nat} (hi : i < D.secs.length) : Tri (stars [DiskA d D]) (F_05 N (some ⟨d, 0⟩) (i : Int)) fun r => pu (r.2 = 0) (stars [DiskA d D, OwnA r.1 1 (bytesOf (getS D i).b)]) :=
 (disk_read (i : Int)).post fun r q hq => by
  obtain ⟨⟨h1, h2⟩, h3⟩ := hq
  rw [getE_ok hd hi] at h1 h3
  exact ⟨h1, by simpa using h3⟩
theorem jopen_spec (hg : g.ok) (hd : D.dead = false) (hl : 1 + g.J ≤ D.secs.length) {seq : Nat} (hh : IsHead (getS D 1).b seq) (hN : 5000 < N) :
  Tri (stars [DiskA d D]) (F_24 N (some ⟨d, 0⟩) 1 (g.J : Int)) fun r => exA fun j => pu (r = (some ⟨j, 0⟩, 0, 0)) (stars [pts j (.cells (jrnC d g seq) false), DiskA d D]) := by
 have h1 := hg.j1
 have h2 := hg.j2
 unfold F_24
 refine tri_f (by simp) ?_
 refine tri_know 0 (φ := D.secs.length ≤ 4096) rfl (fun q ⟨x, h, _⟩ => h.many) fun h4096 => ?_
 refine tri_call [0] (Q := fun c => pu (c = false) (stars [DiskA d D])) ?_ fun c => tri_pu fun hc => tri_flat ?_
 ·refine tri_t (by simp; omega) (tri_call [0] disk_len fun r => tri_pu fun h => tri_flat (tri_end [0] fun q hq => ⟨by rw [h]; simp; omega, hq⟩))
 subst hc
 dsimp only [sel, rem, nth, del, cat, upd]
 refine tri_call [0] (Q := fun c => pu (c = false) (stars [DiskA d D])) ?_ fun c => tri_pu fun hc => tri_flat ?_
 ·refine tri_t rfl (tri_call [0] disk_len fun r => tri_pu fun h => tri_flat (tri_end [0] fun q hq => ⟨?_, hq⟩))
  rw [h, wr64 (by omega) (by omega)]
  simp
  omega
 subst hc
 dsimp only [sel, rem, nth, del, cat, upd]
 refine tri_f (by simp) ?_
 refine tri_alloc fun j => ?_
 refine tri_call [1] (dread_live (N := N) (i := 1) hd (by omega)) fun r9 => tri_pu fun h9 => tri_flat ?_
 dsimp only [sel, rem, nth, del, cat, upd]
 refine tri_f (by simp [h9]) ?_
 refine own_ln 1 rfl fun l9 => ?_
 refine tri_call [2, 1] (begin_spec (T := OwnA r9.1 1 (bytesOf (getS D 1).b)) (d := d) hg hh (rd_own l9) hN) fun r10 => tri_pu fun h10 => tri_flat ?_
 subst h10
 dsimp only [sel, rem, nth, del, cat, upd]
 refine tri_f (by simp) (tri_t (by simp) ?_)
 exact tri_end [0, 1] fun q hq => ⟨j, rfl, hq⟩
theorem inorder_spec {cs : List MV} {rows own used ino : Sl} {M : MetaS} (hg : g.ok) (ok : MetaOk g M) (rf : RefOk M) (gr : GrpOk g M)
  (c0 : cs[0]? = some (.sl rows.p rows.len 2)) (c1 : cs[1]? = some (.sl own.p own.len 1)) (c2 : cs[2]? = some (.sl used.p used.len 1)) (c3 : cs[3]? = some (.sl ino.p ino.len 14)) (c9 : cs[9]? = some (.int .i64 g.P)) (hN : 5000 < N) :
  Tri (stars [pts v (.cells cs false), OwnA rows 2 (rowsC M.rows), OwnA own 1 (ownC M.own), OwnA used 1 (bytesOf M.used), OwnA ino 14 (inosC M.ino)]) (F_2b N (some ⟨v, 0⟩)) fun r => pu (r = true) (stars [pts v (.cells cs false), OwnA rows 2 (rowsC M.rows), OwnA own 1 (ownC M.own), OwnA used 1 (bytesOf M.used), OwnA ino 14 (inosC M.ino)]) := by
 have hgp := hg.gp
 have hpp := hg.pp
 have hG := hg.g2
 have hI := hg.i2
 have hp1 := hg.p1
 have hol := ok.ownl
 have hil := ok.inol
 have hul := ok.usedl
 have h16 := ok.rows.len
 let L := [pts v (.cells cs false), OwnA rows 2 (rowsC M.rows), OwnA own 1 (ownC M.own), OwnA used 1 (bytesOf M.used), OwnA ino 14 (inosC M.ino)]
 unfold F_2b
 refine tri_nn (tri_fl (tri_fl (tri_fl (tri_ldL 0 rfl c1 ?_))))
 refine own_ln 1 rfl fun l1 => own_ln 2 rfl fun l2 => own_ln 3 rfl fun l3 => own_ln 4 rfl fun l4 => ?_
 rw [catL_len rowC_len] at l1
 rw [ownC_len] at l2
 have l4' := l4
 rw [catL_len inoC_len] at l4'
 have taken : ∀ (r : Nat), r < 16 → 0 < (rowN M.rows r).2 → Tri (stars L) (F_1f N (some ⟨v, 0⟩) (r : Int)) fun c => pu (c = true) (stars L) := by
  intro r hr h0
  have hrl : r < M.rows.length := by omega
  unfold F_1f
  refine tri_nn (tri_fl (tri_fl (tri_fl (tri_ldL 0 rfl c0 ?_))))
  refine tri_rF 1 rfl (rd_own (by rw [catL_len rowC_len]; omega)) (i := r) (o := 1) (by dsimp only; omega) (by omega) (v := (M.rows[r].2 : Nat)) (by rw [catL_get rowC_len hrl (by omega)]; rfl) ?_
  refine tri_end [0, 0, 0, 0, 0] fun q hq => ⟨?_, hq⟩
  have : rowN M.rows r = M.rows[r] := by simp [rowN, hrl]
  rw [this] at h0
  simp
  omega
 have loop1 : ∀ (K k : Nat), g.G - k < K → k ≤ g.G → Tri (stars L) (iter K (F_3z N (some ⟨v, 0⟩) ⟨own.p, own.len⟩) (k : Int)) fun r => pu (r = .inl ()) (stars L) := by
  intro K
  induction K with
  | zero => intro k h; omega
  | succ K ih =>
   intro k h hk
   rw [iter_S]
   unfold F_3z
   by_cases hkG : k < g.G
   ·have hkl : k < M.own.length := by omega
    refine tri_t (by simp; omega) ?_
    refine tri_rI 2 rfl (rd_own (by rw [ownC_len]; exact l2)) (i := k) (k := .i64) (v := (M.own[k] : Nat)) (by simp [i64s, hkl]) ?_
    have ho := ok.own16 _ (List.getElem_mem hkl)
    have hrf := rf.own _ (List.getElem_mem hkl)
    have hb2 : (k + 1) * g.P ≤ g.G * g.P := Nat.mul_le_mul_right _ hkG
    have hb1 : k * g.P ≤ (k + 1) * g.P := Nat.mul_le_mul_right _ (by omega)
    have hzero : M.own[k] = 0 → cntB M.used (k * g.P) ((k + 1) * g.P) = 0 := by
     intro hz
     unfold cntB
     rw [List.length_eq_zero_iff, List.filter_eq_nil_iff]
     intro i hi
     rw [List.mem_range'_1] at hi
     intro hb
     have hd : i / g.P = k := by
      rw [Nat.div_eq_iff (by omega)]
      have : (k + 1) * g.P = k * g.P + g.P := by rw [Nat.add_mul, Nat.one_mul]
      omega
     have := gr i (by unfold Geo.B; omega) hb
     rw [hd, List.getElem?_eq_getElem hkl, Option.getD_some, hz] at this
     omega
    refine tri_call [0, 0, 0, 0, 0] (Q := fun c => pu (c = false) (stars L)) ?_ fun c => tri_pu fun hc => tri_flat ?_
    ·by_cases hz : M.own[k] = 0
     ·exact tri_f (by simp [hz]) (tri_end [0, 0, 0, 0, 0] fun q hq => ⟨rfl, hq⟩)
     ·refine tri_t (by simp; omega) ?_
      have e : wr .i64 (((M.own[k] : Nat) : Int) - 1) = ((M.own[k] - 1 : Nat) : Int) := by rw [wr64 (by omega) (by omega)]; omega
      rw [e]
      refine tri_call [0, 0, 0, 0, 0] (taken (M.own[k] - 1) (by omega) (hrf (by omega))) fun c => tri_pu fun hc => tri_flat (tri_end [0, 0, 0, 0, 0] fun q hq => ⟨by rw [hc]; rfl, hq⟩)
    subst hc
    refine tri_call [0, 0, 0, 0, 0] (Q := fun c => pu (c = false) (stars L)) ?_ fun c => tri_pu fun hc => tri_flat ?_
    ·refine tri_t rfl ?_
     refine tri_call [0, 0, 0, 0, 0] (Q := fun c => pu (c = false) (stars L)) ?_ fun c => tri_pu fun hc => tri_flat (tri_end [0, 0, 0, 0, 0] fun q hq => ⟨hc, hq⟩)
     by_cases hz : M.own[k] = 0
     ·refine tri_t (by simp [hz]) ?_
      unfold F_0s
      refine tri_call [0, 0, 0, 0, 0] (Q := fun r => pu (r = 0) (stars L)) ?_ fun r => tri_pu fun hr => tri_flat (tri_end [0, 0, 0, 0, 0] fun q hq => ⟨by rw [hr]; rfl, hq⟩)
      refine tri_nn (tri_fl (tri_fl (tri_fl (tri_ldL 0 rfl c2 ?_))))
      refine tri_nn (tri_fl (tri_fl (tri_ldI 0 rfl c9 ?_)))
      refine tri_nn (tri_fl (tri_fl (tri_ldI 0 rfl c9 ?_)))
      have e1 : (k : Int) * (g.P : Int) = ((k * g.P : Nat) : Int) := by simp
      have e2 : wr .i64 ((k : Int) + 1) = ((k + 1 : Nat) : Int) := by rw [wr64 (by omega) (by omega)]; simp
      have e3 : ((k + 1 : Nat) : Int) * (g.P : Int) = (((k + 1) * g.P : Nat) : Int) := by simp
      rw [e1, e2, e3, wr64 (by omega) (by omega), wr64 (by omega) (by omega)]
      refine tri_call [3] (count_spec (rd_own l3) (by omega) hb1 (by omega) hN) fun r => tri_pu fun hr => tri_flat ?_
      refine tri_end [1, 1, 1, 0, 0] fun q hq => ⟨?_, hq⟩
      rw [hr, hzero hz]
      rfl
     ·exact tri_f (by simp; omega) (tri_end [0, 0, 0, 0, 0] fun q hq => ⟨rfl, hq⟩)
    subst hc
    refine tri_f (by simp) ?_
    rw [wr64 (by omega) (by omega)]
    exact ih (k + 1) (by omega) (by omega)
   ·obtain rfl : k = g.G := by omega
    exact tri_f (by simp; omega) (tri_ret fun q hq => ⟨rfl, hq⟩)
 have loop2 : ∀ (K k : Nat), M.ino.length - k < K → k ≤ M.ino.length → Tri (stars L) (iter K (F_40 N (some ⟨v, 0⟩) ⟨ino.p, ino.len⟩) (k : Int)) fun r => pu (r = .inl ()) (stars L) := by
  intro K
  induction K with
  | zero => intro k h; omega
  | succ K ih =>
   intro k h hk
   rw [iter_S]
   unfold F_40
   by_cases hkG : k < M.ino.length
   ·refine tri_t (by simp; omega) ?_
    refine tri_inoRow 4 rfl (s := ⟨ino.p, ino.len⟩) (rd_own l4) hkG ?_
    rw [zino_c]
    refine ino_copy1 ?_
    rw [over_ino, inoC0, inoC1]
    refine tri_some (tri_dI ?_)
    have hm := List.getElem_mem hkG
    have hr := (ok.inok _ hm).r
    refine tri_call [0, 0, 0, 0, 0] (Q := fun c => pu (c = false) (stars L)) ?_ fun c => tri_pu fun hc => tri_flat ?_
    ·by_cases hz : M.ino[k].k = 0
     ·exact tri_f (by simp [hz]) (tri_end [0, 0, 0, 0, 0] fun q hq => ⟨rfl, hq⟩)
     ·refine tri_t (by simp; omega) (tri_some (tri_dI ?_))
      rw [wr64 (by omega) (by omega)]
      refine tri_call [0, 0, 0, 0, 0] (taken _ hr (rf.ino _ hm hz)) fun c => tri_pu fun hc => tri_flat (tri_end [0, 0, 0, 0, 0] fun q hq => ⟨by rw [hc]; rfl, hq⟩)
    subst hc
    refine tri_f (by simp) ?_
    rw [wr64 (by omega) (by omega)]
    exact ih (k + 1) (by omega) (by omega)
   ·obtain rfl : k = M.ino.length := by omega
    exact tri_f (by simp; omega) (tri_ret fun q hq => ⟨rfl, hq⟩)
 refine tri_call [0, 0, 0, 0, 0] (loop1 N 0 (by omega) (by omega)) fun r => tri_pu fun hr => tri_flat ?_
 subst hr
 dsimp only [sel, rem, nth, del, cat, upd]
 refine tri_nn (tri_fl (tri_fl (tri_fl (tri_ldL 0 rfl c3 ?_))))
 refine tri_call [0, 0, 0, 0, 0] (loop2 N 0 (by omega) (by omega)) fun r => tri_pu fun hr => tri_flat ?_
 subst hr
 exact tri_end [0, 0, 0, 0, 0] fun q hq => ⟨rfl, hq⟩
structure Clean (g : Geo) (D : DskS) (M : MetaS) (seq : Nat) : Prop where
 dead : D.dead = false
 len : g.all ≤ D.secs.length
 sup : (getS D 0).b = superB g
 head : IsHead (getS D 1).b seq
 known : ∀ i : Nat, i < g.M → some (getS D ((g.lab + i : Nat) : Int)).b = (metaB M)[i]?
def mounted (M : MetaS) (D : DskS) (seq : Nat) : VolS := ⟨⟨M, []⟩, D, seq, metaB M, none, false⟩
theorem mount_spec (hg : g.ok) (hr : g.roomy) {M : MetaS} {seq : Nat} (ok : MetaOk g M) (rf : RefOk M) (gr : GrpOk g M) (cl : Clean g D M seq) (hN : 5000 < N) :
  Tri (stars [DiskA d D]) (F_2c N (some ⟨d, 0⟩)) fun r => exA fun v => pu (r = (some ⟨v, 0⟩, 0)) (stars [VolA v d g (mounted M D seq)]) := by
 have hall := hg.all_le
 have hcl := cl.len
 have hgM : g.M = 3 + g.I / 2 := rfl
 have hlab : g.lab = 1 + g.J := rfl
 have hblk : g.blk = 4 + g.J + g.I / 2 := rfl
 have hga : g.all = g.blk + g.B := rfl
 have hI := hg.i2
 have hi3 := hg.i3
 have hmB : (metaB M).length = g.M := by
  simp only [metaB, List.length_cons, pairsB_len, ok.inol]
  omega
 unfold F_2c
 refine tri_f (by simp) ?_
 refine tri_call [0] (dread_live (N := N) (i := 0) cl.dead (by omega)) fun r2 => tri_pu fun h2 => tri_flat ?_
 dsimp only [sel, rem, nth, del, cat, upd]
 refine tri_f (by simp [h2]) (tri_f (by simp [h2]) ?_)
 have e0 : (getS D ((0 : Nat) : Int)).b = superB g := cl.sup
 rw [e0]
 refine own_ln 1 rfl fun l2 => ?_
 refine tri_call [1] (stake_spec hg (rd_own l2) hN) fun r3 => tri_pu fun h3 => tri_flat ?_
 subst h3
 dsimp only [sel, rem, nth, del, cat, upd]
 refine tri_call [] (plan_spec hg) fun r4 => tri_pu fun h4 => tri_flat ?_
 subst h4
 dsimp only [sel, rem, nth, del, cat, upd]
 rw [frz_ro (RO_isLen _)]
 refine tri_call [1] (Q := fun c => pu (c = false) (stars [DiskA d D])) ?_ fun c => tri_pu fun hc => tri_flat ?_
 ·refine tri_t (by simp) (tri_call [0] disk_len fun r => tri_pu fun h => tri_flat (tri_end [0] fun q hq => ⟨?_, hq⟩))
  rw [h]
  simp [Geo.lay]
  omega
 subst hc
 dsimp only [sel, rem, nth, del, cat, upd]
 have e2 : frz (F_03 N (g.t.1, g.t.2.1, g.t.2.2.1, g.t.2.2.2)) = F_03 N g.t := frz_ro (ro_roomy hg)
 rw [e2]
 refine tri_call [0] (Q := fun c => pu (c = false) (stars [DiskA d D])) ?_ fun c => tri_pu fun hc => tri_flat ?_
 ·refine tri_t rfl (tri_call [0] (roomy_spec hg) fun r => tri_pu fun h => tri_flat (tri_end [0] fun q hq => ⟨?_, hq⟩))
  rw [h]
  simp [hr]
 subst hc
 dsimp only [sel, rem, nth, del, cat, upd]
 refine tri_f (by simp) ?_
 refine tri_call [0] (jopen_spec (seq := seq) (d := d) hg cl.dead (by omega) cl.head hN) fun r9 => tri_ex fun j => tri_pu fun h9 => tri_flat ?_
 subst h9
 dsimp only [sel, rem, nth, del, cat, upd]
 refine tri_f (by simp) ?_
 refine tri_alloc fun v => ?_
 have em := meta_eq (N := N) hg
 have em2 : F_0g N (g.t.1, g.t.2.1, g.t.2.2.1, g.t.2.2.2) = ret (g.M : Int) := em
 rw [em2]
 refine tri_bdret ?_
 let mC : Sl → Sl → Sl → Sl → Sl → Option Nat → List MV := fun rows own used ino sf mp => [.sl rows.p rows.len 2, .sl own.p own.len 1, .sl used.p used.len 1, .sl ino.p ino.len 14, .map mp, .ptr (some ⟨d, 0⟩),
  .int .i64 g.J, .int .i64 g.I, .int .i64 g.G, .int .i64 g.P, .int .i64 1, .int .i64 g.lab, .int .i64 (2 + g.J : Nat), .int .i64 (3 + g.J : Nat), .int .i64 (4 + g.J : Nat), .int .i64 g.blk, .int .i64 g.all,
  .ptr (some ⟨j, 0⟩), .sl sf.p sf.len 1, .ptr none, .bool false]
 have loop : ∀ (K k : Nat) (sf : Sl) (L : List (Sl × List UInt8)), g.M - k < K → k ≤ g.M → L.map (·.2) = (metaB M).take k → (∀ e ∈ L, e.1.len = 64 ∧ e.2.length = 64) →
   Tri (stars [pts v (.cells (mC ⟨none, 0⟩ ⟨none, 0⟩ ⟨none, 0⟩ ⟨none, 0⟩ sf none) false), OwnA sf 1 (slsC L), PoolA L, DiskA d D]) (iter K (F_41 N (some ⟨d, 0⟩) (g.lay, 0) (some ⟨v, 0⟩) (g.M : Int)) (k : Int))
   fun _ => exA fun x : Sl × List (Sl × List UInt8) => pu (x.2.map (·.2) = metaB M ∧ ∀ e ∈ x.2, e.1.len = 64 ∧ e.2.length = 64) (stars [pts v (.cells (mC ⟨none, 0⟩ ⟨none, 0⟩ ⟨none, 0⟩ ⟨none, 0⟩ x.1 none) false), OwnA x.1 1 (slsC x.2), PoolA x.2, DiskA d D]) := by
  intro K
  induction K with
  | zero => intro k sf L h; omega
  | succ K ih =>
   intro k sf L h hk hL h64
   rw [iter_S]
   unfold F_41
   by_cases hkM : k < g.M
   ·refine tri_t (by simp; omega) ?_
    have e1 : wr .i64 ((g.lay, (0 : Int)).1.2.1 + (k : Int)) = ((g.lab + k : Nat) : Int) := by
     show wr .i64 ((g.lab : Int) + (k : Int)) = _
     rw [wr64 (by omega) (by omega)]
     omega
    rw [e1]
    refine tri_call [3] (dread_live (N := N) (i := g.lab + k) cl.dead (by omega)) fun r14 => tri_pu fun h14 => tri_flat ?_
    dsimp only [sel, rem, nth, del, cat, upd]
    have hkn := cl.known k hkM
    generalize (getS D ((g.lab + k : Nat) : Int)).b = bs at hkn
    have hb64 : bs.length = 64 := by
     have := List.mem_of_getElem? hkn.symm
     have rB : (rowsB M.rows).length = 64 := by rw [rowsB, lays_len, rowNs_len, ok.rows.len]
     have oB : (ownB M.own).length = 64 := filled_len (by rw [List.length_map, ok.ownl]; have := hg.g2; omega)
     unfold metaB at this
     rcases List.mem_cons.1 this with h | h
     ·rw [h]; exact rB
     ·rcases List.mem_cons.1 h with h | h
      ·rw [h]; exact oB
      ·rcases List.mem_cons.1 h with h | h
       ·rw [h]; exact ok.usedl
       ·obtain ⟨i, hi, hx⟩ := List.mem_iff_getElem.1 h
        rw [pairsB_len] at hi
        have h1 := pairsB_get (l := M.ino) (i := i) (by omega)
        rw [List.getElem?_eq_getElem (by rw [pairsB_len]; exact hi), hx] at h1
        rw [Option.some.inj h1, List.length_append, inoB_len, inoB_len]
    refine own_ln 1 rfl fun l14 => ?_
    rw [bytes_len] at l14
    refine tri_gL 2 rfl (o := 18) (p := sf.p) (ln := sf.len) rfl ?_
    refine tri_alloc fun b18 => ?_
    refine own_ln 4 rfl fun lsf => ?_
    have hLl : L.length = k := by
     have := congrArg List.length hL
     rw [List.length_map, List.length_take, hmB] at this
     omega
    rw [slsC_len] at lsf
    refine tri_call [4, 0] (rd_app (s := ⟨sf.p, sf.len⟩) (T := pts b18 (.cells [.sl r14.1.p r14.1.len 1] false)) (rd_pts0 (by simp)) (by omega) rfl (by
     have : most = 70368744177664 := rfl
     dsimp only
     omega)) fun l19 => tri_flat ?_
    dsimp only [sel, rem, nth, del, cat, upd]
    refine tri_sF 4 rfl ?_
    dsimp only [sel, rem, nth, del, cat, upd]
    rw [wr64 (by omega) (by omega)]
    have ec : (mC ⟨none, 0⟩ ⟨none, 0⟩ ⟨none, 0⟩ ⟨none, 0⟩ sf none).set 18 (.sl l19.p l19.len 1) = mC ⟨none, 0⟩ ⟨none, 0⟩ ⟨none, 0⟩ ⟨none, 0⟩ l19 none := rfl
    rw [ec]
    have es : slsC L ++ [.sl r14.1.p r14.1.len 1] = slsC (L ++ [(r14.1, bs)]) := by simp [slsC]
    rw [es]
    have hn := ih (k + 1) l19 (L ++ [(r14.1, bs)]) (by omega) (by omega) (by
     rw [List.map_append, hL, List.take_add_one, ← hkn]
     rfl) (by
     intro e he
     rcases List.mem_append.1 he with he | he
     ·exact h64 e he
     ·simp at he
      subst he
      dsimp only
      omega)
    refine tri_last [4, 0, 3, 1, 1] (hn.pre fun q hq => ?_)
    refine ent_tail (fun q => ent_tail (fun q hq => ?_)) hq
    have ep : PoolA (L ++ [(r14.1, bs)]) = star (PoolA L) (OwnA r14.1 1 (bytesOf bs)) := by
     unfold PoolA
     rw [List.map_append, stars_append, List.map_cons, List.map_nil, stars_one]
    show star (PoolA (L ++ [(r14.1, bs)])) (star (DiskA d D) emp) q
    have hq' : star (PoolA L) (star (DiskA d D) (star (OwnA r14.1 1 (bytesOf bs)) emp)) q := hq
    rw [ep, star_assoc]
    rw [star_left (DiskA d D) (OwnA r14.1 1 (bytesOf bs)) emp] at hq'
    exact hq'
   ·obtain rfl : k = g.M := by omega
    refine tri_f (by simp) (tri_ret fun q hq => ⟨(sf, L), ⟨?_, h64⟩, hq⟩)
    rw [hL, List.take_of_length_le (by omega)]
 refine tri_last [0, 1, 0] (Tri.pre (B := stars [pts v (.cells (mC ⟨none, 0⟩ ⟨none, 0⟩ ⟨none, 0⟩ ⟨none, 0⟩ ⟨none, 0⟩ none) false), OwnA ⟨none, 0⟩ 1 (slsC []), PoolA [], DiskA d D, pts j (.cells (jrnC d g seq) false)]) ?_ fun q hq => ?_)
 case refine_2 =>
  have h1 : stars [pts v (.cells (mC ⟨none, 0⟩ ⟨none, 0⟩ ⟨none, 0⟩ ⟨none, 0⟩ ⟨none, 0⟩ none) false), DiskA d D, pts j (.cells (jrnC d g seq) false)] q := hq
  refine ent_tail (fun q hq => ?_) h1
  exact ent_emp (fun q h => .nil 1 h) (ent_emp (fun q h => h) hq)
 refine tri_call [0, 0, 0, 0] (loop N 0 ⟨none, 0⟩ [] (by omega) (by omega) rfl (by simp)) fun _ => tri_ex fun x => tri_pu fun ⟨hx1, hx2⟩ => tri_flat ?_
 obtain ⟨sf, L⟩ := x
 dsimp only at hx1 hx2
 dsimp only [sel, rem, nth, del, cat, upd]
 refine tri_gL 0 rfl (o := 18) (p := sf.p) (ln := sf.len) rfl ?_
 refine own_ln 1 rfl fun lsf => ?_
 have hRd : RdL (stars [OwnA sf 1 (slsC L), PoolA L]) ⟨sf.p, sf.len⟩ L := by
  refine ⟨(rd_own lsf).at 0 rfl, fun e he => ?_⟩
  have := hx2 e he
  exact (pool_rd (P := L) (s := e.1) (bs := e.2) he (by omega)).at 1 rfl
 refine tri_call [1, 1] (mtake_spec (T := stars [OwnA sf 1 (slsC L), PoolA L]) hg ok hRd hx1 hN |>.pre fun q hq => by rw [stars_one]; exact hq) fun r26 => tri_pu fun h26 => tri_flat ?_
 dsimp only [sel, rem, nth, del, cat, upd]
 refine tri_flatn 4 rfl ?_
 dsimp only [sel, rem, nth, del, cat, upd]
 refine tri_nn (tri_fl (tri_fl ?_))
 refine tri_stn 6 rfl rfl (by simp [mC]) rfl ?_
 have ec : over (mC ⟨none, 0⟩ ⟨none, 0⟩ ⟨none, 0⟩ ⟨none, 0⟩ sf none) (0 + 0 + 0) [.sl r26.1.1.p r26.1.1.len 2, .sl r26.1.2.1.p r26.1.2.1.len 1, .sl r26.1.2.2.1.p r26.1.2.2.1.len 1, .sl r26.1.2.2.2.p r26.1.2.2.2.len 14] = mC r26.1.1 r26.1.2.1 r26.1.2.2.1 r26.1.2.2.2 sf none := rfl
 rw [ec]
 dsimp only [sel, rem, nth, del, cat, upd]
 refine tri_call [6, 2, 2, 2, 2] (Q := fun c => pu (c = false) (stars [pts v (.cells (mC r26.1.1 r26.1.2.1 r26.1.2.2.1 r26.1.2.2.2 sf none) false), OwnA r26.1.1 2 (rowsC M.rows), OwnA r26.1.2.1 1 (ownC M.own), OwnA r26.1.2.2.1 1 (bytesOf M.used), OwnA r26.1.2.2.2 14 (inosC M.ino)])) ?_ fun c => tri_pu fun hc => tri_flat ?_
 ·refine tri_t (by simp [h26]) ?_
  refine tri_call [0, 0, 0, 0, 0] (inorder_spec hg ok rf gr rfl rfl rfl rfl rfl hN) fun r => tri_pu fun h => tri_flat (tri_end [0, 0, 0, 0, 0] fun q hq => ⟨by rw [h]; rfl, hq⟩)
 subst hc
 dsimp only [sel, rem, nth, del, cat, upd]
 refine tri_f (by simp) ?_
 refine tri_mk .i64 fun mb => ?_
 refine tri_nn (tri_fl (tri_fl (tri_stc 1 rfl (by simp [mC]) rfl ?_)))
 dsimp only [sel, rem, nth, del, cat, upd]
 refine tri_end [1, 1, 1, 1, 1, 0, 1, 1, 1, 0] fun q hq => ⟨v, rfl, ?_⟩
 have hq2 : stars (volL v d g (mounted M D seq) ⟨⟨r26.1.1, r26.1.2.1, r26.1.2.2.1, r26.1.2.2.2, mb, d, j, sf, none, false⟩, [], L, L⟩) q := by
  have h1 := hq
  dsimp only [sel, rem, nth, del, cat, upd] at h1
  refine ent_tail (fun q => ent_tail (fun q => ent_tail (fun q => ent_tail (fun q => ent_tail (fun q => ent_tail (fun q => ent_tail (fun q => ent_tail (fun q => ent_tail fun q hq => ?_)))))))) h1
  have h2 : star (OwnA sf 1 (slsC L)) emp q := hq
  show star (OwnA sf 1 (slsC L)) (star emp emp) q
  rw [star_emp emp]
  exact h2
 exact vol_fold ⟨rfl, ⟨by simp, by simp, by simp⟩, hx1, fun e he => ⟨he, hx2 e he⟩, rfl⟩ rfl hq2
end
end Go.Moat

/- Layer 15: what is known stays in order. -/
namespace Go.Moat
open Go.Mini
def ownP (i : Nat) (o : Nat) : Bool := decide (o = i + 1)
def inoP (i : Nat) (n : Ino) : Bool := decide (n.k ≠ 0) && decide (n.r = i)
def MetaS.cnt (m : MetaS) (i : Nat) : Nat := m.own.countP (ownP i) + m.ino.countP (inoP i)
structure Inv (g : Geo) (m : MetaS) : Prop where
 ok : MetaOk g m
 refs : ∀ i, i < 16 → (rowN m.rows i).2 = m.cnt i
 grp : ∀ k, k < g.G → (0 < m.own[k]?.getD 0 ↔ ∃ b, k * g.P ≤ b ∧ b < (k + 1) * g.P ∧ getBit m.used b = true)
section
variable {g : Geo} {m : MetaS}
theorem grp_div (hg : g.ok) {b k : Nat} : b / g.P = k ↔ k * g.P ≤ b ∧ b < (k + 1) * g.P := by
 have := hg.p1
 rw [Nat.div_eq_iff (by omega), Nat.add_mul, Nat.one_mul]
 omega
theorem Inv.rf (h : Inv g m) : RefOk m := by
 refine ⟨fun o ho h0 => ?_, fun n hn hk => ?_⟩
 ·have h16 := h.ok.own16 o ho
  rw [h.refs (o - 1) (by omega)]
  unfold MetaS.cnt
  have : 0 < m.own.countP (ownP (o - 1)) := List.countP_pos_iff.2 ⟨o, ho, by simp [ownP]; omega⟩
  omega
 ·have h16 := (h.ok.inok n hn).r
  rw [h.refs _ h16]
  unfold MetaS.cnt
  have : 0 < m.ino.countP (inoP n.r) := List.countP_pos_iff.2 ⟨n, hn, by simp [inoP]; omega⟩
  omega
theorem Inv.gr (hg : g.ok) (h : Inv g m) : GrpOk g m := by
 intro b hb hbit
 have hp := hg.p1
 have hk : b / g.P < g.G := by
  rw [Nat.div_lt_iff_lt_mul (by omega)]
  exact hb
 obtain ⟨h1, h2⟩ := (grp_div hg).1 (rfl : b / g.P = b / g.P)
 exact (h.grp _ hk).2 ⟨b, h1, h2, hbit⟩
def newM (g : Geo) : MetaS := ⟨List.replicate 16 (0, 0), List.replicate g.G 0, zeros64, List.replicate g.I Ino.z⟩
theorem zeros_bit (i : Nat) : getBit zeros64 i = false := by
 cases h : getBit zeros64 i with
 | false => rfl
 | true =>
  unfold getBit at h
  split at h
  ·rename_i b hb
   have := List.mem_of_getElem? hb
   rw [List.eq_of_mem_replicate this] at h
   simp at h
  ·cases h
theorem rowN_rep (i : Nat) : rowN (List.replicate 16 (0, 0)) i = (0, 0) := by
 unfold rowN
 rw [List.getElem?_replicate]
 split <;> rfl
theorem newM_inv (g : Geo) : Inv g (newM g) := by
 refine ⟨⟨⟨rfl, ?_, ?_, ?_⟩, by simp [newM], ?_, by simp [newM, zeros64], fun i _ => zeros_bit i, by simp [newM], ?_⟩, ?_, ?_⟩
 ·intro r hr
  rw [List.eq_of_mem_replicate hr]
  exact ⟨by omega, by omega⟩
 ·intro r hr _
  rw [List.eq_of_mem_replicate hr]
 ·intro i j hi hj h0
  have := List.eq_of_mem_replicate (List.getElem_mem (l := List.replicate 16 ((0 : Nat), (0 : Nat))) hi)
  change 0 < ((List.replicate 16 ((0 : Nat), (0 : Nat)))[i]'hi).2 at h0
  rw [this] at h0
  simp at h0
 ·intro o ho
  rw [List.eq_of_mem_replicate ho]
  omega
 ·intro n hn
  rw [List.eq_of_mem_replicate hn]
  exact z_ok
 ·intro i hi
  have h1 : (newM g).own.countP (ownP i) = 0 := by
   rw [List.countP_eq_zero]
   intro o ho
   rw [List.eq_of_mem_replicate ho]
   simp [ownP]
  have h2 : (newM g).ino.countP (inoP i) = 0 := by
   rw [List.countP_eq_zero]
   intro o ho
   rw [List.eq_of_mem_replicate ho]
   simp [inoP, Ino.z]
  unfold MetaS.cnt
  rw [h1, h2, show (newM g).rows = List.replicate 16 (0, 0) from rfl, rowN_rep]
 ·intro k hk
  constructor
  ·intro h
   rw [show (newM g).own = List.replicate g.G 0 from rfl, List.getElem?_replicate] at h
   split at h <;> simp at h
  ·rintro ⟨b, _, _, h⟩
   rw [show (newM g).used = zeros64 from rfl, zeros_bit] at h
   cases h
theorem cnt_le (hg : g.ok) (h : MetaOk g m) (i : Nat) : m.cnt i ≤ 128 := by
 have h1 : m.own.countP (ownP i) ≤ m.own.length := List.countP_le_length
 have h2 : m.ino.countP (inoP i) ≤ m.ino.length := List.countP_le_length
 have := h.ownl
 have := h.inol
 have := hg.g2
 have := hg.i2
 unfold MetaS.cnt
 omega
theorem retN_some {rs : List Row} {a i : Nat} (h : retN rs a = some i) : i < rs.length ∧ ((0 < (rowN rs i).2 ∧ (rowN rs i).1 = a) ∨ ((rowN rs i).2 = 0 ∧ ∀ (j : Nat) (hj : j < rs.length), 0 < rs[j].2 → rs[j].1 ≠ a)) := by
 have hl := retN_lt h
 refine ⟨hl, ?_⟩
 have hr : rowN rs i = rs[i] := by simp [rowN, hl]
 rw [hr]
 unfold retN at h
 split at h
 ·rename_i j hj
  cases h
  have := (List.findIdx?_eq_some_iff_getElem.1 hj).2.1
  unfold isRow at this
  left
  simpa using this
 ·rename_i hj
  right
  have h2 := (List.findIdx?_eq_some_iff_getElem.1 h).2.1
  unfold isFree at h2
  refine ⟨by simpa using h2, fun j hj' h0 => ?_⟩
  rw [List.findIdx?_eq_none_iff] at hj
  have := hj _ (List.getElem_mem hj')
  unfold isRow at this
  intro c
  simp [h0, c] at this
theorem rowN_set {rs : List Row} {i : Nat} (hi : i < rs.length) (x : Row) (j : Nat) : rowN (rs.set i x) j = if j = i then x else rowN rs j := by
 unfold rowN
 rw [List.getElem?_set]
 by_cases h : i = j
 ·subst h
  rw [if_pos rfl, if_pos hi, if_pos rfl]
  rfl
 ·rw [if_neg h, if_neg (fun c => h c.symm)]
theorem RowsOk.upd {rs : List Row} (ok : RowsOk rs) {i : Nat} {x : Row} (hi : i < 16) (h1 : x.1 < 65536) (h2 : x.2 ≤ 65535) (h3 : x.2 = 0 → x.1 = 0) (h4 : ∀ (j : Nat) (hj : j < rs.length), j ≠ i → 0 < rs[j].2 → 0 < x.2 → rs[j].1 ≠ x.1) : RowsOk (rs.set i x) := by
 have hl := ok.len
 refine ⟨by rw [List.length_set]; exact hl, ?_, ?_, ?_⟩
 ·intro r hr
  rcases List.mem_or_eq_of_mem_set hr with h | rfl
  ·exact ok.rng r h
  ·exact ⟨h1, h2⟩
 ·intro r hr h0
  rcases List.mem_or_eq_of_mem_set hr with h | rfl
  ·exact ok.zero r h h0
  ·exact h3 h0
 ·intro p q hp hq hp0 hq0 he
  rw [List.length_set] at hp hq
  rw [List.getElem_set] at hp0 he
  rw [List.getElem_set] at hq0 he
  by_cases e1 : i = p <;> by_cases e2 : i = q
  ·omega
  ·rw [if_pos e1] at hp0 he
   rw [if_neg e2] at hq0 he
   exact absurd he.symm (h4 q hq (fun c => e2 c.symm) hq0 hp0)
  ·rw [if_neg e1] at hp0 he
   rw [if_pos e2] at hq0 he
   exact absurd he (h4 p hp (fun c => e1 c.symm) hp0 hq0)
  ·rw [if_neg e1] at hp0 he
   rw [if_neg e2] at hq0 he
   exact ok.dist p q hp hq hp0 hq0 he
theorem retE_zero {rs : List Row} {a : Nat} (h : retE rs a = 0) : ∃ i, retN rs a = some i ∧ retI rs a = i ∧ (rowN rs i).2 ≠ 65535 := by
 unfold retE at h
 split at h
 ·cases h
 ·rename_i i hi
  refine ⟨i, hi, by unfold retI; rw [hi]; rfl, fun c => ?_⟩
  rw [if_pos c] at h
  cases h
theorem retR_ok {rs : List Row} (ok : RowsOk rs) {a : Nat} (ha : a < 65536) (h : retE rs a = 0) : RowsOk (retR rs a) ∧ retI rs a < 16 ∧ ∀ j, (rowN (retR rs a) j).2 = (rowN rs j).2 + if j = retI rs a then 1 else 0 := by
 obtain ⟨i, h1, h2, h3⟩ := retE_zero h
 obtain ⟨hi, hc⟩ := retN_some h1
 have hl := ok.len
 have hr : rowN rs i = rs[i] := by simp [rowN, hi]
 have hrng := ok.rng _ (List.getElem_mem hi)
 unfold retR
 rw [h2]
 refine ⟨ok.upd (by omega) ha (by dsimp only; rw [hr] at h3 ⊢; omega) (by dsimp only; omega) fun j hj hne h0 _ => ?_, by omega, fun j => ?_⟩
 ·dsimp only
  rcases hc with ⟨hc1, hc2⟩ | ⟨_, hc2⟩
  ·intro c
   rw [hr] at hc1 hc2
   exact hne (ok.dist j i hj hi h0 hc1 (by omega))
  ·exact hc2 j hj h0
 ·rw [rowN_set hi]
  by_cases e : j = i
  ·subst e
   rw [if_pos rfl, if_pos rfl]
  ·rw [if_neg e, if_neg e]
   omega
theorem relR_ok {rs : List Row} (ok : RowsOk rs) {i : Nat} (hi : i < 16) (h0 : 0 < (rowN rs i).2) : RowsOk (relR rs i) ∧ ∀ j, (rowN (relR rs i) j).2 = (rowN rs j).2 - if j = i then 1 else 0 := by
 have hl := ok.len
 have hil : i < rs.length := by omega
 have hr : rowN rs i = rs[i] := by simp [rowN, hil]
 have hrng := ok.rng _ (List.getElem_mem hil)
 rw [hr] at h0
 unfold relR
 rw [hr]
 by_cases h1 : rs[i].2 = 1
 ·rw [if_pos h1]
  refine ⟨ok.upd hi (by omega) (by omega) (fun _ => rfl) fun j hj hne _ hx => by dsimp only at hx; omega, fun j => ?_⟩
  rw [rowN_set hil]
  by_cases e : j = i
  ·subst e
   rw [if_pos rfl, if_pos rfl, hr, h1]
  ·rw [if_neg e, if_neg e]
   omega
 ·rw [if_neg h1]
  refine ⟨ok.upd hi hrng.1 (by dsimp only; omega) (by dsimp only; omega) fun j hj hne hj0 _ c => hne (ok.dist j i hj hil hj0 h0 c), fun j => ?_⟩
  rw [rowN_set hil]
  by_cases e : j = i
  ·subst e
   rw [if_pos rfl, if_pos rfl, hr]
  ·rw [if_neg e, if_neg e]
   omega
theorem getD_set {o : List Nat} {i : Nat} (hi : i < o.length) (x j : Nat) : (o.set i x)[j]?.getD 0 = if j = i then x else o[j]?.getD 0 := by
 rw [List.getElem?_set]
 by_cases h : i = j
 ·subst h
  rw [if_pos rfl, if_pos hi, if_pos rfl]
  rfl
 ·rw [if_neg h, if_neg (fun c => h c.symm)]
theorem alloc_inv (hg : g.ok) (h : Inv g m) {a : Nat} (ha : a < 65536) : Inv g (m.alloc g a).2 := by
 have hol := h.ok.ownl
 have hul := h.ok.usedl
 have hgp := hg.gp
 have hB : g.B = g.G * g.P := rfl
 have hp1 := hg.p1
 unfold MetaS.alloc
 cases hat : m.atB g a with
 | some b =>
  dsimp only
  unfold MetaS.atB at hat
  split at hat
  ·rename_i r hr
   rw [List.find?_range'_eq_some] at hat
   obtain ⟨h1, h2, _⟩ := hat
   rw [List.mem_range'_1] at h2
   unfold MetaS.isAt at h1
   simp only [Bool.and_eq_true, decide_eq_true_eq] at h1
   refine ⟨⟨h.ok.rows, hol, h.ok.own16, by dsimp only; rw [setBit_len]; exact hul, fun i hi => ?_, h.ok.inol, h.ok.inok⟩, h.refs, fun k hk => ?_⟩
   ·dsimp only
    rw [getBit_set (by omega), if_neg (by omega)]
    exact h.ok.used0 i hi
   ·dsimp only
    rw [h.grp k hk]
    constructor
    ·rintro ⟨c, c1, c2, c3⟩
     refine ⟨c, c1, c2, ?_⟩
     rw [getBit_set (by omega)]
     split
     ·rfl
     ·exact c3
    ·rintro ⟨c, c1, c2, c3⟩
     rw [← h.grp k hk]
     rw [getBit_set (by omega)] at c3
     split at c3
     ·rename_i e
      subst e
      have := (grp_div hg).2 ⟨c1, c2⟩
      rw [this] at h1
      rw [h1.1]
      simp
     ·exact (h.grp k hk).2 ⟨c, c1, c2, c3⟩
  ·cases hat
 | none =>
  dsimp only
  cases hfr : m.own.findIdx? isNone0 with
  | none => exact h
  | some k =>
   dsimp only
   by_cases hE : retE m.rows a = 0
   case neg => rw [if_neg hE]; exact h
   rw [if_pos hE]
   obtain ⟨hk, hk0, _⟩ := List.findIdx?_eq_some_iff_getElem.1 hfr
   unfold isNone0 at hk0
   simp only [decide_eq_true_eq] at hk0
   obtain ⟨r1, r2, r3⟩ := retR_ok h.ok.rows ha hE
   have hkG : k < g.G := by omega
   have hb : k * g.P + g.P ≤ g.G * g.P := flat_bound hkG
   refine ⟨⟨r1, by dsimp only; rw [List.length_set]; exact hol, ?_, by dsimp only; rw [setBit_len]; exact hul, fun i hi => ?_, h.ok.inol, h.ok.inok⟩, fun i hi => ?_, fun j hj => ?_⟩
   ·intro o ho
    rcases List.mem_or_eq_of_mem_set ho with c | rfl
    ·exact h.ok.own16 o c
    ·omega
   ·dsimp only
    rw [getBit_set (by omega), if_neg (by omega)]
    exact h.ok.used0 i hi
   ·dsimp only
    rw [r3, h.refs i hi]
    unfold MetaS.cnt
    dsimp only
    rw [List.countP_set hk]
    have e1 : ownP i m.own[k] = false := by unfold ownP; rw [hk0]; simp
    have e2 : ownP i (retI m.rows a + 1) = decide (i = retI m.rows a) := by
     unfold ownP
     congr 1
     apply propext
     omega
    rw [e1, e2]
    by_cases e : i = retI m.rows a
    ·simp [e]; omega
    ·simp [e]
   ·dsimp only
    rw [getD_set hk]
    by_cases e : j = k
    ·subst e
     rw [if_pos rfl]
     constructor
     ·intro _
      refine ⟨j * g.P, Nat.le_refl _, by rw [Nat.add_mul]; omega, ?_⟩
      rw [getBit_set (by omega), if_pos rfl]
     ·intro _; omega
    ·rw [if_neg e, h.grp j hj]
     have hne : ∀ c, j * g.P ≤ c → c < (j + 1) * g.P → c ≠ k * g.P := by
      intro c c1 c2 c3
      subst c3
      have := (grp_div hg).2 ⟨c1, c2⟩
      rw [Nat.mul_div_cancel _ (by omega)] at this
      omega
     constructor
     ·rintro ⟨c, c1, c2, c3⟩
      exact ⟨c, c1, c2, by rw [getBit_set (by omega), if_neg (hne c c1 c2)]; exact c3⟩
     ·rintro ⟨c, c1, c2, c3⟩
      rw [getBit_set (by omega), if_neg (hne c c1 c2)] at c3
      exact ⟨c, c1, c2, c3⟩
theorem free_inv (hg : g.ok) (h : Inv g m) {b : Nat} (hb : b < g.B) (hbit : getBit m.used b = true) : Inv g (m.free g b) := by
 have hol := h.ok.ownl
 have hul := h.ok.usedl
 have hgp := hg.gp
 have hB : g.B = g.G * g.P := rfl
 have hp1 := hg.p1
 have hkG : b / g.P < g.G := by
  rw [Nat.div_lt_iff_lt_mul (by omega)]
  exact hb
 obtain ⟨hd1, hd2⟩ := (grp_div hg).1 (rfl : b / g.P = b / g.P)
 have hkl : b / g.P < m.own.length := by omega
 have h0 : 0 < m.own[b / g.P]?.getD 0 := (h.grp _ hkG).2 ⟨b, hd1, hd2, hbit⟩
 unfold MetaS.free
 generalize hk : b / g.P = k at *
 have h16 : m.own[k]?.getD 0 ≤ 16 := by
  rw [List.getElem?_eq_getElem hkl]
  exact h.ok.own16 _ (List.getElem_mem hkl)
 have used0 : ∀ i, g.B ≤ i → getBit (setBit m.used b false) i = false := by
  intro i hi
  rw [getBit_set (by omega), if_neg (by omega)]
  exact h.ok.used0 i hi
 have hcnt : cntB (setBit m.used b false) (k * g.P) ((k + 1) * g.P) = 0 ↔ ∀ c, k * g.P ≤ c → c < (k + 1) * g.P → getBit (setBit m.used b false) c = false := by
  unfold cntB
  rw [List.length_eq_zero_iff, List.filter_eq_nil_iff]
  constructor
  ·intro hh c c1 c2
   have := hh c (by rw [List.mem_range'_1]; omega)
   simpa using this
  ·intro hh c hc
   rw [List.mem_range'_1] at hc
   simp [hh c hc.1 (by omega)]
 have other : ∀ j, j < g.G → j ≠ k → (0 < m.own[j]?.getD 0 ↔ ∃ c, j * g.P ≤ c ∧ c < (j + 1) * g.P ∧ getBit (setBit m.used b false) c = true) := by
  intro j hj e
  rw [h.grp j hj]
  have hne : ∀ c, j * g.P ≤ c → c < (j + 1) * g.P → c ≠ b := by
   rintro c c1 c2 rfl
   have := (grp_div hg).2 ⟨c1, c2⟩
   omega
  constructor
  ·rintro ⟨c, c1, c2, c3⟩
   exact ⟨c, c1, c2, by rw [getBit_set (by omega), if_neg (hne c c1 c2)]; exact c3⟩
  ·rintro ⟨c, c1, c2, c3⟩
   rw [getBit_set (by omega), if_neg (hne c c1 c2)] at c3
   exact ⟨c, c1, c2, c3⟩
 by_cases hz : cntB (setBit m.used b false) (k * g.P) ((k + 1) * g.P) = 0
 ·rw [if_pos hz]
  have hrow : 0 < (rowN m.rows (m.own[k]?.getD 0 - 1)).2 := by
   refine h.rf.own _ ?_ h0
   rw [List.getElem?_eq_getElem hkl]
   exact List.getElem_mem hkl
  obtain ⟨r1, r2⟩ := relR_ok h.ok.rows (by omega) hrow
  refine ⟨⟨r1, by dsimp only; rw [List.length_set]; exact hol, ?_, by dsimp only; rw [setBit_len]; exact hul, used0, h.ok.inol, h.ok.inok⟩, fun i hi => ?_, fun j hj => ?_⟩
  ·intro o ho
   rcases List.mem_or_eq_of_mem_set ho with c | rfl
   ·exact h.ok.own16 o c
   ·omega
  ·dsimp only
   rw [r2, h.refs i hi]
   unfold MetaS.cnt
   dsimp only
   rw [List.countP_set hkl]
   have e1 : ownP i m.own[k] = decide (i = m.own[k]?.getD 0 - 1) := by
    rw [List.getElem?_eq_getElem hkl] at h0 ⊢
    unfold ownP
    congr 1
    apply propext
    simp only [Option.getD_some] at h0 ⊢
    omega
   have e2 : ownP i 0 = false := by simp [ownP]
   rw [e1, e2]
   by_cases e : i = m.own[k]?.getD 0 - 1
   ·have : 0 < m.own.countP (ownP i) := List.countP_pos_iff.2 ⟨m.own[k], List.getElem_mem hkl, by rw [e1]; simpa using e⟩
    simp only [e, decide_true, if_true]
    rw [← e]
    simp
    omega
   ·simp [e]
  ·dsimp only
   rw [getD_set hkl]
   by_cases e : j = k
   ·subst e
    rw [if_pos rfl]
    constructor
    ·intro c; omega
    ·rintro ⟨c, c1, c2, c3⟩
     rw [hcnt.1 hz c c1 c2] at c3
     cases c3
   ·rw [if_neg e]
    exact other j hj e
 ·rw [if_neg hz]
  refine ⟨⟨h.ok.rows, hol, h.ok.own16, by dsimp only; rw [setBit_len]; exact hul, used0, h.ok.inol, h.ok.inok⟩, h.refs, fun j hj => ?_⟩
  by_cases e : j = k
  ·subst e
   dsimp only
   refine ⟨fun _ => ?_, fun _ => h0⟩
   exact Classical.byContradiction fun hn => hz (hcnt.2 fun c c1 c2 => by
    cases hc : getBit (setBit m.used b false) c with
    | false => rfl
    | true => exact absurd ⟨c, c1, c2, hc⟩ hn)
  ·exact other j hj e
theorem make_inv (hg : g.ok) (h : Inv g m) {kind a : Nat} (ha : a < 65536) : Inv g (m.make kind a).2 := by
 have hil := h.ok.inol
 unfold MetaS.make
 by_cases hk : kind = 1 ∨ kind = 2
 case neg => rw [if_neg hk]; exact h
 rw [if_pos hk]
 cases hfr : m.ino.findIdx? isFreeI with
 | none => exact h
 | some i =>
  dsimp only
  by_cases hE : retE m.rows a = 0
  case neg => rw [if_neg hE]; exact h
  rw [if_pos hE]
  obtain ⟨hi, hi0, _⟩ := List.findIdx?_eq_some_iff_getElem.1 hfr
  unfold isFreeI at hi0
  simp only [decide_eq_true_eq] at hi0
  obtain ⟨r1, r2, r3⟩ := retR_ok h.ok.rows ha hE
  have hnew : (mkIno kind (retI m.rows a)).Ok := by
   have hat : ∀ i, (mkIno kind (retI m.rows a)).at i = 0 := by
    intro i
    unfold mkIno Ino.at
    rw [List.getElem?_replicate]
    split <;> rfl
   refine ⟨by show kind < 3; omega, fun c => ?_, r2, by rw [hat]; omega, by rw [hat]; omega, by rw [hat]; omega, by rw [hat]; omega, fun i _ _ => by rw [hat]; omega⟩
   have : kind = 0 := c
   omega
  refine ⟨⟨r1, h.ok.ownl, h.ok.own16, h.ok.usedl, h.ok.used0, by dsimp only; rw [List.length_set]; exact hil, ?_⟩, fun j hj => ?_, h.grp⟩
  ·intro n hn
   rcases List.mem_or_eq_of_mem_set hn with c | rfl
   ·exact h.ok.inok n c
   ·exact hnew
  ·dsimp only
   rw [r3, h.refs j hj]
   unfold MetaS.cnt
   dsimp only
   rw [List.countP_set hi]
   have e1 : inoP j m.ino[i] = false := by unfold inoP; rw [hi0]; simp
   have e2 : inoP j (mkIno kind (retI m.rows a)) = decide (j = retI m.rows a) := by
    unfold inoP mkIno
    have : decide (kind ≠ 0) = true := by simp; omega
    dsimp only
    rw [this, Bool.true_and]
    congr 1
    apply propext
    omega
   rw [e1, e2]
   by_cases e : j = retI m.rows a
   ·simp [e]; omega
   ·simp [e]
theorem set_inv (hg : g.ok) (h : Inv g m) {i : Nat} {n : Ino} (hE : m.setE i n = 0) : Inv g (m.set i n) ∧ i < m.ino.length := by
 have hil := h.ok.inol
 unfold MetaS.setE at hE
 by_cases h1 : m.hasE i = 1
 ·rw [if_pos h1] at hE; cases hE
 rw [if_neg h1] at hE
 by_cases h2 : n.ok = false ∨ n.k = 0
 ·rw [if_pos h2] at hE; cases hE
 rw [if_neg h2] at hE
 by_cases h3 : m.hasE i ≠ 0
 ·rw [if_pos h3] at hE; cases hE
 rw [if_neg h3] at hE
 by_cases h4 : n.k ≠ (inoN m.ino (i : Int).toNat).k ∨ n.r ≠ (inoN m.ino (i : Int).toNat).r
 ·rw [if_pos h4] at hE; cases hE
 rw [not_or] at h2 h4
 have h3' : m.hasE i = 0 := Classical.not_not.1 h3
 obtain ⟨k, hk, e, hkk⟩ := hasE_zero h3'
 have : k = i := by omega
 subst this
 rw [Int.toNat_natCast] at h4
 have hn : inoN m.ino k = m.ino[k] := by simp [inoN, hk]
 rw [hn] at h4
 have ek : n.k = m.ino[k].k := Classical.not_not.1 h4.1
 have er : n.r = m.ino[k].r := Classical.not_not.1 h4.2
 refine ⟨?_, hk⟩
 unfold MetaS.set
 refine ⟨⟨h.ok.rows, h.ok.ownl, h.ok.own16, h.ok.usedl, h.ok.used0, by dsimp only; rw [List.length_set]; exact hil, ?_⟩, fun j hj => ?_, h.grp⟩
 ·intro x hx
  rcases List.mem_or_eq_of_mem_set hx with c | rfl
  ·exact h.ok.inok x c
  ·exact Ino.ok_iff.1 (by simpa using h2.1)
 ·dsimp only
  rw [h.refs j hj]
  unfold MetaS.cnt
  dsimp only
  rw [List.countP_set hk]
  have e1 : inoP j n = inoP j m.ino[k] := by unfold inoP; rw [ek, er]
  rw [e1]
  by_cases e : inoP j m.ino[k] = true
  ·have : 0 < m.ino.countP (inoP j) := List.countP_pos_iff.2 ⟨m.ino[k], List.getElem_mem hk, e⟩
   simp only [e, if_true]
   omega
  ·simp [e]
end
end Go.Moat

/- Layer 15: a volume that is built, and shown(). -/
namespace Go.Moat
open Go.Mini
section
variable {N : Nat} {β : Type} {l : List HA} {S : β → HA} {v d : Nat} {g : Geo} {V : VolS} {m : M β} {T : HA} {D : DskS}
theorem rows0B : rowsB (List.replicate 16 ((0 : Nat), (0 : Nat))) = zeros64 := by decide
theorem inoz2 : inoB Ino.z ++ inoB Ino.z = zeros64 := by decide
theorem own0B (n : Nat) (h : n ≤ 64) : ownB (List.replicate n 0) = zeros64 := by
 unfold ownB filled zeros64
 rw [List.map_replicate, List.length_replicate]
 show List.replicate n (0 : UInt8) ++ _ = _
 rw [List.replicate_append_replicate]
 congr 1
 omega
theorem pairs0 : ∀ n : Nat, pairsB (List.replicate (2 * n) Ino.z) = List.replicate n zeros64
 | 0 => rfl
 | n + 1 => by
  rw [show 2 * (n + 1) = 2 * n + 1 + 1 by omega, List.replicate_succ, List.replicate_succ, List.replicate_succ]
  unfold pairsB
  rw [pairs0 n, inoz2]
theorem meta0 (hg : g.ok) : metaB (newM g) = List.replicate g.M zeros64 := by
 have hi := hg.i3
 have hg2 := hg.g2
 unfold metaB newM Geo.M
 dsimp only
 rw [rows0B, own0B _ hg2]
 have e : g.I = 2 * (g.I / 2) := by omega
 rw [e, pairs0]
 rw [show 3 + 2 * (g.I / 2) / 2 = g.I / 2 + 1 + 1 + 1 by omega]
 rfl
theorem fmt_len (g : Geo) : (fmtD g).secs.length = g.all := by simp [fmtD]
theorem getS_fmt {g : Geo} {i : Nat} (h0 : 0 < i) (hi : i < g.all) : getS (fmtD g) (i : Int) = zsec := by
 unfold getS
 rw [getE_ok (D := fmtD g) rfl (by rw [fmt_len]; exact hi)]
 rw [if_pos rfl]
 unfold fmtD
 dsimp only
 rw [Int.toNat_natCast, List.getElem?_set, if_neg (by omega), List.getElem?_replicate, if_pos hi]
 rfl
theorem clean0 (hg : g.ok) : Clean g (fmtD g) (newM g) 0 := by
 have hpos : 0 < g.all := by unfold Geo.all Geo.blk; omega
 have hj := hg.j1
 have ha : g.all = 4 + g.J + g.I / 2 + g.B := rfl
 have hlab : g.lab = 1 + g.J := rfl
 have hM : g.M = 3 + g.I / 2 := rfl
 refine ⟨rfl, by rw [fmt_len]; exact Nat.le_refl _, ?_, ?_, fun i hi => ?_⟩
 ·unfold getS
  rw [show getE (fmtD g) 0 = 0 from getE_ok (D := fmtD g) rfl (i := 0) (by rw [fmt_len]; exact hpos)]
  rw [if_pos rfl]
  unfold fmtD
  dsimp only
  rw [List.getElem?_set, if_pos (show 0 = Int.toNat 0 from rfl), if_pos (by rw [List.length_replicate]; exact hpos)]
  rfl
 ·left
  refine ⟨?_, rfl⟩
  rw [show (1 : Int) = ((1 : Nat) : Int) from rfl, getS_fmt (by omega) (by omega)]
  rfl
 ·rw [getS_fmt (by omega) (by omega), meta0 hg, List.getElem?_replicate, if_pos hi]
  rfl
def newV (g : Geo) : VolS := mounted (newM g) (fmtD g) 0
def g8 : Geo := ⟨130, 8, 2, 4⟩
def g6 : Geo := ⟨130, 6, 4, 4⟩
abbrev s0 := newM g8
abbrev s1 := (s0.alloc g8 2).2
abbrev s2 := (s1.alloc g8 4).2
abbrev s3 := (s2.alloc g8 2).2
abbrev s4 := s3.free g8 0
abbrev s5 := s4.free g8 1
theorem a0 : (s0.alloc g8 2).1 = (0, 0) := by decide
theorem a1 : (s1.alloc g8 4).1 = (4, 0) := by decide
theorem a2 : (s2.alloc g8 2).1 = (1, 0) := by decide
theorem b3 : getBit s3.used 0 = true := by decide
theorem b4 : getBit s4.used 1 = true := by decide
theorem a5 : (s5.alloc g8 8).1 = (0, 0) := by decide
end
end Go.Moat
