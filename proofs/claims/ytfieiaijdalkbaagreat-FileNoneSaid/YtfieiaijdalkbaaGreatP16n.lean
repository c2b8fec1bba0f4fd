/- Layer 11: a block of 32 numbers of blocks. -/
import Derived.Test.YtfieiaijdalkbaaGreatP16j
namespace Go.Moat
open Go.Mini
structure TabOk (ps : List Nat) : Prop where
 len : ps.length = 32
 le : ∀ p ∈ ps, p ≤ 512
def tabB (ps : List Nat) : List UInt8 := lays 2 ps
theorem tabB_len {ps : List Nat} (h : TabOk ps) : (tabB ps).length = 64 := by rw [tabB, lays_len, h.len]
section
variable {N : Nat} {β : Type} {l : List HA} {S : β → HA} {T : HA} {s : Sl} {ps : List Nat}
theorem ownC_app (a b : List Nat) : ownC (a ++ b) = ownC a ++ ownC b := by simp [i64s]
theorem u64s_app' (a b : List Nat) : u64s (a ++ b) = u64s a ++ u64s b := by simp [u64s]
theorem block_spec (h : TabOk ps) (hr : RdC T s 1 (ownC ps)) (hN : 5000 < N) : Tri (stars [T]) (F_1l N s) fun r => pu (r.2 = 0) (stars [OwnA r.1 1 (bytesOf (tabB ps)), T]) := by
 have hmost : most = 70368744177664 := rfl
 have h32 := h.len
 have hlen : s.len = 32 := by
  have := hr.1
  rw [ownC_len] at this
  omega
 unfold F_1l
 refine tri_f (by simp [hlen]) ?_
 have loop : ∀ (K k : Nat) (o : Sl), 32 - k < K → k ≤ 32 → Tri (stars [OwnA o 1 (u64s (ps.take k)), T]) (iter K (F_48 N s) (o, (k : Int))) fun r => exA fun o : Sl => pu (r = .inl o) (stars [OwnA o 1 (u64s ps), T]) := by
  intro K
  induction K with
  | zero => intro k o h; omega
  | succ K ih =>
   intro k o hh hk
   rw [iter_S]
   unfold F_48
   by_cases hkl : k < 32
   ·have hkp : k < ps.length := by omega
    have hle := h.le _ (List.getElem_mem hkp)
    refine tri_t (by simp [hlen]; omega) ?_
    refine own_ln 0 rfl fun lo => ?_
    rw [u64s_len, List.length_take] at lo
    refine tri_rI 1 rfl hr (i := k) (k := .i64) (v := (ps[k] : Nat)) (by simp [i64s, hkp]) ?_
    unfold F_0a
    refine tri_bdret (tri_f (by simp; omega) ?_)
    rw [wrU64 (n := (ps[k] : Int)) (by omega) (by omega)]
    refine tri_alloc fun b => ?_
    refine tri_call [1, 0] (rd_app (s := o) (by' := 8) (T := pts b (.cells [.int .u64 (ps[k] : Int)] false)) (rd_pts0 (by simp)) (by omega) rfl (by dsimp only; omega)) fun o2 => tri_flat ?_
    dsimp only [sel, rem, nth, del, cat, upd]
    rw [wr64 (n := (k : Int) + 1) (by omega) (by omega)]
    refine tri_last [0, 1] (Tri.pre (ih (k + 1) o2 (by omega) (by omega)) fun q hq => ent_head (fun q h => ?_) hq)
    have e : u64s (ps.take k) ++ [.int .u64 (ps[k] : Int)] = u64s (ps.take (k + 1)) := by
     rw [List.take_add_one, List.getElem?_eq_getElem hkp, u64s_app']
     rfl
    rw [← e]
    exact h
   ·obtain rfl : k = 32 := by omega
    refine tri_f (by simp [hlen]) (tri_end [0, 0] fun q hq => ⟨o, rfl, ?_⟩)
    rw [List.take_of_length_le (by omega)] at hq
    exact hq
 refine tri_call [0] ((loop N 0 ⟨none, 0⟩ (by omega) (by omega)).pre fun q hq => ent_emp (fun q h => .nil 1 h) hq) fun j => tri_ex fun o => tri_pu fun hj => tri_flat ?_
 subst hj
 dsimp only [sel, rem, nth, del, cat, upd]
 refine own_ln 0 rfl fun lj => ?_
 refine tri_call [0] (lay_spec (size := 2) (ns := ps) (by omega) (by omega) (rd_own lj) (fun x hx => by have := h.le x hx; have : (256 : Nat) ^ 2 = 65536 := rfl; omega) (by omega) hN) fun r10 => tri_pu fun h10 => tri_flat ?_
 dsimp only [sel, rem, nth, del, cat, upd]
 exact tri_end [0, 1] fun q hq => ⟨h10, hq⟩
theorem pointers_spec (h : TabOk ps) (hr : RdC T s 1 (bytesOf (tabB ps))) (hN : 5000 < N) : Tri (stars [T]) (F_2l N s) fun r => pu (r.2 = 0) (stars [OwnA r.1 1 (ownC ps), T]) := by
 have hmost : most = 70368744177664 := rfl
 have h32 := h.len
 have hl64 := tabB_len h
 have hlen := bl_len hr
 have hch : chunks 2 32 (tabB ps) = ps := by
  have := chunks_lays (size := 2) ps fun x hx => by have := h.le x hx; have : (256 : Nat) ^ 2 = 65536 := rfl; omega
  rw [h32] at this
  exact this
 unfold F_2l
 refine tri_call [0] (take_spec (size := 2) (k := 32) hr (by omega) (by omega) (by omega) (by omega) hN) fun r2 => tri_pu fun h2 => tri_flat ?_
 rw [hch]
 dsimp only [sel, rem, nth, del, cat, upd]
 refine tri_f (by rw [h2, hlen, hl64]; simp) ?_
 refine own_ln 0 rfl fun l2 => ?_
 have l2' := l2
 rw [u64s_len] at l2'
 have loop : ∀ (K k : Nat) (o : Sl), 32 - k < K → k ≤ 32 → Tri (stars [OwnA o 1 (ownC (ps.take k)), OwnA r2.1 1 (u64s ps)]) (iter K (F_47 N r2) (o, (k : Int))) fun r => exA fun o : Sl => pu (r = .inl o) (stars [OwnA o 1 (ownC ps)]) := by
  intro K
  induction K with
  | zero => intro k o h; omega
  | succ K ih =>
   intro k o hh hk
   rw [iter_S]
   unfold F_47
   by_cases hkl : k < 32
   ·have hkp : k < ps.length := by omega
    have hle := h.le _ (List.getElem_mem hkp)
    refine tri_t (by simp; omega) ?_
    refine own_ln 0 rfl fun lo => ?_
    rw [ownC_len, List.length_take] at lo
    refine tri_rI 1 rfl (rd_own l2) (i := k) (k := .u64) (v := (ps[k] : Nat)) (by simp [u64s, hkp]) ?_
    rw [wr64 (n := (ps[k] : Int)) (by omega) (by omega)]
    unfold F_0a
    refine tri_bdret (tri_f (by simp; omega) ?_)
    refine tri_alloc fun b => ?_
    refine tri_call [1, 0] (rd_app (s := o) (by' := 8) (T := pts b (.cells [.int .i64 (ps[k] : Int)] false)) (rd_pts0 (by simp)) (by omega) rfl (by dsimp only; omega)) fun o2 => tri_flat ?_
    dsimp only [sel, rem, nth, del, cat, upd]
    rw [wr64 (n := (k : Int) + 1) (by omega) (by omega)]
    refine tri_last [0, 1] (Tri.pre (ih (k + 1) o2 (by omega) (by omega)) fun q hq => ent_head (fun q h => ?_) hq)
    have e : ownC (ps.take k) ++ [.int .i64 (ps[k] : Int)] = ownC (ps.take (k + 1)) := by
     rw [List.take_add_one, List.getElem?_eq_getElem hkp, ownC_app]
     rfl
    rw [← e]
    exact h
   ·obtain rfl : k = 32 := by omega
    refine tri_f (by simp; omega) (tri_end [0] fun q hq => ⟨o, rfl, ?_⟩)
    rw [List.take_of_length_le (by omega)] at hq
    exact hq
 refine tri_call [0] ((loop N 0 ⟨none, 0⟩ (by omega) (by omega)).pre fun q hq => ent_emp (fun q h => .nil 1 h) hq) fun j => tri_ex fun o => tri_pu fun hj => tri_flat ?_
 subst hj
 dsimp only [sel, rem, nth, del, cat, upd]
 exact tri_end [0, 0] fun q hq => ⟨rfl, hq⟩
end
end Go.Moat

/- Layer 16: a file that is open. -/
namespace Go.Moat
open Go.Mini
def openC (v : Nat) (i : Int) (n : Ino) (a : Nat) : List MV := [.ptr (some ⟨v, 0⟩), .int .i64 i] ++ inoC n ++ [.int .u16 a]
theorem openC_len (v : Nat) (i : Int) (n : Ino) (a : Nat) : (openC v i n a).length = 17 := by simp [openC, inoC_len]
section
variable {N : Nat} {β : Type} {l : List HA} {S : β → HA} {T : HA} {v d : Nat} {g : Geo} {V : VolS}
theorem begin_file (hg : g.ok) (ok : MetaOk g V.n.m) (i : Int) : Tri (stars [VolA v d g V]) (F_0b N (some ⟨v, 0⟩) i) fun r => exA fun o : Nat => pu (r = if V.n.m.hasE i = 0 then (some ⟨o, 0⟩, 0) else (none, V.n.m.hasE i)) (stars [VolA v d g V, if V.n.m.hasE i = 0 then pts o (.cells (openC v i (V.n.m.inodeN i) (V.n.m.inodeL i)) false) else emp]) := by
 unfold F_0b
 refine tri_call [0] (vinode_spec hg ok i) fun r3 => tri_pu fun h3 => tri_flat ?_
 subst h3
 dsimp only [sel, rem, nth, del, cat, upd]
 rw [zino_c]
 refine ino_copy1 ?_
 have ef : ∀ (n : Ino) (a : Nat), fillV ([MV.ptr none, MV.int IntKind.i64 0, MV.int IntKind.u8 0, MV.int IntKind.u8 0] ++ reps 12 [MV.int IntKind.i64 0] ++ [MV.int IntKind.u16 0]) [(0, none, MV.ptr (some ⟨v, 0⟩)), (1, none, MV.int IntKind.i64 i), (2, some 14, MV.agg (inoC n)), (16, none, MV.int IntKind.u16 (a : Int))] = some (openC v i n a) := by
  intro n a
  obtain ⟨k, r, xs, hx⟩ := n
  match xs, hx with
  | [a, b, c, d, e, f, g, h, i, j, p, q], _ => rfl
 by_cases hE : V.n.m.hasE i = 0
 ·refine tri_f (by simpa using hE) (ino_copy2 ?_)
  rw [ef]
  refine tri_ok (tri_alloc fun o => tri_end [1, 0] fun q hq => ⟨o, by rw [if_pos hE], ?_⟩)
  rw [if_pos hE]
  exact hq
 ·refine tri_t (by simpa using hE) (tri_end [0] fun q hq => ⟨0, by rw [if_neg hE], ?_⟩)
  rw [if_neg hE]
  exact ent_tail (fun q hq => ent_emp (fun q h => h) hq) hq
end
end Go.Moat

/- Layer 16: an open file's tables. -/
namespace Go.Moat
open Go.Mini
section
variable {N : Nat} {β : Type} {l : List HA} {S : β → HA} {T : HA} {v d o : Nat} {g : Geo} {V : VolS}
def IsTab (g : Geo) (V : VolS) (p : Nat) (ps : List Nat) : Prop := TabOk ps ∧ if p = 0 then ps = List.replicate 32 0 else V.readE g ((p - 1 : Nat) : Int) = 0 ∧ V.readB g ((p - 1 : Nat) : Int) = tabB ps
theorem pointers_file (hg : g.ok) {i : Int} {n : Ino} {a p : Nat} {ps : List Nat} (hp : p ≤ 512) (h : IsTab g V p ps) (hN : 5000 < N) :
  Tri (stars [VolA v d g V, pts o (.cells (openC v i n a) false)]) (F_0l N (some ⟨o, 0⟩) (p : Int)) fun r => pu (r.2 = 0) (stars [OwnA r.1 1 (ownC ps), VolA v d g V, pts o (.cells (openC v i n a) false)]) := by
 obtain ⟨ht, h⟩ := h
 unfold F_0l
 by_cases hp0 : p = 0
 ·rw [if_pos hp0] at h
  subst h
  refine tri_t (by simp [hp0]) ?_
  refine tri_new (g := fun b => (⟨some ⟨b, 0⟩, 32⟩ : Sl)) (x := .cells (ownC (List.replicate 32 0)) false) (fun h' => ?_) fun b => ?_
  ·unfold mkSl
   rw [if_pos ⟨by omega, by omega, by have : most = 70368744177664 := rfl; omega, rfl⟩]
   rfl
  ·refine tri_end [0, 0, 0] fun q hq => ⟨rfl, ?_⟩
   exact stars_imp (.cons (fun _ k => .mk (by rw [ownC_len]; simp) k) (.cons (fun _ k => k) (.cons (fun _ k => k) .nil))) q hq
 ·rw [if_neg hp0] at h
  obtain ⟨hre, hrb⟩ := h
  refine tri_f (by simp; omega) ?_
  refine tri_nn (tri_fl (tri_ldP 1 rfl rfl ?_))
  have e1 : wr .i64 ((p : Int) - 1) = ((p - 1 : Nat) : Int) := by rw [wr64 (by omega) (by omega)]; omega
  rw [e1]
  refine tri_call [0] (vread_spec hg ((p - 1 : Nat) : Int)) fun r7 => tri_pu fun h7 => tri_flat ?_
  rw [hre] at h7
  rw [if_pos hre, hrb]
  dsimp only [sel, rem, nth, del, cat, upd]
  refine tri_f (by rw [h7]; simp) ?_
  refine own_ln 1 rfl fun l7 => ?_
  refine tri_call [1] (pointers_spec ht (rd_own l7) hN) fun r8 => tri_pu fun h8 => tri_flat ?_
  dsimp only [sel, rem, nth, del, cat, upd]
  exact tri_end [0, 1, 1] fun q hq => ⟨h8, hq⟩
end
end Go.Moat

/- Layer 16: where a block of a file is told of. -/
namespace Go.Moat
open Go.Mini
def wayO (k : Nat) : Nat := if k < 8 then 6 + k else if k < 40 then 14 else 15
def wayP (k : Nat) : List Nat := if k < 8 then [] else if k < 40 then [k - 8] else [(k - 40) / 32, (k - 40) % 32]
section
variable {N : Nat} {β : Type} {l : List HA} {S : β → HA} {T : HA} {o : Nat}
theorem way_spec {k : Nat} (hk : k < 60) : Tri (stars []) (F_1j N (some ⟨o, 0⟩) (k : Int)) fun r => pu (r.1 = some ⟨o, wayO k⟩) (stars [OwnA r.2 1 (ownC (wayP k))]) := by
 unfold F_1j F_3d wayO wayP
 rw [if_neg (by simp; omega)]
 by_cases h8 : k < 8
 ·rw [if_pos (by simp; omega), if_pos h8, if_pos h8]
  refine tri_bdret (tri_t rfl (tri_nn (tri_fl (tri_fl ?_))))
  refine tri_op (a := some ⟨o, 6 + k⟩) (fun h => ?_) (tri_end [] fun q hq => ⟨rfl, ent_emp (fun q h => .nil 1 h) hq⟩)
  show (if 0 ≤ (k : Int) ∧ (k : Int) < (8 : Nat) then ret (some (MA.add ⟨o, 0 + 2 + 4⟩ ((k : Int).toNat * 1))) else fail) h = _
  rw [if_pos (by omega), Int.toNat_natCast, Nat.mul_one]
  rfl
 ·rw [if_neg (by simp; omega), if_neg h8, if_neg h8]
  by_cases h40 : k < 40
  ·rw [if_pos (by simp; omega), if_pos h40, if_pos h40]
   refine tri_bdret (tri_f (by simp) (tri_t rfl (tri_nn (tri_fl (tri_fl (tri_alloc fun b => tri_end [0] fun q hq => ⟨rfl, ?_⟩))))))
   have e : wr .i64 ((k : Int) - 8) = ((k - 8 : Nat) : Int) := by rw [wr64 (by omega) (by omega)]; omega
   dsimp only at hq
   rw [e] at hq
   exact stars_imp (.cons (fun _ k => .mk rfl k) .nil) q hq
  ·rw [if_neg (by simp; omega), if_neg h40, if_neg h40]
   refine tri_bdret (tri_f (by simp) (tri_f (by simp) (tri_nn (tri_fl (tri_fl (tri_alloc fun b => tri_end [0] fun q hq => ⟨rfl, ?_⟩))))))
   have e : wr .i64 ((k : Int) - 40) = ((k - 40 : Nat) : Int) := by rw [wr64 (by omega) (by omega)]; omega
   have e1 : ((k - 40 : Nat) : Int).tdiv 32 = (((k - 40) / 32 : Nat) : Int) := rfl
   have e2 : ((k - 40 : Nat) : Int).tmod 32 = (((k - 40) % 32 : Nat) : Int) := rfl
   dsimp only at hq
   rw [e, e1, e2, wr64 (by omega) (by omega)] at hq
   exact stars_imp (.cons (fun _ k => .mk rfl k) .nil) q hq
end
end Go.Moat

/- Layer 16: a block of a file is found. -/
namespace Go.Moat
open Go.Mini
inductive WalkTo (g : Geo) (V : VolS) : Nat → List Nat → Nat → Prop
 | nil (p : Nat) : WalkTo g V p [] p
 | cons (p k : Nat) (ks : List Nat) (q : Nat) (ps : List Nat) (hp : p ≤ 512) (hk : k < 32) (ht : IsTab g V p ps) (h : WalkTo g V (ps[k]?.getD 0) ks q) : WalkTo g V p (k :: ks) q
section
variable {N : Nat} {β : Type} {l : List HA} {S : β → HA} {T : HA} {v d o : Nat} {g : Geo} {V : VolS}
theorem find_loop (hg : g.ok) {i : Int} {n : Ino} {a : Nat} {r3 : Option MA × Sl} {pl : List Nat} (hl : r3.2.len = pl.length) (hpl : pl.length ≤ 2) (h32 : ∀ x ∈ pl, x < 32) (hN : 5000 < N) :
  ∀ (K j p q : Nat), pl.length - j < K → j ≤ pl.length → WalkTo g V p (pl.drop j) q →
  Tri (stars [OwnA r3.2 1 (ownC pl), VolA v d g V, pts o (.cells (openC v i n a) false)]) (iter K (F_49 N (some ⟨o, 0⟩) r3) ((p : Int), (j : Int))) fun r => pu (r = .inl (q : Int)) (stars [VolA v d g V, pts o (.cells (openC v i n a) false)]) := by
 intro K
 induction K with
 | zero => intro j p q h; omega
 | succ K ih =>
  intro j p q h hj hw
  rw [iter_S]
  unfold F_49
  by_cases hjl : j < pl.length
  ·refine tri_t (by simp [hl]; omega) ?_
   rw [List.drop_eq_getElem_cons hjl] at hw
   cases hw with
   | cons _ _ _ _ ps hp hk ht hw2 =>
    have hps : pl[j] < ps.length := by rw [ht.1.len]; exact hk
    refine own_ln 0 rfl fun l3 => ?_
    refine tri_rI 0 rfl (rd_own l3) (i := j) (k := .i64) (v := (pl[j] : Nat)) (by simp [i64s, hjl]) ?_
    refine tri_call [1, 1] (pointers_file (ps := ps) hg hp ht hN) fun r10 => tri_pu fun h10 => tri_flat ?_
    dsimp only [sel, rem, nth, del, cat, upd]
    refine tri_f (by rw [h10]; simp) ?_
    refine own_ln 0 rfl fun l10 => ?_
    refine tri_rI 0 rfl (rd_own l10) (i := pl[j]) (k := .i64) (v := (ps[pl[j]] : Nat)) (by simp [i64s, hps]) ?_
    rw [wr64 (n := (j : Int) + 1) (by omega) (by omega)]
    rw [List.getElem?_eq_getElem hps] at hw2
    exact tri_last [3, 1, 1] (ih (j + 1) ps[pl[j]] q (by omega) (by omega) hw2)
  ·obtain rfl : j = pl.length := by omega
   rw [List.drop_length] at hw
   cases hw
   exact tri_f (by simp [hl]) (tri_end [1, 1] fun q hq => ⟨rfl, hq⟩)
theorem open_at {i : Int} {n : Ino} {a j : Nat} (hj : j < 12) : (openC v i n a)[4 + j]? = some (.int .i64 (n.at j)) := by
 unfold openC
 have h := inoC_at n hj
 have hl := (List.getElem?_eq_some_iff.1 h).1
 rw [List.getElem?_append_left (by simp [inoC_len]; omega), List.getElem?_append_right (by simp; omega)]
 rw [show 4 + j - [MV.ptr (some ⟨v, 0⟩), MV.int .i64 i].length = j + 2 by simp; omega]
 exact h
theorem find_spec (hg : g.ok) {i : Int} {n : Ino} {a k p q : Nat} (hk : k < 60) (hp : n.at (wayO k - 4) = p) (hw : WalkTo g V p (wayP k) q) (hN : 5000 < N) :
  Tri (stars [VolA v d g V, pts o (.cells (openC v i n a) false)]) (F_0m N (some ⟨o, 0⟩) (k : Int)) fun r => pu (r = ((q : Int), 0)) (stars [VolA v d g V, pts o (.cells (openC v i n a) false)]) := by
 have hO : 4 ≤ wayO k ∧ wayO k - 4 < 12 := by
  unfold wayO
  split
  ·omega
  ·split <;> omega
 have hP : (wayP k).length ≤ 2 ∧ ∀ x ∈ wayP k, x < 32 := by
  unfold wayP
  split
  ·simp
  ·split
   ·simp; omega
   ·simp; omega
 unfold F_0m
 refine tri_call [] (way_spec (o := o) hk) fun r3 => tri_pu fun h3 => tri_flat ?_
 dsimp only [sel, rem, nth, del, cat, upd]
 rw [h3]
 refine tri_nn ?_
 refine tri_ldI 2 rfl (by rw [show wayO k = 4 + (wayO k - 4) by omega]; exact open_at hO.2) ?_
 rw [hp]
 refine own_ln 0 rfl fun l3 => ?_
 rw [ownC_len] at l3
 refine tri_call [0, 0, 0] (find_loop hg (r3 := r3) (pl := wayP k) (by omega) hP.1 hP.2 hN N 0 p q (by omega) (by omega) (by rw [List.drop_zero]; exact hw)) fun j => tri_pu fun hj => tri_flat ?_
 subst hj
 dsimp only [sel, rem, nth, del, cat, upd]
 exact tri_end [0, 0] fun q hq => ⟨rfl, hq⟩
end
end Go.Moat

/- Layer 16: a block is taken. -/
namespace Go.Moat
open Go.Mini
section
variable {N : Nat} {β : Type} {l : List HA} {S : β → HA} {T : HA} {v d o : Nat} {g : Geo} {V : VolS}
theorem take_had {p : Nat} (hp : p ≠ 0) : F_0c N (some ⟨o, 0⟩) (p : Int) = ret ((p : Int), 0) := by
 unfold F_0c
 rw [if_pos (by simp; omega)]
theorem take_new (hg : g.ok) (ok : MetaOk g V.n.m) {i : Int} {n : Ino} {a : Nat} (ha : a < 65536) (hN : 5000 < N) :
  Tri (stars [VolA v d g V, pts o (.cells (openC v i n a) false)]) (F_0c N (some ⟨o, 0⟩) 0) fun r => pu (r = (wr .i64 ((V.n.m.alloc g a).1.1 + 1), (V.n.m.alloc g a).1.2)) (stars [VolA v d g (V.wM (V.n.m.alloc g a).2), pts o (.cells (openC v i n a) false)]) := by
 unfold F_0c
 refine tri_f (by simp) ?_
 refine tri_nn (tri_fl (tri_ldP 1 rfl rfl ?_))
 have g16 : (openC v i n a)[0 + 16]? = some (.int .u16 (a : Int)) := by
  unfold openC
  rw [List.getElem?_append_right (by simp [inoC_len])]
  simp [inoC_len]
 refine tri_nn (tri_fl (tri_ldI 1 rfl g16 ?_))
 refine tri_call [0] (valloc_spec hg ok ha hN) fun r9 => tri_pu fun h9 => tri_flat ?_
 subst h9
 dsimp only [sel, rem, nth, del, cat, upd]
 exact tri_end [0, 0] fun q hq => ⟨rfl, hq⟩
end
end Go.Moat

/- Layer 16: a file's inode is set; a block of it is read. -/
namespace Go.Moat
open Go.Mini
section
variable {N : Nat} {β : Type} {l : List HA} {S : β → HA} {T : HA} {v d o : Nat} {g : Geo} {V : VolS}
theorem open_ino (v : Nat) (i : Int) (n : Ino) (a : Nat) : ((openC v i n a).drop 2).take 14 = inoC n := by
 unfold openC
 rw [List.append_assoc]
 show List.take 14 (inoC n ++ [.int .u16 a]) = _
 exact List.take_left' (inoC_len _)
theorem done_spec (hg : g.ok) (ok : MetaOk g V.n.m) {i : Int} {n : Ino} {a : Nat} (hN : 5000 < N) :
  Tri (stars [VolA v d g V, pts o (.cells (openC v i n a) false)]) (F_1p N (some ⟨o, 0⟩)) fun r => pu (r = V.n.m.setE i n) (stars [VolA v d g (if V.n.m.setE i n = 0 then V.wM (V.n.m.set i.toNat n) else V), pts o (.cells (openC v i n a) false)]) := by
 unfold F_1p
 refine tri_nn (tri_fl (tri_ldP 1 rfl rfl ?_))
 refine tri_nn (tri_fl (tri_ldI 1 rfl rfl ?_))
 refine tri_nn (tri_fl (tri_ldn 1 rfl (by rw [openC_len]; omega) ?_))
 rw [Nat.zero_add, open_ino]
 refine tri_call [0] (vset_spec hg ok i n hN) fun r11 => tri_pu fun h11 => tri_flat ?_
 dsimp only [sel, rem, nth, del, cat, upd]
 exact tri_end [0, 0] fun q hq => ⟨h11, hq⟩
end
end Go.Moat
