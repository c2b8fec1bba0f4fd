/- Layer 14: what is known of a disk. -/
import Derived.Test.YtcaaljlhljemoaaGreatP15c
namespace Go.Moat
open Go.Mini
structure MetaS where
 rows : List Row
 own : List Nat
 used : List UInt8
 ino : List Ino
 deriving DecidableEq
structure MetaOk (g : Geo) (M : MetaS) : Prop where
 rows : RowsOk M.rows
 ownl : M.own.length = g.G
 own16 : ∀ o ∈ M.own, o ≤ 16
 usedl : M.used.length = 64
 used0 : ∀ i, g.B ≤ i → getBit M.used i = false
 inol : M.ino.length = g.I
 inok : ∀ n ∈ M.ino, n.Ok
abbrev ownC (o : List Nat) : List MV := i64s (o.map fun (x : Nat) => (x : Int))
theorem ownC_len (o : List Nat) : (ownC o).length = o.length := by simp [i64s_len]
abbrev inosC (l : List Ino) : List MV := catL inoC l
def rowNs (rs : List Row) : List Nat := (rs.map fun r => [r.1, r.2]).flatten
def rowsB (rs : List Row) : List UInt8 := lays 2 (rowNs rs)
def ownB (o : List Nat) : List UInt8 := filled (o.map UInt8.ofNat) 64
def pairsB : List Ino → List (List UInt8)
 | a :: b :: r => (inoB a ++ inoB b) :: pairsB r
 | _ => []
def metaB (M : MetaS) : List (List UInt8) := rowsB M.rows :: ownB M.own :: M.used :: pairsB M.ino
theorem rowNs_len : ∀ (rs : List Row), (rowNs rs).length = rs.length * 2
 | [] => rfl
 | r :: rs => by
  have := rowNs_len rs
  unfold rowNs at this ⊢
  simp only [List.map_cons, List.flatten_cons, List.length_append, this, List.length_cons, List.length_nil]
  omega
theorem rowNs_get {rs : List Row} {i : Nat} (h : i < rs.length) : (rowNs rs)[2 * i]? = some rs[i].1 ∧ (rowNs rs)[2 * i + 1]? = some rs[i].2 := by
 induction rs generalizing i with
 | nil => simp at h
 | cons r rs ih =>
  cases i with
  | zero => exact ⟨rfl, rfl⟩
  | succ i =>
   have := ih (i := i) (by simpa using h)
   rw [show 2 * (i + 1) = (2 * i) + 2 by omega, show 2 * i + 2 + 1 = (2 * i + 1) + 2 by omega]
   simpa [rowNs] using this
theorem rowNs_lt {rs : List Row} (ok : RowsOk rs) : ∀ x ∈ rowNs rs, x < 256 ^ 2 := by
 intro x hx
 obtain ⟨y, hy, hxy⟩ := List.mem_flatten.1 hx
 obtain ⟨r, hr, rfl⟩ := List.mem_map.1 hy
 have := ok.rng r hr
 simp at hxy
 omega
theorem pairsB_len : ∀ (l : List Ino), (pairsB l).length = l.length / 2
 | [] => rfl
 | [_] => by simp [pairsB]
 | a :: b :: r => by
  simp only [pairsB, List.length_cons, pairsB_len r]
  omega
theorem pairsB_get : ∀ {l : List Ino} {i : Nat} (h : 2 * i + 1 < l.length), (pairsB l)[i]? = some (inoB l[2 * i] ++ inoB l[2 * i + 1])
 | [], i, h => by simp at h
 | [_], i, h => by simp at h
 | a :: b :: r, 0, h => rfl
 | a :: b :: r, i + 1, h => by
  have := pairsB_get (l := r) (i := i) (by simp at h; omega)
  simp only [pairsB, List.getElem?_cons_succ, this]
  rfl
def slsC (ls : List (Sl × List UInt8)) : List MV := ls.map fun x => .sl x.1.p x.1.len 1
theorem slsC_len (ls : List (Sl × List UInt8)) : (slsC ls).length = ls.length := by simp [slsC]
structure RdL (T : HA) (s : Sl) (ls : List (Sl × List UInt8)) : Prop where
 hd : RdC T s 1 (slsC ls)
 el : ∀ x ∈ ls, RdC T x.1 1 (bytesOf x.2)
section
variable {N : Nat} {β : Type} {l : List HA} {S : β → HA} {T : HA} {s : Sl}
theorem RdL.len {ls : List (Sl × List UInt8)} (h : RdL T s ls) : s.len = ls.length := by
 have := h.hd.1
 rw [slsC_len] at this
 omega
theorem tri_rls (n : Nat) (hl : l[n]? = some T) {ls : List (Sl × List UInt8)} (h : RdL T s ls) {i : Nat} (hi : i < ls.length) {f : Sl → M β} (kk : RdC T ls[i].1 1 (bytesOf ls[i].2) → Tri (stars l) (f ls[i].1) S) : Tri (stars l) (bd (idx 1 s (i : Int)) fun q => bd (ldL 1 q) f) S :=
 tri_rL n hl h.hd (p := ls[i].1.p) (ln := ls[i].1.len) (by simp [slsC, hi]) (kk (h.el _ (List.getElem_mem hi)))
theorem itakeR_spec {rs : List Row} (ok : RowsOk rs) (hr : RdC T s 1 (bytesOf (rowsB rs))) (hN : 5000 < N) : Tri (stars [T]) (F_intern_Take N s) fun r => pu (r.2 = 0) (stars [OwnA r.1 2 (rowsC rs), T]) := by
 have h16 := ok.len
 have hB : (rowsB rs).length = 64 := by rw [rowsB, lays_len, rowNs_len, h16]
 unfold F_intern_Take
 refine tri_call [0] (take_spec (size := 2) (k := 32) hr (by omega) (by omega) (by rw [hB]) (by rw [hB]; omega) hN) fun r => tri_pu fun hr2 => tri_flat ?_
 dsimp only [sel, rem, nth, del, cat, upd]
 have e32 : chunks 2 32 (rowsB rs) = rowNs rs := by
  have := chunks_lays (size := 2) (rowNs rs) (rowNs_lt ok)
  rw [rowNs_len, h16] at this
  exact this
 rw [e32]
 refine own_ln 0 rfl fun h0 => ?_
 rw [u64s_len, rowNs_len, h16] at h0
 refine tri_f (by simp [hr2]; omega) ?_
 have loop : ∀ (K j : Nat) (w : Sl), 16 - j < K → j ≤ 16 → Tri (stars [OwnA w 2 (rowsC (rs.take j)), OwnA r.1 1 (u64s (rowNs rs)), T]) (iter K (F_intern_Take_b1 N r) (w, ((2 * j : Nat) : Int))) fun w => stars [OwnA w 2 (rowsC rs), OwnA r.1 1 (u64s (rowNs rs)), T] := by
  intro K
  induction K with
  | zero => intro j w h; omega
  | succ K ih =>
   intro j w h hj
   rw [iter_S]
   unfold F_intern_Take_b1
   by_cases hjk : j < 16
   ·refine tri_t (by simp; omega) ?_
    have hjl : j < rs.length := by omega
    have g1 : (u64s (rowNs rs))[2 * j]? = some (.int .u64 rs[j].1) := by unfold u64s; rw [List.getElem?_map, (rowNs_get hjl).1]; rfl
    have g2 : (u64s (rowNs rs))[2 * j + 1]? = some (.int .u64 rs[j].2) := by unfold u64s; rw [List.getElem?_map, (rowNs_get hjl).2]; rfl
    have hro : RdC (OwnA r.1 1 (u64s (rowNs rs))) r.1 1 (u64s (rowNs rs)) := rd_own (by rw [u64s_len, rowNs_len, h16]; omega)
    refine tri_rI 1 rfl hro g1 ?_
    dsimp only
    have e1 : wr .i64 (((2 * j : Nat) : Int) + 1) = ((2 * j + 1 : Nat) : Int) := by rw [wr64 (by omega) (by omega)]; omega
    have e2 : wr .i64 (((2 * j : Nat) : Int) + 2) = ((2 * (j + 1) : Nat) : Int) := by rw [wr64 (by omega) (by omega)]; omega
    rw [e1, e2]
    refine tri_rI 1 rfl hro g2 ?_
    have hrng := ok.rng _ (List.getElem_mem hjl)
    rw [wr16 (by omega) (by omega), wr64 (by omega) (by omega)]
    refine tri_alloc fun b => ?_
    refine own_ln 1 rfl fun hw => ?_
    rw [catL_len rowC_len, List.length_take] at hw
    refine tri_call [1, 0] (rd_app (T := pts b (.cells (rowC rs[j]) false)) (ts := rowC rs[j]) (rd_pts0 (by simp [rowC])) (by omega) (rowC_cell _) (by
     have : most = 70368744177664 := rfl
     dsimp only
     omega)) fun w' => tri_flat ?_
    dsimp only [sel, rem, nth, del, cat, upd]
    have e3 : rowsC (rs.take j) ++ rowC rs[j] = rowsC (rs.take (j + 1)) := catL_snoc hjl
    rw [e3]
    exact tri_last [0, 1, 1] (ih (j + 1) w' (by omega) (by omega))
   ·obtain rfl : j = 16 := by omega
    refine tri_f (by simp; omega) (tri_ret fun q hq => ?_)
    rw [List.take_of_length_le (by omega)] at hq
    exact hq
 refine Tri.pre (B := stars [OwnA ⟨none, 0⟩ 2 (rowsC (rs.take 0)), OwnA r.1 1 (u64s (rowNs rs)), T]) ?_ fun q hq => ent_emp (fun q h => .nil 2 h) hq
 refine tri_call [0, 0, 0] (loop N 0 ⟨none, 0⟩ (by omega) (by omega)) fun w => tri_flat ?_
 dsimp only [sel, rem, nth, del, cat, upd]
 refine own_ln 0 rfl fun hw => ?_
 refine tri_call [0] (iright_spec ok (rd_own hw) (by omega)) fun r => tri_pu fun h => tri_flat ?_
 subst h
 exact tri_f (by simp) (tri_end [0, 1] fun q hq => ⟨rfl, hq⟩)
theorem tri_inoRow (n : Nat) (hl : l[n]? = some T) {is : List Ino} (hr : RdC T s 14 (inosC is)) {i : Nat} (hi : i < is.length) {f : List MV → M β} (kk : Tri (stars l) (f (inoC is[i])) S) : Tri (stars l) (bd (idx 14 s (i : Int)) fun q => bd (ldn 14 q) f) S :=
 tri_rn n hl hr (by have := hr.1; rw [catL_len inoC_len] at this; omega) (by rw [catL_at inoC_len hi]; exact kk)
theorem ino_copy {n m : Ino} {f : List MV → M β} {A : HA} (k : Tri A (f (inoC n)) S) : Tri A (bd (if (inoC n).length = 14 ∧ 0 + 14 ≤ (inoC m).length ∧ (inoC n).all isCell = true then ret () else fail) fun _ => bd (if 0 + 14 ≤ (over (inoC m) 0 (inoC n)).length then ret (((over (inoC m) 0 (inoC n)).drop 0).take 14) else fail) f) S := by
 rw [if_pos ⟨inoC_len n, by rw [inoC_len]; omega, inoC_cell n⟩]
 refine tri_bdret ?_
 rw [over_self (by rw [inoC_len, inoC_len]), if_pos (by rw [inoC_len]; omega), List.drop_zero, List.take_of_length_le (by rw [inoC_len]; omega)]
 exact tri_bdret k
theorem ino_copy1 {n m : Ino} {f : Unit → M β} {A : HA} (k : Tri A (f ()) S) : Tri A (bd (if (inoC n).length = 14 ∧ 0 + 14 ≤ (inoC m).length ∧ (inoC n).all isCell = true then ret () else fail) f) S := by
 rw [if_pos ⟨inoC_len n, by rw [inoC_len]; omega, inoC_cell n⟩]
 exact tri_bdret k
theorem ino_copy2 {n m : Ino} {f : List MV → M β} {A : HA} (k : Tri A (f (inoC n)) S) : Tri A (bd (if 0 + 14 ≤ (over (inoC m) 0 (inoC n)).length then ret (((over (inoC m) 0 (inoC n)).drop 0).take 14) else fail) f) S := by
 rw [over_self (by rw [inoC_len, inoC_len]), if_pos (by rw [inoC_len]; omega), List.drop_zero, List.take_of_length_le (by rw [inoC_len]; omega)]
 exact tri_bdret k
theorem over_ino (n m : Ino) : over (inoC m) 0 (inoC n) = inoC n := over_self (by rw [inoC_len, inoC_len])
theorem minodes_spec {is : List Ino} {ls : List (Sl × List UInt8)} (hok : ∀ n ∈ is, n.Ok) (h2 : is.length % 2 = 0) (h64 : is.length ≤ 64) (hr : RdL T s ls) (hls : ls.map (·.2) = pairsB is) (hN : 5000 < N) :
  Tri (stars [T]) (F_meta_inodes N s) fun r => pu (r.2 = true) (stars [OwnA r.1 14 (inosC is), T]) := by
 have hlen := hr.len
 have hl2 : ls.length = is.length / 2 := by rw [← pairsB_len, ← hls, List.length_map]
 unfold F_meta_inodes
 have step : ∀ (K : Nat) (w y : Sl) (m j : Nat) (hj : j < is.length) (Q : Sl ⊕ (Sl × Bool) → HA) (b0 b1 : List UInt8), w.len = m → m ≤ 100 → RdC T y 1 (bytesOf (b0 ++ inoB is[j] ++ b1)) → y.len ≤ 64 → (b0.length = 0 ∨ b0.length = 32) →
   (∀ w', w'.len = m + 1 → Tri (stars [OwnA w' 14 (inosC (is.take j) ++ inoC is[j]), T]) (iter K (F_meta_inodes_b1 N y) (w', ((b0.length + 32 : Nat) : Int))) Q) →
   Tri (stars [OwnA w 14 (inosC (is.take j)), T]) (iter (K + 1) (F_meta_inodes_b1 N y) (w, (b0.length : Int))) Q := by
  intro K w y m j hj Q b0 b1 hw hm hy hy64 hb0 kk
  have hyl := bl_len hy
  rw [List.length_append, List.length_append, inoB_len] at hyl
  rw [iter_S]
  unfold F_meta_inodes_b1
  refine tri_t (by simp; omega) ?_
  dsimp only
  have e1 : wr .i64 ((b0.length : Int) + 32) = ((b0.length + 32 : Nat) : Int) := by rw [wr64 (by omega) (by omega)]; omega
  rw [e1]
  refine tri_slc (by omega) (by omega) (by omega) ?_
  have hs := rd_subB hy (lo := b0.length) (hi := b0.length + 32) (by omega) (by omega)
  rw [Int.toNat_natCast, Int.toNat_natCast]
  have e2 : ((b0 ++ inoB is[j] ++ b1).drop b0.length).take (b0.length + 32 - b0.length) = inoB is[j] := by
   rw [List.append_assoc, List.drop_left, List.take_left' (by rw [inoB_len]; omega)]
  rw [e2] at hs
  have hokj := hok _ (List.getElem_mem hj)
  refine tri_call [1] (itake_spec hokj hs hN) fun r => tri_pu fun h => tri_flat ?_
  subst h
  dsimp only [sel, rem, nth, del, cat, upd]
  rw [zino_c]
  refine ino_copy1 (tri_f (by simp) (ino_copy2 ?_))
  have e3 : fillV (inoC Ino.z) [(0, some 14, .agg (inoC is[j]))] = some (inoC is[j]) := by
   simp only [fillV, inoC_len, Nat.zero_add, Nat.le_refl, and_self, if_true, over_ino]
  rw [e3]
  refine tri_ok (tri_alloc fun b => ?_)
  refine own_ln 2 rfl fun hwl => ?_
  rw [catL_len inoC_len, List.length_take] at hwl
  refine tri_call [2, 0] (rd_app (T := pts b (.cells (inoC is[j]) false)) (rd_pts0 (k := 1) (by rw [inoC_len])) (by omega) (inoC_cell _) (by
   have : most = 70368744177664 := rfl
   dsimp only
   omega)) fun w' => tri_flat ?_
  dsimp only [sel, rem, nth, del, cat, upd]
  refine own_ln 0 rfl fun hwl' => ?_
  rw [List.length_append, catL_len inoC_len, inoC_len, List.length_take] at hwl'
  exact tri_last [0, 1] (kk w' (by omega))
 have loop : ∀ (K j : Nat) (w : Sl), ls.length - j < K → j ≤ ls.length → Tri (stars [OwnA w 14 (inosC (is.take (2 * j))), T]) (iter K (F_meta_inodes_b2 N s) (w, (j : Int))) fun r => exA fun w' => pu (r = .inl w') (stars [OwnA w' 14 (inosC is), T]) := by
  intro K
  induction K with
  | zero => intro j w h; omega
  | succ K ih =>
   intro j w h hj
   rw [iter_S]
   unfold F_meta_inodes_b2
   by_cases hjk : j < ls.length
   ·refine tri_t (by simp [hlen]; omega) ?_
    refine tri_rls 1 rfl hr hjk fun hy => ?_
    have hg : ls[j].2 = inoB (is[2 * j]'(by omega)) ++ inoB (is[2 * j + 1]'(by omega)) := by
     have h1 := pairsB_get (l := is) (i := j) (by omega)
     rw [← hls, List.getElem?_map, List.getElem?_eq_getElem hjk] at h1
     exact Option.some.inj h1
    have hyl := bl_len hy
    rw [hg, List.length_append, inoB_len, inoB_len] at hyl
    obtain ⟨K', hK'⟩ : ∃ K', N = K' + 3 := ⟨N - 3, by omega⟩
    refine own_ln 0 rfl fun hw => ?_
    rw [catL_len inoC_len, List.length_take] at hw
    refine tri_call [0, 0] (Q := fun r => exA fun w' => pu (r = .inl w') (stars [OwnA w' 14 (inosC (is.take (2 * (j + 1)))), T])) ?_ fun r => tri_ex fun w' => tri_pu fun hr' => tri_flat ?_
    ·show Tri _ (iter N _ _) _
     conv => arg 2; arg 1; rw [hK']
     refine step (K' + 2) w ls[j].1 (2 * j) (2 * j) (by omega) _ [] (inoB (is[2 * j + 1]'(by omega))) (by omega) (by omega) (by rw [List.nil_append, ← hg]; exact hy) (by omega) (.inl rfl) fun w1 hw1 => ?_
     have e1 : inosC (is.take (2 * j)) ++ inoC (is[2 * j]'(by omega)) = inosC (is.take (2 * j + 1)) := catL_snoc (by omega)
     rw [e1]
     have hb : ([] : List UInt8).length + 32 = (inoB (is[2 * j]'(by omega))).length := by rw [inoB_len]; rfl
     rw [hb]
     refine step (K' + 1) w1 ls[j].1 (2 * j + 1) (2 * j + 1) (by omega) _ (inoB (is[2 * j]'(by omega))) [] (by omega) (by omega) (by rw [List.append_nil, ← hg]; exact hy) (by omega) (.inr (inoB_len _)) fun w2 hw2 => ?_
     have e2 : inosC (is.take (2 * j + 1)) ++ inoC (is[2 * j + 1]'(by omega)) = inosC (is.take (2 * (j + 1))) := catL_snoc (by omega)
     rw [e2, iter_S]
     unfold F_meta_inodes_b1
     refine tri_f (by simp [inoB_len]; omega) (tri_ret fun q hq => ⟨w2, rfl, hq⟩)
    ·subst hr'
     dsimp only
     rw [wr64 (by omega) (by omega)]
     exact ih (j + 1) w' (by omega) (by omega)
   ·obtain rfl : j = ls.length := by omega
    refine tri_f (by simp [hlen]) (tri_ret fun q hq => ⟨w, rfl, ?_⟩)
    rw [List.take_of_length_le (by omega)] at hq
    exact hq
 refine Tri.pre (B := stars [OwnA ⟨none, 0⟩ 14 (inosC (is.take 0)), T]) ?_ fun q hq => ent_emp (fun q h => .nil 14 h) hq
 refine tri_call [0, 0] (loop N 0 ⟨none, 0⟩ (by omega) (by omega)) fun r => tri_ex fun w' => tri_pu fun hr' => tri_flat ?_
 subst hr'
 exact tri_end [0, 0] fun q hq => ⟨rfl, hq⟩
structure RdM (T : HA) (m : Sl × Sl × Sl × Sl) (M : MetaS) : Prop where
 rows : RdC T m.1 2 (rowsC M.rows)
 own : RdC T m.2.1 1 (ownC M.own)
 used : RdC T m.2.2.1 1 (bytesOf M.used)
 ino : RdC T m.2.2.2 14 (inosC M.ino)
theorem cntB_zero {bs : List UInt8} {lo hi : Nat} (h : ∀ i, lo ≤ i → getBit bs i = false) : cntB bs lo hi = 0 := by
 unfold cntB
 rw [List.length_eq_zero_iff, List.filter_eq_nil_iff]
 intro i hi'
 rw [List.mem_range'] at hi'
 obtain ⟨k, hk, rfl⟩ := hi'
 simpa using h (lo + k) (by omega)
theorem mright_spec {g : Geo} {M : MetaS} {m : Sl × Sl × Sl × Sl} (hg : g.ok) (ok : MetaOk g M) (hr : RdM T m M) (hN : 5000 < N) : Tri (stars [T]) (F_meta_Right N g.t m) fun r => pu (r = true) (stars [T]) := by
 have l2 : m.2.1.len = M.own.length := by
  have := hr.own.1
  rw [ownC_len] at this
  omega
 have l3 := bl_len hr.used
 have l4 : m.2.2.2.len = M.ino.length := by
  have := hr.ino.1
  rw [catL_len inoC_len] at this
  omega
 have hgG := hg.g2
 have hgI := hg.i2
 have hgB := hg.gp
 unfold F_meta_Right
 have e := right_eq (N := N) hg
 unfold Geo.t at e ⊢
 rw [e]
 refine tri_bdret ?_
 refine tri_call [0] (Q := fun c => pu (c = false) (stars [T])) ?_ fun c => tri_pu fun hc => tri_flat ?_
 ·refine tri_t rfl (tri_call [0] (iright_spec ok.rows hr.rows (by omega)) fun r => tri_pu fun h => tri_flat (tri_end [0] fun q hq => ⟨by rw [h]; rfl, hq⟩))
 subst hc
 dsimp only [sel, rem, nth, del, cat, upd]
 refine tri_f (by simp [l2, l3, l4, ok.ownl, ok.usedl, ok.inol]) ?_
 have loop1 : ∀ (K j : Nat), M.own.length - j < K → j ≤ M.own.length → Tri (stars [T]) (iter K (F_meta_Right_b1 N m) (j : Int)) fun r => pu (r = .inl ()) (stars [T]) := by
  intro K
  induction K with
  | zero => intro j h; omega
  | succ K ih =>
   intro j h hj
   rw [iter_S]
   unfold F_meta_Right_b1
   by_cases hjk : j < M.own.length
   ·refine tri_t (by simp [l2]; omega) ?_
    refine tri_rI 0 rfl hr.own (v := (M.own[j] : Nat)) (k := .i64) (by simp [i64s, hjk]) ?_
    have := ok.own16 _ (List.getElem_mem hjk)
    refine tri_f (by simp; omega) ?_
    rw [wr64 (by have := ok.ownl; omega) (by have := ok.ownl; omega)]
    exact ih (j + 1) (by omega) (by omega)
   ·obtain rfl : j = M.own.length := by omega
    exact tri_f (by simp [l2]) (tri_ret fun q hq => ⟨rfl, hq⟩)
 have loop2 : ∀ (K j : Nat), M.ino.length - j < K → j ≤ M.ino.length → Tri (stars [T]) (iter K (F_meta_Right_b2 N m) (j : Int)) fun r => pu (r = .inl ()) (stars [T]) := by
  intro K
  induction K with
  | zero => intro j h; omega
  | succ K ih =>
   intro j h hj
   rw [iter_S]
   unfold F_meta_Right_b2
   by_cases hjk : j < M.ino.length
   ·refine tri_t (by simp [l4]; omega) ?_
    refine tri_inoRow 0 rfl hr.ino hjk ?_
    rw [zino_c]
    refine ino_copy ?_
    rw [inoright_eq (by omega), Ino.ok_iff.2 (ok.inok _ (List.getElem_mem hjk))]
    refine tri_bdret (tri_f (by simp) ?_)
    rw [wr64 (by have := ok.inol; omega) (by have := ok.inol; omega)]
    exact ih (j + 1) (by omega) (by omega)
   ·obtain rfl : j = M.ino.length := by omega
    exact tri_f (by simp [l4]) (tri_ret fun q hq => ⟨rfl, hq⟩)
 refine tri_call [0] (loop1 N 0 (by have := ok.ownl; omega) (by omega)) fun r => tri_pu fun h => tri_flat ?_
 subst h
 dsimp only [sel, rem, nth, del, cat, upd]
 refine tri_call [0] (loop2 N 0 (by have := ok.inol; omega) (by omega)) fun r => tri_pu fun h => tri_flat ?_
 subst h
 dsimp only [sel, rem, nth, del, cat, upd]
 have e1 : wr .i64 ((g.G : Int) * (g.P : Int)) = (g.B : Int) := by
  have : (g.G : Int) * (g.P : Int) = ((g.G * g.P : Nat) : Int) := by simp
  rw [this, wr64 (by omega) (by omega)]
  rfl
 have e2 : wr .i64 ((8 : Int) * (m.2.2.1.len : Int)) = ((8 * M.used.length : Nat) : Int) := by
  rw [l3, ok.usedl]
  decide
 rw [e1, e2]
 refine tri_call [0] (count_spec hr.used (by have := ok.usedl; omega) (by have := ok.usedl; unfold Geo.B; omega) (Nat.le_refl _) hN) fun r => tri_pu fun h => tri_flat (tri_end [0] fun q hq => ⟨?_, hq⟩)
 rw [h, cntB_zero ok.used0]
 rfl
theorem byte1 (x : UInt8) : leN [x] = x.toNat := by simp [leN]
theorem chunks_one : ∀ (bs : List UInt8), chunks 1 bs.length bs = bs.map UInt8.toNat
 | [] => rfl
 | b :: r => by
  have := chunks_one r
  simp only [List.length_cons, chunks, List.take_succ_cons, List.take_zero, List.drop_succ_cons, List.drop_zero, byte1, this, List.map_cons]
theorem mtake_spec {g : Geo} {M : MetaS} {ls : List (Sl × List UInt8)} (hg : g.ok) (ok : MetaOk g M) (hr : RdL T s ls) (hls : ls.map (·.2) = metaB M) (hN : 5000 < N) :
  Tri (stars [T]) (F_meta_Take N g.t s) fun r => pu (r.2 = 0) (stars [OwnA r.1.1 2 (rowsC M.rows), OwnA r.1.2.1 1 (ownC M.own), OwnA r.1.2.2.1 1 (bytesOf M.used), OwnA r.1.2.2.2 14 (inosC M.ino), T]) := by
 have hgG := hg.g2
 have hgI := hg.i2
 have hi3 := hg.i3
 have hlen := hr.len
 have hll : ls.length = 3 + M.ino.length / 2 := by
  have := congrArg List.length hls
  rw [List.length_map] at this
  simp only [metaB, List.length_cons, pairsB_len] at this
  omega
 have hM : g.M = 3 + g.I / 2 := rfl
 have hil := ok.inol
 have hol := ok.ownl
 have hul := ok.usedl
 have rB : (rowsB M.rows).length = 64 := by rw [rowsB, lays_len, rowNs_len, ok.rows.len]
 have oB : (ownB M.own).length = 64 := filled_len (by rw [List.length_map]; omega)
 have get : ∀ i (hi : i < ls.length), ls[i].2 = (metaB M)[i]'(by rw [← hls, List.length_map]; exact hi) := by
  intro i hi
  simp [← hls]
 have b64 : ∀ i (hi : i < ls.length), ls[i].2.length = 64 := by
  intro i hi
  rw [get i hi]
  match i, hi with
  | 0, _ => exact rB
  | 1, _ => exact oB
  | 2, _ => exact hul
  | i + 3, hi =>
   have h1 := pairsB_get (l := M.ino) (i := i) (by omega)
   have h2 : (pairsB M.ino)[i]'(by rw [pairsB_len]; omega) = inoB (M.ino[2 * i]'(by omega)) ++ inoB (M.ino[2 * i + 1]'(by omega)) := by
    rw [List.getElem?_eq_getElem (by rw [pairsB_len]; omega)] at h1
    exact Option.some.inj h1
   show ((pairsB M.ino)[i]'_).length = 64
   rw [h2, List.length_append, inoB_len, inoB_len]
 have sl64 : ∀ i (hi : i < ls.length), ls[i].1.len = 64 := by
  intro i hi
  have := bl_len (hr.el _ (List.getElem_mem hi))
  rw [b64 i hi] at this
  exact this
 unfold F_meta_Take
 have e := right_eq (N := N) hg
 have e' := meta_eq (N := N) hg
 unfold Geo.t at e e' ⊢
 rw [e, e']
 refine tri_bdret ?_
 rw [if_pos (by simp)]
 refine tri_bdret (tri_bdret ?_)
 refine tri_f (by simp; omega) ?_
 have loop1 : ∀ (K j : Nat), ls.length - j < K → j ≤ ls.length → Tri (stars [T]) (iter K (F_meta_Take_b1 N s) ((j : Int), (⟨none, 0⟩, ⟨none, 0⟩, ⟨none, 0⟩, ⟨none, 0⟩))) fun r => pu (r = .inl (⟨none, 0⟩, ⟨none, 0⟩, ⟨none, 0⟩, ⟨none, 0⟩)) (stars [T]) := by
  intro K
  induction K with
  | zero => intro j h; omega
  | succ K ih =>
   intro j h hj
   rw [iter_S]
   unfold F_meta_Take_b1
   by_cases hjk : j < ls.length
   ·refine tri_t (by simp [hlen]; omega) ?_
    refine tri_rls 0 rfl hr hjk fun _ => ?_
    refine tri_f (by rw [sl64 j hjk]; simp) ?_
    dsimp only
    rw [wr64 (by omega) (by omega)]
    exact ih (j + 1) (by omega) (by omega)
   ·obtain rfl : j = ls.length := by omega
    exact tri_f (by simp [hlen]) (tri_ret fun q hq => ⟨rfl, hq⟩)
 refine tri_call [0] (loop1 N 0 (by omega) (by omega)) fun r => tri_pu fun h => tri_flat ?_
 subst h
 dsimp only [sel, rem, nth, del, cat, upd]
 refine tri_rls (i := 0) 0 rfl hr (by omega) fun h0 => ?_
 rw [get 0 (by omega)] at h0
 refine tri_call [0] (itakeR_spec ok.rows h0 hN) fun r15 => tri_pu fun h15 => tri_flat ?_
 dsimp only [sel, rem, nth, del, cat, upd]
 refine tri_slc (lo := 3) (hi := (s.len : Int)) (by omega) (by omega) (by omega) ?_
 have hsub : RdL T (subS 1 s 3 s.len) (ls.drop 3) := by
  refine ⟨?_, fun x hx => hr.el x (List.mem_of_mem_drop hx)⟩
  have := hr.hd.sub (lo := 3) (hi := s.len) (by omega) (Nat.le_refl _)
  have e3 : ((slsC ls).drop (3 * 1)).take ((s.len - 3) * 1) = slsC (ls.drop 3) := by
   rw [List.take_of_length_le (by rw [List.length_drop, slsC_len]; omega)]
   simp [slsC, List.map_drop]
  rwa [e3] at this
 rw [Int.toNat_natCast, show (3 : Int).toNat = 3 from rfl]
 have hls3 : (ls.drop 3).map (·.2) = pairsB M.ino := by
  rw [List.map_drop, hls]
  rfl
 refine tri_call [1] (minodes_spec ok.inok (by omega) (by omega) hsub hls3 hN) fun r17 => tri_pu fun h17 => tri_flat ?_
 dsimp only [sel, rem, nth, del, cat, upd]
 refine tri_f (by simp [h15, h17]) ?_
 refine tri_rls (i := 1) 1 rfl hr (by omega) fun h1 => ?_
 rw [get 1 (by omega)] at h1
 have h1' : RdC T (ls[1]'(by omega)).1 1 (bytesOf (ownB M.own)) := h1
 refine tri_call [1] (take_spec (size := 1) (k := 64) h1' (by omega) (by omega) (by rw [oB]) (by rw [oB]; omega) hN) fun r20 => tri_pu fun h20 => tri_flat ?_
 dsimp only [sel, rem, nth, del, cat, upd]
 refine tri_rls (i := 2) 1 rfl hr (by omega) fun h2 => ?_
 rw [get 2 (by omega)] at h2
 have h2' : RdC T (ls[2]'(by omega)).1 1 (bytesOf M.used) := h2
 refine tri_call [1] (show Tri _ (cloneM 1 1 _) _ from rd_clone h2' (by omega) (bytes_cell _) (by
  have : most = 70368744177664 := rfl
  have := sl64 2 (by omega)
  omega)) fun r23 => tri_flat ?_
 dsimp only [sel, rem, nth, del, cat, upd]
 have e64 : chunks 1 64 (ownB M.own) = M.own ++ List.replicate (64 - g.G) 0 := by
  have h3 := chunks_one (ownB M.own)
  rw [oB] at h3
  rw [h3]
  unfold ownB filled
  rw [List.map_append, List.map_map, List.length_map, hol]
  have : M.own.map (UInt8.toNat ∘ UInt8.ofNat) = M.own := by
   conv => rhs; rw [← List.map_id M.own]
   apply List.map_congr_left
   intro o ho
   have := ok.own16 o ho
   simp
   omega
  rw [this]
  simp
 rw [e64]
 have gown : ∀ j (hj : j < 64), (u64s (M.own ++ List.replicate (64 - g.G) 0))[j]? = some (.int .u64 (if h : j < M.own.length then M.own[j] else 0 : Nat)) := by
  intro j hj
  unfold u64s
  rw [List.getElem?_map]
  by_cases h : j < M.own.length
  ·rw [List.getElem?_append_left h, List.getElem?_eq_getElem h, dif_pos h]
   rfl
  ·rw [List.getElem?_append_right (by omega), List.getElem?_replicate, if_pos (by omega), dif_neg h]
   rfl
 refine own_ln 2 rfl fun h20l => ?_
 rw [u64s_len, List.length_append, List.length_replicate] at h20l
 have loop2 : ∀ (K j : Nat) (w : Sl), 64 - j < K → j ≤ 64 → Tri (stars [OwnA w 1 (ownC (M.own.take j)), OwnA r20.1 1 (u64s (M.own ++ List.replicate (64 - g.G) 0))])
   (iter K (F_meta_Take_b2 N (g.J, g.I, g.G, g.P) r20) ((j : Int), (⟨none, 0⟩, ⟨none, 0⟩, ⟨none, 0⟩, ⟨none, 0⟩), (r15.1, w, r23, r17.1)))
   fun r => exA fun w' => pu (r = .inl ((⟨none, 0⟩, ⟨none, 0⟩, ⟨none, 0⟩, ⟨none, 0⟩), (r15.1, w', r23, r17.1))) (stars [OwnA w' 1 (ownC M.own)]) := by
  intro K
  induction K with
  | zero => intro j w h; omega
  | succ K ih =>
   intro j w h hj
   rw [iter_S]
   unfold F_meta_Take_b2
   by_cases hjk : j < 64
   ·refine tri_t (by simp; omega) ?_
    refine tri_rI 1 rfl (rd_own (by rw [u64s_len, List.length_append, List.length_replicate]; omega)) (gown j hjk) ?_
    dsimp only
    rw [wr64 (n := (j : Int) + 1) (by omega) (by omega)]
    by_cases hjg : j < M.own.length
    ·rw [dif_pos hjg]
     have ho := ok.own16 _ (List.getElem_mem hjg)
     rw [wr64 (n := ((M.own[j] : Nat) : Int)) (by omega) (by omega)]
     refine tri_call [0, 0] (Q := fun r => exA fun w' => pu (r = .inl ((⟨none, 0⟩, ⟨none, 0⟩, ⟨none, 0⟩, ⟨none, 0⟩), (r15.1, w', r23, r17.1))) (stars [OwnA w' 1 (ownC (M.own.take (j + 1))), OwnA r20.1 1 (u64s (M.own ++ List.replicate (64 - g.G) 0))])) ?_ fun r => tri_ex fun w' => tri_pu fun hr' => tri_flat ?_
     ·refine tri_t (by simp; omega) ?_
      refine tri_alloc fun b => ?_
      refine own_ln 1 rfl fun hw => ?_
      rw [ownC_len, List.length_take] at hw
      refine tri_call [1, 0] (rd_app (T := pts b (.cells [.int .i64 (M.own[j] : Nat)] false)) (rd_pts0 (by simp)) (by omega) rfl (by
       have : most = 70368744177664 := rfl
       dsimp only
       omega)) fun w' => tri_flat ?_
      refine tri_end [0, 1] fun q hq => ⟨w', rfl, ?_⟩
      have e5 : ownC (M.own.take j) ++ [.int .i64 (M.own[j] : Nat)] = ownC (M.own.take (j + 1)) := by
       unfold ownC i64s
       rw [List.take_succ_eq_append_getElem hjg, List.map_append, List.map_append]
       rfl
      rw [e5] at hq
      exact hq
     ·subst hr'
      exact ih (j + 1) w' (by omega) (by omega)
    ·rw [dif_neg hjg]
     refine tri_call [0, 0] (Q := fun r => pu (r = .inl ((⟨none, 0⟩, ⟨none, 0⟩, ⟨none, 0⟩, ⟨none, 0⟩), (r15.1, w, r23, r17.1))) (stars [OwnA w 1 (ownC (M.own.take j)), OwnA r20.1 1 (u64s (M.own ++ List.replicate (64 - g.G) 0))])) ?_ fun r => tri_pu fun hr' => tri_flat ?_
     ·refine tri_f (by simp; omega) (tri_f (by simp) (tri_end [0, 0] fun q hq => ⟨rfl, hq⟩))
     ·subst hr'
      have e6 : M.own.take j = M.own.take (j + 1) := by rw [List.take_of_length_le (by omega), List.take_of_length_le (by omega)]
      rw [e6]
      exact ih (j + 1) w (by omega) (by omega)
   ·obtain rfl : j = 64 := by omega
    refine tri_f (by simp; omega) (tri_end [0] fun q hq => ⟨w, rfl, ?_⟩)
    rw [List.take_of_length_le (by omega)] at hq
    exact hq
 refine Tri.pre (B := stars [OwnA ⟨none, 0⟩ 1 (ownC (M.own.take 0)), OwnA r23 1 (bytesOf M.used), T, OwnA r20.1 1 (u64s (M.own ++ List.replicate (64 - g.G) 0)), OwnA r17.1 14 (inosC M.ino), OwnA r15.1 2 (rowsC M.rows)]) ?_ fun q hq => ent_emp (fun q h => .nil 1 h) hq
 refine tri_call [0, 2] (loop2 N 0 ⟨none, 0⟩ (by omega) (by omega)) fun r => tri_ex fun w' => tri_pu fun hr' => tri_flat ?_
 subst hr'
 dsimp only [sel, rem, nth, del, cat, upd]
 refine own_ln 0 rfl fun hw => own_ln 1 rfl fun hu => own_ln 3 rfl fun hi => own_ln 4 rfl fun hro => ?_
 refine tri_call [4, 0, 0, 1] (mright_spec (T := stars [OwnA r15.1 2 (rowsC M.rows), OwnA w' 1 (ownC M.own), OwnA r23 1 (bytesOf M.used), OwnA r17.1 14 (inosC M.ino)]) (m := (r15.1, w', r23, r17.1)) hg ok ⟨(rd_own hro).at 0 rfl, (rd_own hw).at 1 rfl, (rd_own hu).at 2 rfl, (rd_own hi).at 3 rfl⟩ hN |>.pre fun q hq => by rw [stars_one]; exact hq) fun r => tri_pu fun h => tri_flat (tri_flat ?_)
 subst h
 dsimp only [sel, rem, nth, del, cat, upd]
 exact tri_f (by simp) (tri_end [0, 0, 0, 0, 0] fun q hq => ⟨rfl, hq⟩)
end
end Go.Moat
