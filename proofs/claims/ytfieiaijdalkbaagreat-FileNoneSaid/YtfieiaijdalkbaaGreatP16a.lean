/- Layers 1, 3: numbers that stand among bytes; sums. -/
import Derived.Test.YtfieiaijdalkbaaGreatB15
import Derived.Test.YtfieiaijdalkbaaGreatD16
namespace Go.Moat
open Go.Mini
section
variable {N : Nat} {β : Type} {l : List HA} {S : β → HA} {T : HA}
theorem rd_subB {s : Sl} {bs : List UInt8} (h : RdC T s 1 (bytesOf bs)) {lo hi : Nat} (h1 : lo ≤ hi) (h2 : hi ≤ s.len) : RdC T (subS 1 s lo hi) 1 (bytesOf ((bs.drop lo).take (hi - lo))) := by
 have := h.sub h1 h2
 rwa [Nat.mul_one, Nat.mul_one, bytes_drop, bytes_take] at this
theorem fits_eq {n size : Nat} (h1 : 1 ≤ size) (h8 : size ≤ 8) (hn : n < 2 ^ 64) : F_1w N (n : Int) (size : Int) = ret (decide (n < 256 ^ size)) := by
 unfold F_1w
 by_cases h : size = 8
 ·subst h
  rw [if_neg (by simp)]
  show ret true = _
  rw [pow256, decide_eq_true hn]
 ·rw [if_pos (by simp; omega), wr64 (by omega) (by omega), if_neg (by omega)]
  have e : (8 : Int) * (size : Int) = ((8 * size : Nat) : Int) := by simp
  rw [e, shr_nat (by show 8 * size ≤ 64; omega)]
  show ret _ = _
  congr 1
  rw [pow256]
  have : (((n / 2 ^ (8 * size) : Nat) : Int) = 0) ↔ n < 2 ^ (8 * size) := by
   rw [← Nat.div_eq_zero_iff_lt (Nat.two_pow_pos _)]
   omega
  simp only [this]
theorem over_one (cs : List MV) (off : Nat) (v : MV) (h : off < cs.length) : over cs off [v] = cs.set off v := by
 unfold over
 rw [List.set_eq_take_append_cons_drop, if_pos h]
 simp
theorem le_snoc (j n : Nat) : le (j + 1) n = le j n ++ [UInt8.ofNat (n / 256 ^ j % 256)] := by
 rw [le_add 1 j]
 rfl
theorem put_spec {b o k n : Nat} {ds : List MV} (hd : o + k ≤ ds.length) (h8 : k ≤ 8) (hn : n < 2 ^ 64) (hN : 10 < N) :
  Tri (stars [pts b (.cells ds false)]) (F_1x N ⟨some ⟨b, o⟩, k⟩ (n : Int)) fun _ => stars [pts b (.cells (over ds o (bytesOf (le k n))) false)] := by
 unfold F_1x
 have loop : ∀ (K j : Nat), k - j < K → j ≤ k → Tri (stars [pts b (.cells (over ds o (bytesOf (le j n))) false)]) (iter K (F_3j N ⟨some ⟨b, o⟩, k⟩ (n : Int)) (j : Int)) fun _ => stars [pts b (.cells (over ds o (bytesOf (le k n))) false)] := by
  intro K
  induction K with
  | zero => intro j h; omega
  | succ K ih =>
   intro j h hj
   rw [iter_S]
   unfold F_3j
   have hl : (over ds o (bytesOf (le j n))).length = ds.length := over_len (by rw [bytes_len, le_len]; omega)
   by_cases hjk : j < k
   ·refine tri_t (by simpa using hjk) ?_
    rw [wr64 (by omega) (by omega)]
    refine tri_f (by omega) ?_
    refine tri_idx hjk (tri_stc 0 rfl (by rw [hl]; omega) rfl ?_)
    have e : (8 : Int) * (j : Int) = ((8 * j : Nat) : Int) := by simp
    rw [e, shr_nat (by show 8 * j ≤ 64; omega), wr_mod rfl, wr64 (by omega) (by omega)]
    show Tri (stars [pts b (.cells ((over ds o (bytesOf (le j n))).set (o + j * 1) _) false)]) _ _
    have e2 : (over ds o (bytesOf (le j n))).set (o + j * 1) (.int .u8 ((n / 2 ^ (8 * j) % 2 ^ IntKind.u8.bits : Nat) : Int)) = over ds o (bytesOf (le (j + 1) n)) := by
     rw [le_snoc, bytesOf_app, ← over_app (by simp [bytes_len, le_len]; omega), bytes_len, le_len, Nat.mul_one, ← over_one _ _ _ (by rw [hl]; omega)]
     congr 1
     simp [bytesOf, pow256]
     rfl
    rw [e2]
    exact ih (j + 1) (by omega) (by omega)
   ·obtain rfl : j = k := by omega
    refine tri_f (by simp) (tri_ret fun q hq => hq)
 refine tri_call [0] ((loop N 0 (by omega) (by omega)).pre fun q hq => ?_) fun _ => tri_flat (tri_end [0] fun q hq => hq)
 have : over ds o (bytesOf (le 0 n)) = ds := by simp [over, le, bytesOf]
 rw [this]
 exact hq
def lays (size : Nat) (ns : List Nat) : List UInt8 := (ns.map (le size)).flatten
theorem lays_len (size : Nat) : ∀ (ns : List Nat), (lays size ns).length = ns.length * size
 | [] => by simp [lays]
 | n :: r => by
  have := lays_len size r
  unfold lays at this ⊢
  simp only [List.map_cons, List.flatten_cons, List.length_append, le_len, this, List.length_cons, Nat.add_mul]
  omega
theorem lays_app (size : Nat) (a b : List Nat) : lays size (a ++ b) = lays size a ++ lays size b := by simp [lays]
theorem tri_mkB (k : Nat) (h : k ≤ 4096) {f : Sl → M β} (kk : ∀ b, Tri (stars (pts b (.cells (bytesOf (List.replicate k 0)) false) :: l)) (f ⟨some ⟨b, 0⟩, k⟩) S) : Tri (stars l) (bd (mkSl 1 1 [MV.int .u8 (0 : Int)] (k : Int) (k : Int)) f) S := by
 refine tri_new (g := fun b => (⟨some ⟨b, 0⟩, k⟩ : Sl)) (x := .cells (bytesOf (List.replicate k 0)) false) (fun h' => ?_) kk
 unfold mkSl
 rw [if_pos ⟨by omega, by omega, by have : most = 70368744177664 := rfl; omega, rfl⟩, Int.toNat_natCast, zeros_bytes]
theorem lay_spec {size : Nat} {s : Sl} {ns : List Nat} (h1 : 1 ≤ size) (h8 : size ≤ 8) (hr : RdC T s 1 (u64s ns)) (hf : ∀ n ∈ ns, n < 256 ^ size) (hb : ns.length * size ≤ 4096) (hN : 5000 < N) :
  Tri (stars [T]) (F_07 N (size : Int) s) fun r => pu (r.2 = 0) (stars [OwnA r.1 1 (bytesOf (lays size ns)), T]) := by
 have hlen : s.len = ns.length := by
  have := hr.1
  rw [u64s_len] at this
  omega
 have hle : ns.length ≤ ns.length * size := Nat.le_mul_of_pos_right _ h1
 unfold F_07
 refine tri_f (by simp; omega) (tri_f (by omega) ?_)
 have hdiv : (4096 : Int).tdiv (size : Int) = ((4096 / size : Nat) : Int) := rfl
 have hd2 : 4096 / size ≤ 4096 := Nat.div_le_self _ _
 have hd3 : ns.length ≤ 4096 / size := (Nat.le_div_iff_mul_le h1).2 hb
 generalize 4096 / size = qd at hdiv hd2 hd3
 rw [hdiv, wr64 (by omega) (by omega), hlen]
 refine tri_f (by simp; omega) ?_
 have e0 : (size : Int) * (ns.length : Int) = ((ns.length * size : Nat) : Int) := by rw [Int.mul_comm]; simp
 rw [e0, wr64 (by omega) (by omega)]
 refine tri_mkB _ hb fun b => ?_
 have loop : ∀ (K j : Nat), ns.length - j < K → j ≤ ns.length → Tri (stars [pts b (.cells (bytesOf (lays size (ns.take j) ++ List.replicate ((ns.length - j) * size) 0)) false), T])
   (iter K (F_3k N (size : Int) s ⟨some ⟨b, 0⟩, ns.length * size⟩) (j : Int)) fun r => pu (r = .inl ()) (stars [pts b (.cells (bytesOf (lays size ns)) false), T]) := by
  intro K
  induction K with
  | zero => intro j h; omega
  | succ K ih =>
   intro j h hj
   rw [iter_S]
   unfold F_3k
   by_cases hjk : j < ns.length
   ·refine tri_t (by simp [hlen]; omega) ?_
    refine tri_rI 1 rfl hr (i := j) (v := (ns[j] : Nat)) (k := .u64) (by simp [u64s, hjk]) ?_
    have hnj := hf _ (List.getElem_mem hjk)
    have h64 : ns[j] < 2 ^ 64 := Nat.lt_of_lt_of_le hnj (by
     rw [pow256]
     exact Nat.pow_le_pow_right (by omega) (by omega))
    rw [fits_eq h1 h8 h64]
    refine tri_bdret (tri_f (by simpa using hnj) ?_)
    have b1 : j * size + size ≤ ns.length * size := flat_bound hjk
    have e1 : (j : Int) * (size : Int) = ((j * size : Nat) : Int) := by simp
    have e2 : ((j : Int) + 1) * (size : Int) = ((j * size + size : Nat) : Int) := by rw [Int.add_mul]; simp
    rw [wr64 (n := (j : Int) + 1) (by omega) (by omega), e1, e2, wr64 (by omega) (by omega), wr64 (by omega) (by omega)]
    refine tri_slc (by omega) (by omega) (by dsimp only; omega) ?_
    have e3 : subS 1 ⟨some ⟨b, 0⟩, ns.length * size⟩ (((j * size : Nat) : Int)).toNat (((j * size + size : Nat) : Int)).toNat = ⟨some ⟨b, j * size⟩, size⟩ := by
     rw [Int.toNat_natCast, Int.toNat_natCast]
     simp [subS, MA.add]
    rw [e3]
    have hlt : (lays size (ns.take j)).length = j * size := by rw [lays_len, List.length_take, Nat.min_eq_left hj]
    have hrem : (ns.length - j) * size = size + (ns.length - (j + 1)) * size := by
     rw [show ns.length - j = (ns.length - (j + 1)) + 1 by omega, Nat.add_mul]
     omega
    refine tri_call [0] (put_spec (by
     rw [bytes_len, List.length_append, List.length_replicate, hlt, Nat.sub_mul]
     omega) h8 h64 (by omega)) fun _ => tri_flat ?_
    dsimp only [sel, rem, nth, del, cat, upd]
    rw [over_bytes, le_len]
    have e4 : List.take (j * size) (lays size (ns.take j) ++ List.replicate ((ns.length - j) * size) 0) ++ le size ns[j] ++ List.drop (j * size + size) (lays size (ns.take j) ++ List.replicate ((ns.length - j) * size) 0) = lays size (ns.take (j + 1)) ++ List.replicate ((ns.length - (j + 1)) * size) 0 := by
     rw [List.take_left' hlt, List.take_succ_eq_append_getElem hjk, lays_app, hrem, ← hlt, List.drop_length_add_append, List.drop_replicate]
     simp [lays]
    rw [e4]
    exact ih (j + 1) (by omega) (by omega)
   ·obtain rfl : j = ns.length := by omega
    refine tri_f (by simp [hlen]) (tri_ret fun q hq => ⟨rfl, ?_⟩)
    rw [List.take_length, Nat.sub_self, Nat.zero_mul] at hq
    simpa using hq
 refine tri_call [0, 0] ((loop N 0 (by omega) (by omega)).pre fun q hq => ?_) fun r => tri_pu fun hr => tri_flat ?_
 ·simp only [Nat.sub_zero, List.take_zero]
  exact hq
 ·subst hr
  refine tri_end [0, 0] fun q hq => ⟨rfl, ?_⟩
  exact stars_imp (.cons (fun _ k => .mk (by rw [bytes_len, lays_len]; simp) k) (.cons (fun _ k => k) .nil)) q hq
theorem get_spec {s : Sl} {bs : List UInt8} (hr : RdC T s 1 (bytesOf bs)) (h8 : bs.length ≤ 8) (hN : 10 < N) : Tri (stars [T]) (F_1b N s) fun r => pu (r = (leN bs : Nat)) (stars [T]) := by
 have hlen : s.len = bs.length := by
  have := hr.1
  rw [bytes_len] at this
  omega
 unfold F_1b
 have loop : ∀ (K j : Nat), bs.length - j < K → j ≤ bs.length → Tri (stars [T]) (iter K (F_3n N s) (((leN (bs.take j) : Nat) : Int), (j : Int))) fun r => pu (r = (leN bs : Nat)) (stars [T]) := by
  intro K
  induction K with
  | zero => intro j h; omega
  | succ K ih =>
   intro j h hj
   rw [iter_S]
   unfold F_3n
   by_cases hjk : j < bs.length
   ·refine tri_t (by simp [hlen]; omega) ?_
    refine tri_rI 0 rfl hr (bytes_get hjk) ?_
    rw [wr64 (by dsimp only; omega) (by dsimp only; omega)]
    refine tri_f (by dsimp only; omega) ?_
    dsimp only
    have hb : bs[j].toNat < 256 := bs[j].toNat_lt
    have hlt := leN_lt (bs.take j)
    rw [List.length_take, Nat.min_eq_left hj, pow256] at hlt
    have e : (8 : Int) * (j : Int) = ((8 * j : Nat) : Int) := by simp
    have hbig : bs[j].toNat * 2 ^ (8 * j) < 2 ^ 64 := by
     have h2 : bs[j].toNat * 2 ^ (8 * j) < 256 * 2 ^ (8 * j) := Nat.mul_lt_mul_of_pos_right hb (Nat.two_pow_pos _)
     have h3 : 256 * 2 ^ (8 * j) = 2 ^ (8 * (j + 1)) := by rw [show 8 * (j + 1) = 8 + 8 * j by omega, Nat.pow_add]
     have h4 : (2 : Nat) ^ (8 * (j + 1)) ≤ 2 ^ 64 := Nat.pow_le_pow_right (by omega) (by omega)
     omega
    have hlt2 : leN (bs.take j) < 2 ^ 64 := Nat.lt_of_lt_of_le hlt (Nat.pow_le_pow_right (by omega) (by omega))
    rw [e, wr_un (k := .u64) rfl (by show _ < 2 ^ 64; omega), shl_nat rfl (by show 8 * j ≤ 64; omega) hbig, (bit_nat (k := .u64) rfl hlt2 hbig).2.1, or_add hlt, wr64 (by omega) (by omega)]
    have e2 : leN (bs.take j) + bs[j].toNat * 2 ^ (8 * j) = leN (bs.take (j + 1)) := by
     rw [List.take_succ_eq_append_getElem hjk, leN_snoc, List.length_take, Nat.min_eq_left hj, pow256]
    rw [e2]
    exact ih (j + 1) (by omega) (by omega)
   ·obtain rfl : j = bs.length := by omega
    refine tri_f (by simp [hlen]) (tri_ret fun q hq => ⟨?_, hq⟩)
    rw [List.take_length]
 exact tri_call [0] ((loop N 0 (by omega) (by omega)).pre fun q hq => hq) fun r => tri_pu fun hr => tri_flat (tri_end [0] fun q hq => ⟨hr, hq⟩)
theorem stands_eq {m a z : Nat} (h1 : 1 ≤ z) (h2 : z ≤ 8) (h3 : a + z ≤ m) (hm : m < 1000000) : F_20 N (m : Int) (a : Int) (z : Int) = ret true := by
 unfold F_20
 rw [wr64 (by omega) (by omega)]
 congr 1
 simp
 omega
theorem Get_spec {s : Sl} {bs : List UInt8} {a z : Nat} (hr : RdC T s 1 (bytesOf bs)) (h1 : 1 ≤ z) (h8 : z ≤ 8) (ha : a + z ≤ bs.length) (hm : bs.length < 1000000) (hN : 10 < N) :
  Tri (stars [T]) (F_0h N s (a : Int) (z : Int)) fun r => pu (r = (((leN ((bs.drop a).take z) : Nat) : Int), 0)) (stars [T]) := by
 have hlen : s.len = bs.length := by
  have := hr.1
  rw [bytes_len] at this
  omega
 unfold F_0h
 rw [hlen, stands_eq h1 h8 ha hm]
 refine tri_bdret (tri_f (by simp) ?_)
 rw [wr64 (by omega) (by omega)]
 refine tri_slc (by omega) (by omega) (by omega) ?_
 have hs := rd_subB hr (lo := a) (hi := a + z) (by omega) (by omega)
 rw [show a + z - a = z by omega] at hs
 have e : ((a : Int) + (z : Int)).toNat = a + z := by omega
 rw [e, Int.toNat_natCast]
 exact tri_call [0] (get_spec hs (by rw [List.length_take]; omega) hN) fun r => tri_pu fun hr => tri_flat (tri_end [0] fun q hq => ⟨by rw [hr], hq⟩)
def chunks (size : Nat) : Nat → List UInt8 → List Nat
 | 0, _ => []
 | k + 1, bs => leN (bs.take size) :: chunks size k (bs.drop size)
theorem chunks_len (size : Nat) : ∀ (k : Nat) (bs : List UInt8), (chunks size k bs).length = k
 | 0, _ => rfl
 | k + 1, bs => congrArg (· + 1) (chunks_len size k _)
theorem chunks_get {size : Nat} : ∀ {k i : Nat} {bs : List UInt8}, i < k → (chunks size k bs)[i]? = some (leN ((bs.drop (i * size)).take size))
 | 0, i, bs, h => by omega
 | k + 1, 0, bs, h => by simp [chunks]
 | k + 1, i + 1, bs, h => by
  simp only [chunks, List.getElem?_cons_succ]
  rw [chunks_get (by omega), List.drop_drop, Nat.add_mul, Nat.one_mul, Nat.add_comm]
theorem chunks_lays {size : Nat} : ∀ (ns : List Nat), (∀ n ∈ ns, n < 256 ^ size) → chunks size ns.length (lays size ns) = ns
 | [], _ => rfl
 | n :: r, h => by
  have ih := chunks_lays r fun x hx => h x (by simp [hx])
  unfold lays at ih ⊢
  simp only [List.length_cons, List.map_cons, List.flatten_cons, chunks]
  rw [List.take_left' (le_len _ _), List.drop_left' (le_len _ _), ih, leN_le, Nat.mod_eq_of_lt (h n (by simp))]
theorem take_spec {s : Sl} {bs : List UInt8} {size k : Nat} (hr : RdC T s 1 (bytesOf bs)) (h1 : 1 ≤ size) (h8 : size ≤ 8) (hk : bs.length = k * size) (hm : bs.length ≤ 4096) (hN : 5000 < N) :
  Tri (stars [T]) (F_08 N (size : Int) s) fun r => pu (r.2 = 0) (stars [OwnA r.1 1 (u64s (chunks size k bs)), T]) := by
 have hlen : s.len = bs.length := by
  have := hr.1
  rw [bytes_len] at this
  omega
 unfold F_08
 rw [if_pos (by simp; omega), if_neg (by omega)]
 refine tri_bdret ?_
 have hmod : ((s.len : Int).tmod (size : Int)) = ((s.len % size : Nat) : Int) := rfl
 rw [hmod, hlen, hk, Nat.mul_mod_left]
 refine tri_f (by simp) (tri_f (by simp; omega) ?_)
 have loop : ∀ (K j : Nat) (w : Sl), k - j < K → j ≤ k → Tri (stars [OwnA w 1 (u64s ((chunks size k bs).take j)), T]) (iter K (F_3o N (size : Int)) (w, subS 1 s (j * size) s.len)) fun r => stars [OwnA r 1 (u64s (chunks size k bs)), T] := by
  intro K
  induction K with
  | zero => intro j w h; omega
  | succ K ih =>
   intro j w h hj
   rw [iter_S]
   unfold F_3o
   dsimp only
   have hsl : (subS 1 s (j * size) s.len).len = bs.length - j * size := by rw [hlen]; rfl
   have m1 : j * size ≤ k * size := Nat.mul_le_mul_right _ hj
   by_cases hjk : j < k
   ·have b1 : j * size + size ≤ k * size := flat_bound hjk
    refine tri_t (by rw [hsl]; simp; omega) ?_
    refine tri_slc (by omega) (by omega) (by rw [hsl]; omega) ?_
    have hs := rd_subB hr (lo := j * size) (hi := s.len) (by omega) (by omega)
    have hs2 := rd_subB hs (lo := 0) (hi := size) (by omega) (by rw [hsl]; omega)
    rw [List.drop_zero, List.take_take, Nat.sub_zero, Nat.min_eq_left (by omega)] at hs2
    rw [show ((0 : Int)).toNat = 0 from rfl, Int.toNat_natCast]
    refine tri_call [1] (get_spec hs2 (by rw [List.length_take]; omega) (by omega)) fun r => tri_pu fun hr' => tri_flat ?_
    dsimp only [sel, rem, nth, del, cat, upd]
    subst hr'
    refine tri_alloc fun b => ?_
    refine own_ln 2 rfl fun hw => ?_
    rw [u64s_len, List.length_take, chunks_len, Nat.mul_one] at hw
    refine tri_call [2, 0] (rd_app (T := pts b (.cells [MV.int .u64 _] false)) (ts := [MV.int .u64 _]) (rd_pts0 (by simp)) (by omega) rfl (by
     have : most = 70368744177664 := rfl
     have := Nat.le_mul_of_pos_right k h1
     dsimp only
     omega)) fun w' => tri_flat ?_
    dsimp only [sel, rem, nth, del, cat, upd]
    refine tri_slc (by omega) (by rw [hsl]; omega) (by omega) ?_
    have e1 : subS 1 (subS 1 s (j * size) s.len) ((size : Int)).toNat (((subS 1 s (j * size) s.len).len : Nat) : Int).toNat = subS 1 s ((j + 1) * size) s.len := by
     rw [Int.toNat_natCast, Int.toNat_natCast, hsl]
     unfold subS
     congr 1
     ·cases s.p with
      | none => rfl
      | some a => simp [MA.add, Nat.add_mul]; omega
     ·rw [hlen, Nat.add_mul]
      omega
    rw [e1]
    have e2 : u64s ((chunks size k bs).take j) ++ [MV.int .u64 (leN (List.take size (List.drop (j * size) bs)) : Nat)] = u64s ((chunks size k bs).take (j + 1)) := by
     have hcl := chunks_len size k bs
     have hg := chunks_get (size := size) (bs := bs) hjk
     have hg2 : (chunks size k bs)[j]'(by omega) = leN ((bs.drop (j * size)).take size) := by
      rw [List.getElem?_eq_getElem (by omega)] at hg
      exact Option.some.inj hg
     rw [List.take_succ_eq_append_getElem (by omega), hg2]
     simp [u64s]
    rw [e2]
    refine tri_last [0, 1] (ih (j + 1) w' (by omega) (by omega))
   ·obtain rfl : j = k := by omega
    refine tri_f (by rw [hsl]; simp; omega) (tri_ret fun q hq => ?_)
    rw [List.take_of_length_le (by rw [chunks_len]; exact Nat.le_refl _)] at hq
    exact hq
 have e0 : s = subS 1 s (0 * size) s.len := by
  unfold subS
  cases s with
  | mk p n => cases p <;> simp [MA.add]
 refine Tri.bd (Q := fun r => stars [OwnA r 1 (u64s (chunks size k bs)), T]) ?_ fun r => tri_end [0, 0] fun q hq => ⟨rfl, hq⟩
 have := loop N 0 ⟨none, 0⟩ (by have := Nat.le_mul_of_pos_right k h1; omega) (by omega)
 rw [← e0] at this
 refine this.pre fun q hq => ?_
 exact ent_emp (fun q h => .nil 1 h) hq
def filled (bs : List UInt8) (n : Nat) : List UInt8 := bs ++ List.replicate (n - bs.length) 0
theorem filled_len {bs : List UInt8} {n : Nat} (h : bs.length ≤ n) : (filled bs n).length = n := by
 unfold filled
 simp
 omega
theorem fill_copy {bs : List UInt8} {n : Nat} (h : bs.length ≤ n) : over (bytesOf (List.replicate n 0)) 0 (bytesOf bs) = bytesOf (filled bs n) := by
 rw [over_bytes]
 unfold filled
 simp
theorem fill_spec {s : Sl} {bs : List UInt8} {n : Nat} (hr : RdC T s 1 (bytesOf bs)) (hb : bs.length ≤ n) (hn : n ≤ 4096) : Tri (stars [T]) (F_11 N s (n : Int)) fun r => pu (r.2 = 0) (stars [OwnA r.1 1 (bytesOf (filled bs n)), T]) := by
 have hlen : s.len = bs.length := by
  have := hr.1
  rw [bytes_len] at this
  omega
 unfold F_11
 refine tri_f (by simp) (tri_f (by simp [hlen]; omega) ?_)
 refine tri_mkB n hn fun b => ?_
 refine tri_call [0, 0] (rd_copy (o := 0) (k := n) hr (by rw [bytes_len]; simp) (bytes_cell _) (by omega)) fun r => tri_pu fun hr' => tri_flat ?_
 refine tri_end [0, 0] fun q hq => ⟨rfl, ?_⟩
 rw [hlen, Nat.min_eq_left hb, Nat.mul_one, List.take_of_length_le (by rw [bytes_len]; exact Nat.le_refl _), fill_copy hb] at hq
 exact stars_imp (.cons (fun _ k => .mk (by rw [bytes_len, filled_len hb]; simp) k) (.cons (fun _ k => k) .nil)) q hq
def sumF (bs : List UInt8) : Int × Int := bs.foldl (fun v c => (wr .u32 (v.1 + wr .u32 c.toNat), wr .u32 (v.2 + wr .u32 (v.1 + wr .u32 c.toNat)))) (1, 0)
def sumI (bs : List UInt8) : Int := bitI .or .u32 (shlI .u32 ((sumF bs).2.tmod 65521) 16) ((sumF bs).1.tmod 65521)
theorem sum_rng (bs : List UInt8) : 0 ≤ sumI bs ∧ sumI bs < 4294967296 := by
 unfold sumI bitI
 exact wr_rng (k := .u32) _ rfl
theorem more_spec {s : Sl} {bs : List UInt8} (hr : RdC T s 1 (bytesOf bs)) (hb : bs.length ≤ 3000) (hN : 5000 < N) : Tri (stars [T]) (F_1y N 1 s) fun r => pu (r = sumI bs) (stars [T]) := by
 have hlen : s.len = bs.length := by
  have := hr.1
  rw [bytes_len] at this
  omega
 unfold F_1y
 have e0 : (if (3000 : Int) < (s.len : Int) then (3000 : Int) else (s.len : Int)) = (s.len : Int) := by rw [if_neg (by omega)]
 rw [e0]
 refine tri_slc (by omega) (by omega) (by omega) ?_
 have e1 : subS 1 s (0 : Int).toNat ((s.len : Int)).toNat = s := by
  unfold subS
  cases s with
  | mk p n => cases p <;> simp [MA.add]
 rw [e1]
 have loop : ∀ (K j : Nat) (v : Int × Int), bs.length - j < K → j ≤ bs.length → Tri (stars [T]) (iter K (F_3l N s) (v.1, v.2, (j : Int)))
   fun r => pu (r = (bs.drop j).foldl (fun v c => (wr .u32 (v.1 + wr .u32 c.toNat), wr .u32 (v.2 + wr .u32 (v.1 + wr .u32 c.toNat)))) v) (stars [T]) := by
  intro K
  induction K with
  | zero => intro j v h; omega
  | succ K ih =>
   intro j v h hj
   rw [iter_S]
   unfold F_3l
   by_cases hjk : j < bs.length
   ·refine tri_t (by simp [hlen]; omega) ?_
    refine tri_rI 0 rfl hr (bytes_get hjk) ?_
    dsimp only
    rw [wr64 (n := (j : Int) + 1) (by omega) (by omega), List.drop_eq_getElem_cons hjk, List.foldl_cons]
    exact ih (j + 1) (_, _) (by omega) (by omega)
   ·obtain rfl : j = bs.length := by omega
    refine tri_f (by simp [hlen]) (tri_ret fun q hq => ⟨?_, hq⟩)
    rw [List.drop_length]
    rfl
 have e2 : (bitI .and .u32 (1 : Int) (65535 : Int)).tmod (65521 : Int) = 1 := by decide
 have e3 : (shrI .u32 (1 : Int) (16 : Int)).tmod (65521 : Int) = 0 := by decide
 rw [e2, e3]
 refine tri_call [0] (loop N 0 (1, 0) (by omega) (by omega)) fun r => tri_pu fun hr' => tri_flat ?_
 dsimp only [sel, rem, nth, del, cat, upd]
 rw [List.drop_zero] at hr'
 refine tri_slc (by omega) (by omega) (by omega) ?_
 have e4 : (subS 1 s ((s.len : Int)).toNat ((s.len : Int)).toNat).len = 0 := by simp [subS]
 rw [e4]
 refine tri_f (by simp) (tri_end [0] fun q hq => ⟨?_, hq⟩)
 rw [hr']
 rfl
theorem of_spec {s : Sl} {bs : List UInt8} (hr : RdC T s 1 (bytesOf bs)) (hb : bs.length ≤ 3000) (hN : 5000 < N) : Tri (stars [T]) (F_12 N s) fun r => pu (r = sumI bs) (stars [T]) := by
 unfold F_12
 exact tri_call [0] (more_spec hr hb hN) fun r => tri_pu fun hr => tri_flat (tri_end [0] fun q hq => ⟨hr, hq⟩)
def sealed (bs : List UInt8) : List UInt8 := bs ++ le 4 (sumI bs).toNat
theorem sealed_len (bs : List UInt8) : (sealed bs).length = bs.length + 4 := by simp [sealed, le_len]
theorem seal_spec {s : Sl} {bs : List UInt8} (hr : RdC T s 1 (bytesOf bs)) (hb : bs.length ≤ 1000) (hN : 5000 < N) : Tri (stars [T]) (F_13 N s) fun r => stars [OwnA r 1 (bytesOf (sealed bs)), T] := by
 have hlen : s.len = bs.length := by
  have := hr.1
  rw [bytes_len] at this
  omega
 obtain ⟨g1, g2⟩ := sum_rng bs
 unfold F_13
 have e0 : (s.len : Int) + 4 = ((bs.length + 4 : Nat) : Int) := by rw [hlen]; simp
 rw [e0, wr64 (by omega) (by omega)]
 refine tri_mkB _ (by omega) fun b => ?_
 refine tri_call [0, 0] (rd_copy (o := 0) (k := bs.length + 4) hr (by rw [bytes_len]; simp) (bytes_cell _) (by omega)) fun r => tri_pu fun hr' => tri_flat ?_
 dsimp only [sel, rem, nth, del, cat, upd]
 rw [hlen, Nat.min_eq_left (by omega), Nat.mul_one, List.take_of_length_le (by rw [bytes_len]; exact Nat.le_refl _), fill_copy (by omega)]
 refine tri_call [1] (of_spec hr (by omega) hN) fun r4 => tri_pu fun hr4 => tri_flat ?_
 dsimp only [sel, rem, nth, del, cat, upd]
 subst hr4
 obtain ⟨m, hm⟩ : ∃ m : Nat, sumI bs = m := ⟨(sumI bs).toNat, by omega⟩
 rw [hm, wr_un (k := .u64) rfl (by show m < 2 ^ 64; omega)]
 refine tri_alloc fun b2 => ?_
 refine tri_call [0] (lay_spec (size := 4) (ns := [m]) (T := pts b2 (.cells [MV.int .u64 m] false)) (by omega) (by omega) (rd_pts0 (by simp [u64s])) (by
  intro n hn
  simp at hn
  omega) (by simp) hN) fun r6 => tri_pu fun hr6 => tri_flat ?_
 dsimp only [sel, rem, nth, del, cat, upd]
 refine own_ln 0 rfl fun h6 => ?_
 rw [bytes_len, lays_len] at h6
 simp only [List.length_cons, List.length_nil] at h6
 refine tri_slc (by omega) (by omega) (by dsimp only; omega) ?_
 have e5 : subS 1 ⟨some ⟨b, 0⟩, bs.length + 4⟩ ((bs.length : Int)).toNat (((bs.length + 4 : Nat) : Int)).toNat = ⟨some ⟨b, bs.length⟩, 4⟩ := by
  simp [subS, MA.add]
  omega
 rw [e5]
 refine tri_call [3, 0] (rd_copy (o := bs.length) (k := 4) (T := OwnA r6.1 1 (bytesOf (lays 4 [m]))) (rd_own (by rw [bytes_len, lays_len]; simp; omega)) (by rw [bytes_len, filled_len (by omega)]; omega) (bytes_cell _) (by omega)) fun r => tri_pu fun hr' => tri_flat ?_
 dsimp only [sel, rem, nth, del, cat, upd]
 refine tri_end [0, 2] fun q hq => ?_
 have e6 : min r6.1.len 4 * 1 = 4 := by omega
 have e7 : (bytesOf (lays 4 [m])).take 4 = bytesOf (le 4 m) := by
  rw [bytes_take]
  simp [lays, List.take_of_length_le, le_len]
 rw [e6, e7, over_bytes] at hq
 have e8 : (filled bs (bs.length + 4)).take bs.length ++ le 4 m ++ (filled bs (bs.length + 4)).drop (bs.length + (le 4 m).length) = sealed bs := by
  unfold filled sealed
  rw [List.take_left, List.drop_length_add_append, hm, le_len]
  simp
 rw [e8] at hq
 exact stars_imp (.cons (fun _ k => .mk (by rw [bytes_len, sealed_len]; simp) k) (.cons (fun _ k => k) .nil)) q hq
theorem open_spec {s : Sl} {bs : List UInt8} (hr : RdC T s 1 (bytesOf (sealed bs))) (hb : bs.length ≤ 1000) (hN : 5000 < N) : Tri (stars [T]) (F_22 N s) fun r => pu (r.2 = 0) (stars [OwnA r.1 1 (bytesOf bs), T]) := by
 have hlen : s.len = bs.length + 4 := by
  have := hr.1
  rw [bytes_len, sealed_len] at this
  omega
 obtain ⟨g1, g2⟩ := sum_rng bs
 obtain ⟨m, hm⟩ : ∃ m : Nat, sumI bs = m := ⟨(sumI bs).toNat, by omega⟩
 unfold F_22
 have e0 : (s.len : Int) - 4 = ((bs.length : Nat) : Int) := by rw [hlen]; omega
 rw [e0, wr64 (by omega) (by omega)]
 refine tri_f (by simp) ?_
 refine tri_call [0] (Get_spec (a := bs.length) (z := 4) hr (by omega) (by omega) (by rw [sealed_len]; exact Nat.le_refl _) (by rw [sealed_len]; omega) (by omega)) fun r => tri_pu fun hr2 => tri_flat ?_
 dsimp only [sel, rem, nth, del, cat, upd]
 have e1 : leN (((sealed bs).drop bs.length).take 4) = m := by
  unfold sealed
  rw [List.drop_left, hm, Int.toNat_natCast, List.take_of_length_le (by rw [le_len]; omega), leN_le, Nat.mod_eq_of_lt]
  omega
 rw [e1] at hr2
 subst hr2
 refine tri_call [0] (Q := fun c => pu (c = false) (stars [T])) ?_ fun c => tri_pu fun hc => tri_flat ?_
 ·refine tri_t (by simp) ?_
  refine tri_slc (by omega) (by omega) (by omega) ?_
  have hs := rd_subB hr (lo := 0) (hi := bs.length) (by omega) (by omega)
  rw [List.drop_zero, Nat.sub_zero] at hs
  have e2 : (sealed bs).take bs.length = bs := by
   unfold sealed
   rw [List.take_left]
  rw [e2] at hs
  refine tri_call [0] (of_spec hs (by omega) hN) fun r4 => tri_pu fun hr4 => tri_flat (tri_end [0] fun q hq => ⟨?_, hq⟩)
  rw [hr4, wr32 (by dsimp only; omega) (by dsimp only; omega), hm]
  simp
 ·subst hc
  dsimp only [sel, rem, nth, del, cat, upd]
  refine tri_f (by simp) ?_
  refine tri_mkB _ (by omega) fun b => ?_
  refine tri_call [0, 0] (rd_copy (o := 0) (k := bs.length) hr (by rw [bytes_len]; simp) (bytes_cell _) (by omega)) fun r => tri_pu fun hr' => tri_flat ?_
  refine tri_end [0, 0] fun q hq => ⟨rfl, ?_⟩
  have e3 : min s.len bs.length * 1 = bs.length := by omega
  have e4 : (bytesOf (sealed bs)).take bs.length = bytesOf bs := by
   rw [bytes_take]
   unfold sealed
   rw [List.take_left]
  rw [e3, e4, fill_copy (Nat.le_refl _)] at hq
  have e5 : filled bs bs.length = bs := by simp [filled]
  rw [e5] at hq
  exact stars_imp (.cons (fun _ k => .mk (by rw [bytes_len]; simp) k) (.cons (fun _ k => k) .nil)) q hq
end
end Go.Moat

/- Layer 9: how a disk is parted. -/
namespace Go.Mini
section
variable {β : Type} {l : List HA} {S : β → HA}
theorem tri_hold0 {A : HA} {f : Nat → M β} (k : ∀ b, Tri A (f b) S) : Tri A (bd (hold 0) f) S := by
 intro h q hq hh
 exact k h.size h q hq hh
theorem tri_markB (n : Nat) {b o k : Nat} {cs : List MV} (hl : l[n]? = some (pts b (.cells cs false))) (hk : 0 < k) {f : Sl → M β} (kk : Tri (stars l) (f ⟨some ⟨b, o⟩, k⟩) S) : Tri (stars l) (bd (markB ⟨some ⟨b, o⟩, k⟩) f) S := by
 refine tri_write n hl (y := .cells cs false) (a := ⟨some ⟨b, o⟩, k⟩) (fun h hg => ?_) ?_
 ·unfold markB
  simp only [hg]
  rw [if_pos ⟨hk, rfl⟩]
 ·rw [upd_same l n hl]
  exact kk
end
end Go.Mini
namespace Go.Moat
open Go.Mini
structure Geo where
 J : Nat
 I : Nat
 G : Nat
 P : Nat
 deriving DecidableEq
def Geo.t (g : Geo) : Int × Int × Int × Int := (g.J, g.I, g.G, g.P)
structure Geo.ok (g : Geo) : Prop where
 j1 : 3 ≤ g.J
 j2 : g.J ≤ 1000
 i1 : 2 ≤ g.I
 i2 : g.I ≤ 64
 i3 : g.I % 2 = 0
 g1 : 1 ≤ g.G
 g2 : g.G ≤ 64
 p1 : 1 ≤ g.P
 p2 : g.P ≤ 512 / g.G
theorem Geo.ok.gp {g : Geo} (h : g.ok) : g.G * g.P ≤ 512 := by
 have := Nat.mul_le_mul_left g.G h.p2
 have h2 := Nat.mul_div_le 512 g.G
 omega
theorem Geo.ok.pp {g : Geo} (h : g.ok) : g.P ≤ 512 := Nat.le_trans h.p2 (Nat.div_le_self _ _)
def Geo.B (g : Geo) : Nat := g.G * g.P
def Geo.M (g : Geo) : Nat := 3 + g.I / 2
def Geo.lab (g : Geo) : Nat := 1 + g.J
def Geo.blk (g : Geo) : Nat := 4 + g.J + g.I / 2
def Geo.all (g : Geo) : Nat := g.blk + g.B
def Geo.lay (g : Geo) : Int × Int × Int × Int × Int × Int × Int := ((1 : Nat), (g.lab : Nat), ((2 + g.J : Nat)), ((3 + g.J : Nat)), ((4 + g.J : Nat)), (g.blk : Nat), (g.all : Nat))
def needN (n : Nat) : Nat := n + (n - 1) / 15 + 1
abbrev Geo.roomy (g : Geo) : Prop := needN (g.M + 80) ≤ g.J - 1
theorem Geo.ok.all_le {g : Geo} (h : g.ok) : g.all ≤ 4096 := by
 have := h.gp
 have := h.j2
 have := h.i2
 unfold Geo.all Geo.blk Geo.B
 omega
section
variable {N : Nat} {β : Type} {l : List HA} {S : β → HA} {T : HA} {g : Geo}
theorem within_eq (n a b : Int) : F_0o N n a b = ret (decide (a ≤ n) && decide (n ≤ b)) := rfl
theorem right_eq (h : g.ok) : F_06 N g.t = ret true := by
 obtain ⟨h1, h2, h3, h4, h5, h6, h7, h8, h9⟩ := h
 have h10 : g.P ≤ 512 / g.G := h9
 unfold F_06 Geo.t
 simp only [within_eq]
 have e1 : (decide ((3 : Int) ≤ (g.J : Int)) && decide ((g.J : Int) ≤ 1000)) = true := by simp; omega
 have e2 : (decide ((2 : Int) ≤ (g.I : Int)) && decide ((g.I : Int) ≤ 64)) = true := by simp; omega
 have e3 : (decide ((1 : Int) ≤ (g.G : Int)) && decide ((g.G : Int) ≤ 64)) = true := by simp; omega
 have e4 : ((g.I : Int).tmod 2) = ((g.I % 2 : Nat) : Int) := rfl
 have e5 : (512 : Int).tdiv (g.G : Int) = ((512 / g.G : Nat) : Int) := rfl
 have h11 := Nat.div_le_self 512 g.G
 have e6 : (decide ((1 : Int) ≤ (g.P : Int)) && decide ((g.P : Int) ≤ wr .i64 ((512 : Int).tdiv (g.G : Int)))) = true := by
  rw [e5, wr64 (by omega) (by omega)]
  generalize 512 / g.G = q at *
  simp
  omega
 have e7 : (g.G : Int) ≠ 0 := by omega
 simp only [e1, e2, e3, e4, e6, h5, if_neg e7]
 rfl
theorem meta_eq (h : g.ok) : F_0g N g.t = ret (g.M : Int) := by
 unfold F_0g
 have e := right_eq (N := N) h
 unfold Geo.t at e ⊢
 rw [e]
 have e4 : ((g.I : Int).tdiv 2) = ((g.I / 2 : Nat) : Int) := rfl
 have := h.i2
 funext hh
 simp only [bd, ret]
 rw [e4, wr64 (n := ((g.I / 2 : Nat) : Int)) (by omega) (by omega), wr64 (by omega) (by omega)]
 simp [ret, Geo.M]
theorem need_eq {n : Nat} (h1 : 1 ≤ n) (h2 : n < 1000000) : F_0p N (n : Int) = ret (needN n : Int) := by
 unfold F_0p
 rw [if_neg (by simp; omega)]
 have e : wr .i64 ((n : Int) - 1) = ((n - 1 : Nat) : Int) := by rw [wr64 (by omega) (by omega)]; omega
 have e2 : ((n - 1 : Nat) : Int).tdiv 15 = (((n - 1) / 15 : Nat) : Int) := rfl
 rw [e, e2, wr64 (n := (((n - 1) / 15 : Nat) : Int)) (by omega) (by omega), wr64 (n := (n : Int) + _) (by omega) (by omega), wr64 (by omega) (by omega)]
 congr 1
theorem roomy_spec (h : g.ok) : Tri (stars l) (F_03 N g.t) fun r => pu (r = decide g.roomy) (stars l) := by
 unfold F_03
 refine tri_hold0 fun _ => ?_
 have e := meta_eq (N := N) h
 have := h.i2
 have := h.j1
 have := h.j2
 have hM : g.M = 3 + g.I / 2 := rfl
 unfold Geo.t at e ⊢
 rw [e]
 refine tri_bdret ?_
 have e2 : wr .i64 ((g.M : Int) + 80) = ((g.M + 80 : Nat) : Int) := by rw [wr64 (by omega) (by omega)]; simp
 rw [e2, need_eq (by omega) (by omega)]
 refine tri_bdret (tri_ret fun q hq => ⟨?_, hq⟩)
 rw [wr64 (by dsimp only; omega) (by dsimp only; omega)]
 unfold Geo.roomy
 congr 1
 apply propext
 dsimp only
 omega
theorem plan1_spec {b : Nat} {v n : Int} (h0 : 0 ≤ v) (h1 : v ≤ 1000000) (h2 : 0 ≤ n) (h3 : n ≤ 1000000) : Tri (stars [pts b (.cells [.int .i64 v] false)]) (F_04 N n (some ⟨b, 0⟩)) fun r => pu (r = v + n) (stars [pts b (.cells [.int .i64 (v + n)] false)]) := by
 unfold F_04
 refine tri_ldI 0 rfl rfl ?_
 rw [wr64 (by omega) (by omega)]
 refine tri_stc 0 rfl (by simp) rfl ?_
 exact tri_ldI 0 rfl rfl (tri_end [0] fun q hq => ⟨rfl, hq⟩)
theorem plan_spec (h : g.ok) : Tri (stars []) (F_0f N g.t) fun r => pu (r = (g.lay, 0)) (stars []) := by
 have hgp := h.gp
 have := h.i2
 have := h.j2
 unfold F_0f
 have e := right_eq (N := N) h
 unfold Geo.t at e ⊢
 rw [e]
 refine tri_bdret (tri_f (by simp) ?_)
 refine tri_alloc fun b => ?_
 refine tri_stc 0 rfl (by simp) rfl ?_
 refine tri_hold0 fun _ => ?_
 dsimp only [sel, rem, nth, del, cat, upd]
 have e4 : ((g.I : Int).tdiv 2) = ((g.I / 2 : Nat) : Int) := rfl
 have e5 : (g.G : Int) * (g.P : Int) = ((g.G * g.P : Nat) : Int) := by simp
 rw [e4, e5, wr64 (by omega) (by omega), wr64 (by omega) (by omega)]
 refine tri_call [0] (plan1_spec (by omega) (by omega) (by omega) (by omega)) fun r1 => tri_pu fun h1 => tri_flat ?_
 refine tri_call [0] (plan1_spec (by omega) (by omega) (by omega) (by omega)) fun r2 => tri_pu fun h2 => tri_flat ?_
 refine tri_call [0] (plan1_spec (by omega) (by omega) (by omega) (by omega)) fun r3 => tri_pu fun h3 => tri_flat ?_
 refine tri_call [0] (plan1_spec (by omega) (by omega) (by omega) (by omega)) fun r4 => tri_pu fun h4 => tri_flat ?_
 refine tri_call [0] (plan1_spec (by omega) (by omega) (by omega) (by omega)) fun r5 => tri_pu fun h5 => tri_flat ?_
 refine tri_call [0] (plan1_spec (by omega) (by omega) (by omega) (by omega)) fun r6 => tri_pu fun h6 => tri_flat ?_
 refine tri_call [0] (plan1_spec (by omega) (by omega) (by omega) (by omega)) fun r7 => tri_pu fun h7 => tri_flat ?_
 refine tri_end [] fun q hq => ⟨?_, hq⟩
 subst h1 h2 h3 h4 h5 h6 h7
 unfold Geo.lay Geo.all Geo.blk Geo.lab Geo.B
 simp only [Prod.mk.injEq]
 refine ⟨⟨?_, ?_, ?_, ?_, ?_, ?_, ?_⟩, trivial⟩ <;> simp <;> omega
def superB (g : Geo) : List UInt8 := sealed (filled ([109, 111, 97, 116] ++ lays 2 [g.J, g.I, g.G, g.P]) 60)
theorem superB_len (g : Geo) : (superB g).length = 64 := by
 unfold superB
 rw [sealed_len, filled_len (by simp [lays_len])]
theorem slay_spec (h : g.ok) (hN : 5000 < N) : Tri (stars []) (F_14 N g.t) fun r => pu (r.2 = 0) (stars [OwnA r.1 1 (bytesOf (superB g))]) := by
 have hgp := h.pp
 have := h.i2
 have := h.j2
 have := h.g2
 unfold F_14
 have e := right_eq (N := N) h
 unfold Geo.t at e ⊢
 rw [e]
 refine tri_bdret (tri_f (by simp) ?_)
 dsimp only
 rw [wrU64 (by omega) (by omega), wrU64 (by omega) (by omega), wrU64 (by omega) (by omega), wrU64 (by omega) (by omega)]
 refine tri_alloc fun b => ?_
 refine tri_call [0] (lay_spec (size := 2) (ns := [g.J, g.I, g.G, g.P]) (T := pts b (.cells [.int .u64 g.J, .int .u64 g.I, .int .u64 g.G, .int .u64 g.P] false)) (by omega) (by omega) (rd_pts0 (by simp)) (by
  intro n hn
  simp at hn
  omega) (by simp) hN) fun r4 => tri_pu fun hr4 => tri_flat ?_
 dsimp only [sel, rem, nth, del, cat, upd]
 refine own_ln 0 rfl fun h4 => ?_
 rw [bytes_len, lays_len] at h4
 simp only [List.length_cons, List.length_nil] at h4
 refine tri_alloc fun b5 => ?_
 refine tri_markB 0 rfl (by omega) ?_
 refine tri_turn 0 (B := OwnA ⟨some ⟨b5, 0⟩, 4⟩ 1 (bytesOf [109, 111, 97, 116])) rfl (fun q hq => .mk (by simp [bytesOf]) hq) ?_
 dsimp only [sel, rem, nth, del, cat, upd]
 refine tri_call [0, 0] (rd_app (rd_own (by rw [bytes_len, lays_len]; simp only [List.length_cons, List.length_nil]; omega)) (by omega) (bytes_cell _) (by
  have : most = 70368744177664 := rfl
  dsimp only
  omega)) fun r7 => tri_flat ?_
 dsimp only [sel, rem, nth, del, cat, upd]
 rw [← bytesOf_app]
 refine own_ln 0 rfl fun h7 => ?_
 rw [bytes_len, List.length_append, lays_len] at h7
 simp only [List.length_cons, List.length_nil] at h7
 refine tri_call [0] (fill_spec (n := 60) (rd_own (by rw [bytes_len, List.length_append, lays_len]; simp only [List.length_cons, List.length_nil]; omega)) (by rw [List.length_append, lays_len]; simp) (by omega)) fun r8 => tri_pu fun hr8 => tri_flat ?_
 dsimp only [sel, rem, nth, del, cat, upd]
 refine own_ln 0 rfl fun h8 => ?_
 refine tri_call [0] (seal_spec (rd_own h8) (by rw [filled_len (by simp [lays_len])]; omega) hN) fun r9 => tri_flat ?_
 exact tri_end [0] fun q hq => ⟨rfl, hq⟩
theorem super_num (g : Geo) (h : g.ok) (k : Nat) (hk : k < 4) : leN (((superB g).drop (4 + 2 * k)).take 2) = [g.J, g.I, g.G, g.P][k]'(by simpa using hk) := by
 have hgp := h.pp
 have := h.i2
 have := h.j2
 have := h.g2
 have e : ∀ (a b c d : Nat) (x : List UInt8), superB g = [109, 111, 97, 116] ++ (le 2 g.J ++ (le 2 g.I ++ (le 2 g.G ++ (le 2 g.P ++ (List.replicate 48 0 ++ le 4 (sumI (filled ([109, 111, 97, 116] ++ lays 2 [g.J, g.I, g.G, g.P]) 60)).toNat))))) := by
  intros
  unfold superB sealed filled lays
  simp [le_len]
 rw [e 0 0 0 0 []]
 have f : ∀ (n : Nat), n ≤ 65535 → leN (le 2 n) = n := fun n hn => by rw [leN_le, Nat.mod_eq_of_lt (by omega)]
 have l2 : ∀ n, (le 2 n).length = 2 := fun n => le_len 2 n
 match k, hk with
 | 0, _ =>
  rw [show 4 + 2 * 0 = ([109, 111, 97, 116] : List UInt8).length from rfl, List.drop_left, List.take_left' (l2 _)]
  exact f _ (by omega)
 | 1, _ =>
  rw [show 4 + 2 * 1 = ([109, 111, 97, 116] : List UInt8).length + (le 2 g.J).length by rw [l2]; rfl, List.drop_length_add_append, List.drop_left, List.take_left' (l2 _)]
  exact f _ (by omega)
 | 2, _ =>
  rw [show 4 + 2 * 2 = ([109, 111, 97, 116] : List UInt8).length + ((le 2 g.J).length + (le 2 g.I).length) by rw [l2, l2]; rfl, List.drop_length_add_append, List.drop_length_add_append, List.drop_left, List.take_left' (l2 _)]
  exact f _ (by omega)
 | 3, _ =>
  rw [show 4 + 2 * 3 = ([109, 111, 97, 116] : List UInt8).length + ((le 2 g.J).length + ((le 2 g.I).length + (le 2 g.G).length)) by rw [l2, l2, l2]; rfl, List.drop_length_add_append, List.drop_length_add_append, List.drop_length_add_append, List.drop_left, List.take_left' (l2 _)]
  exact f _ (by omega)
theorem stake_spec (h : g.ok) {s : Sl} (hr : RdC T s 1 (bytesOf (superB g))) (hN : 5000 < N) : Tri (stars [T]) (F_21 N s) fun r => pu (r = (g.t, 0)) (stars [T]) := by
 have hlen : s.len = 64 := by
  have := hr.1
  rw [bytes_len, superB_len] at this
  omega
 have hgp := h.pp
 have := h.i2
 have := h.j2
 have := h.g2
 unfold F_21
 refine tri_f (by simp [hlen]) ?_
 refine tri_alloc fun b => ?_
 refine tri_fl (tri_fl (tri_fl (tri_fl ?_)))
 refine tri_alloc fun b2 => ?_
 have step : ∀ (K j : Nat) (a0 a1 a2 a3 : Int) {Q : Unit → HA}, j < 4 → (∀ x : Int, x = ([g.J, g.I, g.G, g.P][j]?.getD 0 : Nat) → Tri (stars [pts b2 (.cells [.ptr (some ⟨b, 0 + 0⟩), .ptr (some ⟨b, 0 + 1⟩), .ptr (some ⟨b, 0 + 2⟩), .ptr (some ⟨b, 0 + 3⟩)] false), pts b (.cells ([.int .i64 a0, .int .i64 a1, .int .i64 a2, .int .i64 a3].set j (.int .i64 x)) false), T]) (iter K (F_1t N s (some ⟨b2, 0⟩)) ((4 + 2 * (j + 1) : Nat), (j + 1 : Nat))) Q) →
   Tri (stars [pts b2 (.cells [.ptr (some ⟨b, 0 + 0⟩), .ptr (some ⟨b, 0 + 1⟩), .ptr (some ⟨b, 0 + 2⟩), .ptr (some ⟨b, 0 + 3⟩)] false), pts b (.cells [.int .i64 a0, .int .i64 a1, .int .i64 a2, .int .i64 a3] false), T]) (iter (K + 1) (F_1t N s (some ⟨b2, 0⟩)) ((4 + 2 * j : Nat), (j : Nat))) Q := by
  intro K j a0 a1 a2 a3 Q hj kk
  rw [iter_S]
  unfold F_1t
  refine tri_t (by simp; omega) ?_
  refine tri_idx hj (tri_ldP 0 rfl (v := some ⟨b, j⟩) (by
   match j, hj with
   | 0, _ => rfl
   | 1, _ => rfl
   | 2, _ => rfl
   | 3, _ => rfl) ?_)
  refine tri_call [2] (Get_spec (a := 4 + 2 * j) (z := 2) hr (by omega) (by omega) (by rw [superB_len]; omega) (by rw [superB_len]; omega) (by omega)) fun r => tri_pu fun hr' => tri_flat ?_
  dsimp only [sel, rem, nth, del, cat, upd]
  subst hr'
  refine tri_nn ?_
  refine tri_stc 2 rfl (by simpa using hj) rfl ?_
  dsimp only [sel, rem, nth, del, cat, upd]
  have e := super_num g h j hj
  have hx : [g.J, g.I, g.G, g.P][j]?.getD 0 = leN (((superB g).drop (4 + 2 * j)).take 2) := by
   rw [List.getElem?_eq_getElem (by simpa using hj), e]
   rfl
  have hle : leN (((superB g).drop (4 + 2 * j)).take 2) ≤ 1000 := by
   rw [e]
   match j, hj with
   | 0, _ => show g.J ≤ 1000; omega
   | 1, _ => show g.I ≤ 1000; omega
   | 2, _ => show g.G ≤ 1000; omega
   | 3, _ => show g.P ≤ 1000; omega
  rw [wr64 (n := ((leN _ : Nat) : Int)) (by omega) (by omega), wr64 (by omega) (by omega), wr64 (by omega) (by omega)]
  have k2 := kk _ (by rw [hx])
  have e2 : (((4 + 2 * j : Nat) : Int) + 2) = ((4 + 2 * (j + 1) : Nat) : Int) := by omega
  have e3 : ((j : Int) + 1) = ((j + 1 : Nat) : Int) := by omega
  rw [e2, e3]
  have e4 : stars [pts b2 (.cells [.ptr (some ⟨b, 0 + 0⟩), .ptr (some ⟨b, 0 + 1⟩), .ptr (some ⟨b, 0 + 2⟩), .ptr (some ⟨b, 0 + 3⟩)] false), pts b (.cells ([.int .i64 a0, .int .i64 a1, .int .i64 a2, .int .i64 a3].set j (.int .i64 (leN (((superB g).drop (4 + 2 * j)).take 2) : Nat))) false), T] =
   stars [T, pts b2 (.cells [.ptr (some ⟨b, 0 + 0⟩), .ptr (some ⟨b, 0 + 1⟩), .ptr (some ⟨b, 0 + 2⟩), .ptr (some ⟨b, 0 + 3⟩)] false), pts b (.cells ([.int .i64 a0, .int .i64 a1, .int .i64 a2, .int .i64 a3].set j (.int .i64 (leN (((superB g).drop (4 + 2 * j)).take 2) : Nat))) false)] := by
   rw [stars_sel [2, 0, 0] [pts b2 _, pts b _, T]]
   show star _ emp = _
   rw [star_emp]
   rfl
  rw [e4] at k2
  exact k2
 obtain ⟨K, rfl⟩ : ∃ K, N = K + 5 := ⟨N - 5, by omega⟩
 refine tri_call [0, 0, 0] (Q := fun _ => stars [pts b (.cells [.int .i64 g.J, .int .i64 g.I, .int .i64 g.G, .int .i64 g.P] false), T]) ?_ fun _ => tri_flat ?_
 ·refine step _ 0 0 0 0 0 (by omega) fun x hx => ?_
  refine step _ 1 _ _ _ _ (by omega) fun y hy => ?_
  refine step _ 2 _ _ _ _ (by omega) fun z hz => ?_
  refine step _ 3 _ _ _ _ (by omega) fun w hw => ?_
  subst hx hy hz hw
  rw [iter_S]
  unfold F_1t
  refine tri_f (by simp) (tri_end [1, 1] fun q hq => hq)
 ·dsimp only [sel, rem, nth, del, cat, upd]
  refine tri_read 0 rfl (a := g.t) (fun h' hg => ?_) ?_
  ·simp only [ldSt, bd]
   have : ldn 4 (some ⟨b, 0⟩) h' = some (List.take 4 (List.drop 0 [MV.int .i64 g.J, .int .i64 g.I, .int .i64 g.G, .int .i64 g.P]), h') := ldn_eq hg (by simp)
   rw [show ([CTy.int .i64, .int .i64, .int .i64, .int .i64] : List CTy).length = 4 from rfl, this]
   rfl
  ·refine tri_call [] (slay_spec h hN) fun r16 => tri_pu fun hr16 => tri_flat ?_
   dsimp only [sel, rem, nth, del, cat, upd]
   refine own_ln 0 rfl fun h16 => ?_
   refine tri_call [0, 1] (Q := fun c => pu (c = false) (stars [OwnA r16.1 1 (bytesOf (superB g)), T])) ?_ fun c => tri_pu fun hc => tri_flat ?_
   ·refine tri_t (by simp [hr16]) ?_
    refine tri_rStr 0 rfl (rd_own h16) ?_
    refine tri_rStr 1 rfl hr ?_
    exact tri_end [0, 0] fun q hq => ⟨by simp, hq⟩
   ·dsimp only [sel, rem, nth, del, cat, upd]
    subst hc
    refine tri_f (by simp) ?_
    refine tri_read 2 rfl (a := g.t) (fun h' hg => ?_) ?_
    ·simp only [ldSt, bd]
     have : ldn 4 (some ⟨b, 0⟩) h' = some (List.take 4 (List.drop 0 [MV.int .i64 g.J, .int .i64 g.I, .int .i64 g.G, .int .i64 g.P]), h') := ldn_eq hg (by simp)
     rw [show ([CTy.int .i64, .int .i64, .int .i64, .int .i64] : List CTy).length = 4 from rfl, this]
     rfl
    ·exact tri_end [1] fun q hq => ⟨rfl, hq⟩
end
end Go.Moat

/- Layers 8 and 10: bits; rows of labels. -/
namespace Go.Moat
open Go.Mini
def byteW (b : UInt8) (k : Nat) (on : Bool) : UInt8 :=
 UInt8.ofNat (if on then bitI .or .u8 (bitI .andNot .u8 b.toNat (shlI .u8 1 k)) (shlI .u8 1 k) else bitI .andNot .u8 b.toNat (shlI .u8 1 k)).toNat
theorem shl1 {k : Nat} (hk : k < 8) : shlI .u8 (1 : Int) (k : Int) = ((2 ^ k : Nat) : Int) := by
 have := shl_nat (k := .u8) (a := 1) (j := k) rfl (by show k ≤ 8; omega) (by rw [Nat.one_mul]; exact Nat.pow_lt_pow_right (by omega) hk)
 rw [Nat.one_mul] at this
 exact this
theorem byteW_spec (b : UInt8) {k : Nat} (hk : k < 8) : ∃ m : Nat, bitI .andNot .u8 b.toNat (shlI .u8 1 k) = (m : Int) ∧ m < 256 ∧ bitI .or .u8 m (shlI .u8 1 k) = ((m ||| 2 ^ k : Nat) : Int) ∧ m ||| 2 ^ k < 256 ∧ ∀ i, m.testBit i = (b.toNat.testBit i && !decide (k = i)) := by
 have h1 : 2 ^ k < 2 ^ IntKind.u8.bits := Nat.pow_lt_pow_right (by omega) hk
 obtain ⟨m, h2, h3, h4⟩ := andnot_nat (k := .u8) rfl (a := b.toNat) (b := 2 ^ k) b.toNat_lt h1
 refine ⟨m, by rw [shl1 hk, h2], h3, by rw [shl1 hk]; exact (bit_nat (k := .u8) rfl h3 h1).2.1, Nat.or_lt_two_pow (n := 8) h3 h1, fun i => ?_⟩
 rw [h4, Nat.testBit_two_pow]
theorem byteW_bit (b : UInt8) {k : Nat} (hk : k < 8) (on : Bool) (i : Nat) : (byteW b k on).toNat.testBit i = if i = k then on else b.toNat.testBit i := by
 obtain ⟨m, h1, h2, h3, h4, h5⟩ := byteW_spec b hk
 unfold byteW
 cases on
 ·simp only [Bool.false_eq_true, if_false]
  rw [h1, Int.toNat_natCast, UInt8.toNat_ofNat_of_lt' (by simpa using h2), h5]
  by_cases e : i = k
  ·subst e; simp
  ·simp [e, Ne.symm e]
 ·simp only [if_true]
  rw [h1, h3, Int.toNat_natCast, UInt8.toNat_ofNat_of_lt' (by simpa using h4), Nat.testBit_or, h5, Nat.testBit_two_pow]
  by_cases e : i = k
  ·subst e; simp
  ·simp [e, Ne.symm e]
def setBit (bs : List UInt8) (i : Nat) (on : Bool) : List UInt8 := bs.set (i / 8) (byteW (bs[i / 8]?.getD 0) (i % 8) on)
theorem setBit_len (bs : List UInt8) (i : Nat) (on : Bool) : (setBit bs i on).length = bs.length := by simp [setBit]
theorem getBit_set {bs : List UInt8} {i : Nat} (hi : i < 8 * bs.length) (on : Bool) (j : Nat) : getBit (setBit bs i on) j = if j = i then on else getBit bs j := by
 unfold getBit setBit
 have h8 : i / 8 < bs.length := by omega
 rw [List.getElem?_set]
 by_cases h : i / 8 = j / 8
 ·rw [if_pos h, if_pos h8]
  simp only [byteW_bit _ (show i % 8 < 8 by omega)]
  by_cases e : j = i
  ·subst e; simp
  ·rw [if_neg e, if_neg (by omega), h, List.getElem?_eq_getElem (by omega)]
   rfl
 ·rw [if_neg h, if_neg (by rintro rfl; exact h rfl)]
def firstB (bs : List UInt8) (lo hi : Nat) (on : Bool) : Option Nat := ((List.range' lo (hi - lo)).find? fun i => getBit bs i == on)
def cntB (bs : List UInt8) (lo hi : Nat) : Nat := ((List.range' lo (hi - lo)).filter fun i => getBit bs i).length
section
variable {N : Nat} {β : Type} {l : List HA} {S : β → HA} {T : HA} {s : Sl} {bs : List UInt8}
theorem bl_len (hr : RdC T s 1 (bytesOf bs)) : s.len = bs.length := by
 have := hr.1
 rw [bytes_len] at this
 omega
theorem has_spec (hr : RdC T s 1 (bytesOf bs)) (hb : bs.length ≤ 512) (i : Int) : Tri (stars [T]) (F_0i N s i) fun r => pu (r = (decide (0 ≤ i) && getBit bs i.toNat)) (stars [T]) := by
 have hlen := bl_len hr
 unfold F_0i
 rw [hlen]
 have e8 : (8 : Int) * (bs.length : Int) = ((8 * bs.length : Nat) : Int) := by simp
 rw [e8, wr64 (n := ((8 * bs.length : Nat) : Int)) (by omega) (by omega)]
 refine tri_call [0] (Q := fun r => pu (r = (decide (0 ≤ i) && getBit bs i.toNat)) (stars [T])) ?_ fun c => tri_pu fun hc => tri_flat (tri_end [0] fun q hq => ⟨hc, hq⟩)
 by_cases h : 0 ≤ i ∧ i < ((8 * bs.length : Nat) : Int)
 ·obtain ⟨k, rfl⟩ : ∃ k : Nat, i = k := ⟨i.toNat, by omega⟩
  refine tri_t (by simp; omega) ?_
  have e1 : (k : Int).tdiv 8 = ((k / 8 : Nat) : Int) := rfl
  have e2 : (k : Int).tmod 8 = ((k % 8 : Nat) : Int) := rfl
  rw [e1, e2, wr64 (by omega) (by omega)]
  have h8 : k / 8 < bs.length := by omega
  refine tri_rI 0 rfl hr (bytes_get h8) (tri_f (by omega) (tri_end [0] fun q hq => ⟨?_, hq⟩))
  rw [shr_nat (by show k % 8 ≤ 8; omega)]
  have h1 : bs[k / 8].toNat / 2 ^ (k % 8) < 2 ^ IntKind.u8.bits := Nat.lt_of_le_of_lt (Nat.div_le_self _ _) bs[k / 8].toNat_lt
  have := (bit_nat (k := .u8) (b := 1) rfl h1 (by decide)).1
  have e3 : bitI .and .u8 ((bs[k / 8].toNat / 2 ^ (k % 8) : Nat) : Int) (1 : Int) = ((bs[k / 8].toNat / 2 ^ (k % 8) % 2 : Nat) : Int) := by
   rw [← Nat.and_one_is_mod]
   exact this
  rw [e3]
  unfold getBit
  rw [Int.toNat_natCast, List.getElem?_eq_getElem h8]
  simp only [Nat.testBit_eq_decide_div_mod_eq, Int.natCast_nonneg, decide_true, Bool.true_and]
  congr 1
  apply propext
  omega
 ·refine tri_f (by simp; omega) (tri_end [0] fun q hq => ⟨?_, hq⟩)
  by_cases h0 : 0 ≤ i
  ·have : getBit bs i.toNat = false := by
    cases hg : getBit bs i.toNat with
    | false => rfl
    | true => have := getBit_lt hg; omega
   simp [this]
  ·simp [h0]
theorem has_nat (hr : RdC T s 1 (bytesOf bs)) (hb : bs.length ≤ 512) (i : Nat) : Tri (stars [T]) (F_0i N s (i : Int)) fun r => pu (r = getBit bs i) (stars [T]) :=
 (has_spec hr hb i).post fun r q hq => ⟨by rw [hq.1]; simp, hq.2⟩
theorem bwithin_eq (hlen : s.len = bs.length) (hb : bs.length ≤ 512) {lo hi : Nat} (h2 : hi ≤ 8 * bs.length) : F_1d N s (lo : Int) (hi : Int) = ret ((lo : Int), (hi : Int)) := by
 unfold F_1d
 rw [hlen, wr64 (by omega) (by omega), if_neg (by omega), if_neg (by omega)]
theorem count_spec (hr : RdC T s 1 (bytesOf bs)) (hb : bs.length ≤ 512) {lo hi : Nat} (h1 : lo ≤ hi) (h2 : hi ≤ 8 * bs.length) (hN : 5000 < N) : Tri (stars [T]) (F_1e N s (lo : Int) (hi : Int)) fun r => pu (r = (cntB bs lo hi : Nat)) (stars [T]) := by
 have hlen := bl_len hr
 unfold F_1e
 rw [bwithin_eq hlen hb h2]
 refine tri_bdret ?_
 have loop : ∀ (K j n : Nat), hi - j < K → lo ≤ j → j ≤ hi → n = cntB bs lo j → Tri (stars [T]) (iter K (F_3u N s ((lo : Int), (hi : Int))) ((n : Int), (j : Int))) fun r => pu (r = (cntB bs lo hi : Nat)) (stars [T]) := by
  intro K
  induction K with
  | zero => intro j n h; omega
  | succ K ih =>
   intro j n h hl hj hn
   rw [iter_S]
   unfold F_3u
   have hle : cntB bs lo j ≤ j - lo := Nat.le_trans (List.length_filter_le _ _) (by simp)
   by_cases hjk : j < hi
   ·refine tri_t (by simp; omega) ?_
    refine tri_call [0] (has_nat hr hb j) fun r => tri_pu fun hr' => tri_flat ?_
    dsimp only [sel, rem, nth, del, cat, upd]
    subst hr'
    have e : cntB bs lo (j + 1) = cntB bs lo j + if getBit bs j then 1 else 0 := by
     unfold cntB
     rw [show j + 1 - lo = (j - lo) + 1 by omega, List.range'_concat, List.filter_append, List.length_append]
     congr 1
     rw [show lo + 1 * (j - lo) = j by omega]
     cases hgb : getBit bs j <;> simp [hgb]
    rw [wr64 (n := (n : Int) + 1) (by omega) (by omega), wr64 (n := (j : Int) + 1) (by omega) (by omega)]
    cases hg : getBit bs j
    ·refine tri_call [0] (Q := fun r => pu (r = (n : Int)) (stars [T])) (tri_f (by simp) (tri_ret fun q hq => ⟨rfl, hq⟩)) fun r => tri_pu fun hr' => tri_flat ?_
     subst hr'
     refine ih (j + 1) n (by omega) (by omega) (by omega) ?_
     rw [e, hg, hn]
     simp
    ·refine tri_call [0] (Q := fun r => pu (r = ((n + 1 : Nat) : Int)) (stars [T])) (tri_t rfl (tri_ret fun q hq => ⟨by simp, hq⟩)) fun r => tri_pu fun hr' => tri_flat ?_
     subst hr'
     refine ih (j + 1) (n + 1) (by omega) (by omega) (by omega) ?_
     rw [e, hg, hn]
     simp
   ·obtain rfl : j = hi := by omega
    refine tri_f (by simp) (tri_ret fun q hq => ⟨?_, hq⟩)
    rw [hn]
 refine tri_call [0] ((loop N lo 0 (by omega) (by omega) h1 (by simp [cntB])).pre fun q hq => hq) fun r => tri_pu fun hr => tri_flat (tri_end [0] fun q hq => ⟨hr, hq⟩)
theorem first_spec (hr : RdC T s 1 (bytesOf bs)) (hb : bs.length ≤ 512) {lo hi : Nat} (h1 : lo ≤ hi) (h2 : hi ≤ 8 * bs.length) (on : Bool) (hN : 5000 < N) :
  Tri (stars [T]) (F_2h N s (lo : Int) (hi : Int) on) fun r => pu (r = match firstB bs lo hi on with | some i => ((i : Int), true) | none => (0, false)) (stars [T]) := by
 have hlen := bl_len hr
 unfold F_2h
 rw [bwithin_eq hlen hb h2]
 refine tri_bdret ?_
 have loop : ∀ (K j : Nat), hi - j < K → lo ≤ j → j ≤ hi → firstB bs lo hi on = firstB bs j hi on → Tri (stars [T]) (iter K (F_45 N s on ((lo : Int), (hi : Int))) (j : Int)) fun r => pu (r = match firstB bs lo hi on with | some i => .inr ((i : Int), true) | none => .inl ()) (stars [T]) := by
  intro K
  induction K with
  | zero => intro j h; omega
  | succ K ih =>
   intro j h hl hj he
   rw [iter_S]
   unfold F_45
   by_cases hjk : j < hi
   ·refine tri_t (by simp; omega) ?_
    refine tri_call [0] (has_nat hr hb j) fun r => tri_pu fun hr' => tri_flat ?_
    dsimp only [sel, rem, nth, del, cat, upd]
    subst hr'
    have e : firstB bs j hi on = if getBit bs j == on then some j else firstB bs (j + 1) hi on := by
     unfold firstB
     rw [show hi - j = (hi - (j + 1)) + 1 by omega, List.range'_succ, List.find?_cons]
     cases (getBit bs j == on) <;> rfl
    by_cases hg : (getBit bs j == on) = true
    ·refine tri_t hg (tri_ret fun q hq => ⟨?_, hq⟩)
     rw [he, e, if_pos hg]
    ·refine tri_f hg ?_
     rw [wr64 (by omega) (by omega)]
     refine ih (j + 1) (by omega) (by omega) (by omega) ?_
     rw [he, e, if_neg hg]
   ·obtain rfl : j = hi := by omega
    refine tri_f (by simp) (tri_ret fun q hq => ⟨?_, hq⟩)
    rw [he]
    simp [firstB]
 refine tri_call [0] ((loop N lo (by omega) (by omega) h1 rfl).pre fun q hq => hq) fun r => tri_pu fun hr => tri_flat ?_
 subst hr
 cases firstB bs lo hi on with
 | none => exact tri_end [0] fun q hq => ⟨rfl, hq⟩
 | some i => exact tri_end [0] fun q hq => ⟨rfl, hq⟩
theorem with_spec (hr : RdC T s 1 (bytesOf bs)) (hb : bs.length ≤ 512) {i : Nat} (hi : i < 8 * bs.length) (on : Bool) : Tri (stars [T]) (F_2i N s (i : Int) on) fun r => pu (r.2 = 0) (stars [OwnA r.1 1 (bytesOf (setBit bs i on)), T]) := by
 have hlen := bl_len hr
 unfold F_2i
 rw [hlen]
 have e8 : (8 : Int) * (bs.length : Int) = ((8 * bs.length : Nat) : Int) := by simp
 rw [e8, wr64 (n := ((8 * bs.length : Nat) : Int)) (by omega) (by omega)]
 refine tri_f (by simp; omega) (tri_f (by simp; omega) ?_)
 have h8 : i / 8 < bs.length := by omega
 refine Tri.pre ?_ (A := stars [T]) (B := stars [OwnA ⟨none, 0⟩ 1 [], T]) fun q hq => ent_emp (fun q h => .nil 1 h) hq
 refine tri_call [0, 0] (rd_app hr (by omega) (bytes_cell _) (by
  have : most = 70368744177664 := rfl
  dsimp only
  omega)) fun l4 => tri_flat ?_
 dsimp only [sel, rem, nth, del, cat, upd]
 rw [List.nil_append]
 refine tri_own 0 rfl (fun h1 h2 => ?_) fun b ln h1 h2 => ?_
 ·have := congrArg List.length h2
  rw [bytes_len, List.length_nil] at this
  omega
 subst h1
 rw [bytes_len, Nat.mul_one] at h2
 dsimp only [sel, rem, nth, del, cat, upd]
 have e1 : (i : Int).tdiv 8 = ((i / 8 : Nat) : Int) := rfl
 have e2 : (i : Int).tmod 8 = ((i % 8 : Nat) : Int) := rfl
 rw [e1, e2, wr64 (by omega) (by omega)]
 refine tri_idx (by omega) (tri_ldI 0 rfl (by rw [Nat.zero_add, Nat.mul_one]; exact bytes_get h8) ?_)
 refine tri_f (by omega) ?_
 refine tri_idx (by omega) (tri_stc 0 rfl (by rw [bytes_len]; omega) rfl ?_)
 obtain ⟨m, k1, k2, k3, k4, k5⟩ := byteW_spec bs[i / 8] (show i % 8 < 8 by omega)
 rw [k1, Nat.zero_add, Nat.mul_one]
 dsimp only [sel, rem, nth, del, cat, upd]
 have hset : ∀ x : Nat, x < 256 → (bytesOf bs).set (i / 8) (.int .u8 (x : Int)) = bytesOf (bs.set (i / 8) (UInt8.ofNat x)) := by
  intro x hx
  unfold bytesOf
  rw [List.map_set]
  congr 2
  rw [UInt8.toNat_ofNat_of_lt' (by simpa using hx)]
 have fin : ∀ x : Nat, x < 256 → UInt8.ofNat x = byteW bs[i / 8] (i % 8) on → Tri (stars [pts b (.cells ((bytesOf bs).set (i / 8) (.int .u8 (x : Int))) false), T]) (ret (((⟨some ⟨b, 0⟩, ln⟩ : Sl), (0 : Int)))) fun r => pu (r.2 = 0) (stars [OwnA r.1 1 (bytesOf (setBit bs i on)), T]) := by
  intro x hx he
  rw [hset x hx, he]
  refine tri_ret fun q hq => ⟨rfl, ?_⟩
  unfold setBit
  rw [List.getElem?_eq_getElem h8]
  exact stars_imp (.cons (fun _ k => .mk (by rw [bytes_len]; simpa using h2) k) (.cons (fun _ k => k) .nil)) q hq
 cases on with
 | false =>
  refine tri_call [0, 0] (Q := fun _ => stars [pts b (.cells ((bytesOf bs).set (i / 8) (.int .u8 (m : Int))) false), T]) (tri_f (by simp) (tri_ret fun q hq => hq)) fun _ => tri_flat ?_
  dsimp only [sel, rem, nth, del, cat, upd]
  refine fin m k2 ?_
  unfold byteW
  rw [k1]
  simp
 | true =>
  refine tri_call [0, 0] (Q := fun _ => stars [pts b (.cells ((bytesOf bs).set (i / 8) (.int .u8 ((m ||| 2 ^ (i % 8) : Nat) : Int))) false), T]) ?_ fun _ => tri_flat ?_
  ·refine tri_t rfl ?_
   refine tri_idx (by omega) (tri_ldI 0 rfl (v := (m : Int)) (by rw [Nat.zero_add, Nat.mul_one, List.getElem?_set, if_pos rfl, if_pos (by rw [bytes_len]; omega)]) ?_)
   refine tri_f (by omega) ?_
   refine tri_idx (by omega) (tri_stc 0 rfl (by rw [List.length_set, bytes_len]; omega) rfl ?_)
   rw [k3, Nat.zero_add, Nat.mul_one, List.set_set]
   exact tri_ret fun q hq => hq
  ·dsimp only [sel, rem, nth, del, cat, upd]
   refine fin _ k4 ?_
   unfold byteW
   rw [k1]
   simp only [if_true]
   rw [k3, Int.toNat_natCast]
end
abbrev Row := Nat × Nat
def rowC (r : Row) : List MV := [.int .u16 r.1, .int .i64 r.2]
abbrev rowsC (rs : List Row) : List MV := catL rowC rs
theorem rowC_len (r : Row) : (rowC r).length = 2 := rfl
theorem rowC_cell (r : Row) : (rowC r).all isCell = true := rfl
structure RowsOk (rs : List Row) : Prop where
 len : rs.length = 16
 rng : ∀ r ∈ rs, r.1 < 65536 ∧ r.2 ≤ 65535
 zero : ∀ r ∈ rs, r.2 = 0 → r.1 = 0
 dist : ∀ (i j : Nat) (hi : i < rs.length) (hj : j < rs.length), 0 < rs[i].2 → 0 < rs[j].2 → rs[i].1 = rs[j].1 → i = j
section
variable {N : Nat} {β : Type} {l : List HA} {S : β → HA} {T : HA} {s : Sl} {rs : List Row}
theorem rl_len (hr : RdC T s 2 (rowsC rs)) : s.len = rs.length := by
 have := hr.1
 rw [catL_len rowC_len] at this
 omega
theorem tri_row (n : Nat) (hl : l[n]? = some T) (hr : RdC T s 2 (rowsC rs)) {i : Nat} (hi : i < rs.length) {f : Int × Int → M β} (kk : Tri (stars l) (f ((rs[i].1 : Int), (rs[i].2 : Int))) S) : Tri (stars l) (bd (idx 2 s (i : Int)) fun q => bd (ldSt [.int .u16, .int .i64] q) f) S :=
 tri_rSt (ts := [.int .u16, .int .i64]) n hl hr (by rw [rl_len hr]; exact hi) (x := ((rs[i].1 : Int), (rs[i].2 : Int))) (by
  have := catL_at rowC_len hi
  show HC.dec _ (((rowsC rs).drop (i * 2)).take 2) = _
  rw [this]
  rfl) kk
theorem iright_spec (ok : RowsOk rs) (hr : RdC T s 2 (rowsC rs)) (hN : 100 < N) : Tri (stars [T]) (F_09 N s) fun r => pu (r = true) (stars [T]) := by
 have hlen := rl_len hr
 have h16 := ok.len
 unfold F_09
 refine tri_f (by simp [hlen, h16]) ?_
 refine tri_mk .u16 fun m => ?_
 have loop : ∀ (K j : Nat) (kvs : List (Int × MV)), rs.length - j < K → j ≤ rs.length → (∀ k : Int, getK kvs k = none ∨ (getK kvs k = some (.bool true) ∧ ∃ (i : Nat) (hi : i < rs.length), i < j ∧ 0 < rs[i].2 ∧ (rs[i].1 : Int) = k)) →
   Tri (stars [MapK .u16 m kvs, T]) (iter K (F_3p N s (some m)) (j : Int)) fun r => pu (r = .inl ()) (stars [T]) := by
  intro K
  induction K with
  | zero => intro j kvs h; omega
  | succ K ih =>
   intro j kvs h hj hk
   rw [iter_S]
   unfold F_3p
   by_cases hjl : j < rs.length
   ·refine tri_t (by simp [hlen]; omega) ?_
    refine tri_row 1 rfl hr hjl ?_
    have hm := List.getElem_mem hjl
    have h1 := ok.rng _ hm
    by_cases hz : rs[j].2 = 0
    ·have hz1 := ok.zero _ hm hz
     refine tri_call [0, 0] (Q := fun r => pu (r = .inl ()) (stars [MapK .u16 m kvs, T])) ?_ fun r => tri_pu fun hr' => tri_flat ?_
     ·refine tri_t (by simp [hz]) (tri_f (by simp [hz1]) (tri_ret fun q hq => ⟨rfl, hq⟩))
     ·subst hr'
      dsimp only
      rw [wr64 (by omega) (by omega)]
      exact ih (j + 1) kvs (by omega) (by omega) fun k => (hk k).imp id fun ⟨a, i, hi, b, c⟩ => ⟨a, i, hi, by omega, c⟩
    ·have hno : getK kvs (rs[j].1 : Int) = none := by
      rcases hk (rs[j].1 : Int) with h0 | ⟨_, i, hi, h2, h3, h4⟩
      ·exact h0
      ·have := ok.dist i j hi hjl h3 (by omega) (by omega)
       omega
     refine tri_call [0, 0] (Q := fun r => pu (r = .inl ()) (stars [MapK .u16 m (putK kvs rs[j].1 (.bool true)), T])) ?_ fun r => tri_pu fun hr' => tri_flat ?_
     ·refine tri_f (by simp; omega) ?_
      refine tri_call [0, 0] (Q := fun r => pu (r = false) (stars [MapK .u16 m kvs, T])) ?_ fun r => tri_pu fun hr' => tri_flat ?_
      ·refine tri_t (by simp; omega) ?_
       refine tri_look 0 rfl _ ?_
       rw [hno]
       refine tri_some ?_
       exact tri_end [0, 0] fun q hq => ⟨rfl, hq⟩
      ·dsimp only [sel, rem, nth, del, cat, upd]
       subst hr'
       refine tri_f (by simp) ?_
       refine tri_put 0 rfl _ _ ?_
       exact tri_end [0, 0] fun q hq => ⟨rfl, hq⟩
     ·subst hr'
      dsimp only
      rw [wr64 (by omega) (by omega)]
      refine ih (j + 1) _ (by omega) (by omega) fun k => ?_
      rw [getK_put]
      by_cases hkj : k = (rs[j].1 : Int)
      ·rw [if_pos hkj]
       exact .inr ⟨rfl, j, hjl, by omega, by omega, hkj.symm⟩
      ·rw [if_neg hkj]
       exact (hk k).imp id fun ⟨a, i, hi, b, c⟩ => ⟨a, i, hi, by omega, c⟩
   ·obtain rfl : j = rs.length := by omega
    refine tri_f (by simp [hlen]) (tri_end [1] fun q hq => ⟨rfl, ?_⟩)
    exact hq
 refine tri_call [0, 0] ((loop N 0 [] (by omega) (by omega) fun k => .inl rfl).pre fun q hq => hq) fun r => tri_pu fun hr' => tri_flat ?_
 subst hr'
 exact tri_end [0] fun q hq => ⟨rfl, hq⟩
def isRow (a : Nat) (r : Row) : Bool := decide (0 < r.2) && decide (r.1 = a)
def isFree (r : Row) : Bool := decide (r.2 = 0)
theorem iof_spec {a : Nat} (ha : a < 65536) (hr : RdC T s 2 (rowsC rs)) (hl : rs.length = 16) (hN : 100 < N) : Tri (stars [T]) (F_1g N s (a : Int)) fun r => pu (r = fi (isRow a) rs) (stars [T]) := by
 have hlen := rl_len hr
 unfold F_1g
 refine tri_new (g := fun b => some ⟨b, 0⟩) (x := .cells [.int .u16 a] false) (fun h' => rfl) fun b => ?_
 unfold F_3a F_39
 refine tri_call [0, 0] (Q := fun r => pu (r = fi (isRow a) rs) (stars [pts b (.cells [.int .u16 a] false), T])) ?_ fun r => tri_pu fun h => tri_flat (tri_end [1] fun q hq => ⟨h, hq⟩)
 refine tri_call [0, 0] (tri_find (A := stars [pts b (.cells [.int .u16 a] false), T]) (isRow a) rs (by omega) (fun rec i hi Q k => ?_) fun rec Q k => ?_) fun r => tri_pu fun h => tri_flat (tri_end [0, 0] fun q hq => ⟨h, hq⟩)
 ·unfold F_43
  refine tri_t (by simp [hlen]; omega) ?_
  refine tri_row 1 rfl hr hi ?_
  refine tri_call [0, 0] (Q := fun r => pu (r = isRow a rs[i]) (stars [pts b (.cells [.int .u16 a] false), T])) ?_ fun r => tri_pu fun hr' => tri_flat ?_
  ·unfold F_38 isRow
   refine tri_call [0, 0] (Q := fun r => pu (r = (decide (0 < rs[i].2) && decide (rs[i].1 = a))) (stars [pts b (.cells [.int .u16 a] false), T])) ?_ fun r => tri_pu fun hr' => tri_flat (tri_end [0, 0] fun q hq => ⟨hr', hq⟩)
   by_cases h0 : 0 < rs[i].2
   ·refine tri_t (by simpa using h0) (tri_ldI 0 rfl rfl (tri_end [0, 0] fun q hq => ⟨?_, hq⟩))
    simp only [h0, decide_true, Bool.true_and]
    congr 1
    apply propext
    omega
   ·refine tri_f (by simpa using h0) (tri_end [0, 0] fun q hq => ⟨by simp [h0], hq⟩)
  ·subst hr'
   rw [wr64 (by omega) (by omega)]
   exact k
 ·unfold F_43
  refine tri_f (by simp [hlen]) k
theorem ifree_spec (hr : RdC T s 2 (rowsC rs)) (hl : rs.length = 16) (hN : 100 < N) : Tri (stars [T]) (F_2e N s ()) fun r => pu (r = fi isFree rs) (stars [T]) := by
 have hlen := rl_len hr
 unfold F_2e F_3c
 refine tri_call [0] (tri_find (A := stars [T]) isFree rs (by omega) (fun rec i hi Q k => ?_) fun rec Q k => ?_) fun r => tri_pu fun h => tri_flat (tri_end [0] fun q hq => ⟨h, hq⟩)
 ·unfold F_44
  refine tri_t (by simp [hlen]; omega) ?_
  refine tri_row 0 rfl hr hi ?_
  unfold F_3b
  refine tri_bdret ?_
  rw [wr64 (by omega) (by omega)]
  have : (decide ((rs[i].2 : Int) = 0)) = isFree rs[i] := by
   unfold isFree
   congr 1
   apply propext
   omega
  rw [this]
  exact k
 ·unfold F_44
  refine tri_f (by simp [hlen]) k
theorem ifind_spec {a : Nat} (ha : a < 65536) (ok : RowsOk rs) (hr : RdC T s 2 (rowsC rs)) (hN : 100 < N) : Tri (stars [T]) (F_2g N s (a : Int)) fun r => pu (r = match rs.findIdx? (isRow a) with | some i => ((i : Int), true) | none => (0, false)) (stars [T]) := by
 unfold F_2g
 refine tri_call [0] (iof_spec ha hr ok.len hN) fun r => tri_pu fun h => tri_flat ?_
 subst h
 dsimp only [sel, rem, nth, del, cat, upd]
 cases hx : rs.findIdx? (isRow a) with
 | none =>
  rw [fi_none hx]
  refine tri_call [0] (Q := fun c => pu (c = true) (stars [T])) (tri_f (by simp) (tri_ret fun q hq => ⟨rfl, hq⟩)) fun c => tri_pu fun hc => tri_flat ?_
  subst hc
  exact tri_t rfl (tri_end [0] fun q hq => ⟨rfl, hq⟩)
 | some i =>
  rw [fi_some hx]
  refine tri_call [0] (Q := fun c => pu (c = false) (stars [T])) (tri_t (by simp) (tri_call [0] (iright_spec ok hr hN) fun r => tri_pu fun h => tri_flat (tri_end [0] fun q hq => ⟨by rw [h]; rfl, hq⟩))) fun c => tri_pu fun hc => tri_flat ?_
  subst hc
  exact tri_f (by simp) (tri_end [0] fun q hq => ⟨rfl, hq⟩)
theorem iwith_spec (hr : RdC T s 2 (rowsC rs)) (hl : rs.length = 16) {i : Nat} (hi : i < 16) (a n : Nat) : Tri (stars [T]) (F_0t N s (i : Int) ((a : Int), (n : Int))) fun r => stars [OwnA r 2 (rowsC (rs.set i (a, n))), T] := by
 have hlen := rl_len hr
 unfold F_0t
 refine tri_new (g := fun b => (⟨some ⟨b, 0⟩, 16⟩ : Sl)) (x := .cells (rowsC (List.replicate 16 (0, 0))) false) (fun h' => ?_) fun b => ?_
 ·unfold mkSl
  rw [hlen, hl, if_pos ⟨by omega, by omega, by have : most = 70368744177664 := rfl; omega, rfl⟩]
  rfl
 ·refine tri_call [0, 0] (rd_copy (o := 0) (k := 16) hr (by rw [catL_len rowC_len]; simp) (catL_cell rowC_cell _) (by omega)) fun r => tri_pu fun h => tri_flat ?_
  dsimp only [sel, rem, nth, del, cat, upd]
  have e1 : over (rowsC (List.replicate 16 (0, 0))) 0 ((rowsC rs).take (min s.len 16 * 2)) = rowsC rs := by
   rw [hlen, hl, List.take_of_length_le (by rw [catL_len rowC_len, hl]; exact Nat.le_refl _)]
   unfold over
   rw [List.drop_of_length_le (by rw [catL_len rowC_len, catL_len rowC_len, hl]; simp)]
   simp
  rw [e1]
  refine tri_idx hi (tri_stn 0 rfl rfl (by rw [catL_len rowC_len, hl]; simp; omega) rfl ?_)
  refine tri_end [0, 0] fun q hq => ?_
  have e2 : over (rowsC rs) (0 + i * 2) [MV.int .u16 (a : Int), MV.int .i64 (n : Int)] = rowsC (rs.set i (a, n)) := by
   rw [Nat.zero_add]
   exact catL_set rowC_len (by omega) (a, n)
  rw [e2] at hq
  exact stars_imp (.cons (fun _ k => .mk (by rw [catL_len rowC_len]; simp [hl]) k) (.cons (fun _ k => k) .nil)) q hq
def retN (rs : List Row) (a : Nat) : Option Nat := match rs.findIdx? (isRow a) with
 | some i => some i
 | none => rs.findIdx? isFree
def rowN (rs : List Row) (i : Nat) : Row := rs[i]?.getD (0, 0)
def retE (rs : List Row) (a : Nat) : Int := match retN rs a with
 | none => 5
 | some i => if (rowN rs i).2 = 65535 then 4 else 0
def retI (rs : List Row) (a : Nat) : Nat := (retN rs a).getD 0
def retR (rs : List Row) (a : Nat) : List Row := rs.set (retI rs a) (a, (rowN rs (retI rs a)).2 + 1)
theorem retN_lt {a i : Nat} (h : retN rs a = some i) : i < rs.length := by
 unfold retN at h
 split at h
 ·rename_i j hj
  cases h
  exact (List.findIdx?_eq_some_iff_getElem.1 hj).1
 ·exact (List.findIdx?_eq_some_iff_getElem.1 h).1
theorem retain_spec {a : Nat} (ha : a < 65536) (ok : RowsOk rs) (hr : RdC T s 2 (rowsC rs)) (hN : 100 < N) : Tri (stars [T]) (F_1h N s (a : Int)) fun r => pu (r.2.2 = retE rs a ∧ (retE rs a = 0 → r.2.1 = (retI rs a : Nat) ∧ retI rs a < 16)) (stars [if retE rs a = 0 then OwnA r.1 2 (rowsC (retR rs a)) else emp, T]) := by
 have hlen := rl_len hr
 have h16 := ok.len
 unfold F_1h
 refine tri_call [0] (iright_spec ok hr hN) fun r => tri_pu fun h => tri_flat ?_
 subst h
 dsimp only [sel, rem, nth, del, cat, upd]
 refine tri_f (by simp) ?_
 refine tri_call [0] (iof_spec ha hr ok.len hN) fun r => tri_pu fun h => tri_flat ?_
 subst h
 dsimp only [sel, rem, nth, del, cat, upd]
 refine tri_call [0] (Q := fun r => pu (r = match retN rs a with | some i => (i : Int) | none => -1) (stars [T])) ?_ fun j => tri_pu fun hj => tri_flat ?_
 ·cases hx : rs.findIdx? (isRow a) with
  | none =>
   rw [fi_none hx]
   refine tri_t (by simp) (tri_call [0] (ifree_spec hr ok.len hN) fun r => tri_pu fun h => tri_flat (tri_end [0] fun q hq => ⟨?_, hq⟩))
   rw [h]
   unfold retN fi
   rw [hx]
   rfl
  | some i =>
   rw [fi_some hx]
   refine tri_f (by simp) (tri_end [0] fun q hq => ⟨?_, hq⟩)
   unfold retN
   rw [hx]
 ·dsimp only [sel, rem, nth, del, cat, upd]
  cases hx : retN rs a with
  | none =>
   rw [hx] at hj
   subst hj
   have hE : retE rs a = 5 := by unfold retE; rw [hx]
   refine tri_t (by simp) (tri_end [0] fun q hq => ⟨⟨hE.symm, fun c => by rw [hE] at c; cases c⟩, ?_⟩)
   rw [if_neg (by rw [hE]; decide)]
   exact ent_emp (fun _ h => h) hq
  | some i =>
   rw [hx] at hj
   subst hj
   have hi := retN_lt hx
   have hrow : rowN rs i = rs[i] := by simp [rowN, hi]
   have hI : retI rs a = i := by unfold retI; rw [hx]; rfl
   have hb := (ok.rng _ (List.getElem_mem hi)).2
   refine tri_f (by simp) ?_
   have hg : (rowsC rs)[i * 2 + 1]? = some (.int .i64 (rs[i].2 : Int)) := by rw [catL_get rowC_len hi (by omega)]; rfl
   refine tri_rF 0 rfl hr (by omega) (by omega) hg ?_
   by_cases hf : rs[i].2 = 65535
   ·have hE : retE rs a = 4 := by unfold retE; rw [hx]; simp only [hrow, hf, if_true]
    refine tri_t (by simp [hf]) (tri_end [0] fun q hq => ⟨⟨hE.symm, fun c => by rw [hE] at c; cases c⟩, ?_⟩)
    rw [if_neg (by rw [hE]; decide)]
    exact ent_emp (fun _ h => h) hq
   ·have hE : retE rs a = 0 := by unfold retE; rw [hx]; simp only [hrow, hf, if_false]
    refine tri_f (by simp; omega) ?_
    refine tri_rF 0 rfl hr (by omega) (by omega) hg ?_
    rw [wr64 (by omega) (by omega)]
    have e : ((rs[i].2 : Int) + 1) = ((rs[i].2 + 1 : Nat) : Int) := by simp
    rw [e]
    refine tri_call [0] (iwith_spec hr ok.len (by omega) a (rs[i].2 + 1)) fun r => tri_flat ?_
    refine tri_end [0, 0] fun q hq => ⟨⟨hE.symm, fun _ => ⟨by rw [hI], by omega⟩⟩, ?_⟩
    rw [if_pos hE]
    unfold retR
    rw [hI, hrow]
    exact hq
def relR (rs : List Row) (i : Nat) : List Row := rs.set i (if (rowN rs i).2 = 1 then (0, 0) else ((rowN rs i).1, (rowN rs i).2 - 1))
theorem release_spec (ok : RowsOk rs) (hr : RdC T s 2 (rowsC rs)) {i : Nat} (hi : i < 16) (h0 : 0 < (rowN rs i).2) (hN : 100 < N) : Tri (stars [T]) (F_2q N s (i : Int)) fun r => pu (r.2 = 0) (stars [OwnA r.1 2 (rowsC (relR rs i)), T]) := by
 have hlen := rl_len hr
 have h16 := ok.len
 have hil : i < rs.length := by omega
 have hrow : rowN rs i = rs[i] := by simp [rowN, hil]
 rw [hrow] at h0
 have hb := (ok.rng _ (List.getElem_mem hil)).2
 unfold F_2q
 refine tri_call [0] (iright_spec ok hr hN) fun r => tri_pu fun h => tri_flat ?_
 subst h
 dsimp only [sel, rem, nth, del, cat, upd]
 refine tri_f (by simp [hlen]; omega) ?_
 have hg : (rowsC rs)[i * 2 + 1]? = some (.int .i64 (rs[i].2 : Int)) := by rw [catL_get rowC_len hil (by omega)]; rfl
 have hg0 : (rowsC rs)[i * 2 + 0]? = some (.int .u16 (rs[i].1 : Int)) := by rw [catL_get rowC_len hil (by omega)]; rfl
 refine tri_rF 0 rfl hr (by omega) (by omega) hg (tri_f (by simp; omega) (tri_rF 0 rfl hr (by omega) (by omega) hg ?_))
 by_cases h1 : rs[i].2 = 1
 ·refine tri_t (by simp [h1]) ?_
  refine tri_call [0] (iwith_spec hr ok.len hi 0 0) fun r => tri_flat (tri_end [0, 0] fun q hq => ⟨rfl, ?_⟩)
  unfold relR
  rw [hrow, if_pos h1]
  exact hq
 ·refine tri_f (by simp; omega) ?_
  refine tri_rF 0 rfl hr (by omega) (by omega) hg0 (tri_rF 0 rfl hr (by omega) (by omega) hg ?_)
  rw [wr64 (by omega) (by omega)]
  have e : ((rs[i].2 : Int) - 1) = ((rs[i].2 - 1 : Nat) : Int) := by omega
  rw [e]
  refine tri_call [0] (iwith_spec hr ok.len hi rs[i].1 (rs[i].2 - 1)) fun r => tri_flat (tri_end [0, 0] fun q hq => ⟨rfl, ?_⟩)
  unfold relR
  rw [hrow, if_neg h1]
  exact hq
end
end Go.Moat
