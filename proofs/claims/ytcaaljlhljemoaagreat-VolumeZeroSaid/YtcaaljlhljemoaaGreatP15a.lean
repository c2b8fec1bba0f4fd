/- Layers 1, 3: numbers that stand among bytes; sums. -/
import Derived.Test.YtcaaljlhljemoaaGreatB15
import Derived.Test.YtcaaljlhljemoaaGreatD15
namespace Go.Moat
open Go.Mini
section
variable {N : Nat} {β : Type} {l : List HA} {S : β → HA} {T : HA}
theorem rd_subB {s : Sl} {bs : List UInt8} (h : RdC T s 1 (bytesOf bs)) {lo hi : Nat} (h1 : lo ≤ hi) (h2 : hi ≤ s.len) : RdC T (subS 1 s lo hi) 1 (bytesOf ((bs.drop lo).take (hi - lo))) := by
 have := h.sub h1 h2
 rwa [Nat.mul_one, Nat.mul_one, bytes_drop, bytes_take] at this
theorem fits_eq {n size : Nat} (h1 : 1 ≤ size) (h8 : size ≤ 8) (hn : n < 2 ^ 64) : F_field_fits N (n : Int) (size : Int) = ret (decide (n < 256 ^ size)) := by
 unfold F_field_fits
 by_cases h : size = 8
 ·subst h
  rw [if_neg (by simp)]
  show ret true = _
  rw [pow256, decide_eq_true hn]
 ·rw [if_pos (by simp; omega), wr64 (by omega) (by omega), if_neg (by omega)]
  have e : (8 : Int) * (size : Int) = ((8 * size : Nat) : Int) := by simp
  rw [e, shr_nat (by show 8 * size ≤ 64; omega)]
  show ret _ = _
  congr 1
  rw [pow256]
  have : (((n / 2 ^ (8 * size) : Nat) : Int) = 0) ↔ n < 2 ^ (8 * size) := by
   rw [← Nat.div_eq_zero_iff_lt (Nat.two_pow_pos _)]
   omega
  simp only [this]
theorem over_one (cs : List MV) (off : Nat) (v : MV) (h : off < cs.length) : over cs off [v] = cs.set off v := by
 unfold over
 rw [List.set_eq_take_append_cons_drop, if_pos h]
 simp
theorem le_snoc (j n : Nat) : le (j + 1) n = le j n ++ [UInt8.ofNat (n / 256 ^ j % 256)] := by
 rw [le_add 1 j]
 rfl
theorem put_spec {b o k n : Nat} {ds : List MV} (hd : o + k ≤ ds.length) (h8 : k ≤ 8) (hn : n < 2 ^ 64) (hN : 10 < N) :
  Tri (stars [pts b (.cells ds false)]) (F_field_put N ⟨some ⟨b, o⟩, k⟩ (n : Int)) fun _ => stars [pts b (.cells (over ds o (bytesOf (le k n))) false)] := by
 unfold F_field_put
 have loop : ∀ (K j : Nat), k - j < K → j ≤ k → Tri (stars [pts b (.cells (over ds o (bytesOf (le j n))) false)]) (iter K (F_field_put_b1 N ⟨some ⟨b, o⟩, k⟩ (n : Int)) (j : Int)) fun _ => stars [pts b (.cells (over ds o (bytesOf (le k n))) false)] := by
  intro K
  induction K with
  | zero => intro j h; omega
  | succ K ih =>
   intro j h hj
   rw [iter_S]
   unfold F_field_put_b1
   have hl : (over ds o (bytesOf (le j n))).length = ds.length := over_len (by rw [bytes_len, le_len]; omega)
   by_cases hjk : j < k
   ·refine tri_t (by simpa using hjk) ?_
    rw [wr64 (by omega) (by omega)]
    refine tri_f (by omega) ?_
    refine tri_idx hjk (tri_stc 0 rfl (by rw [hl]; omega) rfl ?_)
    have e : (8 : Int) * (j : Int) = ((8 * j : Nat) : Int) := by simp
    rw [e, shr_nat (by show 8 * j ≤ 64; omega), wr_mod rfl, wr64 (by omega) (by omega)]
    show Tri (stars [pts b (.cells ((over ds o (bytesOf (le j n))).set (o + j * 1) _) false)]) _ _
    have e2 : (over ds o (bytesOf (le j n))).set (o + j * 1) (.int .u8 ((n / 2 ^ (8 * j) % 2 ^ IntKind.u8.bits : Nat) : Int)) = over ds o (bytesOf (le (j + 1) n)) := by
     rw [le_snoc, bytesOf_app, ← over_app (by simp [bytes_len, le_len]; omega), bytes_len, le_len, Nat.mul_one, ← over_one _ _ _ (by rw [hl]; omega)]
     congr 1
     simp [bytesOf, pow256]
     rfl
    rw [e2]
    exact ih (j + 1) (by omega) (by omega)
   ·obtain rfl : j = k := by omega
    refine tri_f (by simp) (tri_ret fun q hq => hq)
 refine tri_call [0] ((loop N 0 (by omega) (by omega)).pre fun q hq => ?_) fun _ => tri_flat (tri_end [0] fun q hq => hq)
 have : over ds o (bytesOf (le 0 n)) = ds := by simp [over, le, bytesOf]
 rw [this]
 exact hq
def lays (size : Nat) (ns : List Nat) : List UInt8 := (ns.map (le size)).flatten
theorem lays_len (size : Nat) : ∀ (ns : List Nat), (lays size ns).length = ns.length * size
 | [] => by simp [lays]
 | n :: r => by
  have := lays_len size r
  unfold lays at this ⊢
  simp only [List.map_cons, List.flatten_cons, List.length_append, le_len, this, List.length_cons, Nat.add_mul]
  omega
theorem lays_app (size : Nat) (a b : List Nat) : lays size (a ++ b) = lays size a ++ lays size b := by simp [lays]
theorem tri_mkB (k : Nat) (h : k ≤ 4096) {f : Sl → M β} (kk : ∀ b, Tri (stars (pts b (.cells (bytesOf (List.replicate k 0)) false) :: l)) (f ⟨some ⟨b, 0⟩, k⟩) S) : Tri (stars l) (bd (mkSl 1 1 [MV.int .u8 (0 : Int)] (k : Int) (k : Int)) f) S := by
 refine tri_new (g := fun b => (⟨some ⟨b, 0⟩, k⟩ : Sl)) (x := .cells (bytesOf (List.replicate k 0)) false) (fun h' => ?_) kk
 unfold mkSl
 rw [if_pos ⟨by omega, by omega, by have : most = 70368744177664 := rfl; omega, rfl⟩, Int.toNat_natCast, zeros_bytes]
theorem lay_spec {size : Nat} {s : Sl} {ns : List Nat} (h1 : 1 ≤ size) (h8 : size ≤ 8) (hr : RdC T s 1 (u64s ns)) (hf : ∀ n ∈ ns, n < 256 ^ size) (hb : ns.length * size ≤ 4096) (hN : 5000 < N) :
  Tri (stars [T]) (F_field_Lay N (size : Int) s) fun r => pu (r.2 = 0) (stars [OwnA r.1 1 (bytesOf (lays size ns)), T]) := by
 have hlen : s.len = ns.length := by
  have := hr.1
  rw [u64s_len] at this
  omega
 have hle : ns.length ≤ ns.length * size := Nat.le_mul_of_pos_right _ h1
 unfold F_field_Lay
 refine tri_f (by simp; omega) (tri_f (by omega) ?_)
 have hdiv : (4096 : Int).tdiv (size : Int) = ((4096 / size : Nat) : Int) := rfl
 have hd2 : 4096 / size ≤ 4096 := Nat.div_le_self _ _
 have hd3 : ns.length ≤ 4096 / size := (Nat.le_div_iff_mul_le h1).2 hb
 generalize 4096 / size = qd at hdiv hd2 hd3
 rw [hdiv, wr64 (by omega) (by omega), hlen]
 refine tri_f (by simp; omega) ?_
 have e0 : (size : Int) * (ns.length : Int) = ((ns.length * size : Nat) : Int) := by rw [Int.mul_comm]; simp
 rw [e0, wr64 (by omega) (by omega)]
 refine tri_mkB _ hb fun b => ?_
 have loop : ∀ (K j : Nat), ns.length - j < K → j ≤ ns.length → Tri (stars [pts b (.cells (bytesOf (lays size (ns.take j) ++ List.replicate ((ns.length - j) * size) 0)) false), T])
   (iter K (F_field_Lay_b1 N (size : Int) s ⟨some ⟨b, 0⟩, ns.length * size⟩) (j : Int)) fun r => pu (r = .inl ()) (stars [pts b (.cells (bytesOf (lays size ns)) false), T]) := by
  intro K
  induction K with
  | zero => intro j h; omega
  | succ K ih =>
   intro j h hj
   rw [iter_S]
   unfold F_field_Lay_b1
   by_cases hjk : j < ns.length
   ·refine tri_t (by simp [hlen]; omega) ?_
    refine tri_rI 1 rfl hr (i := j) (v := (ns[j] : Nat)) (k := .u64) (by simp [u64s, hjk]) ?_
    have hnj := hf _ (List.getElem_mem hjk)
    have h64 : ns[j] < 2 ^ 64 := Nat.lt_of_lt_of_le hnj (by
     rw [pow256]
     exact Nat.pow_le_pow_right (by omega) (by omega))
    rw [fits_eq h1 h8 h64]
    refine tri_bdret (tri_f (by simpa using hnj) ?_)
    have b1 : j * size + size ≤ ns.length * size := flat_bound hjk
    have e1 : (j : Int) * (size : Int) = ((j * size : Nat) : Int) := by simp
    have e2 : ((j : Int) + 1) * (size : Int) = ((j * size + size : Nat) : Int) := by rw [Int.add_mul]; simp
    rw [wr64 (n := (j : Int) + 1) (by omega) (by omega), e1, e2, wr64 (by omega) (by omega), wr64 (by omega) (by omega)]
    refine tri_slc (by omega) (by omega) (by dsimp only; omega) ?_
    have e3 : subS 1 ⟨some ⟨b, 0⟩, ns.length * size⟩ (((j * size : Nat) : Int)).toNat (((j * size + size : Nat) : Int)).toNat = ⟨some ⟨b, j * size⟩, size⟩ := by
     rw [Int.toNat_natCast, Int.toNat_natCast]
     simp [subS, MA.add]
    rw [e3]
    have hlt : (lays size (ns.take j)).length = j * size := by rw [lays_len, List.length_take, Nat.min_eq_left hj]
    have hrem : (ns.length - j) * size = size + (ns.length - (j + 1)) * size := by
     rw [show ns.length - j = (ns.length - (j + 1)) + 1 by omega, Nat.add_mul]
     omega
    refine tri_call [0] (put_spec (by
     rw [bytes_len, List.length_append, List.length_replicate, hlt, Nat.sub_mul]
     omega) h8 h64 (by omega)) fun _ => tri_flat ?_
    dsimp only [sel, rem, nth, del, cat, upd]
    rw [over_bytes, le_len]
    have e4 : List.take (j * size) (lays size (ns.take j) ++ List.replicate ((ns.length - j) * size) 0) ++ le size ns[j] ++ List.drop (j * size + size) (lays size (ns.take j) ++ List.replicate ((ns.length - j) * size) 0) = lays size (ns.take (j + 1)) ++ List.replicate ((ns.length - (j + 1)) * size) 0 := by
     rw [List.take_left' hlt, List.take_succ_eq_append_getElem hjk, lays_app, hrem, ← hlt, List.drop_length_add_append, List.drop_replicate]
     simp [lays]
    rw [e4]
    exact ih (j + 1) (by omega) (by omega)
   ·obtain rfl : j = ns.length := by omega
    refine tri_f (by simp [hlen]) (tri_ret fun q hq => ⟨rfl, ?_⟩)
    rw [List.take_length, Nat.sub_self, Nat.zero_mul] at hq
    simpa using hq
 refine tri_call [0, 0] ((loop N 0 (by omega) (by omega)).pre fun q hq => ?_) fun r => tri_pu fun hr => tri_flat ?_
 ·simp only [Nat.sub_zero, List.take_zero]
  exact hq
 ·subst hr
  refine tri_end [0, 0] fun q hq => ⟨rfl, ?_⟩
  exact stars_imp (.cons (fun _ k => .mk (by rw [bytes_len, lays_len]; simp) k) (.cons (fun _ k => k) .nil)) q hq
theorem get_spec {s : Sl} {bs : List UInt8} (hr : RdC T s 1 (bytesOf bs)) (h8 : bs.length ≤ 8) (hN : 10 < N) : Tri (stars [T]) (F_field_get N s) fun r => pu (r = (leN bs : Nat)) (stars [T]) := by
 have hlen : s.len = bs.length := by
  have := hr.1
  rw [bytes_len] at this
  omega
 unfold F_field_get
 have loop : ∀ (K j : Nat), bs.length - j < K → j ≤ bs.length → Tri (stars [T]) (iter K (F_field_get_b1 N s) (((leN (bs.take j) : Nat) : Int), (j : Int))) fun r => pu (r = (leN bs : Nat)) (stars [T]) := by
  intro K
  induction K with
  | zero => intro j h; omega
  | succ K ih =>
   intro j h hj
   rw [iter_S]
   unfold F_field_get_b1
   by_cases hjk : j < bs.length
   ·refine tri_t (by simp [hlen]; omega) ?_
    refine tri_rI 0 rfl hr (bytes_get hjk) ?_
    rw [wr64 (by dsimp only; omega) (by dsimp only; omega)]
    refine tri_f (by dsimp only; omega) ?_
    dsimp only
    have hb : bs[j].toNat < 256 := bs[j].toNat_lt
    have hlt := leN_lt (bs.take j)
    rw [List.length_take, Nat.min_eq_left hj, pow256] at hlt
    have e : (8 : Int) * (j : Int) = ((8 * j : Nat) : Int) := by simp
    have hbig : bs[j].toNat * 2 ^ (8 * j) < 2 ^ 64 := by
     have h2 : bs[j].toNat * 2 ^ (8 * j) < 256 * 2 ^ (8 * j) := Nat.mul_lt_mul_of_pos_right hb (Nat.two_pow_pos _)
     have h3 : 256 * 2 ^ (8 * j) = 2 ^ (8 * (j + 1)) := by rw [show 8 * (j + 1) = 8 + 8 * j by omega, Nat.pow_add]
     have h4 : (2 : Nat) ^ (8 * (j + 1)) ≤ 2 ^ 64 := Nat.pow_le_pow_right (by omega) (by omega)
     omega
    have hlt2 : leN (bs.take j) < 2 ^ 64 := Nat.lt_of_lt_of_le hlt (Nat.pow_le_pow_right (by omega) (by omega))
    rw [e, wr_un (k := .u64) rfl (by show _ < 2 ^ 64; omega), shl_nat rfl (by show 8 * j ≤ 64; omega) hbig, (bit_nat (k := .u64) rfl hlt2 hbig).2.1, or_add hlt, wr64 (by omega) (by omega)]
    have e2 : leN (bs.take j) + bs[j].toNat * 2 ^ (8 * j) = leN (bs.take (j + 1)) := by
     rw [List.take_succ_eq_append_getElem hjk, leN_snoc, List.length_take, Nat.min_eq_left hj, pow256]
    rw [e2]
    exact ih (j + 1) (by omega) (by omega)
   ·obtain rfl : j = bs.length := by omega
    refine tri_f (by simp [hlen]) (tri_ret fun q hq => ⟨?_, hq⟩)
    rw [List.take_length]
 exact tri_call [0] ((loop N 0 (by omega) (by omega)).pre fun q hq => hq) fun r => tri_pu fun hr => tri_flat (tri_end [0] fun q hq => ⟨hr, hq⟩)
theorem stands_eq {m a z : Nat} (h1 : 1 ≤ z) (h2 : z ≤ 8) (h3 : a + z ≤ m) (hm : m < 1000000) : F_field_stands N (m : Int) (a : Int) (z : Int) = ret true := by
 unfold F_field_stands
 rw [wr64 (by omega) (by omega)]
 congr 1
 simp
 omega
theorem Get_spec {s : Sl} {bs : List UInt8} {a z : Nat} (hr : RdC T s 1 (bytesOf bs)) (h1 : 1 ≤ z) (h8 : z ≤ 8) (ha : a + z ≤ bs.length) (hm : bs.length < 1000000) (hN : 10 < N) :
  Tri (stars [T]) (F_field_Get N s (a : Int) (z : Int)) fun r => pu (r = (((leN ((bs.drop a).take z) : Nat) : Int), 0)) (stars [T]) := by
 have hlen : s.len = bs.length := by
  have := hr.1
  rw [bytes_len] at this
  omega
 unfold F_field_Get
 rw [hlen, stands_eq h1 h8 ha hm]
 refine tri_bdret (tri_f (by simp) ?_)
 rw [wr64 (by omega) (by omega)]
 refine tri_slc (by omega) (by omega) (by omega) ?_
 have hs := rd_subB hr (lo := a) (hi := a + z) (by omega) (by omega)
 rw [show a + z - a = z by omega] at hs
 have e : ((a : Int) + (z : Int)).toNat = a + z := by omega
 rw [e, Int.toNat_natCast]
 exact tri_call [0] (get_spec hs (by rw [List.length_take]; omega) hN) fun r => tri_pu fun hr => tri_flat (tri_end [0] fun q hq => ⟨by rw [hr], hq⟩)
def chunks (size : Nat) : Nat → List UInt8 → List Nat
 | 0, _ => []
 | k + 1, bs => leN (bs.take size) :: chunks size k (bs.drop size)
theorem chunks_len (size : Nat) : ∀ (k : Nat) (bs : List UInt8), (chunks size k bs).length = k
 | 0, _ => rfl
 | k + 1, bs => congrArg (· + 1) (chunks_len size k _)
theorem chunks_get {size : Nat} : ∀ {k i : Nat} {bs : List UInt8}, i < k → (chunks size k bs)[i]? = some (leN ((bs.drop (i * size)).take size))
 | 0, i, bs, h => by omega
 | k + 1, 0, bs, h => by simp [chunks]
 | k + 1, i + 1, bs, h => by
  simp only [chunks, List.getElem?_cons_succ]
  rw [chunks_get (by omega), List.drop_drop, Nat.add_mul, Nat.one_mul, Nat.add_comm]
theorem chunks_lays {size : Nat} : ∀ (ns : List Nat), (∀ n ∈ ns, n < 256 ^ size) → chunks size ns.length (lays size ns) = ns
 | [], _ => rfl
 | n :: r, h => by
  have ih := chunks_lays r fun x hx => h x (by simp [hx])
  unfold lays at ih ⊢
  simp only [List.length_cons, List.map_cons, List.flatten_cons, chunks]
  rw [List.take_left' (le_len _ _), List.drop_left' (le_len _ _), ih, leN_le, Nat.mod_eq_of_lt (h n (by simp))]
theorem take_spec {s : Sl} {bs : List UInt8} {size k : Nat} (hr : RdC T s 1 (bytesOf bs)) (h1 : 1 ≤ size) (h8 : size ≤ 8) (hk : bs.length = k * size) (hm : bs.length ≤ 4096) (hN : 5000 < N) :
  Tri (stars [T]) (F_field_Take N (size : Int) s) fun r => pu (r.2 = 0) (stars [OwnA r.1 1 (u64s (chunks size k bs)), T]) := by
 have hlen : s.len = bs.length := by
  have := hr.1
  rw [bytes_len] at this
  omega
 unfold F_field_Take
 rw [if_pos (by simp; omega), if_neg (by omega)]
 refine tri_bdret ?_
 have hmod : ((s.len : Int).tmod (size : Int)) = ((s.len % size : Nat) : Int) := rfl
 rw [hmod, hlen, hk, Nat.mul_mod_left]
 refine tri_f (by simp) (tri_f (by simp; omega) ?_)
 have loop : ∀ (K j : Nat) (w : Sl), k - j < K → j ≤ k → Tri (stars [OwnA w 1 (u64s ((chunks size k bs).take j)), T]) (iter K (F_field_Take_b1 N (size : Int)) (w, subS 1 s (j * size) s.len)) fun r => stars [OwnA r 1 (u64s (chunks size k bs)), T] := by
  intro K
  induction K with
  | zero => intro j w h; omega
  | succ K ih =>
   intro j w h hj
   rw [iter_S]
   unfold F_field_Take_b1
   dsimp only
   have hsl : (subS 1 s (j * size) s.len).len = bs.length - j * size := by rw [hlen]; rfl
   have m1 : j * size ≤ k * size := Nat.mul_le_mul_right _ hj
   by_cases hjk : j < k
   ·have b1 : j * size + size ≤ k * size := flat_bound hjk
    refine tri_t (by rw [hsl]; simp; omega) ?_
    refine tri_slc (by omega) (by omega) (by rw [hsl]; omega) ?_
    have hs := rd_subB hr (lo := j * size) (hi := s.len) (by omega) (by omega)
    have hs2 := rd_subB hs (lo := 0) (hi := size) (by omega) (by rw [hsl]; omega)
    rw [List.drop_zero, List.take_take, Nat.sub_zero, Nat.min_eq_left (by omega)] at hs2
    rw [show ((0 : Int)).toNat = 0 from rfl, Int.toNat_natCast]
    refine tri_call [1] (get_spec hs2 (by rw [List.length_take]; omega) (by omega)) fun r => tri_pu fun hr' => tri_flat ?_
    dsimp only [sel, rem, nth, del, cat, upd]
    subst hr'
    refine tri_alloc fun b => ?_
    refine own_ln 2 rfl fun hw => ?_
    rw [u64s_len, List.length_take, chunks_len, Nat.mul_one] at hw
    refine tri_call [2, 0] (rd_app (T := pts b (.cells [MV.int .u64 _] false)) (ts := [MV.int .u64 _]) (rd_pts0 (by simp)) (by omega) rfl (by
     have : most = 70368744177664 := rfl
     have := Nat.le_mul_of_pos_right k h1
     dsimp only
     omega)) fun w' => tri_flat ?_
    dsimp only [sel, rem, nth, del, cat, upd]
    refine tri_slc (by omega) (by rw [hsl]; omega) (by omega) ?_
    have e1 : subS 1 (subS 1 s (j * size) s.len) ((size : Int)).toNat (((subS 1 s (j * size) s.len).len : Nat) : Int).toNat = subS 1 s ((j + 1) * size) s.len := by
     rw [Int.toNat_natCast, Int.toNat_natCast, hsl]
     unfold subS
     congr 1
     ·cases s.p with
      | none => rfl
      | some a => simp [MA.add, Nat.add_mul]; omega
     ·rw [hlen, Nat.add_mul]
      omega
    rw [e1]
    have e2 : u64s ((chunks size k bs).take j) ++ [MV.int .u64 (leN (List.take size (List.drop (j * size) bs)) : Nat)] = u64s ((chunks size k bs).take (j + 1)) := by
     have hcl := chunks_len size k bs
     have hg := chunks_get (size := size) (bs := bs) hjk
     have hg2 : (chunks size k bs)[j]'(by omega) = leN ((bs.drop (j * size)).take size) := by
      rw [List.getElem?_eq_getElem (by omega)] at hg
      exact Option.some.inj hg
     rw [List.take_succ_eq_append_getElem (by omega), hg2]
     simp [u64s]
    rw [e2]
    refine tri_last [0, 1] (ih (j + 1) w' (by omega) (by omega))
   ·obtain rfl : j = k := by omega
    refine tri_f (by rw [hsl]; simp; omega) (tri_ret fun q hq => ?_)
    rw [List.take_of_length_le (by rw [chunks_len]; exact Nat.le_refl _)] at hq
    exact hq
 have e0 : s = subS 1 s (0 * size) s.len := by
  unfold subS
  cases s with
  | mk p n => cases p <;> simp [MA.add]
 refine Tri.bd (Q := fun r => stars [OwnA r 1 (u64s (chunks size k bs)), T]) ?_ fun r => tri_end [0, 0] fun q hq => ⟨rfl, hq⟩
 have := loop N 0 ⟨none, 0⟩ (by have := Nat.le_mul_of_pos_right k h1; omega) (by omega)
 rw [← e0] at this
 refine this.pre fun q hq => ?_
 exact ent_emp (fun q h => .nil 1 h) hq
def filled (bs : List UInt8) (n : Nat) : List UInt8 := bs ++ List.replicate (n - bs.length) 0
theorem filled_len {bs : List UInt8} {n : Nat} (h : bs.length ≤ n) : (filled bs n).length = n := by
 unfold filled
 simp
 omega
theorem fill_copy {bs : List UInt8} {n : Nat} (h : bs.length ≤ n) : over (bytesOf (List.replicate n 0)) 0 (bytesOf bs) = bytesOf (filled bs n) := by
 rw [over_bytes]
 unfold filled
 simp
theorem fill_spec {s : Sl} {bs : List UInt8} {n : Nat} (hr : RdC T s 1 (bytesOf bs)) (hb : bs.length ≤ n) (hn : n ≤ 4096) : Tri (stars [T]) (F_field_Fill N s (n : Int)) fun r => pu (r.2 = 0) (stars [OwnA r.1 1 (bytesOf (filled bs n)), T]) := by
 have hlen : s.len = bs.length := by
  have := hr.1
  rw [bytes_len] at this
  omega
 unfold F_field_Fill
 refine tri_f (by simp) (tri_f (by simp [hlen]; omega) ?_)
 refine tri_mkB n hn fun b => ?_
 refine tri_call [0, 0] (rd_copy (o := 0) (k := n) hr (by rw [bytes_len]; simp) (bytes_cell _) (by omega)) fun r => tri_pu fun hr' => tri_flat ?_
 refine tri_end [0, 0] fun q hq => ⟨rfl, ?_⟩
 rw [hlen, Nat.min_eq_left hb, Nat.mul_one, List.take_of_length_le (by rw [bytes_len]; exact Nat.le_refl _), fill_copy hb] at hq
 exact stars_imp (.cons (fun _ k => .mk (by rw [bytes_len, filled_len hb]; simp) k) (.cons (fun _ k => k) .nil)) q hq
def sumF (bs : List UInt8) : Int × Int := bs.foldl (fun v c => (wr .u32 (v.1 + wr .u32 c.toNat), wr .u32 (v.2 + wr .u32 (v.1 + wr .u32 c.toNat)))) (1, 0)
def sumI (bs : List UInt8) : Int := bitI .or .u32 (shlI .u32 ((sumF bs).2.tmod 65521) 16) ((sumF bs).1.tmod 65521)
theorem sum_rng (bs : List UInt8) : 0 ≤ sumI bs ∧ sumI bs < 4294967296 := by
 unfold sumI bitI
 exact wr_rng (k := .u32) _ rfl
theorem more_spec {s : Sl} {bs : List UInt8} (hr : RdC T s 1 (bytesOf bs)) (hb : bs.length ≤ 3000) (hN : 5000 < N) : Tri (stars [T]) (F_sum_More N 1 s) fun r => pu (r = sumI bs) (stars [T]) := by
 have hlen : s.len = bs.length := by
  have := hr.1
  rw [bytes_len] at this
  omega
 unfold F_sum_More
 have e0 : (if (3000 : Int) < (s.len : Int) then (3000 : Int) else (s.len : Int)) = (s.len : Int) := by rw [if_neg (by omega)]
 rw [e0]
 refine tri_slc (by omega) (by omega) (by omega) ?_
 have e1 : subS 1 s (0 : Int).toNat ((s.len : Int)).toNat = s := by
  unfold subS
  cases s with
  | mk p n => cases p <;> simp [MA.add]
 rw [e1]
 have loop : ∀ (K j : Nat) (v : Int × Int), bs.length - j < K → j ≤ bs.length → Tri (stars [T]) (iter K (F_sum_More_b1 N s) (v.1, v.2, (j : Int)))
   fun r => pu (r = (bs.drop j).foldl (fun v c => (wr .u32 (v.1 + wr .u32 c.toNat), wr .u32 (v.2 + wr .u32 (v.1 + wr .u32 c.toNat)))) v) (stars [T]) := by
  intro K
  induction K with
  | zero => intro j v h; omega
  | succ K ih =>
   intro j v h hj
   rw [iter_S]
   unfold F_sum_More_b1
   by_cases hjk : j < bs.length
   ·refine tri_t (by simp [hlen]; omega) ?_
    refine tri_rI 0 rfl hr (bytes_get hjk) ?_
    dsimp only
    rw [wr64 (n := (j : Int) + 1) (by omega) (by omega), List.drop_eq_getElem_cons hjk, List.foldl_cons]
    exact ih (j + 1) (_, _) (by omega) (by omega)
   ·obtain rfl : j = bs.length := by omega
    refine tri_f (by simp [hlen]) (tri_ret fun q hq => ⟨?_, hq⟩)
    rw [List.drop_length]
    rfl
 have e2 : (bitI .and .u32 (1 : Int) (65535 : Int)).tmod (65521 : Int) = 1 := by decide
 have e3 : (shrI .u32 (1 : Int) (16 : Int)).tmod (65521 : Int) = 0 := by decide
 rw [e2, e3]
 refine tri_call [0] (loop N 0 (1, 0) (by omega) (by omega)) fun r => tri_pu fun hr' => tri_flat ?_
 dsimp only [sel, rem, nth, del, cat, upd]
 rw [List.drop_zero] at hr'
 refine tri_slc (by omega) (by omega) (by omega) ?_
 have e4 : (subS 1 s ((s.len : Int)).toNat ((s.len : Int)).toNat).len = 0 := by simp [subS]
 rw [e4]
 refine tri_f (by simp) (tri_end [0] fun q hq => ⟨?_, hq⟩)
 rw [hr']
 rfl
theorem of_spec {s : Sl} {bs : List UInt8} (hr : RdC T s 1 (bytesOf bs)) (hb : bs.length ≤ 3000) (hN : 5000 < N) : Tri (stars [T]) (F_sum_Of N s) fun r => pu (r = sumI bs) (stars [T]) := by
 unfold F_sum_Of
 exact tri_call [0] (more_spec hr hb hN) fun r => tri_pu fun hr => tri_flat (tri_end [0] fun q hq => ⟨hr, hq⟩)
def sealed (bs : List UInt8) : List UInt8 := bs ++ le 4 (sumI bs).toNat
theorem sealed_len (bs : List UInt8) : (sealed bs).length = bs.length + 4 := by simp [sealed, le_len]
theorem seal_spec {s : Sl} {bs : List UInt8} (hr : RdC T s 1 (bytesOf bs)) (hb : bs.length ≤ 1000) (hN : 5000 < N) : Tri (stars [T]) (F_sum_Seal N s) fun r => stars [OwnA r 1 (bytesOf (sealed bs)), T] := by
 have hlen : s.len = bs.length := by
  have := hr.1
  rw [bytes_len] at this
  omega
 obtain ⟨g1, g2⟩ := sum_rng bs
 unfold F_sum_Seal
 have e0 : (s.len : Int) + 4 = ((bs.length + 4 : Nat) : Int) := by rw [hlen]; simp
 rw [e0, wr64 (by omega) (by omega)]
 refine tri_mkB _ (by omega) fun b => ?_
 refine tri_call [0, 0] (rd_copy (o := 0) (k := bs.length + 4) hr (by rw [bytes_len]; simp) (bytes_cell _) (by omega)) fun r => tri_pu fun hr' => tri_flat ?_
 dsimp only [sel, rem, nth, del, cat, upd]
 rw [hlen, Nat.min_eq_left (by omega), Nat.mul_one, List.take_of_length_le (by rw [bytes_len]; exact Nat.le_refl _), fill_copy (by omega)]
 refine tri_call [1] (of_spec hr (by omega) hN) fun r4 => tri_pu fun hr4 => tri_flat ?_
 dsimp only [sel, rem, nth, del, cat, upd]
 subst hr4
 obtain ⟨m, hm⟩ : ∃ m : Nat, sumI bs = m := ⟨(sumI bs).toNat, by omega⟩
 rw [hm, wr_un (k := .u64) rfl (by show m < 2 ^ 64; omega)]
 refine tri_alloc fun b2 => ?_
 refine tri_call [0] (lay_spec (size := 4) (ns := [m]) (T := pts b2 (.cells [MV.int .u64 m] false)) (by omega) (by omega) (rd_pts0 (by simp [u64s])) (by
  intro n hn
  simp at hn
  omega) (by simp) hN) fun r6 => tri_pu fun hr6 => tri_flat ?_
 dsimp only [sel, rem, nth, del, cat, upd]
 refine own_ln 0 rfl fun h6 => ?_
 rw [bytes_len, lays_len] at h6
 simp only [List.length_cons, List.length_nil] at h6
 refine tri_slc (by omega) (by omega) (by dsimp only; omega) ?_
 have e5 : subS 1 ⟨some ⟨b, 0⟩, bs.length + 4⟩ ((bs.length : Int)).toNat (((bs.length + 4 : Nat) : Int)).toNat = ⟨some ⟨b, bs.length⟩, 4⟩ := by
  simp [subS, MA.add]
  omega
 rw [e5]
 refine tri_call [3, 0] (rd_copy (o := bs.length) (k := 4) (T := OwnA r6.1 1 (bytesOf (lays 4 [m]))) (rd_own (by rw [bytes_len, lays_len]; simp; omega)) (by rw [bytes_len, filled_len (by omega)]; omega) (bytes_cell _) (by omega)) fun r => tri_pu fun hr' => tri_flat ?_
 dsimp only [sel, rem, nth, del, cat, upd]
 refine tri_end [0, 2] fun q hq => ?_
 have e6 : min r6.1.len 4 * 1 = 4 := by omega
 have e7 : (bytesOf (lays 4 [m])).take 4 = bytesOf (le 4 m) := by
  rw [bytes_take]
  simp [lays, List.take_of_length_le, le_len]
 rw [e6, e7, over_bytes] at hq
 have e8 : (filled bs (bs.length + 4)).take bs.length ++ le 4 m ++ (filled bs (bs.length + 4)).drop (bs.length + (le 4 m).length) = sealed bs := by
  unfold filled sealed
  rw [List.take_left, List.drop_length_add_append, hm, le_len]
  simp
 rw [e8] at hq
 exact stars_imp (.cons (fun _ k => .mk (by rw [bytes_len, sealed_len]; simp) k) (.cons (fun _ k => k) .nil)) q hq
theorem open_spec {s : Sl} {bs : List UInt8} (hr : RdC T s 1 (bytesOf (sealed bs))) (hb : bs.length ≤ 1000) (hN : 5000 < N) : Tri (stars [T]) (F_sum_Open N s) fun r => pu (r.2 = 0) (stars [OwnA r.1 1 (bytesOf bs), T]) := by
 have hlen : s.len = bs.length + 4 := by
  have := hr.1
  rw [bytes_len, sealed_len] at this
  omega
 obtain ⟨g1, g2⟩ := sum_rng bs
 obtain ⟨m, hm⟩ : ∃ m : Nat, sumI bs = m := ⟨(sumI bs).toNat, by omega⟩
 unfold F_sum_Open
 have e0 : (s.len : Int) - 4 = ((bs.length : Nat) : Int) := by rw [hlen]; omega
 rw [e0, wr64 (by omega) (by omega)]
 refine tri_f (by simp) ?_
 refine tri_call [0] (Get_spec (a := bs.length) (z := 4) hr (by omega) (by omega) (by rw [sealed_len]; exact Nat.le_refl _) (by rw [sealed_len]; omega) (by omega)) fun r => tri_pu fun hr2 => tri_flat ?_
 dsimp only [sel, rem, nth, del, cat, upd]
 have e1 : leN (((sealed bs).drop bs.length).take 4) = m := by
  unfold sealed
  rw [List.drop_left, hm, Int.toNat_natCast, List.take_of_length_le (by rw [le_len]; omega), leN_le, Nat.mod_eq_of_lt]
  omega
 rw [e1] at hr2
 subst hr2
 refine tri_call [0] (Q := fun c => pu (c = false) (stars [T])) ?_ fun c => tri_pu fun hc => tri_flat ?_
 ·refine tri_t (by simp) ?_
  refine tri_slc (by omega) (by omega) (by omega) ?_
  have hs := rd_subB hr (lo := 0) (hi := bs.length) (by omega) (by omega)
  rw [List.drop_zero, Nat.sub_zero] at hs
  have e2 : (sealed bs).take bs.length = bs := by
   unfold sealed
   rw [List.take_left]
  rw [e2] at hs
  refine tri_call [0] (of_spec hs (by omega) hN) fun r4 => tri_pu fun hr4 => tri_flat (tri_end [0] fun q hq => ⟨?_, hq⟩)
  rw [hr4, wr32 (by dsimp only; omega) (by dsimp only; omega), hm]
  simp
 ·subst hc
  dsimp only [sel, rem, nth, del, cat, upd]
  refine tri_f (by simp) ?_
  refine tri_mkB _ (by omega) fun b => ?_
  refine tri_call [0, 0] (rd_copy (o := 0) (k := bs.length) hr (by rw [bytes_len]; simp) (bytes_cell _) (by omega)) fun r => tri_pu fun hr' => tri_flat ?_
  refine tri_end [0, 0] fun q hq => ⟨rfl, ?_⟩
  have e3 : min s.len bs.length * 1 = bs.length := by omega
  have e4 : (bytesOf (sealed bs)).take bs.length = bytesOf bs := by
   rw [bytes_take]
   unfold sealed
   rw [List.take_left]
  rw [e3, e4, fill_copy (Nat.le_refl _)] at hq
  have e5 : filled bs bs.length = bs := by simp [filled]
  rw [e5] at hq
  exact stars_imp (.cons (fun _ k => .mk (by rw [bytes_len]; simp) k) (.cons (fun _ k => k) .nil)) q hq
end
end Go.Moat

/- Layer 9: how a disk is parted. -/
namespace Go.Mini
section
variable {β : Type} {l : List HA} {S : β → HA}
theorem tri_hold0 {A : HA} {f : Nat → M β} (k : ∀ b, Tri A (f b) S) : Tri A (bd (hold 0) f) S := by
 intro h q hq hh
 exact k h.size h q hq hh
theorem tri_markB (n : Nat) {b o k : Nat} {cs : List MV} (hl : l[n]? = some (pts b (.cells cs false))) (hk : 0 < k) {f : Sl → M β} (kk : Tri (stars l) (f ⟨some ⟨b, o⟩, k⟩) S) : Tri (stars l) (bd (markB ⟨some ⟨b, o⟩, k⟩) f) S := by
 refine tri_write n hl (y := .cells cs false) (a := ⟨some ⟨b, o⟩, k⟩) (fun h hg => ?_) ?_
 ·unfold markB
  simp only [hg]
  rw [if_pos ⟨hk, rfl⟩]
 ·rw [upd_same l n hl]
  exact kk
end
end Go.Mini
namespace Go.Moat
open Go.Mini
structure Geo where
 J : Nat
 I : Nat
 G : Nat
 P : Nat
 deriving DecidableEq
def Geo.t (g : Geo) : Int × Int × Int × Int := (g.J, g.I, g.G, g.P)
structure Geo.ok (g : Geo) : Prop where
 j1 : 3 ≤ g.J
 j2 : g.J ≤ 1000
 i1 : 2 ≤ g.I
 i2 : g.I ≤ 64
 i3 : g.I % 2 = 0
 g1 : 1 ≤ g.G
 g2 : g.G ≤ 64
 p1 : 1 ≤ g.P
 p2 : g.P ≤ 512 / g.G
theorem Geo.ok.gp {g : Geo} (h : g.ok) : g.G * g.P ≤ 512 := by
 have := Nat.mul_le_mul_left g.G h.p2
 have h2 := Nat.mul_div_le 512 g.G
 omega
theorem Geo.ok.pp {g : Geo} (h : g.ok) : g.P ≤ 512 := Nat.le_trans h.p2 (Nat.div_le_self _ _)
def Geo.B (g : Geo) : Nat := g.G * g.P
def Geo.M (g : Geo) : Nat := 3 + g.I / 2
def Geo.lab (g : Geo) : Nat := 1 + g.J
def Geo.blk (g : Geo) : Nat := 4 + g.J + g.I / 2
def Geo.all (g : Geo) : Nat := g.blk + g.B
def Geo.lay (g : Geo) : Int × Int × Int × Int × Int × Int × Int := ((1 : Nat), (g.lab : Nat), ((2 + g.J : Nat)), ((3 + g.J : Nat)), ((4 + g.J : Nat)), (g.blk : Nat), (g.all : Nat))
def needN (n : Nat) : Nat := n + (n - 1) / 15 + 1
abbrev Geo.roomy (g : Geo) : Prop := needN (g.M + 80) ≤ g.J - 1
theorem Geo.ok.all_le {g : Geo} (h : g.ok) : g.all ≤ 4096 := by
 have := h.gp
 have := h.j2
 have := h.i2
 unfold Geo.all Geo.blk Geo.B
 omega
section
variable {N : Nat} {β : Type} {l : List HA} {S : β → HA} {T : HA} {g : Geo}
theorem within_eq (n a b : Int) : F_super_within N n a b = ret (decide (a ≤ n) && decide (n ≤ b)) := rfl
theorem right_eq (h : g.ok) : F_super_Right N g.t = ret true := by
 obtain ⟨h1, h2, h3, h4, h5, h6, h7, h8, h9⟩ := h
 have h10 : g.P ≤ 512 / g.G := h9
 unfold F_super_Right Geo.t
 simp only [within_eq]
 have e1 : (decide ((3 : Int) ≤ (g.J : Int)) && decide ((g.J : Int) ≤ 1000)) = true := by simp; omega
 have e2 : (decide ((2 : Int) ≤ (g.I : Int)) && decide ((g.I : Int) ≤ 64)) = true := by simp; omega
 have e3 : (decide ((1 : Int) ≤ (g.G : Int)) && decide ((g.G : Int) ≤ 64)) = true := by simp; omega
 have e4 : ((g.I : Int).tmod 2) = ((g.I % 2 : Nat) : Int) := rfl
 have e5 : (512 : Int).tdiv (g.G : Int) = ((512 / g.G : Nat) : Int) := rfl
 have h11 := Nat.div_le_self 512 g.G
 have e6 : (decide ((1 : Int) ≤ (g.P : Int)) && decide ((g.P : Int) ≤ wr .i64 ((512 : Int).tdiv (g.G : Int)))) = true := by
  rw [e5, wr64 (by omega) (by omega)]
  generalize 512 / g.G = q at *
  simp
  omega
 have e7 : (g.G : Int) ≠ 0 := by omega
 simp only [e1, e2, e3, e4, e6, h5, if_neg e7]
 rfl
theorem meta_eq (h : g.ok) : F_super_Meta N g.t = ret (g.M : Int) := by
 unfold F_super_Meta
 have e := right_eq (N := N) h
 unfold Geo.t at e ⊢
 rw [e]
 have e4 : ((g.I : Int).tdiv 2) = ((g.I / 2 : Nat) : Int) := rfl
 have := h.i2
 funext hh
 simp only [bd, ret]
 rw [e4, wr64 (n := ((g.I / 2 : Nat) : Int)) (by omega) (by omega), wr64 (by omega) (by omega)]
 simp [ret, Geo.M]
theorem need_eq {n : Nat} (h1 : 1 ≤ n) (h2 : n < 1000000) : F_journal_Need N (n : Int) = ret (needN n : Int) := by
 unfold F_journal_Need
 rw [if_neg (by simp; omega)]
 have e : wr .i64 ((n : Int) - 1) = ((n - 1 : Nat) : Int) := by rw [wr64 (by omega) (by omega)]; omega
 have e2 : ((n - 1 : Nat) : Int).tdiv 15 = (((n - 1) / 15 : Nat) : Int) := rfl
 rw [e, e2, wr64 (n := (((n - 1) / 15 : Nat) : Int)) (by omega) (by omega), wr64 (n := (n : Int) + _) (by omega) (by omega), wr64 (by omega) (by omega)]
 congr 1
theorem roomy_spec (h : g.ok) : Tri (stars l) (F_volume_roomy N g.t) fun r => pu (r = decide g.roomy) (stars l) := by
 unfold F_volume_roomy
 refine tri_hold0 fun _ => ?_
 have e := meta_eq (N := N) h
 have := h.i2
 have := h.j1
 have := h.j2
 have hM : g.M = 3 + g.I / 2 := rfl
 unfold Geo.t at e ⊢
 rw [e]
 refine tri_bdret ?_
 have e2 : wr .i64 ((g.M : Int) + 80) = ((g.M + 80 : Nat) : Int) := by rw [wr64 (by omega) (by omega)]; simp
 rw [e2, need_eq (by omega) (by omega)]
 refine tri_bdret (tri_ret fun q hq => ⟨?_, hq⟩)
 rw [wr64 (by dsimp only; omega) (by dsimp only; omega)]
 unfold Geo.roomy
 congr 1
 apply propext
 dsimp only
 omega
theorem plan1_spec {b : Nat} {v n : Int} (h0 : 0 ≤ v) (h1 : v ≤ 1000000) (h2 : 0 ≤ n) (h3 : n ≤ 1000000) : Tri (stars [pts b (.cells [.int .i64 v] false)]) (F_super_Plan_1 N n (some ⟨b, 0⟩)) fun r => pu (r = v + n) (stars [pts b (.cells [.int .i64 (v + n)] false)]) := by
 unfold F_super_Plan_1
 refine tri_ldI 0 rfl rfl ?_
 rw [wr64 (by omega) (by omega)]
 refine tri_stc 0 rfl (by simp) rfl ?_
 exact tri_ldI 0 rfl rfl (tri_end [0] fun q hq => ⟨rfl, hq⟩)
theorem plan_spec (h : g.ok) : Tri (stars []) (F_super_Plan N g.t) fun r => pu (r = (g.lay, 0)) (stars []) := by
 have hgp := h.gp
 have := h.i2
 have := h.j2
 unfold F_super_Plan
 have e := right_eq (N := N) h
 unfold Geo.t at e ⊢
 rw [e]
 refine tri_bdret (tri_f (by simp) ?_)
 refine tri_alloc fun b => ?_
 refine tri_stc 0 rfl (by simp) rfl ?_
 refine tri_hold0 fun _ => ?_
 dsimp only [sel, rem, nth, del, cat, upd]
 have e4 : ((g.I : Int).tdiv 2) = ((g.I / 2 : Nat) : Int) := rfl
 have e5 : (g.G : Int) * (g.P : Int) = ((g.G * g.P : Nat) : Int) := by simp
 rw [e4, e5, wr64 (by omega) (by omega), wr64 (by omega) (by omega)]
 refine tri_call [0] (plan1_spec (by omega) (by omega) (by omega) (by omega)) fun r1 => tri_pu fun h1 => tri_flat ?_
 refine tri_call [0] (plan1_spec (by omega) (by omega) (by omega) (by omega)) fun r2 => tri_pu fun h2 => tri_flat ?_
 refine tri_call [0] (plan1_spec (by omega) (by omega) (by omega) (by omega)) fun r3 => tri_pu fun h3 => tri_flat ?_
 refine tri_call [0] (plan1_spec (by omega) (by omega) (by omega) (by omega)) fun r4 => tri_pu fun h4 => tri_flat ?_
 refine tri_call [0] (plan1_spec (by omega) (by omega) (by omega) (by omega)) fun r5 => tri_pu fun h5 => tri_flat ?_
 refine tri_call [0] (plan1_spec (by omega) (by omega) (by omega) (by omega)) fun r6 => tri_pu fun h6 => tri_flat ?_
 refine tri_call [0] (plan1_spec (by omega) (by omega) (by omega) (by omega)) fun r7 => tri_pu fun h7 => tri_flat ?_
 refine tri_end [] fun q hq => ⟨?_, hq⟩
 subst h1 h2 h3 h4 h5 h6 h7
 unfold Geo.lay Geo.all Geo.blk Geo.lab Geo.B
 simp only [Prod.mk.injEq]
 refine ⟨⟨?_, ?_, ?_, ?_, ?_, ?_, ?_⟩, trivial⟩ <;> simp <;> omega
def superB (g : Geo) : List UInt8 := sealed (filled ([109, 111, 97, 116] ++ lays 2 [g.J, g.I, g.G, g.P]) 60)
theorem superB_len (g : Geo) : (superB g).length = 64 := by
 unfold superB
 rw [sealed_len, filled_len (by simp [lays_len])]
theorem slay_spec (h : g.ok) (hN : 5000 < N) : Tri (stars []) (F_super_Lay N g.t) fun r => pu (r.2 = 0) (stars [OwnA r.1 1 (bytesOf (superB g))]) := by
 have hgp := h.pp
 have := h.i2
 have := h.j2
 have := h.g2
 unfold F_super_Lay
 have e := right_eq (N := N) h
 unfold Geo.t at e ⊢
 rw [e]
 refine tri_bdret (tri_f (by simp) ?_)
 dsimp only
 rw [wrU64 (by omega) (by omega), wrU64 (by omega) (by omega), wrU64 (by omega) (by omega), wrU64 (by omega) (by omega)]
 refine tri_alloc fun b => ?_
 refine tri_call [0] (lay_spec (size := 2) (ns := [g.J, g.I, g.G, g.P]) (T := pts b (.cells [.int .u64 g.J, .int .u64 g.I, .int .u64 g.G, .int .u64 g.P] false)) (by omega) (by omega) (rd_pts0 (by simp)) (by
  intro n hn
  simp at hn
  omega) (by simp) hN) fun r4 => tri_pu fun hr4 => tri_flat ?_
 dsimp only [sel, rem, nth, del, cat, upd]
 refine own_ln 0 rfl fun h4 => ?_
 rw [bytes_len, lays_len] at h4
 simp only [List.length_cons, List.length_nil] at h4
 refine tri_alloc fun b5 => ?_
 refine tri_markB 0 rfl (by omega) ?_
 refine tri_turn 0 (B := OwnA ⟨some ⟨b5, 0⟩, 4⟩ 1 (bytesOf [109, 111, 97, 116])) rfl (fun q hq => .mk (by simp [bytesOf]) hq) ?_
 dsimp only [sel, rem, nth, del, cat, upd]
 refine tri_call [0, 0] (rd_app (rd_own (by rw [bytes_len, lays_len]; simp only [List.length_cons, List.length_nil]; omega)) (by omega) (bytes_cell _) (by
  have : most = 70368744177664 := rfl
  dsimp only
  omega)) fun r7 => tri_flat ?_
 dsimp only [sel, rem, nth, del, cat, upd]
 rw [← bytesOf_app]
 refine own_ln 0 rfl fun h7 => ?_
 rw [bytes_len, List.length_append, lays_len] at h7
 simp only [List.length_cons, List.length_nil] at h7
 refine tri_call [0] (fill_spec (n := 60) (rd_own (by rw [bytes_len, List.length_append, lays_len]; simp only [List.length_cons, List.length_nil]; omega)) (by rw [List.length_append, lays_len]; simp) (by omega)) fun r8 => tri_pu fun hr8 => tri_flat ?_
 dsimp only [sel, rem, nth, del, cat, upd]
 refine own_ln 0 rfl fun h8 => ?_
 refine tri_call [0] (seal_spec (rd_own h8) (by rw [filled_len (by simp [lays_len])]; omega) hN) fun r9 => tri_flat ?_
 exact tri_end [0] fun q hq => ⟨rfl, hq⟩
theorem super_num (g : Geo) (h : g.ok) (k : Nat) (hk : k < 4) : leN (((superB g).drop (4 + 2 * k)).take 2) = [g.J, g.I, g.G, g.P][k]'(by simpa using hk) := by
 have hgp := h.pp
 have := h.i2
 have := h.j2
 have := h.g2
 have e : ∀ (a b c d : Nat) (x : List UInt8), superB g = [109, 111, 97, 116] ++ (le 2 g.J ++ (le 2 g.I ++ (le 2 g.G ++ (le 2 g.P ++ (List.replicate 48 0 ++ le 4 (sumI (filled ([109, 111, 97, 116] ++ lays 2 [g.J, g.I, g.G, g.P]) 60)).toNat))))) := by
  intros
  unfold superB sealed filled lays
  simp [le_len]
 rw [e 0 0 0 0 []]
 have f : ∀ (n : Nat), n ≤ 65535 → leN (le 2 n) = n := fun n hn => by rw [leN_le, Nat.mod_eq_of_lt (by omega)]
 have l2 : ∀ n, (le 2 n).length = 2 := fun n => le_len 2 n
 match k, hk with
 | 0, _ =>
  rw [show 4 + 2 * 0 = ([109, 111, 97, 116] : List UInt8).length from rfl, List.drop_left, List.take_left' (l2 _)]
  exact f _ (by omega)
 | 1, _ =>
  rw [show 4 + 2 * 1 = ([109, 111, 97, 116] : List UInt8).length + (le 2 g.J).length by rw [l2]; rfl, List.drop_length_add_append, List.drop_left, List.take_left' (l2 _)]
  exact f _ (by omega)
 | 2, _ =>
  rw [show 4 + 2 * 2 = ([109, 111, 97, 116] : List UInt8).length + ((le 2 g.J).length + (le 2 g.I).length) by rw [l2, l2]; rfl, List.drop_length_add_append, List.drop_length_add_append, List.drop_left, List.take_left' (l2 _)]
  exact f _ (by omega)
 | 3, _ =>
  rw [show 4 + 2 * 3 = ([109, 111, 97, 116] : List UInt8).length + ((le 2 g.J).length + ((le 2 g.I).length + (le 2 g.G).length)) by rw [l2, l2, l2]; rfl, List.drop_length_add_append, List.drop_length_add_append, List.drop_length_add_append, List.drop_left, List.take_left' (l2 _)]
  exact f _ (by omega)
theorem stake_spec (h : g.ok) {s : Sl} (hr : RdC T s 1 (bytesOf (superB g))) (hN : 5000 < N) : Tri (stars [T]) (F_super_Take N s) fun r => pu (r = (g.t, 0)) (stars [T]) := by
 have hlen : s.len = 64 := by
  have := hr.1
  rw [bytes_len, superB_len] at this
  omega
 have hgp := h.pp
 have := h.i2
 have := h.j2
 have := h.g2
 unfold F_super_Take
 refine tri_f (by simp [hlen]) ?_
 refine tri_alloc fun b => ?_
 refine tri_fl (tri_fl (tri_fl (tri_fl ?_)))
 refine tri_alloc fun b2 => ?_
 have step : ∀ (K j : Nat) (a0 a1 a2 a3 : Int) {Q : Unit → HA}, j < 4 → (∀ x : Int, x = ([g.J, g.I, g.G, g.P][j]?.getD 0 : Nat) → Tri (stars [pts b2 (.cells [.ptr (some ⟨b, 0 + 0⟩), .ptr (some ⟨b, 0 + 1⟩), .ptr (some ⟨b, 0 + 2⟩), .ptr (some ⟨b, 0 + 3⟩)] false), pts b (.cells ([.int .i64 a0, .int .i64 a1, .int .i64 a2, .int .i64 a3].set j (.int .i64 x)) false), T]) (iter K (F_super_Take_b1 N s (some ⟨b2, 0⟩)) ((4 + 2 * (j + 1) : Nat), (j + 1 : Nat))) Q) →
   Tri (stars [pts b2 (.cells [.ptr (some ⟨b, 0 + 0⟩), .ptr (some ⟨b, 0 + 1⟩), .ptr (some ⟨b, 0 + 2⟩), .ptr (some ⟨b, 0 + 3⟩)] false), pts b (.cells [.int .i64 a0, .int .i64 a1, .int .i64 a2, .int .i64 a3] false), T]) (iter (K + 1) (F_super_Take_b1 N s (some ⟨b2, 0⟩)) ((4 + 2 * j : Nat), (j : Nat))) Q := by
  intro K j a0 a1 a2 a3 Q hj kk
  rw [iter_S]
  unfold F_super_Take_b1
  refine tri_t (by simp; omega) ?_
  refine tri_idx hj (tri_ldP 0 rfl (v := some ⟨b, j⟩) (by
   match j, hj with
   | 0, _ => rfl
   | 1, _ => rfl
   | 2, _ => rfl
   | 3, _ => rfl) ?_)
  refine tri_call [2] (Get_spec (a := 4 + 2 * j) (z := 2) hr (by omega) (by omega) (by rw [superB_len]; omega) (by rw [superB_len]; omega) (by omega)) fun r => tri_pu fun hr' => tri_flat ?_
  dsimp only [sel, rem, nth, del, cat, upd]
  subst hr'
  refine tri_nn ?_
  refine tri_stc 2 rfl (by simpa using hj) rfl ?_
  dsimp only [sel, rem, nth, del, cat, upd]
  have e := super_num g h j hj
  have hx : [g.J, g.I, g.G, g.P][j]?.getD 0 = leN (((superB g).drop (4 + 2 * j)).take 2) := by
   rw [List.getElem?_eq_getElem (by simpa using hj), e]
   rfl
  have hle : leN (((superB g).drop (4 + 2 * j)).take 2) ≤ 1000 := by
   rw [e]
   match j, hj with
   | 0, _ => show g.J ≤ 1000; omega
   | 1, _ => show g.I ≤ 1000; omega
   | 2, _ => show g.G ≤ 1000; omega
   | 3, _ => show g.P ≤ 1000; omega
  rw [wr64 (n := ((leN _ : Nat) : Int)) (by omega) (by omega), wr64 (by omega) (by omega), wr64 (by omega) (by omega)]
  have k2 := kk _ (by rw [hx])
  have e2 : (((4 + 2 * j : Nat) : Int) + 2) = ((4 + 2 * (j + 1) : Nat) : Int) := by omega
  have e3 : ((j : Int) + 1) = ((j + 1 : Nat) : Int) := by omega
  rw [e2, e3]
  have e4 : stars [pts b2 (.cells [.ptr (some ⟨b, 0 + 0⟩), .ptr (some ⟨b, 0 + 1⟩), .ptr (some ⟨b, 0 + 2⟩), .ptr (some ⟨b, 0 + 3⟩)] false), pts b (.cells ([.int .i64 a0, .int .i64 a1, .int .i64 a2, .int .i64 a3].set j (.int .i64 (leN (((superB g).drop (4 + 2 * j)).take 2) : Nat))) false), T] =
   stars [T, pts b2 (.cells [.ptr (some ⟨b, 0 + 0⟩), .ptr (some ⟨b, 0 + 1⟩), .ptr (some ⟨b, 0 + 2⟩), .ptr (some ⟨b, 0 + 3⟩)] false), pts b (.cells ([.int .i64 a0, .int .i64 a1, .int .i64 a2, .int .i64 a3].set j (.int .i64 (leN (((superB g).drop (4 + 2 * j)).take 2) : Nat))) false)] := by
   rw [stars_sel [2, 0, 0] [pts b2 _, pts b _, T]]
   show star _ emp = _
   rw [star_emp]
   rfl
  rw [e4] at k2
  exact k2
 obtain ⟨K, rfl⟩ : ∃ K, N = K + 5 := ⟨N - 5, by omega⟩
 refine tri_call [0, 0, 0] (Q := fun _ => stars [pts b (.cells [.int .i64 g.J, .int .i64 g.I, .int .i64 g.G, .int .i64 g.P] false), T]) ?_ fun _ => tri_flat ?_
 ·refine step _ 0 0 0 0 0 (by omega) fun x hx => ?_
  refine step _ 1 _ _ _ _ (by omega) fun y hy => ?_
  refine step _ 2 _ _ _ _ (by omega) fun z hz => ?_
  refine step _ 3 _ _ _ _ (by omega) fun w hw => ?_
  subst hx hy hz hw
  rw [iter_S]
  unfold F_super_Take_b1
  refine tri_f (by simp) (tri_end [1, 1] fun q hq => hq)
 ·dsimp only [sel, rem, nth, del, cat, upd]
  refine tri_read 0 rfl (a := g.t) (fun h' hg => ?_) ?_
  ·simp only [ldSt, bd]
   have : ldn 4 (some ⟨b, 0⟩) h' = some (List.take 4 (List.drop 0 [MV.int .i64 g.J, .int .i64 g.I, .int .i64 g.G, .int .i64 g.P]), h') := ldn_eq hg (by simp)
   rw [show ([CTy.int .i64, .int .i64, .int .i64, .int .i64] : List CTy).length = 4 from rfl, this]
   rfl
  ·refine tri_call [] (slay_spec h hN) fun r16 => tri_pu fun hr16 => tri_flat ?_
   dsimp only [sel, rem, nth, del, cat, upd]
   refine own_ln 0 rfl fun h16 => ?_
   refine tri_call [0, 1] (Q := fun c => pu (c = false) (stars [OwnA r16.1 1 (bytesOf (superB g)), T])) ?_ fun c => tri_pu fun hc => tri_flat ?_
   ·refine tri_t (by simp [hr16]) ?_
    refine tri_rStr 0 rfl (rd_own h16) ?_
    refine tri_rStr 1 rfl hr ?_
    exact tri_end [0, 0] fun q hq => ⟨by simp, hq⟩
   ·dsimp only [sel, rem, nth, del, cat, upd]
    subst hc
    refine tri_f (by simp) ?_
    refine tri_read 2 rfl (a := g.t) (fun h' hg => ?_) ?_
    ·simp only [ldSt, bd]
     have : ldn 4 (some ⟨b, 0⟩) h' = some (List.take 4 (List.drop 0 [MV.int .i64 g.J, .int .i64 g.I, .int .i64 g.G, .int .i64 g.P]), h') := ldn_eq hg (by simp)
     rw [show ([CTy.int .i64, .int .i64, .int .i64, .int .i64] : List CTy).length = 4 from rfl, this]
     rfl
    ·exact tri_end [1] fun q hq => ⟨rfl, hq⟩
end
end Go.Moat
