/- Layer 11: inodes. -/
import Derived.Test.YtfieiaijdalkbaaGreatP16a
import Derived.Test.YtfieiaijdalkbaaGreatMSLM
import Derived.Test.YtfieiaijdalkbaaGreatD16
namespace Go.Mini
section
variable {β : Type} {l : List HA} {S : β → HA}
theorem tri_ne (is : List Nat) {b c : Nat} {x y : Blk} {m : M β} (hs : sel is l = [pts b x, pts c y]) (k : b ≠ c → Tri (stars l) m S) : Tri (stars l) m S := by
 rintro h q hq hh
 have hq2 := hq
 rw [stars_sel is l, hs] at hq2
 obtain ⟨q1, q2, h1, _⟩ := hq2
 have h3 : star (pts b x) (pts c y) q1 := by
  have : stars [pts b x, pts c y] = star (pts b x) (pts c y) := by
   show star _ (star _ emp) = _
   rw [star_emp]
  rwa [this] at h1
 exact k (pts_ne h3) h q hq hh
end
end Go.Mini
namespace Go.Moat
open Go.Mini
def i64s (xs : List Int) : List MV := xs.map (.int .i64)
theorem i64s_len (xs : List Int) : (i64s xs).length = xs.length := by simp [i64s]
theorem i64s_cell (xs : List Int) : (i64s xs).all isCell = true := by simp [i64s, isCell]
theorem i64s_get {xs : List Int} {i : Nat} (h : i < xs.length) : (i64s xs)[i]? = some (.int .i64 xs[i]) := by simp [i64s, h]
structure Ino where
 k : Nat
 r : Nat
 xs : {l : List Int // l.length = 12}
 deriving DecidableEq
def Ino.z : Ino := ⟨0, 0, ⟨List.replicate 12 0, by simp⟩⟩
def inoC (n : Ino) : List MV := .int .u8 n.k :: .int .u8 n.r :: i64s n.xs.1
theorem inoC_len (n : Ino) : (inoC n).length = 14 := by simp [inoC, i64s_len, n.xs.2]
theorem inoC_cell (n : Ino) : (inoC n).all isCell = true := by
 unfold inoC
 rw [List.all_cons, List.all_cons, i64s_cell]
 rfl
theorem zino_c : ([MV.int .u8 (0 : Int), MV.int .u8 (0 : Int)] ++ reps 12 [MV.int .i64 (0 : Int)]) = inoC Ino.z := rfl
def Ino.at (n : Ino) (i : Nat) : Int := n.xs.1[i]?.getD 0
def ptrOk (p : Int) : Bool := decide (0 ≤ p) && decide (p ≤ 512)
def Ino.ok (n : Ino) : Bool := decide (n.k < 3) && (decide (n.k ≠ 0) || decide (n = Ino.z)) && decide (n.r < 16) && (decide (0 ≤ n.at 0) && decide (n.at 0 ≤ 65535)) && (decide (0 ≤ n.at 1) && decide (n.at 1 ≤ 3840)) && (n.xs.1.drop 2).all ptrOk
theorem Ino.get_at (n : Ino) {i : Nat} (h : i < 12) : n.xs.1[i]? = some (n.at i) := by
 unfold Ino.at
 rw [List.getElem?_eq_getElem (by rw [n.xs.2]; exact h)]
 rfl
theorem inoC_at (n : Ino) {i : Nat} (h : i < 12) : (inoC n)[i + 2]? = some (.int .i64 (n.at i)) := by
 unfold inoC i64s
 simp [n.get_at h]
theorem Ino.ext {n m : Ino} (hk : n.k = m.k) (hr : n.r = m.r) (h : ∀ i, i < 12 → n.at i = m.at i) : n = m := by
 obtain ⟨k, r, xs, hx⟩ := n
 obtain ⟨k', r', xs', hx'⟩ := m
 dsimp only at hk hr
 subst hk hr
 have : xs = xs' := by
  apply List.ext_getElem (by omega)
  intro i h1 h2
  have := h i (by omega)
  unfold Ino.at at this
  simpa [h1, h2] using this
 subst this
 rfl
section
variable {N : Nat} {β : Type} {l : List HA} {S : β → HA} {T : HA} {s : Sl} {n : Ino}
theorem eqZ (n : Ino) : eqAt [(0, .int .u8), (1, .int .u8), (2, .int .i64), (3, .int .i64), (4, .int .i64), (5, .int .i64), (6, .int .i64), (7, .int .i64), (8, .int .i64), (9, .int .i64), (10, .int .i64), (11, .int .i64), (12, .int .i64), (13, .int .i64)] (inoC n) (inoC Ino.z) = some (decide (n = Ino.z)) := by
 obtain ⟨k, r, xs, hx⟩ := n
 match xs, hx with
 | [a, b, c, d, e, f, g, h, i, j, p, q], _ =>
  simp only [inoC, i64s, Ino.z, eqAt, eqC, List.getElem?_cons_zero, List.getElem?_cons_succ, List.map_cons, List.map_nil, List.replicate, and_self, if_true]
  congr 1
  rw [Bool.eq_iff_iff]
  simp [Ino.mk.injEq]
theorem iright_loop (hN : 20 < N) : iter N (F_10 N (i64s (n.xs.1.drop 2 |>.take 8))) (0 : Int) = ret (if (n.xs.1.drop 2 |>.take 8).all ptrOk then .inl () else .inr false) := by
 have hl : (n.xs.1.drop 2 |>.take 8).length = 8 := by simp [n.xs.2]
 generalize (n.xs.1.drop 2 |>.take 8) = ds at hl
 have loop : ∀ (K j : Nat), 8 - j < K → j ≤ 8 → iter K (F_10 N (i64s ds)) (j : Int) = ret (if (ds.drop j).all ptrOk then .inl () else .inr false) := by
  intro K
  induction K with
  | zero => intro j h; omega
  | succ K ih =>
   intro j h hj
   rw [iter_S]
   unfold F_10
   by_cases h8 : j < 8
   ·rw [if_pos (by simp; omega)]
    have e1 : idxV 8 (i64s ds) (j : Int) = ret (.int .i64 ds[j]) := by
     unfold idxV
     rw [if_pos (by omega), Int.toNat_natCast, i64s_get (by omega)]
     rfl
    rw [e1, List.drop_eq_getElem_cons (by omega), List.all_cons]
    show (if (!ptrOk ds[j]) = true then _ else _) = _
    cases hp : ptrOk ds[j]
    ·rfl
    ·rw [if_neg (by simp), wr64 (by omega) (by omega)]
     exact ih (j + 1) (by omega) (by omega)
   ·obtain rfl : j = 8 := by omega
    rw [if_neg (by simp), List.drop_of_length_le (by omega)]
    rfl
 exact loop N 0 (by omega) (by omega)
theorem inoright_eq (hN : 20 < N) : F_0r N (inoC n) = ret n.ok := by
 unfold F_0r
 have g0 : (inoC n)[0]? = some (.int .u8 n.k) := rfl
 have g1 : (inoC n)[1]? = some (.int .u8 n.r) := rfl
 have g2 : (inoC n)[2]? = some (.int .i64 (n.at 0)) := inoC_at n (i := 0) (by omega)
 have g3 : (inoC n)[3]? = some (.int .i64 (n.at 1)) := inoC_at n (i := 1) (by omega)
 have g12 : (inoC n)[12]? = some (.int .i64 (n.at 10)) := inoC_at n (i := 10) (by omega)
 have g13 : (inoC n)[13]? = some (.int .i64 (n.at 11)) := inoC_at n (i := 11) (by omega)
 have e14 : 0 + 14 ≤ (inoC n).length := by rw [inoC_len]; omega
 have t14 : ((inoC n).drop 0).take 14 = inoC n := by rw [List.drop_zero, List.take_of_length_le (by rw [inoC_len]; omega)]
 have e8 : 4 + 8 ≤ (inoC n).length := by rw [inoC_len]; omega
 have t8 : ((inoC n).drop 4).take 8 = i64s (n.xs.1.drop 2 |>.take 8) := by simp [inoC, i64s]
 rw [g0, g1, g2, g3, g12, g13, if_pos e14, t14, if_pos e8, t8, zino_c]
 have hall : (n.xs.1.drop 2).all ptrOk = ((n.xs.1.drop 2 |>.take 8).all ptrOk && (ptrOk (n.at 10) && ptrOk (n.at 11))) := by
  obtain ⟨k, r, xs, hx⟩ := n
  match xs, hx with
  | [a, b, c, d, e, f, g, h, i, j, p, q], _ => simp [Ino.at, Bool.and_assoc]
 have lp := iright_loop (n := n) hN
 show bd (if (decide ((3 : Int) ≤ (n.k : Int))) = true then ret (decide ((3 : Int) ≤ (n.k : Int))) else (bd (if (decide ((n.k : Int) = 0)) = true then okOf (eqAt _ (inoC n) (inoC Ino.z)) (fun z => ret (!z)) else ret false) fun c8 => bd (if c8 = true then ret c8 else ret (decide ((16 : Int) ≤ (n.r : Int)))) fun j => ret j)) (fun j12 => if j12 = true then ret false else bd (if decide (n.at 0 < 0) = false then ret (decide (65535 < n.at 0)) else ret true) fun c17 => bd (if c17 = false then ret (decide (n.at 1 < 0)) else ret true) fun c20 => bd (if c20 = false then ret (decide (3840 < n.at 1)) else ret true) fun c23 => if c23 = true then ret false else bd (show M (Unit ⊕ Bool) from iter N (F_10 N (i64s (n.xs.1.drop 2 |>.take 8))) (0 : Int)) fun j30 => match j30 with
  | .inl _ => bd (if ptrOk (n.at 10) = true then ret (ptrOk (n.at 11)) else ret false) fun c39 => ret c39
  | .inr j => ret j) = ret n.ok
 rw [eqZ]
 show bd (if (decide ((3 : Int) ≤ (n.k : Int))) = true then ret (decide ((3 : Int) ≤ (n.k : Int))) else (bd (if (decide ((n.k : Int) = 0)) = true then ret (!decide (n = Ino.z)) else ret false) fun c8 => bd (if c8 = true then ret c8 else ret (decide ((16 : Int) ≤ (n.r : Int)))) fun j => ret j)) (fun j12 => if j12 = true then ret false else bd (if decide (n.at 0 < 0) = false then ret (decide (65535 < n.at 0)) else ret true) fun c17 => bd (if c17 = false then ret (decide (n.at 1 < 0)) else ret true) fun c20 => bd (if c20 = false then ret (decide (3840 < n.at 1)) else ret true) fun c23 => if c23 = true then ret false else bd (iter N (F_10 N (i64s (n.xs.1.drop 2 |>.take 8))) (0 : Int)) fun j30 => match j30 with
  | .inl _ => bd (if ptrOk (n.at 10) = true then ret (ptrOk (n.at 11)) else ret false) fun c39 => ret c39
  | .inr j => ret j) = ret n.ok
 rw [lp]
 unfold Ino.ok
 rw [hall]
 have br : ∀ {α γ : Type} (a : α) (f : α → M γ), bd (ret a) f = f a := fun a f => rfl
 by_cases c1 : n.k < 3
 case neg => simp [show (3 : Int) ≤ (n.k : Int) by omega, br, c1]
 have f1 : ¬ (3 : Int) ≤ (n.k : Int) := by omega
 by_cases c2 : (n.k ≠ 0 ∨ n = Ino.z)
 case neg =>
  rw [not_or] at c2
  have k0 : n.k = 0 := Classical.not_not.1 c2.1
  simp [k0, c2.2, br]
 have f2 : (if (decide ((n.k : Int) = 0)) = true then (ret (!decide (n = Ino.z))) else ret false : M Bool) = ret false := by
  split
  ·rename_i hk
   have : n = Ino.z := c2.resolve_left fun c => c (by simpa using hk)
   simp [this]
  ·rfl
 have f4 : (decide (n.k ≠ 0) || decide (n = Ino.z)) = true := by simpa using c2
 rw [f2, f4]
 by_cases c3 : n.r < 16
 case neg => simp [f1, br, c3, show (16 : Int) ≤ (n.r : Int) by omega]
 have f3 : ¬ (16 : Int) ≤ (n.r : Int) := by omega
 by_cases c4 : 0 ≤ n.at 0
 case neg => simp [f1, f3, br, c4, show n.at 0 < 0 by omega]
 by_cases c5 : n.at 0 ≤ 65535
 case neg => simp [f1, f3, br, c5, show ¬ n.at 0 < 0 by omega, show (65535 : Int) < n.at 0 by omega]
 by_cases c6 : 0 ≤ n.at 1
 case neg => simp [f1, f3, br, c6, show ¬ n.at 0 < 0 by omega, show ¬ (65535 : Int) < n.at 0 by omega, show n.at 1 < 0 by omega]
 by_cases c7 : n.at 1 ≤ 3840
 case neg => simp [f1, f3, br, c7, show ¬ n.at 0 < 0 by omega, show ¬ (65535 : Int) < n.at 0 by omega, show ¬ n.at 1 < 0 by omega, show (3840 : Int) < n.at 1 by omega]
 simp only [f1, f3, decide_false, Bool.false_eq_true, if_false, br, show ¬ n.at 0 < 0 by omega, show ¬ (65535 : Int) < n.at 0 by omega, show ¬ n.at 1 < 0 by omega, show ¬ (3840 : Int) < n.at 1 by omega, if_true]
 cases ha : (n.xs.1.drop 2 |>.take 8).all ptrOk
 ·simp [br]
 ·cases hb : ptrOk (n.at 10) <;> cases hc : ptrOk (n.at 11) <;> simp [br, c1, c3, c4, c5, c6, c7]
def inoNs (n : Ino) : List Nat := (n.k + 256 * n.r) :: n.xs.1.map Int.toNat
def inoB (n : Ino) : List UInt8 := filled (lays 2 (inoNs n)) 32
theorem inoNs_len (n : Ino) : (inoNs n).length = 13 := by simp [inoNs, n.xs.2]
theorem inoB_eq (n : Ino) : inoB n = lays 2 (inoNs n ++ [0, 0, 0]) := by
 unfold inoB filled
 rw [lays_app, lays_len, inoNs_len]
 rfl
theorem inoB_len (n : Ino) : (inoB n).length = 32 := by rw [inoB_eq, lays_len, List.length_append, inoNs_len]; rfl
structure Ino.Ok (n : Ino) : Prop where
 k : n.k < 3
 z : n.k = 0 → n = Ino.z
 r : n.r < 16
 l0 : 0 ≤ n.at 0
 l1 : n.at 0 ≤ 65535
 s0 : 0 ≤ n.at 1
 s1 : n.at 1 ≤ 3840
 p : ∀ i, 2 ≤ i → i < 12 → 0 ≤ n.at i ∧ n.at i ≤ 512
theorem Ino.ok_iff : n.ok = true ↔ n.Ok := by
 unfold Ino.ok
 simp only [Bool.and_eq_true, Bool.or_eq_true, decide_eq_true_eq, List.all_eq_true]
 constructor
 ·rintro ⟨⟨⟨⟨⟨h1, h2⟩, h3⟩, h4, h5⟩, h6, h7⟩, h8⟩
  refine ⟨h1, fun c => h2.resolve_left fun d => d c, h3, h4, h5, h6, h7, fun i hi h12 => ?_⟩
  have hm : n.at i ∈ n.xs.1.drop 2 := by
   refine List.mem_of_getElem? (i := i - 2) ?_
   rw [List.getElem?_drop, show 2 + (i - 2) = i by omega]
   exact n.get_at h12
  have := h8 _ hm
  unfold ptrOk at this
  simpa using this
 ·rintro ⟨h1, h2, h3, h4, h5, h6, h7, h8⟩
  refine ⟨⟨⟨⟨⟨h1, ?_⟩, h3⟩, h4, h5⟩, h6, h7⟩, fun x hx => ?_⟩
  ·by_cases c : n.k = 0
   ·exact .inr (h2 c)
   ·exact .inl c
  ·obtain ⟨i, hi, rfl⟩ := List.mem_iff_getElem.1 hx
   have hl := n.xs.2
   rw [List.length_drop, hl] at hi
   have := h8 (i + 2) (by omega) (by omega)
   have e : (n.xs.1.drop 2)[i]'(by rw [List.length_drop, hl]; exact hi) = n.at (i + 2) := by
    unfold Ino.at
    rw [List.getElem?_eq_getElem (by omega)]
    simp [Nat.add_comm]
   rw [e]
   unfold ptrOk
   simpa using this
theorem Ino.Ok.rng (h : n.Ok) {i : Nat} (hi : i < 12) : 0 ≤ n.at i ∧ n.at i ≤ 65535 := by
 by_cases c : 2 ≤ i
 ·have := h.p i c hi
  omega
 ·have : i = 0 ∨ i = 1 := by omega
  rcases this with rfl | rfl
  ·exact ⟨h.l0, h.l1⟩
  ·have := h.s1
   exact ⟨h.s0, by omega⟩
theorem z_ok : Ino.z.Ok := Ino.ok_iff.1 (by decide)
theorem inoNs_lt (h : n.Ok) : ∀ x ∈ inoNs n ++ [0, 0, 0], x < 256 ^ 2 := by
 intro x hx
 rcases List.mem_append.1 hx with hx | hx
 ·rcases List.mem_cons.1 hx with rfl | hx
  ·have := h.k
   have := h.r
   omega
  ·obtain ⟨y, hy, rfl⟩ := List.mem_map.1 hx
   obtain ⟨i, hi, rfl⟩ := List.mem_iff_getElem.1 hy
   have hl := n.xs.2
   have := h.rng (i := i) (by omega)
   have e : n.xs.1[i] = n.at i := by
    have := n.get_at (i := i) (by omega)
    rw [List.getElem?_eq_getElem hi] at this
    exact Option.some.inj this
   rw [e]
   omega
 ·simp at hx
  omega
theorem inoNs_get {i : Nat} (hi : i < 12) : (inoNs n ++ [0, 0, 0])[i + 1]? = some (n.at i).toNat := by
 rw [List.getElem?_append_left (by rw [inoNs_len]; omega)]
 unfold inoNs
 rw [List.getElem?_cons_succ, List.getElem?_map, n.get_at hi]
 rfl
def inoUp (n : Ino) (m : Nat) : List MV := .int .u8 n.k :: .int .u8 n.r :: i64s (n.xs.1.take m ++ List.replicate (12 - m) 0)
theorem inoUp_len (n : Ino) (m : Nat) (h : m ≤ 12) : (inoUp n m).length = 14 := by
 simp [inoUp, i64s_len, n.xs.2]
 omega
theorem inoUp_set (n : Ino) {m : Nat} (h : m < 12) : (inoUp n m).set (m + 2) (.int .i64 (n.at m)) = inoUp n (m + 1) := by
 have hl := n.xs.2
 have hg : n.xs.1[m]'(by omega) = n.at m := by
  have := n.get_at h
  rw [List.getElem?_eq_getElem (by omega)] at this
  exact Option.some.inj this
 unfold inoUp
 rw [List.set_cons_succ, List.set_cons_succ]
 congr 2
 unfold i64s
 rw [List.map_append, List.map_append, List.set_append_right _ _ (by simp [hl]; omega), List.length_map, List.length_take, hl, Nat.min_eq_left (by omega), Nat.sub_self, List.take_succ_eq_append_getElem (by omega), hg, show 12 - m = (12 - (m + 1)) + 1 by omega, List.replicate_succ]
 simp
theorem inoUp_all (n : Ino) : inoUp n 12 = inoC n := by
 unfold inoUp inoC
 rw [List.take_of_length_le (by rw [n.xs.2]; omega)]
 simp
theorem over_self {cs vs : List MV} (h : vs.length = cs.length) : over cs 0 vs = vs := by
 unfold over
 simp [h]
theorem itake_spec (h : n.Ok) (hr : RdC T s 1 (bytesOf (inoB n))) (hN : 5000 < N) : Tri (stars [T]) (F_27 N s) fun r => pu (r = (inoC n, 0)) (stars [T]) := by
 have hlen : s.len = 32 := by
  have := hr.1
  rw [bytes_len, inoB_len] at this
  omega
 unfold F_27
 refine tri_call [0] (take_spec (size := 2) (k := 16) hr (by omega) (by omega) (by rw [inoB_len]) (by rw [inoB_len]; omega) hN) fun r => tri_pu fun hr2 => tri_flat ?_
 dsimp only [sel, rem, nth, del, cat, upd]
 have e16 : chunks 2 16 (inoB n) = inoNs n ++ [0, 0, 0] := by
  have := chunks_lays (size := 2) (inoNs n ++ [0, 0, 0]) (inoNs_lt h)
  rw [List.length_append, inoNs_len] at this
  rw [inoB_eq]
  exact this
 rw [e16]
 have hL : (inoNs n ++ [0, 0, 0]).length = 16 := by rw [List.length_append, inoNs_len]; rfl
 refine tri_f (by simp [hr2, hlen]) ?_
 obtain ⟨rs, re⟩ := r
 dsimp only
 refine tri_own 0 rfl (fun h1 h2 => ?_) fun b ln h1 h2 => ?_
 ·have := congrArg List.length h2
  rw [u64s_len, hL] at this
  cases this
 subst h1
 rw [u64s_len, hL, Nat.mul_one] at h2
 subst h2
 dsimp only [sel, rem, nth, del, cat, upd]
 have g : ∀ i (hi : i < 16), (u64s (inoNs n ++ [0, 0, 0]))[0 + i * 1]? = some (.int .u64 ((inoNs n ++ [0, 0, 0])[i]'(by omega) : Nat)) := by
  intro i hi
  rw [Nat.zero_add, Nat.mul_one]
  unfold u64s
  rw [List.getElem?_map, List.getElem?_eq_getElem (by omega)]
  rfl
 have hk := h.k
 have hrr := h.r
 have v0 : (inoNs n ++ [0, 0, 0])[0]'(by omega) = n.k + 256 * n.r := rfl
 have vi : ∀ i (hi : i < 12), (inoNs n ++ [0, 0, 0])[i + 1]'(by omega) = (n.at i).toNat := by
  intro i hi
  have := inoNs_get (n := n) hi
  rw [List.getElem?_eq_getElem (by omega)] at this
  exact Option.some.inj this
 have vz : ∀ i (hi : i < 3), (inoNs n ++ [0, 0, 0])[i + 13]'(by omega) = 0 := by
  intro i hi
  rw [List.getElem_append_right (by rw [inoNs_len]; omega)]
  simp only [inoNs_len, Nat.add_sub_cancel]
  match i, hi with
  | 0, _ => rfl
  | 1, _ => rfl
  | 2, _ => rfl
 refine tri_idx (i := 0) (by omega) (tri_ldI 0 rfl (g 0 (by omega)) ?_)
 refine tri_idx (i := 0) (by omega) (tri_ldI 0 rfl (g 0 (by omega)) ?_)
 refine tri_idx (i := 1) (by omega) (tri_ldI 0 rfl (g 1 (by omega)) ?_)
 refine tri_idx (i := 2) (by omega) (tri_ldI 0 rfl (g 2 (by omega)) ?_)
 refine tri_alloc fun c => ?_
 rw [v0, vi 0 (by omega), vi 1 (by omega)]
 have r0 := h.rng (i := 0) (by omega)
 have r1 := h.rng (i := 1) (by omega)
 have e0 : wr .u8 ((n.k + 256 * n.r : Nat) : Int) = (n.k : Int) := by
  rw [wr_mod rfl]
  show (((n.k + 256 * n.r) % 256 : Nat) : Int) = _
  congr 1
  omega
 have e1 : wr .u8 (shrI .u64 ((n.k + 256 * n.r : Nat) : Int) (8 : Int)) = (n.r : Int) := by
  have := shr_nat (k := .u64) (a := n.k + 256 * n.r) (j := 8) (by decide)
  rw [show ((8 : Nat) : Int) = 8 from rfl] at this
  rw [this, show (n.k + 256 * n.r) / 2 ^ 8 = n.r by omega, wr_un rfl (by show n.r < 256; omega)]
 rw [e0, e1, Int.toNat_of_nonneg r0.1, Int.toNat_of_nonneg r1.1, wr64 (by omega) (by omega), wr64 (by omega) (by omega)]
 have eup : ([MV.int .u8 (n.k : Int), MV.int .u8 (n.r : Int), MV.int .i64 (n.at 0), MV.int .i64 (n.at 1)] ++ reps 10 [MV.int .i64 (0 : Int)]) = inoUp n 2 := by
  have hl := n.xs.2
  unfold inoUp
  have : n.xs.1.take 2 = [n.at 0, n.at 1] := by
   obtain ⟨k, r, xs, hx⟩ := n
   match xs, hx with
   | [a, b, c, d, e, f, g, h, i, j, p, q], _ => rfl
  rw [this, reps_one]
  rfl
 rw [eup, zino_c]
 refine tri_stn 0 rfl (inoUp_len n 2 (by omega)) (by rw [inoUp_len n 2 (by omega), inoC_len]; omega) (by
  unfold inoUp
  rw [List.all_cons, List.all_cons, i64s_cell]
  rfl) ?_
 rw [over_self (by rw [inoUp_len n 2 (by omega), inoC_len])]
 dsimp only [sel, rem, nth, del, cat, upd]
 refine tri_slc (lo := 3) (hi := 16) (by omega) (by omega) (by dsimp only; omega) ?_
 have es : subS 1 ⟨some ⟨b, 0⟩, 16⟩ (3 : Int).toNat (16 : Int).toNat = ⟨some ⟨b, 3⟩, 13⟩ := rfl
 rw [es]
 have g3 : ∀ i (hi : i < 13), (u64s (inoNs n ++ [0, 0, 0]))[3 + i * 1]? = some (.int .u64 ((inoNs n ++ [0, 0, 0])[i + 3]'(by omega) : Nat)) := by
  intro i hi
  have := g (i + 3) (by omega)
  rw [show 0 + (i + 3) * 1 = 3 + i * 1 by omega] at this
  exact this
 have loop : ∀ (K j : Nat), 8 - j < K → j ≤ 8 → Tri (stars [pts c (.cells (inoUp n (j + 2)) false), pts b (.cells (u64s (inoNs n ++ [0, 0, 0])) false), T]) (iter K (F_3s N (some ⟨c, 0⟩) ⟨some ⟨b, 3⟩, 13⟩) (j : Int)) fun _ => stars [pts c (.cells (inoUp n 10) false), pts b (.cells (u64s (inoNs n ++ [0, 0, 0])) false), T] := by
  intro K
  induction K with
  | zero => intro j h; omega
  | succ K ih =>
   intro j hK hj
   rw [iter_S]
   unfold F_3s
   by_cases h8 : j < 8
   ·refine tri_t (by simp; omega) ?_
    refine tri_idx (i := j) (by omega) (tri_ldI 1 rfl (g3 j (by omega)) ?_)
    refine tri_fl ?_
    have ei : idxA 8 1 (some ⟨c, 0 + 4⟩) (j : Int) = ret (some ⟨c, 0 + 4 + j * 1⟩) := by
     unfold idxA
     dsimp only
     rw [if_pos (by omega), Int.toNat_natCast]
     rfl
    rw [ei]
    refine tri_bdret (tri_stc 0 rfl (by rw [inoUp_len n _ (by omega)]; omega) rfl ?_)
    dsimp only [sel, rem, nth, del, cat, upd]
    have rj := h.rng (i := j + 2) (by omega)
    rw [vi (j + 2) (by omega), Int.toNat_of_nonneg rj.1, wr64 (n := n.at (j + 2)) (by omega) (by omega), show 0 + 4 + j * 1 = j + 2 + 2 by omega, inoUp_set n (by omega), wr64 (by omega) (by omega)]
    exact ih (j + 1) (by omega) (by omega)
   ·obtain rfl : j = 8 := by omega
    exact tri_f (by simp) (tri_ret fun q hq => hq)
 refine tri_call [0, 0, 0] (loop N 0 (by omega) (by omega)) fun _ => tri_flat ?_
 dsimp only [sel, rem, nth, del, cat, upd]
 refine tri_hold0 fun _ => ?_
 refine tri_idx (i := 8) (by omega) (tri_ldI 1 rfl (g3 8 (by omega)) ?_)
 refine tri_idx (i := 9) (by omega) (tri_ldI 1 rfl (g3 9 (by omega)) ?_)
 refine tri_fl ?_
 have r10 := h.rng (i := 10) (by omega)
 have r11 := h.rng (i := 11) (by omega)
 rw [vi 10 (by omega), vi 11 (by omega), Int.toNat_of_nonneg r10.1, Int.toNat_of_nonneg r11.1, wr64 (by omega) (by omega), wr64 (by omega) (by omega)]
 refine tri_stc 0 rfl (by rw [inoUp_len n _ (by omega)]; omega) rfl ?_
 refine tri_fl ?_
 rw [show 0 + 12 = 10 + 2 from rfl, inoUp_set n (by omega)]
 dsimp only [sel, rem, nth, del, cat, upd]
 refine tri_stc 0 rfl (by rw [inoUp_len n _ (by omega)]; omega) rfl ?_
 rw [show 0 + 13 = 11 + 2 from rfl, inoUp_set n (by omega), inoUp_all]
 dsimp only [sel, rem, nth, del, cat, upd]
 refine tri_ne [1, 0] rfl fun hbc => ?_
 have hap : apartB (Option.map MA.blk (some ⟨b, 3 + 9 * 1⟩)) (Option.map MA.blk (some (⟨c, 10 + 2⟩ : MA))) = true := by
  show (!(Nat.beq b c)) = true
  have : Nat.beq b c = false := by
   cases hb : Nat.beq b c with
   | false => rfl
   | true => exact absurd (Nat.eq_of_beq_eq_true hb) hbc
  rw [this]
  rfl
 rw [hap, cond_true]
 refine tri_slc (lo := 10) (hi := 13) (by omega) (by omega) (by dsimp only; omega) ?_
 have es2 : subS 1 ⟨some ⟨b, 3⟩, 13⟩ (10 : Int).toNat (13 : Int).toNat = ⟨some ⟨b, 13⟩, 3⟩ := rfl
 rw [es2]
 have hcf : Tri (stars [pts c (.cells (inoC n) false), pts b (.cells (u64s (inoNs n ++ [0, 0, 0])) false), T]) (F_26 N ⟨some ⟨b, 13⟩, 3⟩ ()) fun r => pu (r = false) (stars [pts c (.cells (inoC n) false), pts b (.cells (u64s (inoNs n ++ [0, 0, 0])) false), T]) := by
  unfold F_26 F_36
  refine tri_call [0, 0, 0] (tri_find (A := stars [pts c (.cells (inoC n) false), pts b (.cells (u64s (inoNs n ++ [0, 0, 0])) false), T]) (fun x : Nat => decide (x ≠ 0)) [0, 0, 0] (by simp; omega) (fun rec i hi Q k => ?_) fun rec Q k => ?_) fun r => tri_pu fun h => tri_flat (tri_end [0, 0, 0] fun q hq => ⟨by rw [h]; rfl, hq⟩)
  ·unfold F_3r
   have hi3 : i < 3 := hi
   refine tri_t (by simp; omega) ?_
   refine tri_idx (i := i) hi3 (tri_ldI 1 rfl (v := 0) (by
    have := g (i + 13) (by omega)
    rw [vz i hi3, show 0 + (i + 13) * 1 = 13 + i * 1 by omega] at this
    exact this) ?_)
   unfold F_35
   refine tri_bdret (tri_f (by simp) ?_)
   rw [wr64 (by omega) (by omega)]
   have : (decide (([0, 0, 0] : List Nat)[i] ≠ 0)) = false := by
    match i, hi3 with
    | 0, _ => rfl
    | 1, _ => rfl
    | 2, _ => rfl
   rw [this] at k
   exact k
  ·unfold F_3r
   exact tri_f (by simp) k
 refine tri_call [0, 0, 0] hcf fun r29 => tri_pu fun h29 => tri_flat ?_
 subst h29
 dsimp only [sel, rem, nth, del, cat, upd]
 refine tri_call [0, 0, 0] (Q := fun c' => pu (c' = false) (stars [pts c (.cells (inoC n) false), pts b (.cells (u64s (inoNs n ++ [0, 0, 0])) false), T])) ?_ fun c' => tri_pu fun hc' => tri_flat ?_
 ·refine tri_t rfl (tri_ldn 0 rfl (by rw [inoC_len]; omega) ?_)
  rw [List.drop_zero, List.take_of_length_le (by rw [inoC_len]; omega), inoright_eq (by omega), Ino.ok_iff.2 h]
  exact tri_bdret (tri_end [0, 0, 0] fun q hq => ⟨rfl, hq⟩)
 ·subst hc'
  dsimp only [sel, rem, nth, del, cat, upd]
  refine tri_f (by simp) (tri_ldn 0 rfl (by rw [inoC_len]; omega) ?_)
  rw [List.drop_zero, List.take_of_length_le (by rw [inoC_len]; omega), if_pos ⟨inoC_len n, by rw [inoC_len]; omega, inoC_cell n⟩]
  refine tri_bdret ?_
  rw [over_self (by rw [inoC_len, inoC_len]), if_pos (by rw [inoC_len]; omega), List.drop_zero, List.take_of_length_le (by rw [inoC_len]; omega)]
  exact tri_bdret (tri_end [2] fun q hq => ⟨rfl, hq⟩)
end
end Go.Moat

/- Layer 14: what is known of a disk. -/
namespace Go.Moat
open Go.Mini
structure MetaS where
 rows : List Row
 own : List Nat
 used : List UInt8
 ino : List Ino
 deriving DecidableEq
structure MetaOk (g : Geo) (M : MetaS) : Prop where
 rows : RowsOk M.rows
 ownl : M.own.length = g.G
 own16 : ∀ o ∈ M.own, o ≤ 16
 usedl : M.used.length = 64
 used0 : ∀ i, g.B ≤ i → getBit M.used i = false
 inol : M.ino.length = g.I
 inok : ∀ n ∈ M.ino, n.Ok
abbrev ownC (o : List Nat) : List MV := i64s (o.map fun (x : Nat) => (x : Int))
theorem ownC_len (o : List Nat) : (ownC o).length = o.length := by simp [i64s_len]
abbrev inosC (l : List Ino) : List MV := catL inoC l
def rowNs (rs : List Row) : List Nat := (rs.map fun r => [r.1, r.2]).flatten
def rowsB (rs : List Row) : List UInt8 := lays 2 (rowNs rs)
def ownB (o : List Nat) : List UInt8 := filled (o.map UInt8.ofNat) 64
def pairsB : List Ino → List (List UInt8)
 | a :: b :: r => (inoB a ++ inoB b) :: pairsB r
 | _ => []
def metaB (M : MetaS) : List (List UInt8) := rowsB M.rows :: ownB M.own :: M.used :: pairsB M.ino
theorem rowNs_len : ∀ (rs : List Row), (rowNs rs).length = rs.length * 2
 | [] => rfl
 | r :: rs => by
  have := rowNs_len rs
  unfold rowNs at this ⊢
  simp only [List.map_cons, List.flatten_cons, List.length_append, this, List.length_cons, List.length_nil]
  omega
theorem rowNs_get {rs : List Row} {i : Nat} (h : i < rs.length) : (rowNs rs)[2 * i]? = some rs[i].1 ∧ (rowNs rs)[2 * i + 1]? = some rs[i].2 := by
 induction rs generalizing i with
 | nil => simp at h
 | cons r rs ih =>
  cases i with
  | zero => exact ⟨rfl, rfl⟩
  | succ i =>
   have := ih (i := i) (by simpa using h)
   rw [show 2 * (i + 1) = (2 * i) + 2 by omega, show 2 * i + 2 + 1 = (2 * i + 1) + 2 by omega]
   simpa [rowNs] using this
theorem rowNs_lt {rs : List Row} (ok : RowsOk rs) : ∀ x ∈ rowNs rs, x < 256 ^ 2 := by
 intro x hx
 obtain ⟨y, hy, hxy⟩ := List.mem_flatten.1 hx
 obtain ⟨r, hr, rfl⟩ := List.mem_map.1 hy
 have := ok.rng r hr
 simp at hxy
 omega
theorem pairsB_len : ∀ (l : List Ino), (pairsB l).length = l.length / 2
 | [] => rfl
 | [_] => by simp [pairsB]
 | a :: b :: r => by
  simp only [pairsB, List.length_cons, pairsB_len r]
  omega
theorem pairsB_get : ∀ {l : List Ino} {i : Nat} (h : 2 * i + 1 < l.length), (pairsB l)[i]? = some (inoB l[2 * i] ++ inoB l[2 * i + 1])
 | [], i, h => by simp at h
 | [_], i, h => by simp at h
 | a :: b :: r, 0, h => rfl
 | a :: b :: r, i + 1, h => by
  have := pairsB_get (l := r) (i := i) (by simp at h; omega)
  simp only [pairsB, List.getElem?_cons_succ, this]
  rfl
def slsC (ls : List (Sl × List UInt8)) : List MV := ls.map fun x => .sl x.1.p x.1.len 1
theorem slsC_len (ls : List (Sl × List UInt8)) : (slsC ls).length = ls.length := by simp [slsC]
structure RdL (T : HA) (s : Sl) (ls : List (Sl × List UInt8)) : Prop where
 hd : RdC T s 1 (slsC ls)
 el : ∀ x ∈ ls, RdC T x.1 1 (bytesOf x.2)
section
variable {N : Nat} {β : Type} {l : List HA} {S : β → HA} {T : HA} {s : Sl}
theorem RdL.len {ls : List (Sl × List UInt8)} (h : RdL T s ls) : s.len = ls.length := by
 have := h.hd.1
 rw [slsC_len] at this
 omega
theorem tri_rls (n : Nat) (hl : l[n]? = some T) {ls : List (Sl × List UInt8)} (h : RdL T s ls) {i : Nat} (hi : i < ls.length) {f : Sl → M β} (kk : RdC T ls[i].1 1 (bytesOf ls[i].2) → Tri (stars l) (f ls[i].1) S) : Tri (stars l) (bd (idx 1 s (i : Int)) fun q => bd (ldL 1 q) f) S :=
 tri_rL n hl h.hd (p := ls[i].1.p) (ln := ls[i].1.len) (by simp [slsC, hi]) (kk (h.el _ (List.getElem_mem hi)))
theorem itakeR_spec {rs : List Row} (ok : RowsOk rs) (hr : RdC T s 1 (bytesOf (rowsB rs))) (hN : 5000 < N) : Tri (stars [T]) (F_25 N s) fun r => pu (r.2 = 0) (stars [OwnA r.1 2 (rowsC rs), T]) := by
 have h16 := ok.len
 have hB : (rowsB rs).length = 64 := by rw [rowsB, lays_len, rowNs_len, h16]
 unfold F_25
 refine tri_call [0] (take_spec (size := 2) (k := 32) hr (by omega) (by omega) (by rw [hB]) (by rw [hB]; omega) hN) fun r => tri_pu fun hr2 => tri_flat ?_
 dsimp only [sel, rem, nth, del, cat, upd]
 have e32 : chunks 2 32 (rowsB rs) = rowNs rs := by
  have := chunks_lays (size := 2) (rowNs rs) (rowNs_lt ok)
  rw [rowNs_len, h16] at this
  exact this
 rw [e32]
 refine own_ln 0 rfl fun h0 => ?_
 rw [u64s_len, rowNs_len, h16] at h0
 refine tri_f (by simp [hr2]; omega) ?_
 have loop : ∀ (K j : Nat) (w : Sl), 16 - j < K → j ≤ 16 → Tri (stars [OwnA w 2 (rowsC (rs.take j)), OwnA r.1 1 (u64s (rowNs rs)), T]) (iter K (F_3q N r) (w, ((2 * j : Nat) : Int))) fun w => stars [OwnA w 2 (rowsC rs), OwnA r.1 1 (u64s (rowNs rs)), T] := by
  intro K
  induction K with
  | zero => intro j w h; omega
  | succ K ih =>
   intro j w h hj
   rw [iter_S]
   unfold F_3q
   by_cases hjk : j < 16
   ·refine tri_t (by simp; omega) ?_
    have hjl : j < rs.length := by omega
    have g1 : (u64s (rowNs rs))[2 * j]? = some (.int .u64 rs[j].1) := by unfold u64s; rw [List.getElem?_map, (rowNs_get hjl).1]; rfl
    have g2 : (u64s (rowNs rs))[2 * j + 1]? = some (.int .u64 rs[j].2) := by unfold u64s; rw [List.getElem?_map, (rowNs_get hjl).2]; rfl
    have hro : RdC (OwnA r.1 1 (u64s (rowNs rs))) r.1 1 (u64s (rowNs rs)) := rd_own (by rw [u64s_len, rowNs_len, h16]; omega)
    refine tri_rI 1 rfl hro g1 ?_
    dsimp only
    have e1 : wr .i64 (((2 * j : Nat) : Int) + 1) = ((2 * j + 1 : Nat) : Int) := by rw [wr64 (by omega) (by omega)]; omega
    have e2 : wr .i64 (((2 * j : Nat) : Int) + 2) = ((2 * (j + 1) : Nat) : Int) := by rw [wr64 (by omega) (by omega)]; omega
    rw [e1, e2]
    refine tri_rI 1 rfl hro g2 ?_
    have hrng := ok.rng _ (List.getElem_mem hjl)
    rw [wr16 (by omega) (by omega), wr64 (by omega) (by omega)]
    refine tri_alloc fun b => ?_
    refine own_ln 1 rfl fun hw => ?_
    rw [catL_len rowC_len, List.length_take] at hw
    refine tri_call [1, 0] (rd_app (T := pts b (.cells (rowC rs[j]) false)) (ts := rowC rs[j]) (rd_pts0 (by simp [rowC])) (by omega) (rowC_cell _) (by
     have : most = 70368744177664 := rfl
     dsimp only
     omega)) fun w' => tri_flat ?_
    dsimp only [sel, rem, nth, del, cat, upd]
    have e3 : rowsC (rs.take j) ++ rowC rs[j] = rowsC (rs.take (j + 1)) := catL_snoc hjl
    rw [e3]
    exact tri_last [0, 1, 1] (ih (j + 1) w' (by omega) (by omega))
   ·obtain rfl : j = 16 := by omega
    refine tri_f (by simp; omega) (tri_ret fun q hq => ?_)
    rw [List.take_of_length_le (by omega)] at hq
    exact hq
 refine Tri.pre (B := stars [OwnA ⟨none, 0⟩ 2 (rowsC (rs.take 0)), OwnA r.1 1 (u64s (rowNs rs)), T]) ?_ fun q hq => ent_emp (fun q h => .nil 2 h) hq
 refine tri_call [0, 0, 0] (loop N 0 ⟨none, 0⟩ (by omega) (by omega)) fun w => tri_flat ?_
 dsimp only [sel, rem, nth, del, cat, upd]
 refine own_ln 0 rfl fun hw => ?_
 refine tri_call [0] (iright_spec ok (rd_own hw) (by omega)) fun r => tri_pu fun h => tri_flat ?_
 subst h
 exact tri_f (by simp) (tri_end [0, 1] fun q hq => ⟨rfl, hq⟩)
theorem tri_inoRow (n : Nat) (hl : l[n]? = some T) {is : List Ino} (hr : RdC T s 14 (inosC is)) {i : Nat} (hi : i < is.length) {f : List MV → M β} (kk : Tri (stars l) (f (inoC is[i])) S) : Tri (stars l) (bd (idx 14 s (i : Int)) fun q => bd (ldn 14 q) f) S :=
 tri_rn n hl hr (by have := hr.1; rw [catL_len inoC_len] at this; omega) (by rw [catL_at inoC_len hi]; exact kk)
theorem ino_copy {n m : Ino} {f : List MV → M β} {A : HA} (k : Tri A (f (inoC n)) S) : Tri A (bd (if (inoC n).length = 14 ∧ 0 + 14 ≤ (inoC m).length ∧ (inoC n).all isCell = true then ret () else fail) fun _ => bd (if 0 + 14 ≤ (over (inoC m) 0 (inoC n)).length then ret (((over (inoC m) 0 (inoC n)).drop 0).take 14) else fail) f) S := by
 rw [if_pos ⟨inoC_len n, by rw [inoC_len]; omega, inoC_cell n⟩]
 refine tri_bdret ?_
 rw [over_self (by rw [inoC_len, inoC_len]), if_pos (by rw [inoC_len]; omega), List.drop_zero, List.take_of_length_le (by rw [inoC_len]; omega)]
 exact tri_bdret k
theorem ino_copy1 {n m : Ino} {f : Unit → M β} {A : HA} (k : Tri A (f ()) S) : Tri A (bd (if (inoC n).length = 14 ∧ 0 + 14 ≤ (inoC m).length ∧ (inoC n).all isCell = true then ret () else fail) f) S := by
 rw [if_pos ⟨inoC_len n, by rw [inoC_len]; omega, inoC_cell n⟩]
 exact tri_bdret k
theorem ino_copy2 {n m : Ino} {f : List MV → M β} {A : HA} (k : Tri A (f (inoC n)) S) : Tri A (bd (if 0 + 14 ≤ (over (inoC m) 0 (inoC n)).length then ret (((over (inoC m) 0 (inoC n)).drop 0).take 14) else fail) f) S := by
 rw [over_self (by rw [inoC_len, inoC_len]), if_pos (by rw [inoC_len]; omega), List.drop_zero, List.take_of_length_le (by rw [inoC_len]; omega)]
 exact tri_bdret k
theorem over_ino (n m : Ino) : over (inoC m) 0 (inoC n) = inoC n := over_self (by rw [inoC_len, inoC_len])
theorem minodes_spec {is : List Ino} {ls : List (Sl × List UInt8)} (hok : ∀ n ∈ is, n.Ok) (h2 : is.length % 2 = 0) (h64 : is.length ≤ 64) (hr : RdL T s ls) (hls : ls.map (·.2) = pairsB is) (hN : 5000 < N) :
  Tri (stars [T]) (F_28 N s) fun r => pu (r.2 = true) (stars [OwnA r.1 14 (inosC is), T]) := by
 have hlen := hr.len
 have hl2 : ls.length = is.length / 2 := by rw [← pairsB_len, ← hls, List.length_map]
 unfold F_28
 have step : ∀ (K : Nat) (w y : Sl) (m j : Nat) (hj : j < is.length) (Q : Sl ⊕ (Sl × Bool) → HA) (b0 b1 : List UInt8), w.len = m → m ≤ 100 → RdC T y 1 (bytesOf (b0 ++ inoB is[j] ++ b1)) → y.len ≤ 64 → (b0.length = 0 ∨ b0.length = 32) →
   (∀ w', w'.len = m + 1 → Tri (stars [OwnA w' 14 (inosC (is.take j) ++ inoC is[j]), T]) (iter K (F_1u N y) (w', ((b0.length + 32 : Nat) : Int))) Q) →
   Tri (stars [OwnA w 14 (inosC (is.take j)), T]) (iter (K + 1) (F_1u N y) (w, (b0.length : Int))) Q := by
  intro K w y m j hj Q b0 b1 hw hm hy hy64 hb0 kk
  have hyl := bl_len hy
  rw [List.length_append, List.length_append, inoB_len] at hyl
  rw [iter_S]
  unfold F_1u
  refine tri_t (by simp; omega) ?_
  dsimp only
  have e1 : wr .i64 ((b0.length : Int) + 32) = ((b0.length + 32 : Nat) : Int) := by rw [wr64 (by omega) (by omega)]; omega
  rw [e1]
  refine tri_slc (by omega) (by omega) (by omega) ?_
  have hs := rd_subB hy (lo := b0.length) (hi := b0.length + 32) (by omega) (by omega)
  rw [Int.toNat_natCast, Int.toNat_natCast]
  have e2 : ((b0 ++ inoB is[j] ++ b1).drop b0.length).take (b0.length + 32 - b0.length) = inoB is[j] := by
   rw [List.append_assoc, List.drop_left, List.take_left' (by rw [inoB_len]; omega)]
  rw [e2] at hs
  have hokj := hok _ (List.getElem_mem hj)
  refine tri_call [1] (itake_spec hokj hs hN) fun r => tri_pu fun h => tri_flat ?_
  subst h
  dsimp only [sel, rem, nth, del, cat, upd]
  rw [zino_c]
  refine ino_copy1 (tri_f (by simp) (ino_copy2 ?_))
  have e3 : fillV (inoC Ino.z) [(0, some 14, .agg (inoC is[j]))] = some (inoC is[j]) := by
   simp only [fillV, inoC_len, Nat.zero_add, Nat.le_refl, and_self, if_true, over_ino]
  rw [e3]
  refine tri_ok (tri_alloc fun b => ?_)
  refine own_ln 2 rfl fun hwl => ?_
  rw [catL_len inoC_len, List.length_take] at hwl
  refine tri_call [2, 0] (rd_app (T := pts b (.cells (inoC is[j]) false)) (rd_pts0 (k := 1) (by rw [inoC_len])) (by omega) (inoC_cell _) (by
   have : most = 70368744177664 := rfl
   dsimp only
   omega)) fun w' => tri_flat ?_
  dsimp only [sel, rem, nth, del, cat, upd]
  refine own_ln 0 rfl fun hwl' => ?_
  rw [List.length_append, catL_len inoC_len, inoC_len, List.length_take] at hwl'
  exact tri_last [0, 1] (kk w' (by omega))
 have loop : ∀ (K j : Nat) (w : Sl), ls.length - j < K → j ≤ ls.length → Tri (stars [OwnA w 14 (inosC (is.take (2 * j))), T]) (iter K (F_3t N s) (w, (j : Int))) fun r => exA fun w' => pu (r = .inl w') (stars [OwnA w' 14 (inosC is), T]) := by
  intro K
  induction K with
  | zero => intro j w h; omega
  | succ K ih =>
   intro j w h hj
   rw [iter_S]
   unfold F_3t
   by_cases hjk : j < ls.length
   ·refine tri_t (by simp [hlen]; omega) ?_
    refine tri_rls 1 rfl hr hjk fun hy => ?_
    have hg : ls[j].2 = inoB (is[2 * j]'(by omega)) ++ inoB (is[2 * j + 1]'(by omega)) := by
     have h1 := pairsB_get (l := is) (i := j) (by omega)
     rw [← hls, List.getElem?_map, List.getElem?_eq_getElem hjk] at h1
     exact Option.some.inj h1
    have hyl := bl_len hy
    rw [hg, List.length_append, inoB_len, inoB_len] at hyl
    obtain ⟨K', hK'⟩ : ∃ K', N = K' + 3 := ⟨N - 3, by omega⟩
    refine own_ln 0 rfl fun hw => ?_
    rw [catL_len inoC_len, List.length_take] at hw
    refine tri_call [0, 0] (Q := fun r => exA fun w' => pu (r = .inl w') (stars [OwnA w' 14 (inosC (is.take (2 * (j + 1)))), T])) ?_ fun r => tri_ex fun w' => tri_pu fun hr' => tri_flat ?_
    ·show Tri _ (iter N _ _) _
     conv => arg 2; arg 1; rw [hK']
     refine step (K' + 2) w ls[j].1 (2 * j) (2 * j) (by omega) _ [] (inoB (is[2 * j + 1]'(by omega))) (by omega) (by omega) (by rw [List.nil_append, ← hg]; exact hy) (by omega) (.inl rfl) fun w1 hw1 => ?_
     have e1 : inosC (is.take (2 * j)) ++ inoC (is[2 * j]'(by omega)) = inosC (is.take (2 * j + 1)) := catL_snoc (by omega)
     rw [e1]
     have hb : ([] : List UInt8).length + 32 = (inoB (is[2 * j]'(by omega))).length := by rw [inoB_len]; rfl
     rw [hb]
     refine step (K' + 1) w1 ls[j].1 (2 * j + 1) (2 * j + 1) (by omega) _ (inoB (is[2 * j]'(by omega))) [] (by omega) (by omega) (by rw [List.append_nil, ← hg]; exact hy) (by omega) (.inr (inoB_len _)) fun w2 hw2 => ?_
     have e2 : inosC (is.take (2 * j + 1)) ++ inoC (is[2 * j + 1]'(by omega)) = inosC (is.take (2 * (j + 1))) := catL_snoc (by omega)
     rw [e2, iter_S]
     unfold F_1u
     refine tri_f (by simp [inoB_len]; omega) (tri_ret fun q hq => ⟨w2, rfl, hq⟩)
    ·subst hr'
     dsimp only
     rw [wr64 (by omega) (by omega)]
     exact ih (j + 1) w' (by omega) (by omega)
   ·obtain rfl : j = ls.length := by omega
    refine tri_f (by simp [hlen]) (tri_ret fun q hq => ⟨w, rfl, ?_⟩)
    rw [List.take_of_length_le (by omega)] at hq
    exact hq
 refine Tri.pre (B := stars [OwnA ⟨none, 0⟩ 14 (inosC (is.take 0)), T]) ?_ fun q hq => ent_emp (fun q h => .nil 14 h) hq
 refine tri_call [0, 0] (loop N 0 ⟨none, 0⟩ (by omega) (by omega)) fun r => tri_ex fun w' => tri_pu fun hr' => tri_flat ?_
 subst hr'
 exact tri_end [0, 0] fun q hq => ⟨rfl, hq⟩
structure RdM (T : HA) (m : Sl × Sl × Sl × Sl) (M : MetaS) : Prop where
 rows : RdC T m.1 2 (rowsC M.rows)
 own : RdC T m.2.1 1 (ownC M.own)
 used : RdC T m.2.2.1 1 (bytesOf M.used)
 ino : RdC T m.2.2.2 14 (inosC M.ino)
theorem cntB_zero {bs : List UInt8} {lo hi : Nat} (h : ∀ i, lo ≤ i → getBit bs i = false) : cntB bs lo hi = 0 := by
 unfold cntB
 rw [List.length_eq_zero_iff, List.filter_eq_nil_iff]
 intro i hi'
 rw [List.mem_range'] at hi'
 obtain ⟨k, hk, rfl⟩ := hi'
 simpa using h (lo + k) (by omega)
theorem mright_spec {g : Geo} {M : MetaS} {m : Sl × Sl × Sl × Sl} (hg : g.ok) (ok : MetaOk g M) (hr : RdM T m M) (hN : 5000 < N) : Tri (stars [T]) (F_29 N g.t m) fun r => pu (r = true) (stars [T]) := by
 have l2 : m.2.1.len = M.own.length := by
  have := hr.own.1
  rw [ownC_len] at this
  omega
 have l3 := bl_len hr.used
 have l4 : m.2.2.2.len = M.ino.length := by
  have := hr.ino.1
  rw [catL_len inoC_len] at this
  omega
 have hgG := hg.g2
 have hgI := hg.i2
 have hgB := hg.gp
 unfold F_29
 have e := right_eq (N := N) hg
 unfold Geo.t at e ⊢
 rw [e]
 refine tri_bdret ?_
 refine tri_call [0] (Q := fun c => pu (c = false) (stars [T])) ?_ fun c => tri_pu fun hc => tri_flat ?_
 ·refine tri_t rfl (tri_call [0] (iright_spec ok.rows hr.rows (by omega)) fun r => tri_pu fun h => tri_flat (tri_end [0] fun q hq => ⟨by rw [h]; rfl, hq⟩))
 subst hc
 dsimp only [sel, rem, nth, del, cat, upd]
 refine tri_f (by simp [l2, l3, l4, ok.ownl, ok.usedl, ok.inol]) ?_
 have loop1 : ∀ (K j : Nat), M.own.length - j < K → j ≤ M.own.length → Tri (stars [T]) (iter K (F_3v N m) (j : Int)) fun r => pu (r = .inl ()) (stars [T]) := by
  intro K
  induction K with
  | zero => intro j h; omega
  | succ K ih =>
   intro j h hj
   rw [iter_S]
   unfold F_3v
   by_cases hjk : j < M.own.length
   ·refine tri_t (by simp [l2]; omega) ?_
    refine tri_rI 0 rfl hr.own (v := (M.own[j] : Nat)) (k := .i64) (by simp [i64s, hjk]) ?_
    have := ok.own16 _ (List.getElem_mem hjk)
    refine tri_f (by simp; omega) ?_
    rw [wr64 (by have := ok.ownl; omega) (by have := ok.ownl; omega)]
    exact ih (j + 1) (by omega) (by omega)
   ·obtain rfl : j = M.own.length := by omega
    exact tri_f (by simp [l2]) (tri_ret fun q hq => ⟨rfl, hq⟩)
 have loop2 : ∀ (K j : Nat), M.ino.length - j < K → j ≤ M.ino.length → Tri (stars [T]) (iter K (F_3w N m) (j : Int)) fun r => pu (r = .inl ()) (stars [T]) := by
  intro K
  induction K with
  | zero => intro j h; omega
  | succ K ih =>
   intro j h hj
   rw [iter_S]
   unfold F_3w
   by_cases hjk : j < M.ino.length
   ·refine tri_t (by simp [l4]; omega) ?_
    refine tri_inoRow 0 rfl hr.ino hjk ?_
    rw [zino_c]
    refine ino_copy ?_
    rw [inoright_eq (by omega), Ino.ok_iff.2 (ok.inok _ (List.getElem_mem hjk))]
    refine tri_bdret (tri_f (by simp) ?_)
    rw [wr64 (by have := ok.inol; omega) (by have := ok.inol; omega)]
    exact ih (j + 1) (by omega) (by omega)
   ·obtain rfl : j = M.ino.length := by omega
    exact tri_f (by simp [l4]) (tri_ret fun q hq => ⟨rfl, hq⟩)
 refine tri_call [0] (loop1 N 0 (by have := ok.ownl; omega) (by omega)) fun r => tri_pu fun h => tri_flat ?_
 subst h
 dsimp only [sel, rem, nth, del, cat, upd]
 refine tri_call [0] (loop2 N 0 (by have := ok.inol; omega) (by omega)) fun r => tri_pu fun h => tri_flat ?_
 subst h
 dsimp only [sel, rem, nth, del, cat, upd]
 have e1 : wr .i64 ((g.G : Int) * (g.P : Int)) = (g.B : Int) := by
  have : (g.G : Int) * (g.P : Int) = ((g.G * g.P : Nat) : Int) := by simp
  rw [this, wr64 (by omega) (by omega)]
  rfl
 have e2 : wr .i64 ((8 : Int) * (m.2.2.1.len : Int)) = ((8 * M.used.length : Nat) : Int) := by
  rw [l3, ok.usedl]
  decide
 rw [e1, e2]
 refine tri_call [0] (count_spec hr.used (by have := ok.usedl; omega) (by have := ok.usedl; unfold Geo.B; omega) (Nat.le_refl _) hN) fun r => tri_pu fun h => tri_flat (tri_end [0] fun q hq => ⟨?_, hq⟩)
 rw [h, cntB_zero ok.used0]
 rfl
theorem byte1 (x : UInt8) : leN [x] = x.toNat := by simp [leN]
theorem chunks_one : ∀ (bs : List UInt8), chunks 1 bs.length bs = bs.map UInt8.toNat
 | [] => rfl
 | b :: r => by
  have := chunks_one r
  simp only [List.length_cons, chunks, List.take_succ_cons, List.take_zero, List.drop_succ_cons, List.drop_zero, byte1, this, List.map_cons]
theorem mtake_spec {g : Geo} {M : MetaS} {ls : List (Sl × List UInt8)} (hg : g.ok) (ok : MetaOk g M) (hr : RdL T s ls) (hls : ls.map (·.2) = metaB M) (hN : 5000 < N) :
  Tri (stars [T]) (F_2a N g.t s) fun r => pu (r.2 = 0) (stars [OwnA r.1.1 2 (rowsC M.rows), OwnA r.1.2.1 1 (ownC M.own), OwnA r.1.2.2.1 1 (bytesOf M.used), OwnA r.1.2.2.2 14 (inosC M.ino), T]) := by
 have hgG := hg.g2
 have hgI := hg.i2
 have hi3 := hg.i3
 have hlen := hr.len
 have hll : ls.length = 3 + M.ino.length / 2 := by
  have := congrArg List.length hls
  rw [List.length_map] at this
  simp only [metaB, List.length_cons, pairsB_len] at this
  omega
 have hM : g.M = 3 + g.I / 2 := rfl
 have hil := ok.inol
 have hol := ok.ownl
 have hul := ok.usedl
 have rB : (rowsB M.rows).length = 64 := by rw [rowsB, lays_len, rowNs_len, ok.rows.len]
 have oB : (ownB M.own).length = 64 := filled_len (by rw [List.length_map]; omega)
 have get : ∀ i (hi : i < ls.length), ls[i].2 = (metaB M)[i]'(by rw [← hls, List.length_map]; exact hi) := by
  intro i hi
  simp [← hls]
 have b64 : ∀ i (hi : i < ls.length), ls[i].2.length = 64 := by
  intro i hi
  rw [get i hi]
  match i, hi with
  | 0, _ => exact rB
  | 1, _ => exact oB
  | 2, _ => exact hul
  | i + 3, hi =>
   have h1 := pairsB_get (l := M.ino) (i := i) (by omega)
   have h2 : (pairsB M.ino)[i]'(by rw [pairsB_len]; omega) = inoB (M.ino[2 * i]'(by omega)) ++ inoB (M.ino[2 * i + 1]'(by omega)) := by
    rw [List.getElem?_eq_getElem (by rw [pairsB_len]; omega)] at h1
    exact Option.some.inj h1
   show ((pairsB M.ino)[i]'_).length = 64
   rw [h2, List.length_append, inoB_len, inoB_len]
 have sl64 : ∀ i (hi : i < ls.length), ls[i].1.len = 64 := by
  intro i hi
  have := bl_len (hr.el _ (List.getElem_mem hi))
  rw [b64 i hi] at this
  exact this
 unfold F_2a
 have e := right_eq (N := N) hg
 have e' := meta_eq (N := N) hg
 unfold Geo.t at e e' ⊢
 rw [e, e']
 refine tri_bdret ?_
 rw [if_pos (by simp)]
 refine tri_bdret (tri_bdret ?_)
 refine tri_f (by simp; omega) ?_
 have loop1 : ∀ (K j : Nat), ls.length - j < K → j ≤ ls.length → Tri (stars [T]) (iter K (F_3x N s) ((j : Int), (⟨none, 0⟩, ⟨none, 0⟩, ⟨none, 0⟩, ⟨none, 0⟩))) fun r => pu (r = .inl (⟨none, 0⟩, ⟨none, 0⟩, ⟨none, 0⟩, ⟨none, 0⟩)) (stars [T]) := by
  intro K
  induction K with
  | zero => intro j h; omega
  | succ K ih =>
   intro j h hj
   rw [iter_S]
   unfold F_3x
   by_cases hjk : j < ls.length
   ·refine tri_t (by simp [hlen]; omega) ?_
    refine tri_rls 0 rfl hr hjk fun _ => ?_
    refine tri_f (by rw [sl64 j hjk]; simp) ?_
    dsimp only
    rw [wr64 (by omega) (by omega)]
    exact ih (j + 1) (by omega) (by omega)
   ·obtain rfl : j = ls.length := by omega
    exact tri_f (by simp [hlen]) (tri_ret fun q hq => ⟨rfl, hq⟩)
 refine tri_call [0] (loop1 N 0 (by omega) (by omega)) fun r => tri_pu fun h => tri_flat ?_
 subst h
 dsimp only [sel, rem, nth, del, cat, upd]
 refine tri_rls (i := 0) 0 rfl hr (by omega) fun h0 => ?_
 rw [get 0 (by omega)] at h0
 refine tri_call [0] (itakeR_spec ok.rows h0 hN) fun r15 => tri_pu fun h15 => tri_flat ?_
 dsimp only [sel, rem, nth, del, cat, upd]
 refine tri_slc (lo := 3) (hi := (s.len : Int)) (by omega) (by omega) (by omega) ?_
 have hsub : RdL T (subS 1 s 3 s.len) (ls.drop 3) := by
  refine ⟨?_, fun x hx => hr.el x (List.mem_of_mem_drop hx)⟩
  have := hr.hd.sub (lo := 3) (hi := s.len) (by omega) (Nat.le_refl _)
  have e3 : ((slsC ls).drop (3 * 1)).take ((s.len - 3) * 1) = slsC (ls.drop 3) := by
   rw [List.take_of_length_le (by rw [List.length_drop, slsC_len]; omega)]
   simp [slsC, List.map_drop]
  rwa [e3] at this
 rw [Int.toNat_natCast, show (3 : Int).toNat = 3 from rfl]
 have hls3 : (ls.drop 3).map (·.2) = pairsB M.ino := by
  rw [List.map_drop, hls]
  rfl
 refine tri_call [1] (minodes_spec ok.inok (by omega) (by omega) hsub hls3 hN) fun r17 => tri_pu fun h17 => tri_flat ?_
 dsimp only [sel, rem, nth, del, cat, upd]
 refine tri_f (by simp [h15, h17]) ?_
 refine tri_rls (i := 1) 1 rfl hr (by omega) fun h1 => ?_
 rw [get 1 (by omega)] at h1
 have h1' : RdC T (ls[1]'(by omega)).1 1 (bytesOf (ownB M.own)) := h1
 refine tri_call [1] (take_spec (size := 1) (k := 64) h1' (by omega) (by omega) (by rw [oB]) (by rw [oB]; omega) hN) fun r20 => tri_pu fun h20 => tri_flat ?_
 dsimp only [sel, rem, nth, del, cat, upd]
 refine tri_rls (i := 2) 1 rfl hr (by omega) fun h2 => ?_
 rw [get 2 (by omega)] at h2
 have h2' : RdC T (ls[2]'(by omega)).1 1 (bytesOf M.used) := h2
 refine tri_call [1] (show Tri _ (cloneM 1 1 _) _ from rd_clone h2' (by omega) (bytes_cell _) (by
  have : most = 70368744177664 := rfl
  have := sl64 2 (by omega)
  omega)) fun r23 => tri_flat ?_
 dsimp only [sel, rem, nth, del, cat, upd]
 have e64 : chunks 1 64 (ownB M.own) = M.own ++ List.replicate (64 - g.G) 0 := by
  have h3 := chunks_one (ownB M.own)
  rw [oB] at h3
  rw [h3]
  unfold ownB filled
  rw [List.map_append, List.map_map, List.length_map, hol]
  have : M.own.map (UInt8.toNat ∘ UInt8.ofNat) = M.own := by
   conv => rhs; rw [← List.map_id M.own]
   apply List.map_congr_left
   intro o ho
   have := ok.own16 o ho
   simp
   omega
  rw [this]
  simp
 rw [e64]
 have gown : ∀ j (hj : j < 64), (u64s (M.own ++ List.replicate (64 - g.G) 0))[j]? = some (.int .u64 (if h : j < M.own.length then M.own[j] else 0 : Nat)) := by
  intro j hj
  unfold u64s
  rw [List.getElem?_map]
  by_cases h : j < M.own.length
  ·rw [List.getElem?_append_left h, List.getElem?_eq_getElem h, dif_pos h]
   rfl
  ·rw [List.getElem?_append_right (by omega), List.getElem?_replicate, if_pos (by omega), dif_neg h]
   rfl
 refine own_ln 2 rfl fun h20l => ?_
 rw [u64s_len, List.length_append, List.length_replicate] at h20l
 have loop2 : ∀ (K j : Nat) (w : Sl), 64 - j < K → j ≤ 64 → Tri (stars [OwnA w 1 (ownC (M.own.take j)), OwnA r20.1 1 (u64s (M.own ++ List.replicate (64 - g.G) 0))])
   (iter K (F_3y N (g.J, g.I, g.G, g.P) r20) ((j : Int), (⟨none, 0⟩, ⟨none, 0⟩, ⟨none, 0⟩, ⟨none, 0⟩), (r15.1, w, r23, r17.1)))
   fun r => exA fun w' => pu (r = .inl ((⟨none, 0⟩, ⟨none, 0⟩, ⟨none, 0⟩, ⟨none, 0⟩), (r15.1, w', r23, r17.1))) (stars [OwnA w' 1 (ownC M.own)]) := by
  intro K
  induction K with
  | zero => intro j w h; omega
  | succ K ih =>
   intro j w h hj
   rw [iter_S]
   unfold F_3y
   by_cases hjk : j < 64
   ·refine tri_t (by simp; omega) ?_
    refine tri_rI 1 rfl (rd_own (by rw [u64s_len, List.length_append, List.length_replicate]; omega)) (gown j hjk) ?_
    dsimp only
    rw [wr64 (n := (j : Int) + 1) (by omega) (by omega)]
    by_cases hjg : j < M.own.length
    ·rw [dif_pos hjg]
     have ho := ok.own16 _ (List.getElem_mem hjg)
     rw [wr64 (n := ((M.own[j] : Nat) : Int)) (by omega) (by omega)]
     refine tri_call [0, 0] (Q := fun r => exA fun w' => pu (r = .inl ((⟨none, 0⟩, ⟨none, 0⟩, ⟨none, 0⟩, ⟨none, 0⟩), (r15.1, w', r23, r17.1))) (stars [OwnA w' 1 (ownC (M.own.take (j + 1))), OwnA r20.1 1 (u64s (M.own ++ List.replicate (64 - g.G) 0))])) ?_ fun r => tri_ex fun w' => tri_pu fun hr' => tri_flat ?_
     ·refine tri_t (by simp; omega) ?_
      refine tri_alloc fun b => ?_
      refine own_ln 1 rfl fun hw => ?_
      rw [ownC_len, List.length_take] at hw
      refine tri_call [1, 0] (rd_app (T := pts b (.cells [.int .i64 (M.own[j] : Nat)] false)) (rd_pts0 (by simp)) (by omega) rfl (by
       have : most = 70368744177664 := rfl
       dsimp only
       omega)) fun w' => tri_flat ?_
      refine tri_end [0, 1] fun q hq => ⟨w', rfl, ?_⟩
      have e5 : ownC (M.own.take j) ++ [.int .i64 (M.own[j] : Nat)] = ownC (M.own.take (j + 1)) := by
       unfold ownC i64s
       rw [List.take_succ_eq_append_getElem hjg, List.map_append, List.map_append]
       rfl
      rw [e5] at hq
      exact hq
     ·subst hr'
      exact ih (j + 1) w' (by omega) (by omega)
    ·rw [dif_neg hjg]
     refine tri_call [0, 0] (Q := fun r => pu (r = .inl ((⟨none, 0⟩, ⟨none, 0⟩, ⟨none, 0⟩, ⟨none, 0⟩), (r15.1, w, r23, r17.1))) (stars [OwnA w 1 (ownC (M.own.take j)), OwnA r20.1 1 (u64s (M.own ++ List.replicate (64 - g.G) 0))])) ?_ fun r => tri_pu fun hr' => tri_flat ?_
     ·refine tri_f (by simp; omega) (tri_f (by simp) (tri_end [0, 0] fun q hq => ⟨rfl, hq⟩))
     ·subst hr'
      have e6 : M.own.take j = M.own.take (j + 1) := by rw [List.take_of_length_le (by omega), List.take_of_length_le (by omega)]
      rw [e6]
      exact ih (j + 1) w (by omega) (by omega)
   ·obtain rfl : j = 64 := by omega
    refine tri_f (by simp; omega) (tri_end [0] fun q hq => ⟨w, rfl, ?_⟩)
    rw [List.take_of_length_le (by omega)] at hq
    exact hq
 refine Tri.pre (B := stars [OwnA ⟨none, 0⟩ 1 (ownC (M.own.take 0)), OwnA r23 1 (bytesOf M.used), T, OwnA r20.1 1 (u64s (M.own ++ List.replicate (64 - g.G) 0)), OwnA r17.1 14 (inosC M.ino), OwnA r15.1 2 (rowsC M.rows)]) ?_ fun q hq => ent_emp (fun q h => .nil 1 h) hq
 refine tri_call [0, 2] (loop2 N 0 ⟨none, 0⟩ (by omega) (by omega)) fun r => tri_ex fun w' => tri_pu fun hr' => tri_flat ?_
 subst hr'
 dsimp only [sel, rem, nth, del, cat, upd]
 refine own_ln 0 rfl fun hw => own_ln 1 rfl fun hu => own_ln 3 rfl fun hi => own_ln 4 rfl fun hro => ?_
 refine tri_call [4, 0, 0, 1] (mright_spec (T := stars [OwnA r15.1 2 (rowsC M.rows), OwnA w' 1 (ownC M.own), OwnA r23 1 (bytesOf M.used), OwnA r17.1 14 (inosC M.ino)]) (m := (r15.1, w', r23, r17.1)) hg ok ⟨(rd_own hro).at 0 rfl, (rd_own hw).at 1 rfl, (rd_own hu).at 2 rfl, (rd_own hi).at 3 rfl⟩ hN |>.pre fun q hq => by rw [stars_one]; exact hq) fun r => tri_pu fun h => tri_flat (tri_flat ?_)
 subst h
 dsimp only [sel, rem, nth, del, cat, upd]
 exact tri_f (by simp) (tri_end [0, 0, 0, 0, 0] fun q hq => ⟨rfl, hq⟩)
end
end Go.Moat

/- Layer 5, the disk: what its functions come to, over what a disk is. -/
namespace Go.Moat
open Go.Mini
structure SecS where
 b : List UInt8
 t : Int
def SecS.c (s : SecS) : List MV := bytesOf s.b ++ [.int .u16 s.t]
def SecS.ok (s : SecS) : Prop := s.b.length = 64
def zsec : SecS := ⟨List.replicate 64 0, 0⟩
structure WaitS where
 at' : Nat
 was : SecS
 now : SecS
def WaitS.c (w : WaitS) : List MV := .int .i64 w.at' :: (w.was.c ++ w.now.c)
structure DskS where
 secs : List SecS
 waits : List WaitS
 dead : Bool
 fuse : Int
 done : Int
def secsC (l : List SecS) : List MV := (l.map SecS.c).flatten
def waitsC (l : List WaitS) : List MV := (l.map WaitS.c).flatten
structure DskS.ok (D : DskS) : Prop where
 secs : ∀ s ∈ D.secs, s.ok
 waits : ∀ w ∈ D.waits, w.was.ok ∧ w.now.ok ∧ w.at' < D.secs.length
 many : D.secs.length ≤ 4096
 fuse : -1 ≤ D.fuse ∧ D.fuse ≤ 9223372036854775807
theorem SecS.len {s : SecS} (h : s.ok) : s.c.length = 65 := by
 unfold SecS.c
 rw [List.length_append, bytes_len, h]
 rfl
theorem SecS.cell (s : SecS) : s.c.all isCell = true := by
 unfold SecS.c
 rw [List.all_append, bytes_cell]
 rfl
theorem WaitS.len {w : WaitS} (h : w.was.ok) (h2 : w.now.ok) : w.c.length = 131 := by
 unfold WaitS.c
 rw [List.length_cons, List.length_append, SecS.len h, SecS.len h2]
theorem WaitS.cell (w : WaitS) : w.c.all isCell = true := by
 unfold WaitS.c
 rw [List.all_cons, List.all_append, w.was.cell, w.now.cell]
 rfl
theorem zsec_ok : zsec.ok := by simp [zsec, SecS.ok]
theorem zsec_c : reps 64 [MV.int .u8 (0 : Int)] ++ [MV.int .u16 (0 : Int)] = zsec.c := by
 rw [reps_one]
 simp [zsec, SecS.c, bytesOf]
theorem rows65 {l : List SecS} (h : ∀ s ∈ l, s.ok) : ∀ r ∈ l.map SecS.c, r.length = 65 := by
 intro r hr
 obtain ⟨s, hs, rfl⟩ := List.mem_map.1 hr
 exact SecS.len (h s hs)
theorem rows131 {l : List WaitS} (h : ∀ w ∈ l, w.was.ok ∧ w.now.ok) : ∀ r ∈ l.map WaitS.c, r.length = 131 := by
 intro r hr
 obtain ⟨s, hs, rfl⟩ := List.mem_map.1 hr
 exact WaitS.len (h s hs).1 (h s hs).2
theorem secsC_len {l : List SecS} (h : ∀ s ∈ l, s.ok) : (secsC l).length = l.length * 65 := by
 rw [secsC, flat_len (rows65 h), List.length_map]
theorem secsC_get {l : List SecS} (h : ∀ s ∈ l, s.ok) {i : Nat} (hi : i < l.length) : ((secsC l).drop (i * 65)).take 65 = l[i].c := by
 rw [secsC, flat_get (rows65 h) i (by simpa using hi)]
 simp
theorem secsC_over {l : List SecS} (h : ∀ s ∈ l, s.ok) {s : SecS} (hs : s.ok) {i : Nat} (hi : i < l.length) : over (secsC l) (i * 65) s.c = secsC (l.set i s) := by
 rw [secsC, flat_over (SecS.len hs) (rows65 h) i (by simpa using hi), secsC, List.map_set]
theorem waitsC_len {l : List WaitS} (h : ∀ w ∈ l, w.was.ok ∧ w.now.ok) : (waitsC l).length = l.length * 131 := by
 rw [waitsC, flat_len (rows131 h), List.length_map]
def DiskA (d : Nat) (D : DskS) : HA := exA fun x : Nat × Sl => pu D.ok (stars [pts d (.cells [.sl (some ⟨x.1, 0⟩) D.secs.length 65, .sl x.2.p x.2.len 131, .bool D.dead, .int .i64 D.fuse, .int .i64 D.done] false), pts x.1 (.cells (secsC D.secs) false), OwnA x.2 131 (waitsC D.waits)])
section
variable {d : Nat} {D : DskS} {β : Type} {l : List HA} {m : M β} {S : β → HA}
theorem tri_disk (n : Nat) (hl : l[n]? = some (DiskA d D)) (k : ∀ bs (ws : Sl), D.ok → Tri (stars (pts d (.cells [.sl (some ⟨bs, 0⟩) D.secs.length 65, .sl ws.p ws.len 131, .bool D.dead, .int .i64 D.fuse, .int .i64 D.done] false) :: pts bs (.cells (secsC D.secs) false) :: OwnA ws 131 (waitsC D.waits) :: del l n)) m S) : Tri (stars l) m S :=
 tri_open (γ := Nat × Sl) (φ := fun _ => D.ok) n hl (fun _ ⟨x, h1, h2⟩ => ⟨x, h1, h2⟩) fun x h => k x.1 x.2 h
theorem disk_fold {bs : Nat} {ws : Sl} {q : PH} (hD : D.ok) (h : stars [pts d (.cells [.sl (some ⟨bs, 0⟩) D.secs.length 65, .sl ws.p ws.len 131, .bool D.dead, .int .i64 D.fuse, .int .i64 D.done] false), pts bs (.cells (secsC D.secs) false), OwnA ws 131 (waitsC D.waits)] q) : stars [DiskA d D] q := by
 rw [stars_one]
 exact ⟨(bs, ws), hD, h⟩
def newD (n : Nat) : DskS := ⟨List.replicate n zsec, [], false, -1, 0⟩
theorem newD_ok {n : Nat} (h : n ≤ 4096) : (newD n).ok :=
 ⟨fun s hs => (by rw [(List.mem_replicate.1 hs).2]; exact zsec_ok), fun w hw => (by cases hw), by simpa [newD] using h, by simp [newD]⟩
variable {N : Nat}
theorem disk_new {n : Nat} (h : n ≤ 4096) : Tri (stars []) (F_1v N (n : Int)) fun r => exA fun d => pu (r = (some ⟨d, 0⟩, 0)) (stars [DiskA d (newD n)]) := by
 unfold F_1v
 rw [if_neg (by simp; omega)]
 refine tri_new (l := []) (g := fun b => ⟨some ⟨b, 0⟩, n⟩) (x := .cells (secsC (newD n).secs) false) (fun h' => ?_) fun bs => ?_
 ·unfold mkSl
  rw [if_pos ⟨by omega, by omega, by have : most = 70368744177664 := rfl; omega, by rw [zsec_c]; exact SecS.len zsec_ok⟩, zsec_c]
  simp [newD, secsC, reps_eq]
 ·refine tri_alloc fun d => ?_
  refine tri_end [0, 0] fun q hq => ⟨d, rfl, ?_⟩
  refine disk_fold (bs := bs) (ws := ⟨none, 0⟩) (newD_ok h) ?_
  have : (newD n).secs.length = n := by simp [newD]
  rw [this]
  obtain ⟨q1, q2, h1, ⟨q3, q4, h2, h3, d2, e2⟩, d1, e1⟩ := hq
  exact ⟨q1, q2, h1, ⟨q3, q4, h2, by rw [stars_one]; exact .nil _ h3, d2, e2⟩, d1, e1⟩
theorem disk_len : Tri (stars [DiskA d D]) (F_02 N (some ⟨d, 0⟩)) fun r => pu (r = D.secs.length) (stars [DiskA d D]) := by
 unfold F_02
 refine tri_disk 0 rfl fun bs ws hD => ?_
 exact tri_gL 0 rfl rfl (tri_end [0, 0, 0] fun q hq => ⟨rfl, disk_fold hD hq⟩)
theorem disk_there (i : Int) : Tri (stars [DiskA d D]) (F_15 N (some ⟨d, 0⟩) i) fun r => pu (r = decide (0 ≤ i ∧ i < D.secs.length)) (stars [DiskA d D]) := by
 unfold F_15
 by_cases h : 0 ≤ i
 ·rw [if_pos (by simpa using h)]
  refine tri_call (f := fun c => ret c) [0] (Q := fun r => pu (r = decide (i < D.secs.length)) (stars [DiskA d D])) ?_ fun r => tri_pu fun hr => tri_flat (tri_end [0] fun q hq => ⟨by rw [hr]; simp [h], hq⟩)
  exact tri_call [0] disk_len fun r => tri_pu fun hr => tri_flat (tri_end [0] fun q hq => ⟨by rw [hr], hq⟩)
 ·rw [if_neg (by simpa using h)]
  exact tri_end [0] fun q hq => ⟨by simp [h], hq⟩
def powerE (D : DskS) : Int := if D.dead then 6 else if D.fuse = 0 then 6 else 0
def powerD (D : DskS) : DskS := if D.dead then D else if D.fuse = 0 then { D with dead := true } else { D with fuse := if 0 < D.fuse then D.fuse - 1 else D.fuse, done := D.done + 1 }
theorem disk_power (hd : 0 ≤ D.done) (hd2 : D.done < 9223372036854775807) : Tri (stars [DiskA d D]) (F_16 N (some ⟨d, 0⟩)) fun r => pu (r = powerE D) (stars [DiskA d (powerD D)]) := by
 unfold F_16
 refine tri_disk 0 rfl fun bs ws hD => ?_
 refine tri_gB 0 rfl rfl ?_
 by_cases h1 : D.dead = true
 ·rw [if_pos h1]
  refine tri_end [0, 0, 0] fun q hq => ⟨by unfold powerE; rw [if_pos h1], ?_⟩
  unfold powerD
  rw [if_pos h1]
  exact disk_fold hD hq
 ·rw [if_neg h1]
  refine tri_gI 0 rfl rfl ?_
  by_cases h2 : D.fuse = 0
  ·rw [if_pos (by simpa using h2)]
   refine tri_sF 0 rfl ?_
   refine tri_end [0, 0, 0] fun q hq => ⟨by unfold powerE; rw [if_neg h1, if_pos h2], ?_⟩
   unfold powerD
   rw [if_neg h1, if_pos h2]
   exact disk_fold ⟨hD.1, hD.2, hD.3, hD.4⟩ hq
  ·rw [if_neg (by simpa using h2)]
   refine tri_gI 0 rfl rfl ?_
   have fin : ∀ fz, fz = (if 0 < D.fuse then D.fuse - 1 else D.fuse) → Tri (stars [pts d (.cells [.sl (some ⟨bs, 0⟩) D.secs.length 65, .sl ws.p ws.len 131, .bool D.dead, .int .i64 fz, .int .i64 D.done] false), pts bs (.cells (secsC D.secs) false), OwnA ws 131 (waitsC D.waits)])
     (bd (nonNil (some ⟨d, 0⟩)) fun q_19 => bd (fld q_19 4) fun q_20 => bd (ldI .i64 q_20) fun (y_21 : Int) => bd (nonNil (some ⟨d, 0⟩)) fun q_22 => bd (fld q_22 4) fun q_23 => bd (stc q_23 (MV.int .i64 (wr .i64 (y_21 + (1 : Int))))) fun _ => ret (0 : Int)) fun r => pu (r = powerE D) (stars [DiskA d (powerD D)]) := by
    intro fz hf
    refine tri_gI 0 rfl rfl (tri_sF 0 rfl ?_)
    refine tri_end [0, 0, 0] fun q hq => ⟨by unfold powerE; rw [if_neg h1, if_neg h2], ?_⟩
    unfold powerD
    rw [if_neg h1, if_neg h2]
    rw [wr64 (by omega) (by omega)] at hq
    refine disk_fold (bs := bs) (ws := ws) ⟨hD.1, hD.2, hD.3, ?_⟩ ?_
    ·have := hD.fuse
     dsimp only
     split <;> omega
    ·rw [← hf]
     exact hq
   by_cases h3 : 0 < D.fuse
   ·refine Tri.bd (Q := fun _ => stars [pts d (.cells [.sl (some ⟨bs, 0⟩) D.secs.length 65, .sl ws.p ws.len 131, .bool D.dead, .int .i64 (D.fuse - 1), .int .i64 D.done] false), pts bs (.cells (secsC D.secs) false), OwnA ws 131 (waitsC D.waits)]) ?_ fun _ => fin _ (by rw [if_pos h3])
    rw [if_pos (by simpa using h3)]
    refine tri_gI 0 rfl rfl (tri_sF 0 rfl (tri_ret fun q hq => ?_))
    have := hD.fuse
    rw [wr64 (by omega) (by omega)] at hq
    exact hq
   ·refine Tri.bd (Q := fun _ => stars [pts d (.cells [.sl (some ⟨bs, 0⟩) D.secs.length 65, .sl ws.p ws.len 131, .bool D.dead, .int .i64 D.fuse, .int .i64 D.done] false), pts bs (.cells (secsC D.secs) false), OwnA ws 131 (waitsC D.waits)]) ?_ fun _ => fin _ (by rw [if_neg h3])
    rw [if_neg (by simpa using h3)]
    exact tri_ret fun q hq => hq
theorem powerD_secs : (powerD D).secs = D.secs := by
 unfold powerD
 split
 ·rfl
 ·split <;> rfl
theorem powerD_waits : (powerD D).waits = D.waits := by
 unfold powerD
 split
 ·rfl
 ·split <;> rfl
def flushD (D : DskS) : DskS := if powerE D = 0 then { powerD D with waits := [] } else powerD D
theorem disk_flush (hd : 0 ≤ D.done) (hd2 : D.done < 9223372036854775807) : Tri (stars [DiskA d D]) (F_18 N (some ⟨d, 0⟩)) fun r => pu (r = powerE D) (stars [DiskA d (flushD D)]) := by
 unfold F_18
 refine tri_call [0] (disk_power hd hd2) fun r => tri_pu fun hr => tri_flat ?_
 by_cases h : powerE D = 0
 ·rw [if_neg (by simp [hr, h])]
  refine tri_disk 0 rfl fun bs ws hD => ?_
  refine tri_sF 0 rfl ?_
  refine tri_end [0, 0] fun q hq => ⟨h.symm, ?_⟩
  unfold flushD
  rw [if_pos h]
  refine disk_fold (bs := bs) (ws := ⟨none, 0⟩) ⟨hD.1, fun w hw => (by cases hw), hD.3, hD.4⟩ ?_
  obtain ⟨q1, q2, h1, ⟨q3, q4, h2, h3, d2, e2⟩, d1, e1⟩ := hq
  exact ⟨q1, q2, h1, ⟨q3, q4, h2, by rw [stars_one]; exact .nil _ h3, d2, e2⟩, d1, e1⟩
 ·rw [if_pos (by simp [hr, h])]
  refine tri_end [0] fun q hq => ⟨hr, ?_⟩
  unfold flushD
  rw [if_neg h]
  exact hq
theorem over_all {cs vs : List MV} (h : vs.length = cs.length) : over cs 0 vs = vs := by
 unfold over
 simp [h]
def getE (D : DskS) (i : Int) : Int := if 0 ≤ i ∧ i < D.secs.length then (if D.dead then 6 else 0) else 1
def getS (D : DskS) (i : Int) : SecS := if getE D i = 0 then (D.secs[i.toNat]?).getD zsec else zsec
theorem getS_ok (hD : D.ok) (i : Int) : (getS D i).ok := by
 unfold getS
 split
 ·cases h : D.secs[i.toNat]? with
  | none => exact zsec_ok
  | some s => exact hD.secs s (List.mem_of_getElem? h)
 ·exact zsec_ok
theorem disk_get (i : Int) : Tri (stars [DiskA d D]) (F_1z N (some ⟨d, 0⟩) i) fun r => pu (r = ((getS D i).c, getE D i) ∧ D.ok) (stars [DiskA d D]) := by
 unfold F_1z
 rw [if_neg (by simp)]
 rw [zsec_c]
 have hz : zsec.c.length = 65 := SecS.len zsec_ok
 refine tri_call [0] (disk_there i) fun r => tri_pu fun hr => tri_flat ?_
 have e0 : over zsec.c 0 zsec.c = zsec.c := over_all rfl
 by_cases h : 0 ≤ i ∧ i < D.secs.length
 ·rw [if_neg (by simp [hr, h])]
  refine tri_disk 0 rfl fun bs ws hD => ?_
  refine tri_gB 0 rfl rfl ?_
  by_cases h1 : D.dead = true
  ·rw [if_pos h1, if_pos ⟨hz, by omega, zsec.cell⟩]
   refine tri_bdret ?_
   rw [e0, if_pos (by omega)]
   refine tri_bdret ?_
   refine tri_end [0, 0, 0] fun q hq => ⟨⟨?_, hD⟩, disk_fold hD hq⟩
   have : getE D i = 6 := by unfold getE; rw [if_pos h, if_pos h1]
   rw [this]
   unfold getS
   rw [this, if_neg (by decide), List.drop_zero, List.take_of_length_le (by omega)]
  ·rw [if_neg h1]
   refine tri_gL 0 rfl rfl ?_
   obtain ⟨k, rfl⟩ : ∃ k : Nat, i = k := ⟨i.toNat, by omega⟩
   have hk : k < D.secs.length := by omega
   refine tri_idx hk (tri_ldn 1 rfl (by rw [secsC_len hD.secs]; have := flat_bound (e := 65) hk; omega) ?_)
   rw [Nat.zero_add, secsC_get hD.secs hk]
   have hl := SecS.len (hD.secs _ (List.getElem_mem hk))
   rw [if_pos ⟨hl, by omega, D.secs[k].cell⟩]
   refine tri_bdret ?_
   rw [over_all (by omega), if_pos (by omega)]
   refine tri_bdret ?_
   refine tri_end [0, 0, 0] fun q hq => ⟨⟨?_, hD⟩, disk_fold hD hq⟩
   have : getE D k = 0 := by unfold getE; rw [if_pos h, if_neg h1]
   rw [this]
   unfold getS
   rw [this, if_pos rfl, List.drop_zero, List.take_of_length_le (by omega), Int.toNat_natCast, List.getElem?_eq_getElem hk]
   rfl
 ·rw [if_pos (by simp [hr, h]), if_pos ⟨hz, by omega, zsec.cell⟩]
  refine tri_bdret ?_
  rw [e0, if_pos (by omega)]
  refine tri_bdret ?_
  refine tri_disk 0 rfl fun bs ws hD => ?_
  refine tri_end [0, 0, 0] fun q hq => ⟨⟨?_, hD⟩, disk_fold hD hq⟩
  have : getE D i = 1 := by unfold getE; rw [if_neg h]
  rw [this]
  unfold getS
  rw [this, if_neg (by decide), List.drop_zero, List.take_of_length_le (by omega)]
theorem disk_read (i : Int) : Tri (stars [DiskA d D]) (F_05 N (some ⟨d, 0⟩) i) fun r => pu (r.2 = getE D i ∧ (getE D i ≠ 0 → r.1 = ⟨none, 0⟩)) (stars [DiskA d D, if getE D i = 0 then OwnA r.1 1 (bytesOf (getS D i).b) else emp]) := by
 unfold F_05
 refine tri_call [0] (disk_get i) fun r => tri_pu fun ⟨hr, hD⟩ => tri_flat ?_
 subst hr
 rw [zsec_c]
 have hz : zsec.c.length = 65 := SecS.len zsec_ok
 have hg := SecS.len (getS_ok hD i)
 refine tri_alloc fun v => ?_
 refine tri_stn 0 rfl hg (by omega) (SecS.cell _) ?_
 rw [over_all (by omega)]
 by_cases h : getE D i = 0
 ·rw [if_neg (by simp [h])]
  refine tri_fl ?_
  refine tri_read 0 rfl (fun _ hg' => slcA_eq hg' (by omega) (by omega) (by omega) (by omega)) ?_
  refine tri_call [0] (pts_clone (k := 64) (cs := (getS D i).c) (ro := false) (e := 1) (by' := 1) (by omega) (by omega) (by
   rw [List.all_eq_true]
   exact fun x hx => List.all_eq_true.1 (SecS.cell _) x (List.mem_of_mem_take hx)) (by decide)) fun r => tri_flat ?_
  refine tri_end [2, 0] fun q hq => ?_
  rw [if_pos h]
  refine ⟨⟨h.symm, fun c => absurd h c⟩, ?_⟩
  have e : (getS D i).c.take (64 * 1) = bytesOf (getS D i).b := by
   unfold SecS.c
   rw [List.take_left' (by rw [bytes_len]; exact getS_ok hD i)]
  rw [e] at hq
  exact hq
 ·rw [if_pos (by simp [h])]
  refine tri_end [1] fun q hq => ?_
  rw [if_neg h]
  refine ⟨⟨rfl, fun _ => rfl⟩, ?_⟩
  show star _ (star emp emp) q
  rw [star_emp]
  exact hq
def writeE (D : DskS) (i : Int) (bs : List UInt8) : Int := if 0 ≤ i ∧ i < D.secs.length ∧ bs.length = 64 then powerE D else 1
def writeD (D : DskS) (i : Int) (bs : List UInt8) (t : Int) : DskS := if 0 ≤ i ∧ i < D.secs.length ∧ bs.length = 64 then
  (if powerE D = 0 then { powerD D with secs := D.secs.set i.toNat ⟨bs, t⟩, waits := D.waits ++ [⟨i.toNat, (D.secs[i.toNat]?).getD zsec, ⟨bs, t⟩⟩] } else powerD D) else D
theorem fill_sec {bs : List UInt8} {t : Int} (h : bs.length = 64) : fillV zsec.c [(0, some 64, .agg (bytesOf bs)), (64, none, .int .u16 t)] = some (SecS.c ⟨bs, t⟩) := by
 have hz : zsec.c.length = 65 := SecS.len zsec_ok
 have hb : (bytesOf bs).length = 64 := by rw [bytes_len, h]
 unfold fillV
 rw [if_pos ⟨hb, by omega⟩]
 unfold fillV
 have e1 : over zsec.c 0 (bytesOf bs) = bytesOf bs ++ [.int .u16 0] := by
  unfold over
  rw [List.take_zero, List.nil_append, hb]
  congr 1
 rw [e1, if_pos ⟨by rw [List.length_append, hb]; decide, rfl⟩]
 unfold fillV
 rw [List.set_append_right _ _ (by omega), hb]
 rfl
theorem fill_wait {i : Nat} {x y : SecS} (hx : x.ok) (hy : y.ok) : fillV ([MV.int .i64 (0 : Int)] ++ reps 64 [MV.int .u8 (0 : Int)] ++ [MV.int .u16 (0 : Int)] ++ reps 64 [MV.int .u8 (0 : Int)] ++ [MV.int .u16 (0 : Int)]) [(0, none, .int .i64 i), (1, some 65, .agg x.c), (66, some 65, .agg y.c)] = some (WaitS.c ⟨i, x, y⟩) := by
 have hz : zsec.c.length = 65 := SecS.len zsec_ok
 have h1 : x.c.length = 65 := SecS.len hx
 have h2 : y.c.length = 65 := SecS.len hy
 have e0 : [MV.int .i64 (0 : Int)] ++ reps 64 [MV.int .u8 (0 : Int)] ++ [MV.int .u16 (0 : Int)] ++ reps 64 [MV.int .u8 (0 : Int)] ++ [MV.int .u16 (0 : Int)] = MV.int .i64 0 :: (zsec.c ++ zsec.c) := by
  rw [← zsec_c]
  simp only [List.append_assoc, List.singleton_append, List.cons_append, List.nil_append]
 rw [e0]
 unfold fillV
 rw [if_pos ⟨by simp, rfl⟩]
 unfold fillV
 rw [List.set_cons_zero, if_pos ⟨h1, by simp [hz]⟩]
 have e1 : over (MV.int .i64 i :: (zsec.c ++ zsec.c)) 1 x.c = MV.int .i64 i :: (x.c ++ zsec.c) := by
  unfold over
  rw [h1]
  simp only [List.take_succ_cons, List.take_zero, List.cons_append, List.nil_append, List.drop_succ_cons, Nat.reduceAdd]
  rw [List.drop_left' hz]
 rw [e1]
 unfold fillV
 rw [if_pos ⟨h2, by simp [hz, h1]⟩]
 unfold fillV over
 rw [h2]
 simp only [List.take_succ_cons, List.drop_succ_cons, Nat.reduceAdd, List.cons_append]
 rw [List.take_left' h1, List.drop_of_length_le (by simp [h1, hz])]
 simp [WaitS.c]
theorem fill_self {cs zs : List MV} {n : Nat} (h : cs.length = n) (h2 : zs.length = n) : fillV zs [(0, some n, .agg cs)] = some cs := by
 unfold fillV
 rw [if_pos ⟨h, by omega⟩]
 unfold fillV
 rw [over_all (by omega)]
theorem disk_write (i : Int) {s : Sl} {bs : List UInt8} (t : Int) (hs : s.len = bs.length) (hd : 0 ≤ D.done) (hd2 : D.done < 9223372036854775807) (hw : D.waits.length < 400000000000) :
  Tri (stars [DiskA d D, OwnA s 1 (bytesOf bs)]) (F_17 N (some ⟨d, 0⟩) (i, s, t)) fun r => pu (r = writeE D i bs) (stars [DiskA d (writeD D i bs t), OwnA s 1 (bytesOf bs)]) := by
 unfold F_17
 rw [if_neg (by simp)]
 refine tri_call [0] (disk_there i) fun r => tri_pu fun hr => tri_flat ?_
 by_cases h : 0 ≤ i ∧ i < D.secs.length ∧ bs.length = 64
 case neg =>
  refine tri_t (by
   rw [hr]
   dsimp only
   rw [hs]
   simp
   omega) ?_
  refine tri_end [0, 0] fun q hq => ⟨by unfold writeE; rw [if_neg h], ?_⟩
  unfold writeD
  rw [if_neg h]
  exact hq
 have hcan := h
 obtain ⟨h1, h2, h3⟩ := h
 refine tri_f (by
  rw [hr]
  dsimp only
  rw [hs]
  simp [h1, h2, h3]) ?_
 refine tri_call [0] (disk_power hd hd2) fun r => tri_pu fun hr => tri_flat ?_
 subst hr
 unfold writeE writeD
 rw [if_pos hcan, if_pos hcan]
 by_cases hp : powerE D = 0
 case neg =>
  refine tri_t (by simp [hp]) ?_
  rw [if_neg hp]
  exact tri_end [0, 0] fun q hq => ⟨rfl, hq⟩
 refine tri_f (by simp [hp]) ?_
 rw [if_pos hp]
 obtain ⟨k, rfl⟩ : ∃ k : Nat, i = k := ⟨i.toNat, by omega⟩
 have hk : k < D.secs.length := by omega
 refine tri_own 1 rfl (fun e1 e2 => ?_) fun sb ln e1 e2 => ?_
 ·exfalso
  subst e1
  dsimp only at hs
  omega
 subst e1
 dsimp only at hs ⊢
 subst hs
 refine tri_op (a := some ⟨sb, 0⟩) (fun _ => by unfold arrAt; rw [if_pos ⟨by omega, by dsimp only; omega⟩]; rfl) ?_
 refine tri_ldn 1 rfl (by rw [bytes_len]; omega) ?_
 rw [List.drop_zero, List.take_of_length_le (by rw [bytes_len]; omega), zsec_c, fill_sec h3]
 have hz : zsec.c.length = 65 := SecS.len zsec_ok
 have hnow : SecS.ok ⟨bs, t⟩ := h3
 have hnl := SecS.len hnow
 refine tri_ok (tri_alloc fun nw => ?_)
 dsimp only [sel, rem, nth, del, cat, upd]
 refine tri_stn 0 rfl hnl (by omega) (SecS.cell _) ?_
 rw [over_all (by omega)]
 refine tri_disk 1 rfl fun bs' ws hD => ?_
 rw [powerD_secs, powerD_waits]
 dsimp only [sel, rem, nth, del, cat, upd]
 have hsk : ∀ s ∈ D.secs, s.ok := by rw [← powerD_secs (D := D)]; exact hD.secs
 have hwk : ∀ w ∈ D.waits, w.was.ok ∧ w.now.ok ∧ w.at' < D.secs.length := by
  have := hD.waits
  rwa [powerD_waits, powerD_secs] at this
 refine tri_gL 0 rfl rfl (tri_gL 0 rfl rfl ?_)
 refine tri_idx hk (tri_ldn 1 rfl (by rw [secsC_len hsk]; have := flat_bound (e := 65) hk; omega) ?_)
 rw [Nat.zero_add, secsC_get hsk hk]
 refine tri_ldn 3 rfl (by omega) ?_
 rw [List.drop_zero, List.take_of_length_le (by omega)]
 have hwas := hsk _ (List.getElem_mem hk)
 rw [fill_wait hwas hnow]
 have hwl : (WaitS.c ⟨k, D.secs[k], ⟨bs, t⟩⟩).length = 131 := WaitS.len hwas hnow
 refine tri_ok ?_
 rw [fill_self hwl (by simp [reps_one])]
 refine tri_ok (tri_alloc fun wb => ?_)
 refine tri_know 3 rfl (fun q hq => OwnA.len hq) fun hwsl => ?_
 rw [waitsC_len fun w hw => ⟨(hwk w hw).1, (hwk w hw).2.1⟩] at hwsl
 refine tri_call [3, 0] (pts_app (k := 1) (e := 131) (by' := 144) (by omega) (by omega) (by
  rw [List.take_of_length_le (by omega)]
  exact WaitS.cell _) (by have : most = 70368744177664 := rfl; omega)) fun r => ?_
 refine tri_flat ?_
 dsimp only [sel, rem, nth, del, cat, upd]
 refine tri_sF 2 rfl ?_
 dsimp only [sel, rem, nth, del, cat, upd]
 refine tri_gL 2 rfl rfl ?_
 refine tri_ldn 4 rfl (by omega) ?_
 rw [List.drop_zero, List.take_of_length_le (l := SecS.c _) (by omega)]
 refine tri_idx hk (tri_stn 3 rfl hnl (by rw [secsC_len hsk, hnl]; have := flat_bound (e := 65) hk; omega) (SecS.cell _) ?_)
 rw [Nat.zero_add, secsC_over hsk hnow hk, List.take_of_length_le (by omega)]
 dsimp only [sel, rem, nth, del, cat, upd]
 refine tri_end [2, 2, 0, 2] fun q hq => ⟨hp.symm, ?_⟩
 rw [Int.toNat_natCast, List.getElem?_eq_getElem hk]
 have hwc : waitsC D.waits ++ WaitS.c ⟨k, D.secs[k], ⟨bs, t⟩⟩ = waitsC (D.waits ++ [⟨k, D.secs[k], ⟨bs, t⟩⟩]) := by
  simp [waitsC]
 rw [hwc] at hq
 dsimp only [sel, rem, nth, del, cat, upd] at hq
 refine ent_fold (l := [OwnA ⟨some ⟨sb, 0⟩, bs.length⟩ 1 (bytesOf bs)]) [_, _, _] (fun q h => ?_) (ent_tail (fun q => ent_tail (fun q => ent_tail fun q => ent_head fun q h => .mk e2 h)) hq)
 refine ⟨(bs', r), ⟨?_, ?_, ?_, hD.4⟩, ?_⟩
 ·intro s hs
  rcases List.mem_or_eq_of_mem_set hs with hs | rfl
  ·exact hsk s hs
  ·exact hnow
 ·intro w hw
  rw [List.length_set]
  rcases List.mem_append.1 hw with hw | hw
  ·exact hwk w hw
  ·simp at hw
   subst hw
   exact ⟨hwas, hnow, hk⟩
 ·have := hD.many
  rw [powerD_secs] at this
  rw [List.length_set]
  exact this
 ·dsimp only
  rw [List.length_set]
  exact h
end
end Go.Moat
