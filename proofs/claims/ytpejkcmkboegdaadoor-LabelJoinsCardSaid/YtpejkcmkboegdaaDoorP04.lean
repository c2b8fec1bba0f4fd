/- Layer 4: what label's functions come to. -/
import Derived.Test.YtpejkcmkboegdaaDoorB04
import Derived.Test.YtpejkcmkboegdaaDoorMSLM
import Derived.Lib.AtoiAllCases
namespace Go.Mini

/-- A slice of ints that can be read. -/
def RdI (T : HA) (s : Sl) (ks : List Int) : Prop := ∀ h q, T q → Has h q → s.len = ks.length ∧ ∀ (i : Nat) (hi : i < ks.length), (bd (idx 1 s (i : Int)) fun q => ldI .i64 q) h = some (ks[i], h)

def strs (xs : List (List UInt8)) : List MV := xs.map .str
theorem strs_len (xs : List (List UInt8)) : (strs xs).length = xs.length := by simp [strs]
theorem strsOf_strs : ∀ (xs : List (List UInt8)), strsOf (strs xs) = some xs
  | [] => rfl
  | x :: r => by
    show (match strsOf (strs r) with | some xs => some (x :: xs) | none => none) = _
    rw [strsOf_strs r]

section
variable {β : Type} {l : List HA} {S : β → HA}

theorem bd_assoc {α γ δ : Type} (m : M α) (f : α → M γ) (g : γ → M δ) : bd (bd m f) g = bd m fun a => bd (f a) g := by
  funext h
  simp only [bd]
  cases m h <;> rfl

theorem tri_rd (n : Nat) {T : HA} {s : Sl} {ks : List Int} (hl : l[n]? = some T) (hr : RdI T s ks) {i : Nat} (hi : i < ks.length) {f : Int → M β} (kk : Tri (stars l) (f ks[i]) S) : Tri (stars l) (bd (idx 1 s (i : Int)) fun q => bd (ldI .i64 q) f) S := by
  rw [← bd_assoc]
  rintro h q hq hh
  have hq2 := hq
  rw [stars_pick n l hl] at hq2
  obtain ⟨q1, q2, h1, h2, d, rfl⟩ := hq2
  have h3 := (has_un d).1 hh
  simp only [bd] at *
  have := (hr h q1 h1 h3.1).2 i hi
  simp only [bd] at this
  rw [this]
  exact kk h _ hq hh

theorem tri_rlen (n : Nat) {T : HA} {s : Sl} {ks : List Int} {m : M β} (hl : l[n]? = some T) (hr : RdI T s ks) (k : s.len = ks.length → Tri (stars l) m S) : Tri (stars l) m S := by
  rintro h q hq hh
  have hq2 := hq
  rw [stars_pick n l hl] at hq2
  obtain ⟨q1, q2, h1, h2, d, rfl⟩ := hq2
  exact k (hr h q1 h1 ((has_un d).1 hh).1).1 h _ hq hh

theorem rd_pts {b o k : Nat} {cs : List MV} {ro : Bool} {ks : List Int} (hk : k = ks.length) (hc : (cs.drop o).take k = ints ks) (hle : o + k ≤ cs.length) : RdI (pts b (.cells cs ro)) ⟨some ⟨b, o⟩, k⟩ ks := by
  intro h q hq hh
  refine ⟨hk, fun i hi => ?_⟩
  have hg := (pts_get hq hh).2
  have hget : cs[o + i]? = some (.int .i64 ks[i]) := by
    have : ((cs.drop o).take k)[i]? = some (.int .i64 ks[i]) := by rw [hc]; exact ints_get hi
    rwa [List.getElem?_take, if_pos (by omega), List.getElem?_drop] at this
  have hlt := (List.getElem?_eq_some_iff.1 hget).1
  simp only [bd, idx, MA.add, ret]
  rw [if_pos (by omega)]
  simp only [ldI, bd, Int.toNat_natCast, Nat.mul_one, ret]
  have : ldc (some ⟨b, o + i⟩) h = some (.int .i64 ks[i], h) := by
    unfold ldc
    simp only [hg, hget]
  rw [this]
  rfl

theorem rd_own {s : Sl} {ks : List Int} : RdI (OwnA s 1 (ints ks)) s ks := by
  intro h q hq hh
  have hlen := hq.len
  rw [ints_len, Nat.mul_one] at hlen
  refine ⟨hlen.symm, fun i hi => ?_⟩
  rcases hq with ⟨h1, h2, _⟩ | ⟨b, h1, h2, h3⟩
  · have := congrArg List.length h2
    rw [ints_len] at this
    simp at this
    subst this
    simp at hi
  · obtain ⟨sp, sl⟩ := s
    dsimp only at h1
    subst h1
    have hl2 : ks.length = sl := hlen
    exact (rd_pts (o := 0) hl2.symm (by rw [List.drop_zero]; exact List.take_of_length_le (by rw [ints_len]; omega)) (by rw [ints_len]; omega) h q h3 hh).2 i hi

theorem own_join {s : Sl} {xs : List (List UInt8)} {sep : List UInt8} (h1 : (Lib.join xs sep).length ≤ 140737488355328) (h2 : xs.length ≤ 140737488355328) : Tri (stars [OwnA s 1 (strs xs)]) (joinS s sep) fun r => pu (r = Lib.join xs sep) (stars [OwnA s 1 (strs xs)]) := by
  rw [stars_one]
  rintro h q hq hh
  refine ⟨Lib.join xs sep, h, q, ?_, ⟨rfl, hq⟩, hh, Nat.le_refl _, fun _ _ _ => rfl, fun _ hb => .inl hb⟩
  unfold joinS
  simp only [bd, own_cells_of hq hh, strsOf_strs, h1, h2, and_self, if_true]
  rfl

/-- A piece of strs is read. -/
theorem tri_own_T (n : Nat) {s : Sl} {xs : List (List UInt8)} (hl : l[n]? = some (OwnA s 1 (strs xs))) {i : Nat} (hi : i < xs.length) {f : List UInt8 → M β} (kk : Tri (stars l) (f xs[i]) S) : Tri (stars l) (bd (idx 1 s (i : Int)) fun q => bd (ldS q) f) S := by
  refine tri_own n hl (fun h1 h2 => ?_) fun b ln h1 h2 => ?_
  · have := congrArg List.length h2
    rw [strs_len] at this
    simp at this
    subst this
    simp at hi
  · subst h1
    rw [strs_len] at h2
    refine tri_idx (by omega) (tri_ldS n (nth_upd l n _ hl) (v := xs[i]) (by rw [Nat.zero_add, Nat.mul_one]; simp [strs, hi]) ?_)
    refine kk.pre fun q hq => ?_
    have := stars_set_imp n (l := upd l n (pts b (.cells (strs xs) false))) (B := OwnA ⟨some ⟨b, 0⟩, ln⟩ 1 (strs xs)) (nth_upd l n _ hl) (fun q h => .mk (by rw [strs_len]; exact h2) h) q hq
    rwa [upd_upd, upd_same l n hl] at this
end
end Go.Mini

namespace Go.Moat
open Go.Mini

section
variable {N : Nat} {β : Type} {l : List HA} {S : β → HA}

theorem and_bit {a : Int} (h0 : 0 ≤ a) (h1 : a < 65536) {k : Nat} (hk : k < 16) : (decide (bitI .and .u16 (shrI .u16 a (k : Int)) (1 : Int) = (1 : Int))) = a.toNat.testBit k := by
  obtain ⟨n, rfl⟩ : ∃ n : Nat, a = n := ⟨a.toNat, by omega⟩
  have e1 : shrI .u16 (n : Int) (k : Int) = ((n / 2 ^ k : Nat) : Int) := by
    unfold shrI
    rw [Int.toNat_natCast, show IntKind.u16.bits = 16 from rfl, Nat.min_eq_left (by omega)]
    have : (2 : Int) ^ k = ((2 ^ k : Nat) : Int) := by simp
    rw [this, Int.fdiv_eq_ediv_of_nonneg _ (Int.natCast_nonneg _)]
    rfl
  have hq : n / 2 ^ k < 65536 := Nat.lt_of_le_of_lt (Nat.div_le_self _ _) (by omega)
  have e2 : bitI .and .u16 ((n / 2 ^ k : Nat) : Int) (1 : Int) = ((n / 2 ^ k % 2 : Nat) : Int) := by
    generalize n / 2 ^ k = m at hq
    unfold bitI
    have : (BitVec.ofInt IntKind.u16.bits (m : Int) &&& BitVec.ofInt IntKind.u16.bits (1 : Int)).toNat = m % 2 := by
      rw [BitVec.toNat_and, BitVec.ofInt_natCast]
      have e3 : (BitVec.ofInt IntKind.u16.bits 1).toNat = 1 := by decide
      rw [e3, BitVec.toNat_ofNat, show 2 ^ IntKind.u16.bits = 65536 from rfl, Nat.mod_eq_of_lt hq, Nat.and_one_is_mod]
    dsimp only
    rw [this]
    exact u16_wrap (by omega)
  rw [e1, e2, Int.toNat_natCast, Nat.testBit_eq_decide_div_mod_eq]
  have : (((n / 2 ^ k % 2 : Nat) : Int) = 1) ↔ n / 2 ^ k % 2 = 1 := by omega
  simp only [this]

theorem or_nat {a b : Nat} (ha : a < 65536) (hb : b < 65536) : bitI .or .u16 (a : Int) (b : Int) = ((a ||| b : Nat) : Int) := by
  unfold bitI
  have : (BitVec.ofInt IntKind.u16.bits (a : Int) ||| BitVec.ofInt IntKind.u16.bits (b : Int)).toNat = a ||| b := by
    rw [BitVec.toNat_or, BitVec.ofInt_natCast, BitVec.ofInt_natCast, BitVec.toNat_ofNat, BitVec.toNat_ofNat, show 2 ^ IntKind.u16.bits = 65536 from rfl, Nat.mod_eq_of_lt ha, Nat.mod_eq_of_lt hb]
  dsimp only
  rw [this]
  exact u16_wrap (Nat.or_lt_two_pow (n := 16) ha hb)

theorem and_nat {a b : Nat} (ha : a < 65536) (hb : b < 65536) : bitI .and .u16 (a : Int) (b : Int) = ((a &&& b : Nat) : Int) := by
  unfold bitI
  have : (BitVec.ofInt IntKind.u16.bits (a : Int) &&& BitVec.ofInt IntKind.u16.bits (b : Int)).toNat = a &&& b := by
    rw [BitVec.toNat_and, BitVec.ofInt_natCast, BitVec.ofInt_natCast, BitVec.toNat_ofNat, BitVec.toNat_ofNat, show 2 ^ IntKind.u16.bits = 65536 from rfl, Nat.mod_eq_of_lt ha, Nat.mod_eq_of_lt hb]
  dsimp only
  rw [this]
  exact u16_wrap (Nat.lt_of_le_of_lt Nat.and_le_left ha)

theorem shl_one {k : Nat} (hk : k < 16) : shlI .u16 (1 : Int) (k : Int) = ((2 ^ k : Nat) : Int) := by
  unfold shlI
  rw [Int.toNat_natCast, show IntKind.u16.bits = 16 from rfl, Nat.min_eq_left (by omega), Int.one_mul]
  have : (2 : Int) ^ k = ((2 ^ k : Nat) : Int) := by simp
  rw [this]
  exact u16_wrap (Nat.pow_lt_pow_right (by omega) hk)

/-- The categories below j. -/
def catTo (a j : Nat) : List Int := ((List.range j).filter fun k => a.testBit k).map fun (k : Nat) => (k : Int)
abbrev cats (a : Nat) : List Int := catTo a 16

theorem catTo_succ (a j : Nat) : catTo a (j + 1) = if a.testBit j = true then catTo a j ++ [(j : Int)] else catTo a j := by
  unfold catTo
  rw [List.range_succ, List.filter_append, List.map_append]
  by_cases h : a.testBit j = true
  · simp [h]
  · simp [h]

theorem catTo_len (a j : Nat) : (catTo a j).length ≤ j := by
  unfold catTo
  rw [List.length_map]
  exact Nat.le_trans (List.length_filter_le _ _) (by simp)

theorem cats_len (a : Nat) : (cats a).length ≤ 16 := catTo_len a 16

theorem cats_lt {a : Nat} {k : Int} (h : k ∈ cats a) : 0 ≤ k ∧ k < 16 ∧ a.testBit k.toNat = true := by
  unfold cats catTo at h
  rw [List.mem_map] at h
  obtain ⟨j, hj, rfl⟩ := h
  rw [List.mem_filter, List.mem_range] at hj
  exact ⟨by omega, by omega, by simpa using hj.2⟩

/-- label.List -/
theorem list_spec {a : Int} (h0 : 0 ≤ a) (h1 : a < 65536) (hN : 20 < N) : Tri (stars []) (F_label_List N a) fun r => stars [OwnA r 1 (ints (cats a.toNat))] := by
  unfold F_label_List
  have loop : ∀ (K : Nat) (j : Nat) (s : Sl), 17 - j < K → j ≤ 16 → Tri (stars [OwnA s 1 (ints (catTo a.toNat j))]) (iter K (fun go_3 (v_2 : Sl × Int) => if (decide (v_2.2 < (16 : Int))) = true then (if v_2.2 < 0 then fail else bd (show M (Sl) from if (decide (bitI .and .u16 (shrI .u16 a v_2.2) (1 : Int) = (1 : Int))) = true then (bd (alloc [MV.int .i64 v_2.2]) fun q_4 => bd (app 1 8 v_2.1 (⟨q_4, 1⟩)) fun l_5 => ret l_5) else (ret v_2.1)) fun j_6 => go_3 ((j_6, wr .i64 (v_2.2 + (1 : Int))))) else (ret v_2.1)) (s, (j : Int)))
      fun r => stars [OwnA r 1 (ints (cats a.toNat))] := by
    intro K
    induction K with
    | zero => intro j s hj; omega
    | succ K ih =>
      intro j s hj hj2
      show Tri _ (if _ then _ else _) _
      by_cases hj3 : j < 16
      · refine tri_t (by simp; omega) (tri_f (by dsimp only; omega) ?_)
        dsimp only
        rw [and_bit h0 h1 hj3, wr64 (by omega) (by omega)]
        refine own_lenI 0 rfl fun hs => ?_
        have hl := catTo_len a.toNat j
        refine Tri.bd (Q := fun r : Sl => stars [OwnA r 1 (ints (catTo a.toNat (j + 1)))]) ?_ fun r => ih (j + 1) r (by omega) (by omega)
        rw [catTo_succ]
        by_cases hb : a.toNat.testBit j = true
        · refine tri_t hb (tri_alloc fun b => ?_)
          rw [if_pos hb]
          refine tri_call [1, 0] (pts_app (by omega) (by simp) (by simp [isCell]) (by unfold most; omega)) fun r => tri_flat (tri_end [0] fun q hq => ?_)
          have e : ints (catTo a.toNat j) ++ [MV.int .i64 (j : Int)].take (1 * 1) = ints (catTo a.toNat j ++ [(j : Int)]) := by simp [ints]
          rw [← e]
          exact hq
        · refine tri_f hb ?_
          rw [if_neg hb]
          exact tri_ret fun q hq => hq
      · obtain rfl : j = 16 := by omega
        exact tri_f (by simp) (tri_ret fun q hq => hq)
  refine tri_call [] ((loop N 0 ⟨none, 0⟩ (by omega) (by omega)).pre fun q hq => ?_) fun r => tri_flat (tri_end [0] fun q hq => hq)
  rw [stars_one]
  exact .nil _ hq

/-- The label of categories. -/
def ofN : Nat → List Int → Option Nat
  | a, [] => some a
  | a, k :: r => if k < 0 ∨ 16 ≤ k then none else ofN (a ||| 2 ^ k.toNat) r
theorem ofN_cons (a : Nat) (k : Int) (r : List Int) : ofN a (k :: r) = if k < 0 ∨ 16 ≤ k then none else ofN (a ||| 2 ^ k.toNat) r := rfl
def ofR : Option Nat → Int × Int
  | some a => ((a : Int), 0)
  | none => (0, 1)

theorem ofN_lt : ∀ (ks : List Int) (a b : Nat), a < 65536 → ofN a ks = some b → b < 65536
  | [], a, b, h, e => by cases e; exact h
  | k :: r, a, b, h, e => by
    unfold ofN at e
    split at e
    · cases e
    · rename_i hk
      refine ofN_lt r _ b (Nat.or_lt_two_pow (n := 16) h ?_) e
      exact Nat.pow_lt_pow_right (by omega) (by omega)

/-- label.Of -/
theorem of_spec {T : HA} {s : Sl} {ks : List Int} (hr : RdI T s ks) (hN : ks.length + 1 < N) (hk : ks.length < 1000000) : Tri (stars [T]) (F_label_Of N s) fun r => pu (r = ofR (ofN 0 ks)) (stars [T]) := by
  unfold F_label_Of
  refine tri_rlen 0 rfl hr fun hs => ?_
  have loop : ∀ (K : Nat) (j : Nat) (a : Nat), ks.length - j < K → j ≤ ks.length → a < 65536 → ofN 0 ks = ofN a (ks.drop j) → Tri (stars [T]) (iter K (fun go_3 (v_2 : Int × Int) => if (decide (v_2.2 < (s.len : Int))) = true then (bd (idx 1 s v_2.2) fun q_4 => bd (ldI .i64 q_4) fun (y_5 : Int) => if ((decide (y_5 < (0 : Int))) || (decide ((16 : Int) ≤ y_5))) = true then (ret ((Sum.inr (((0 : Int), (1 : Int)))))) else (if y_5 < 0 then fail else go_3 ((bitI .or .u16 v_2.1 (shlI .u16 (1 : Int) y_5), wr .i64 (v_2.2 + (1 : Int)))))) else (ret (Sum.inl v_2.1))) ((a : Int), (j : Int)))
      fun r => pu (match r with | .inl x => ofN 0 ks = some x.toNat ∧ 0 ≤ x | .inr r => ofN 0 ks = none ∧ r = ((0 : Int), (1 : Int))) (stars [T]) := by
    intro K
    induction K with
    | zero => intro j a hj; omega
    | succ K ih =>
      intro j a hj h1 ha e
      show Tri _ (if _ then _ else _) _
      by_cases hj2 : j < ks.length
      · refine tri_t (by simp [hs]; omega) (tri_rd 0 rfl hr hj2 ?_)
        rw [List.drop_eq_getElem_cons hj2, ofN_cons] at e
        rw [wr64 (by omega) (by omega)]
        by_cases hc : ks[j] < 0 ∨ 16 ≤ ks[j]
        · rw [if_pos hc] at e
          exact tri_t (by simpa using hc) (tri_ret fun q hq => ⟨⟨e, rfl⟩, hq⟩)
        · rw [if_neg hc] at e
          refine tri_f (by simpa using hc) (tri_f (by omega) ?_)
          have hkk : ks[j].toNat < 16 := by omega
          have hp : 2 ^ ks[j].toNat < 65536 := Nat.pow_lt_pow_right (a := 2) (n := 16) (by omega) hkk
          have e1 : bitI .or .u16 (a : Int) (shlI .u16 1 ks[j]) = ((a ||| 2 ^ ks[j].toNat : Nat) : Int) := by
            have : ks[j] = (ks[j].toNat : Int) := by omega
            rw [this, shl_one (by omega), Int.toNat_natCast, or_nat ha hp]
          dsimp only
          rw [e1]
          exact ih (j + 1) _ (by omega) (by omega) (Nat.or_lt_two_pow (n := 16) ha hp) e
      · obtain rfl : j = ks.length := by omega
        rw [List.drop_length] at e
        exact tri_f (by simp [hs]) (tri_ret fun q hq => ⟨⟨by rw [Int.toNat_natCast]; exact e, Int.natCast_nonneg _⟩, hq⟩)
  refine tri_call [0] (loop N 0 0 (by omega) (by omega) (by omega) rfl) fun r => tri_pu fun hr => tri_flat ?_
  cases r with
  | inl x =>
    refine tri_end [0] fun q hq => ⟨?_, hq⟩
    rw [hr.1]
    show (x, (0 : Int)) = ((x.toNat : Int), 0)
    rw [Int.toNat_of_nonneg hr.2]
  | inr x =>
    refine tri_end [0] fun q hq => ⟨?_, hq⟩
    rw [hr.1, hr.2]
    rfl

/-- A label's text. -/
def textN (a : Nat) : List UInt8 := [91] ++ Lib.join ((cats a).map fun k => Lib.decDigits k.toNat) [44] ++ [93]

theorem digs_len {k : Nat} (h : k < 100) : (Lib.decDigits k).length ≤ 2 := by
  by_cases h1 : k < 10
  · rw [Lib.decDigits_one h1]; simp
  · rw [Lib.decDigits_two h1 h]; simp

theorem lens_le : ∀ (xs : List (List UInt8)), (∀ x ∈ xs, x.length ≤ 2) → Lib.lens xs ≤ 2 * xs.length
  | [], _ => by simp [Lib.lens]
  | x :: r, h => by
    have h1 := h x List.mem_cons_self
    have h2 := lens_le r fun y hy => h y (List.mem_cons_of_mem _ hy)
    have e : Lib.lens (x :: r) = x.length + Lib.lens r := by simp [Lib.lens]
    rw [e, List.length_cons]
    omega

theorem join_short {xs : List (List UInt8)} (h : ∀ x ∈ xs, x.length ≤ 2) (hl : xs.length ≤ 16) : (Lib.join xs [44]).length ≤ 64 := by
  cases xs with
  | nil => simp [Lib.join_nil]
  | cons x r =>
    rw [Lib.join_length]
    have := lens_le (x :: r) h
    simp at this hl ⊢
    omega

theorem digs_short {a : Nat} : ∀ x ∈ (cats a).map fun k => Lib.decDigits k.toNat, x.length ≤ 2 := by
  intro x hx
  rw [List.mem_map] at hx
  obtain ⟨k, hk, rfl⟩ := hx
  have := cats_lt hk
  exact digs_len (by omega)

theorem text_join {a : Nat} : (Lib.join ((cats a).map fun k => Lib.decDigits k.toNat) [44]).length ≤ 64 := join_short digs_short (by rw [List.length_map]; exact catTo_len a 16)
theorem text_len {a : Nat} : (textN a).length ≤ 66 := by
  have := text_join (a := a)
  unfold textN
  simp only [List.length_append, List.length_singleton]
  omega

/-- label.Text -/
theorem text_spec {a : Int} (h0 : 0 ≤ a) (h1 : a < 65536) (hN : 20 < N) : Tri (stars []) (F_label_Text N a) fun r => pu (r = textN a.toNat) (stars []) := by
  unfold F_label_Text
  refine tri_call [] (list_spec h0 h1 hN) fun s => tri_flat ?_
  refine own_lenI 0 rfl fun hs => ?_
  have hlen := cats_len a.toNat
  have loop : ∀ (K : Nat) (j : Nat) (p : Sl), 17 - j < K → j ≤ (cats a.toNat).length → Tri (stars [OwnA p 1 (strs (((cats a.toNat).take j).map fun k => Lib.decDigits k.toNat)), OwnA s 1 (ints (cats a.toNat))]) (iter K (fun go_4 (v_3 : Sl × Int) => if (decide (v_3.2 < (s.len : Int))) = true then (bd (idx 1 s v_3.2) fun q_5 => bd (ldI .i64 q_5) fun (y_6 : Int) => bd (F_strconv_Itoa N y_6) fun r_7 => bd (alloc [MV.str r_7]) fun q_8 => bd (app 1 16 v_3.1 (⟨q_8, 1⟩)) fun l_9 => go_4 ((l_9, wr .i64 (v_3.2 + (1 : Int))))) else (ret v_3.1)) (p, (j : Int)))
      fun r => stars [OwnA r 1 (strs ((cats a.toNat).map fun k => Lib.decDigits k.toNat))] := by
    intro K
    induction K with
    | zero => intro j p hj; omega
    | succ K ih =>
      intro j p hj hj2
      show Tri _ (if _ then _ else _) _
      by_cases hj3 : j < (cats a.toNat).length
      · refine tri_t (by simp [hs]; omega) (tri_own_I 1 rfl hj3 ?_)
        have hk := cats_lt (List.getElem_mem hj3)
        refine tri_op (a := Lib.decDigits (cats a.toNat)[j].toNat) (fun h => ?_) (tri_alloc fun b => ?_)
        · unfold F_strconv_Itoa itoaS
          rw [if_pos (by omega)]
          rfl
        rw [wr64 (by omega) (by omega)]
        refine own_len 1 rfl fun hp => ?_
        rw [strs_len, List.length_map, List.length_take, Nat.mul_one] at hp
        refine tri_call [1, 0] (pts_app (by omega) (by simp) (by simp [isCell]) (by unfold most; omega)) fun r => tri_flat ?_
        refine tri_last [0, 1] ((ih (j + 1) r (by omega) (by omega)).pre fun q hq => ?_)
        have e : strs (((cats a.toNat).take (j + 1)).map fun k => Lib.decDigits k.toNat) = strs (((cats a.toNat).take j).map fun k => Lib.decDigits k.toNat) ++ [MV.str (Lib.decDigits (cats a.toNat)[j].toNat)].take (1 * 1) := by
          rw [List.take_succ_eq_append_getElem hj3]
          unfold strs
          rw [List.map_append, List.map_append]
          rfl
        rw [e]
        exact hq
      · have hj4 : j = (cats a.toNat).length := by omega
        refine tri_f (by simp [hs]; omega) (tri_end [0] fun q hq => ?_)
        rw [hj4, List.take_length] at hq
        exact hq
  refine tri_call [0] ((loop N 0 ⟨none, 0⟩ (by omega) (by omega)).pre fun q hq => ?_) fun r => tri_flat ?_
  · exact ent_emp (fun q h => .nil _ h) hq
  refine tri_call [0] (own_join (Nat.le_trans text_join (by omega)) (by rw [List.length_map]; omega)) fun r => tri_pu fun e => tri_flat ?_
  subst e
  have hj := text_join (a := a.toNat)
  refine tri_op (a := [91] ++ Lib.join ((cats a.toNat).map fun k => Lib.decDigits k.toNat) [44]) (fun h => ?_) (tri_op (a := textN a.toNat) (fun h => ?_) ?_)
  · unfold catS
    rw [if_pos (by unfold most; simp; omega)]
    rfl
  · unfold catS
    rw [if_pos (by unfold most; simp; omega)]
    rfl
  · exact (tri_end [] fun q hq => ⟨rfl, hq⟩)
end
end Go.Moat
