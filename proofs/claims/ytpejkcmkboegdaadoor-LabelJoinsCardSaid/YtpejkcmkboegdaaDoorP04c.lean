/- Layer 4: what the document's functions come to. -/
import Derived.Test.YtpejkcmkboegdaaDoorN04
namespace Go.Moat
open Go.Mini

section
variable {N : Nat} {a b c : Int}

theorem dig_low : ∀ k : Fin 16, wr .u8 (wr .i64 ((48 : Int) + ((k.val : Int).tmod (10 : Int)))) = ((UInt8.ofNat (48 + k.val % 10)).toNat : Int) := by decide +kernel
theorem dig_high : ∀ k : Fin 16, wr .u8 (wr .i64 ((48 : Int) + ((wr .i64 ((k.val : Int).tdiv (10 : Int))).tmod (10 : Int)))) = ((UInt8.ofNat (48 + k.val / 10)).toNat : Int) := by decide +kernel

theorem byte_str {b : Nat} {c : UInt8} {x : Int} (hx : x = (c.toNat : Int)) {β : Type} {l : List HA} {S : β → HA} {f : List UInt8 → M β} (k : Tri (stars l) (f [c]) S) : Tri (stars (pts b (.cells [MV.int .u8 x] false) :: l)) (bd (toStr (⟨some ⟨b, 0⟩, 1⟩)) f) S := by
  subst hx
  refine tri_turn 0 rfl (B := OwnA ⟨some ⟨b, 0⟩, 1⟩ 1 (bytesOf [c])) (fun q h => .mk (by rw [bytes_len]; rfl) h) ?_
  refine tri_call [0] own_toStr fun r => tri_pu fun hr => tri_flat ?_
  subst hr
  show Tri (star (OwnA ⟨some ⟨b, 0⟩, 1⟩ 1 (bytesOf [c])) (stars l)) _ _
  rw [star_comm]
  exact tri_weak k _

theorem digits_spec {k : Nat} (hk : k < 16) : Tri (stars []) (F_moatref04_Digits N (k : Int)) fun r => pu (r = Lib.decDigits k) (stars []) := by
  unfold F_moatref04_Digits
  refine tri_alloc fun b => byte_str (dig_low ⟨k, hk⟩) ?_
  rw [dig_text hk]
  by_cases h : k < 10
  · refine tri_bif_f (by simp; omega) (tri_bdret (tri_ret fun q hq => ⟨?_, hq⟩))
    rw [if_pos h, Nat.mod_eq_of_lt h]
  · refine tri_bif_t (by simp; omega) (tri_assoc (tri_alloc fun b => ?_))
    refine tri_assoc (byte_str (dig_high ⟨k, hk⟩) ?_)
    refine tri_assoc (tri_op (a := [UInt8.ofNat (48 + k / 10)] ++ [UInt8.ofNat (48 + k % 10)]) (fun h => ?_) ?_)
    · unfold catS
      rw [if_pos (by unfold most; simp)]
      rfl
    · refine tri_bdret (tri_ret fun q hq => ⟨?_, hq⟩)
      rw [if_neg h]
      rfl

theorem add_bit {n k : Nat} (hn : n < 65536) (hk : k < 16) (hb : n.testBit k = false) : n + 2 ^ k = n ||| 2 ^ k ∧ n ||| 2 ^ k < 65536 := by
  have hp : 2 ^ k < 2 ^ 16 := Nat.pow_lt_pow_right (by omega) hk
  have hor : n ||| 2 ^ k < 2 ^ 16 := Nat.or_lt_two_pow hn hp
  refine ⟨?_, hor⟩
  have h0 : (BitVec.ofNat 17 n &&& BitVec.ofNat 17 (2 ^ k)) = 0#17 := by
    apply BitVec.eq_of_getLsbD_eq
    intro i hi
    simp only [BitVec.getLsbD_and, BitVec.getLsbD_ofNat, two_bit, BitVec.getLsbD_zero]
    by_cases h : k = i
    · subst h; simp [hb]
    · simp [h]
  have h1 := BitVec.add_eq_or_of_and_eq_zero _ _ h0
  have h2 := congrArg BitVec.toNat h1
  rw [BitVec.toNat_add, BitVec.toNat_or, BitVec.toNat_ofNat, BitVec.toNat_ofNat] at h2
  have e1 : n % 2 ^ 17 = n := Nat.mod_eq_of_lt (by omega)
  have e2 : 2 ^ k % 2 ^ 17 = 2 ^ k := Nat.mod_eq_of_lt (by omega)
  rw [e1, e2, Nat.mod_eq_of_lt (by omega)] at h2
  exact h2

theorem with_op {n k : Nat} (hn : n < 65536) (hk : k < 16) (hb : n.testBit k = false) (hN : 1010 < N) (h : Hp) : F_moatref04_with N (n : Int) (k : Int) h = some (((n ||| 2 ^ k : Nat) : Int), h) := by
  unfold F_moatref04_with
  have loop : ∀ (K : Nat) (j : Nat), k - j < K → j ≤ k → iter K (fun go_4 (v_3 : Int × Int) => if (decide (v_3.2 < (k : Int))) = true then (go_4 ((wr .u16 (v_3.1 * (2 : Int)), wr .i64 (v_3.2 + (1 : Int))))) else (ret v_3.1)) (((2 ^ j : Nat) : Int), (j : Int)) h = some (((2 ^ k : Nat) : Int), h) := by
    intro K
    induction K with
    | zero => intro j hj; omega
    | succ K ih =>
      intro j hj hj2
      show (ite _ _ _ : M Int) h = _
      by_cases h3 : j < k
      · rw [if_pos (by simp; omega)]
        dsimp only
        have e1 : wr .u16 (((2 ^ j : Nat) : Int) * 2) = ((2 ^ (j + 1) : Nat) : Int) := by
          have : ((2 ^ j : Nat) : Int) * 2 = ((2 ^ (j + 1) : Nat) : Int) := by rw [Nat.pow_succ]; simp
          rw [this]
          exact u16_wrap (Nat.lt_of_lt_of_le (Nat.pow_lt_pow_right (by omega) (show j + 1 < 16 by omega)) (by decide))
        rw [e1, wr64 (by omega) (by omega)]
        exact ih (j + 1) (by omega) (by omega)
      · obtain rfl : j = k := by omega
        rw [if_neg (by simp)]
        rfl
  have l0 := loop N 0 (by omega) (by omega)
  rw [show (((2 ^ 0 : Nat) : Int), ((0 : Nat) : Int)) = ((1 : Int), (0 : Int)) from rfl] at l0
  simp only [bd]
  rw [l0]
  dsimp only
  obtain ⟨h1, h2⟩ := add_bit hn hk hb
  have e : wr .u16 ((n : Int) + ((2 ^ k : Nat) : Int)) = ((n ||| 2 ^ k : Nat) : Int) := by
    have : (n : Int) + ((2 ^ k : Nat) : Int) = ((n ||| 2 ^ k : Nat) : Int) := by rw [← h1]; simp
    rw [this]
    exact u16_wrap h2
  rw [e]
  rfl

/-- moatref04.List -/
theorem rlist_spec (ha : IsLab a) (hN : 1010 < N) : Tri (stars []) (F_moatref04_List N a) fun r => stars [OwnA r 1 (ints (cats a.toNat))] := by
  unfold F_moatref04_List
  have loop : ∀ (K : Nat) (j : Nat) (s : Sl), 17 - j < K → j ≤ 16 → Tri (stars [OwnA s 1 (ints (catTo a.toNat j))]) (iter K (fun go_3 (v_2 : Sl × Int) => if (decide (v_2.2 < (16 : Int))) = true then (bd (F_moatref04_Has N a v_2.2) fun r_4 => bd (show M (Sl) from if r_4 = true then (bd (alloc [MV.int .i64 v_2.2]) fun q_5 => bd (app 1 8 v_2.1 (⟨q_5, 1⟩)) fun l_6 => ret l_6) else (ret v_2.1)) fun j_7 => go_3 ((j_7, wr .i64 (v_2.2 + (1 : Int))))) else (ret v_2.1)) (s, (j : Int)))
      fun r => stars [OwnA r 1 (ints (cats a.toNat))] := by
    intro K
    induction K with
    | zero => intro j s hj; omega
    | succ K ih =>
      intro j s hj hj2
      show Tri _ (if _ then _ else _) _
      by_cases hj3 : j < 16
      · refine tri_t (by simp; omega) (tri_op (fun h => has04_spec (N := N) (by omega) ha.1 ha.2 (by omega) h) ?_)
        rw [wr64 (by omega) (by omega)]
        refine own_lenI 0 rfl fun hs => ?_
        have hl := catTo_len a.toNat j
        refine Tri.bd (Q := fun r : Sl => stars [OwnA r 1 (ints (catTo a.toNat (j + 1)))]) ?_ fun r => ih (j + 1) r (by omega) (by omega)
        rw [catTo_succ]
        by_cases hb : a.toNat.testBit j = true
        · refine tri_t hb (tri_alloc fun b => ?_)
          rw [if_pos hb]
          refine tri_call [1, 0] (pts_app (by omega) (by simp) (by simp [isCell]) (by unfold most; omega)) fun r => tri_flat (tri_end [0] fun q hq => ?_)
          have e : ints (catTo a.toNat j) ++ [MV.int .i64 (j : Int)].take (1 * 1) = ints (catTo a.toNat j ++ [(j : Int)]) := by simp [ints]
          rw [← e]
          exact hq
        · refine tri_f hb ?_
          rw [if_neg hb]
          exact tri_ret fun q hq => hq
      · obtain rfl : j = 16 := by omega
        exact tri_f (by simp) (tri_ret fun q hq => hq)
  refine tri_call [] ((loop N 0 ⟨none, 0⟩ (by omega) (by omega)).pre fun q hq => ?_) fun r => tri_flat (tri_end [0] fun q hq => hq)
  rw [stars_one]
  exact .nil _ hq

/-- moatref04.Text -/
theorem rtext_spec (ha : IsLab a) (hN : 1010 < N) : Tri (stars []) (F_moatref04_Text N a) fun r => pu (r = textN a.toNat) (stars []) := by
  unfold F_moatref04_Text
  refine tri_call [] (rlist_spec ha hN) fun s => tri_flat ?_
  refine own_lenI 0 rfl fun hs => ?_
  have hlen := cats_len a.toNat
  have htl : (toks a.toNat).length = (cats a.toNat).length := by unfold toks; rw [List.length_map]
  have hshort : ∀ j, (Lib.join ((toks a.toNat).take j) [44]).length ≤ 64 := fun j =>
    join_short (fun x hx => digs_short (a := a.toNat) x (List.mem_of_mem_take hx)) (by rw [List.length_take]; omega)
  have loop : ∀ (K : Nat) (j : Nat), 17 - j < K → j ≤ (cats a.toNat).length → Tri (stars [OwnA s 1 (ints (cats a.toNat))]) (iter K (fun go_4 (v_3 : List UInt8 × Int) => if (decide (v_3.2 < (s.len : Int))) = true then (bd (show M (List UInt8) from if (decide ((0 : Int) < v_3.2)) = true then (bd (catS v_3.1 ([44] : List UInt8)) fun w_5 => ret w_5) else (ret v_3.1)) fun j_6 => bd (idx 1 s v_3.2) fun q_7 => bd (ldI .i64 q_7) fun (y_8 : Int) => bd (F_moatref04_Digits N y_8) fun r_9 => bd (catS j_6 r_9) fun w_10 => go_4 ((w_10, wr .i64 (v_3.2 + (1 : Int))))) else (ret v_3.1)) ([91] ++ Lib.join ((toks a.toNat).take j) [44], (j : Int)))
      fun r => pu (r = [91] ++ Lib.join (toks a.toNat) [44]) (stars [OwnA s 1 (ints (cats a.toNat))]) := by
    intro K
    induction K with
    | zero => intro j hj; omega
    | succ K ih =>
      intro j hj hj2
      show Tri _ (if _ then _ else _) _
      by_cases hj3 : j < (cats a.toNat).length
      · have h64 := hshort j
        have hjt := join_take (xs := toks a.toNat) (j := j) (by omega)
        have hk := cats_lt (List.getElem_mem hj3)
        have htk : (toks a.toNat)[j]'(by omega) = Lib.decDigits (cats a.toNat)[j].toNat := by simp [toks]
        refine tri_t (by simp [hs]; omega) ?_
        refine Tri.bd (Q := fun w : List UInt8 => pu (w = [91] ++ Lib.join ((toks a.toNat).take j) [44] ++ (if 0 < j then [44] else [])) (stars [OwnA s 1 (ints (cats a.toNat))])) ?_ fun w => tri_p fun hw => ?_
        · by_cases h0 : 0 < j
          · rw [if_pos h0]
            refine tri_t (by simp; omega) (tri_op (a := [91] ++ Lib.join ((toks a.toNat).take j) [44] ++ [44]) (fun h => ?_) (tri_ret fun q hq => ⟨rfl, hq⟩))
            unfold catS
            rw [if_pos (by unfold most; simp; omega)]
            rfl
          · rw [if_neg h0]
            exact tri_f (by simp; omega) (tri_ret fun q hq => ⟨by simp, hq⟩)
        · have hwl : w.length ≤ 66 := by
            rw [hw]
            simp only [List.length_append, List.length_singleton]
            split <;> simp <;> omega
          refine tri_own_I 0 rfl hj3 ?_
          rw [show (cats a.toNat)[j] = (((cats a.toNat)[j].toNat : Nat) : Int) by omega]
          refine tri_call [] (digits_spec (by omega)) fun r => tri_pu fun hr => tri_flat ?_
          have hrl := digs_len (k := (cats a.toNat)[j].toNat) (by omega)
          rw [← hr] at hrl
          refine tri_op (a := w ++ r) (fun h => ?_) ?_
          · unfold catS
            rw [if_pos (by unfold most; omega)]
            rfl
          · rw [wr64 (by omega) (by omega)]
            have e : w ++ r = [91] ++ Lib.join ((toks a.toNat).take (j + 1)) [44] := by
              rw [hjt, htk, hw, hr]
              simp only [List.append_assoc]
            rw [e]
            exact ih (j + 1) (by omega) (by omega)
      · have hj4 : j = (cats a.toNat).length := by omega
        refine tri_f (by simp [hs]; omega) (tri_ret fun q hq => ⟨?_, hq⟩)
        rw [List.take_of_length_le (by omega)]
  have l0 := loop N 0 (by omega) (by omega)
  rw [List.take_zero, Lib.join_nil, List.append_nil] at l0
  refine tri_call [0] l0 fun r => tri_pu fun hr => tri_flat ?_
  have h64 := hshort (toks a.toNat).length
  rw [List.take_length] at h64
  refine tri_op (a := r ++ [93]) (fun h => ?_) (tri_end [] fun q hq => ⟨by rw [hr]; rfl, hq⟩)
  unfold catS
  rw [if_pos (by unfold most; rw [hr]; simp; omega)]
  rfl

theorem digit_op (c : UInt8) (h : Hp) : F_moatref04_digit N (c.toNat : Int) h = some (isDig c, h) := by
  unfold F_moatref04_digit isDig
  show some _ = _
  congr 2
  have e1 : decide ((48 : Int) ≤ (c.toNat : Int)) = decide (48 ≤ c.toNat) := by congr 1; exact propext ⟨fun h => by omega, fun h => by omega⟩
  have e2 : decide ((c.toNat : Int) ≤ (57 : Int)) = decide (c.toNat ≤ 57) := by congr 1; exact propext ⟨fun h => by omega, fun h => by omega⟩
  rw [e1, e2]

theorem take_iff {s d : List UInt8} {i : Nat} (hi : i + d.length ≤ s.length) : (s.drop i).take d.length = d ↔ ∀ j, j < d.length → s[i + j]? = d[j]? := by
  constructor
  · intro h j hj
    have : ((s.drop i).take d.length)[j]? = d[j]? := by rw [h]
    rw [List.getElem?_take, if_pos hj, List.getElem?_drop] at this
    exact this
  · intro h
    apply List.ext_getElem?
    intro j
    by_cases hj : j < d.length
    · rw [List.getElem?_take, if_pos hj, List.getElem?_drop]
      exact h j hj
    · rw [List.getElem?_take, if_neg hj, List.getElem?_eq_none (by omega)]

/-- moatref04.named -/
theorem rnamed_spec {s : List UInt8} {k : Nat} (hk : k < 16) (hs : s.length ≤ 900) (hN : 1010 < N) : Tri (stars []) (F_moatref04_named N s (k : Int)) fun r => pu (r = true ↔ Named s (Lib.decDigits k)) (stars []) := by
  unfold F_moatref04_named
  refine tri_call [] (digits_spec hk) fun d => tri_pu fun hd => tri_flat ?_
  have hdl := digs_len (k := k) (by omega)
  rw [← hd] at hdl
  have hd0 : 0 < d.length := List.length_pos_iff.2 (by rw [hd]; exact dig_ne hk)
  rw [← hd]
  have loop : ∀ (K : Nat) (i : Nat), s.length + 2 - i < K → 1 ≤ i → i ≤ s.length + 1 → (∀ m, 1 ≤ m → m < i → ¬ (m + d.length < s.length ∧ (∀ j, j < d.length → s[m + j]? = d[j]?) ∧ (∀ c, s[m - 1]? = some c → isDig c = false) ∧ ∀ c, s[m + d.length]? = some c → isDig c = false)) →
      Tri (stars []) (iter K (fun go_5 (v_4 : Int) => if (decide (wr .i64 (v_4 + (d.length : Int)) < (s.length : Int))) = true then (bd (slcS s v_4 (wr .i64 (v_4 + (d.length : Int)))) fun l_6 => bd (if (decide (l_6 = d)) = true then (bd (idxS s (wr .i64 (v_4 - (1 : Int)))) fun c_7 => bd (F_moatref04_digit N c_7) fun r_8 => ret (!r_8)) else ret false) fun c_9 => bd (if c_9 = true then (bd (idxS s (wr .i64 (v_4 + (d.length : Int)))) fun c_10 => bd (F_moatref04_digit N c_10) fun r_11 => ret (!r_11)) else ret false) fun c_12 => if c_12 = true then (ret (Sum.inr true)) else (go_5 (wr .i64 (v_4 + (1 : Int))))) else (ret ((Sum.inl ())))) (i : Int))
      fun x => pu (match x with | .inl _ => ¬ Named s d | .inr r => r = true ∧ Named s d) (stars []) := by
    intro K
    induction K with
    | zero => intro i hi; omega
    | succ K ih =>
      intro i hi h1 h2 hno
      show Tri _ (if _ then _ else _) _
      rw [wr64 (by omega) (by omega), show (i : Int) + (d.length : Int) = ((i + d.length : Nat) : Int) by omega]
      by_cases hr : i + d.length < s.length
      · refine tri_t (by simp; omega) ?_
        refine tri_op (a := (s.drop i).take d.length) (fun h => ?_) ?_
        · unfold slcS
          rw [if_pos (by omega), show ((((i + d.length : Nat) : Int)) - (i : Int)).toNat = d.length by omega, Int.toNat_natCast]
          rfl
        have htk := take_iff (s := s) (d := d) (i := i) (by omega)
        have next : ¬ (i + d.length < s.length ∧ (∀ j, j < d.length → s[i + j]? = d[j]?) ∧ (∀ c, s[i - 1]? = some c → isDig c = false) ∧ ∀ c, s[i + d.length]? = some c → isDig c = false) →
            Tri (stars []) (iter K (fun go_5 (v_4 : Int) => if (decide (wr .i64 (v_4 + (d.length : Int)) < (s.length : Int))) = true then (bd (slcS s v_4 (wr .i64 (v_4 + (d.length : Int)))) fun l_6 => bd (if (decide (l_6 = d)) = true then (bd (idxS s (wr .i64 (v_4 - (1 : Int)))) fun c_7 => bd (F_moatref04_digit N c_7) fun r_8 => ret (!r_8)) else ret false) fun c_9 => bd (if c_9 = true then (bd (idxS s (wr .i64 (v_4 + (d.length : Int)))) fun c_10 => bd (F_moatref04_digit N c_10) fun r_11 => ret (!r_11)) else ret false) fun c_12 => if c_12 = true then (ret (Sum.inr true)) else (go_5 (wr .i64 (v_4 + (1 : Int))))) else (ret ((Sum.inl ())))) (wr .i64 ((i : Int) + 1)))
              fun x => pu (match x with | .inl _ => ¬ Named s d | .inr r => r = true ∧ Named s d) (stars []) := by
          intro hn
          rw [wr64 (by omega) (by omega)]
          refine ih (i + 1) (by omega) (by omega) (by omega) fun m h3 h4 => ?_
          by_cases hm : m = i
          · subst hm; exact hn
          · exact hno m h3 (by omega)
        by_cases ht : (s.drop i).take d.length = d
        · refine tri_bif_t (by simp [ht]) (tri_assoc ?_)
          rw [wr64 (by omega) (by omega), show (i : Int) - 1 = ((i - 1 : Nat) : Int) by omega]
          refine tri_op (idxS_op (i := i - 1) (by omega)) (tri_assoc (tri_op (digit_op _) (tri_bdret ?_)))
          cases h3 : isDig s[i - 1] with
          | true =>
            refine tri_bif_f (by simp) (tri_bdret (tri_f (by simp) (next ?_)))
            rintro ⟨_, _, h4, _⟩
            have := h4 _ (List.getElem?_eq_getElem (by omega))
            rw [h3] at this
            cases this
          | false =>
            refine tri_bif_t (by simp) (tri_assoc ?_)
            refine tri_op (idxS_op (i := i + d.length) hr) (tri_assoc (tri_op (digit_op _) (tri_bdret ?_)))
            cases h5 : isDig s[i + d.length] with
            | true =>
              refine tri_f (by simp) (next ?_)
              rintro ⟨_, _, _, h4⟩
              have := h4 _ (List.getElem?_eq_getElem hr)
              rw [h5] at this
              cases this
            | false =>
              refine tri_t (by simp) (tri_ret fun q hq => ⟨⟨rfl, i, h1, hr, htk.1 ht, fun c hc => ?_, fun c hc => ?_⟩, hq⟩)
              · rw [List.getElem?_eq_getElem (by omega)] at hc
                cases hc
                exact h3
              · rw [List.getElem?_eq_getElem hr] at hc
                cases hc
                exact h5
        · refine tri_bif_f (by simp [ht]) (tri_bdret (tri_bif_f (by simp) (tri_bdret (tri_f (by simp) (next ?_)))))
          rintro ⟨_, h4, _⟩
          exact ht (htk.2 h4)
      · refine tri_f (by simp; omega) (tri_ret fun q hq => ⟨?_, hq⟩)
        rintro ⟨m, k1, k2, k3⟩
        exact hno m k1 (by omega) ⟨k2, k3⟩
  have l0 := loop N 1 (by omega) (by omega) (by omega) fun m h3 h4 => by omega
  refine tri_call [] l0 fun x => tri_pu fun hx => tri_flat ?_
  cases x with
  | inl u => exact tri_end [] fun q hq => ⟨⟨fun c => (by cases c), fun c => absurd c hx⟩, hq⟩
  | inr r => exact tri_end [] fun q hq => ⟨⟨fun _ => hx.2, fun _ => hx.1⟩, hq⟩

/-- moatref04.Parse -/
theorem rparse_spec {s : List UInt8} (hs : s.length ≤ 900) (hN : 1010 < N) : Tri (stars []) (F_moatref04_Parse N s) fun r => pu (r = parseN s) (stars []) := by
  unfold F_moatref04_Parse
  have loop : ∀ (K : Nat) (j : Nat) (n : Nat), 17 - j < K → j ≤ 16 → n < 65536 → (∀ i, n.testBit i = true ↔ i < j ∧ Named s (Lib.decDigits i)) →
      Tri (stars []) (iter K (fun go_3 (v_2 : Int × Int) => if (decide (v_2.2 < (16 : Int))) = true then (bd (F_moatref04_named N s v_2.2) fun r_4 => bd (show M (Int) from if r_4 = true then (bd (F_moatref04_with N v_2.1 v_2.2) fun r_5 => ret r_5) else (ret v_2.1)) fun j_6 => go_3 ((j_6, wr .i64 (v_2.2 + (1 : Int))))) else (ret v_2.1)) ((n : Int), (j : Int)))
      fun r => pu (∃ m : Nat, r = (m : Int) ∧ m < 65536 ∧ ∀ i, m.testBit i = true ↔ i < 16 ∧ Named s (Lib.decDigits i)) (stars []) := by
    intro K
    induction K with
    | zero => intro j n hj; omega
    | succ K ih =>
      intro j n hj h1 hn hb
      show Tri _ (if _ then _ else _) _
      by_cases hj2 : j < 16
      · refine tri_t (by simp; omega) (tri_call [] (rnamed_spec hj2 hs hN) fun r => tri_pu fun hr => tri_flat ?_)
        rw [wr64 (by omega) (by omega)]
        cases r with
        | true =>
          have hbj : n.testBit j = false := by
            cases h : n.testBit j with
            | false => rfl
            | true => have := ((hb j).1 h).1; omega
          refine tri_bif_t rfl (tri_assoc (tri_op (with_op hn hj2 hbj hN) (tri_bdret ?_)))
          refine ih (j + 1) _ (by omega) (by omega) (add_bit hn hj2 hbj).2 fun i => ?_
          rw [Nat.testBit_or, two_bit, Bool.or_eq_true, hb, decide_eq_true_iff]
          constructor
          · rintro (h | rfl)
            · exact ⟨by omega, h.2⟩
            · exact ⟨by omega, hr.1 rfl⟩
          · rintro ⟨h2, h3⟩
            by_cases h4 : j = i
            · exact .inr h4
            · exact .inl ⟨by omega, h3⟩
        | false =>
          refine tri_bif_f (by simp) (tri_bdret ?_)
          refine ih (j + 1) _ (by omega) (by omega) hn fun i => ?_
          rw [hb]
          constructor
          · exact fun h => ⟨by omega, h.2⟩
          · rintro ⟨h2, h3⟩
            refine ⟨?_, h3⟩
            by_cases h4 : i = j
            · subst h4
              exact absurd (hr.2 h3) (by simp)
            · omega
      · obtain rfl : j = 16 := by omega
        exact tri_f (by simp) (tri_ret fun q hq => ⟨⟨n, rfl, hn, hb⟩, hq⟩)
  have l0 := loop N 0 0 (by omega) (by omega) (by omega) fun i => by simp
  refine tri_call [] l0 fun r => tri_pu fun hr => tri_flat ?_
  obtain ⟨m, rfl, hm, hbits⟩ := hr
  have hlab : IsLab (m : Int) := ⟨by omega, by omega⟩
  refine tri_call [] (rtext_spec hlab hN) fun r => tri_pu fun hr => tri_flat ?_
  rw [Int.toNat_natCast] at hr
  subst hr
  rcases parse_cases s with ⟨a, ha, hs1, hp⟩ | ⟨hno, hp⟩
  · have e : m = a := by
      apply Nat.eq_of_testBit_eq
      intro i
      rw [Bool.eq_iff_iff, hbits]
      constructor
      · rintro ⟨h1, h2⟩
        rw [← hs1] at h2
        exact (named_text h1).1 h2
      · intro h
        have hi : i < 16 := by
          by_cases hi : i < 16
          · exact hi
          · have : a.testBit i = false := Nat.testBit_lt_two_pow (Nat.lt_of_lt_of_le (show a < 2 ^ 16 from ha) (Nat.pow_le_pow_right (by omega) (by omega)))
            rw [this] at h
            cases h
        refine ⟨hi, ?_⟩
        rw [← hs1]
        exact (named_text hi).2 h
    subst e
    refine tri_f (by simp [hs1]) (tri_ret fun q hq => ⟨by rw [hp], hq⟩)
  · refine tri_t (by simp [hno m hm]) (tri_ret fun q hq => ⟨by rw [hp], hq⟩)

theorem cut_op (s : List UInt8) (h : Hp) : slcS s (0 : Int) ((if (200 : Int) < (s.length : Int) then (200 : Int) else (s.length : Int))) h = some (s.take 200, h) := by
  unfold slcS
  by_cases hl : 200 < s.length
  · rw [if_pos (show (200 : Int) < (s.length : Int) by omega), if_pos (by omega)]
    rfl
  · rw [if_neg (show ¬ (200 : Int) < (s.length : Int) by omega), if_pos (by omega)]
    show some ((s.drop 0).take ((s.length : Int) - 0).toNat, h) = _
    rw [List.drop_zero, show ((s.length : Int) - 0).toNat = s.length by omega, List.take_length, List.take_of_length_le (by omega)]

theorem texts_spec {g : Glob} {s : List UInt8} (hN : 1010 < N) (ha : IsLab a) : Tri (stars [GlA g]) (F_moatlaw04_LabelTexts N a s) fun r => pu (r = true) (stars [GlA g]) := by
  unfold F_moatlaw04_LabelTexts
  have hl : (s.take 200).length ≤ 900 := by rw [List.length_take]; omega
  refine tri_op (cut_op s) ?_
  refine tri_call [0] (parse_spec hl hN) fun r => tri_pu fun hr => tri_flat ?_
  refine tri_call [] (rparse_spec hl hN) fun r2 => tri_pu fun hr2 => tri_flat ?_
  refine tri_call [0] (shown_spec hN) fun r3 => tri_pu fun hr3 => tri_flat ?_
  refine tri_bif_t hr3 (tri_assoc ?_)
  refine tri_call [] (text_spec ha.1 ha.2 (by omega)) fun t => tri_pu fun ht => tri_flat (tri_assoc ?_)
  refine tri_call [] (rtext_spec ha hN) fun t2 => tri_pu fun ht2 => tri_flat (tri_bdret ?_)
  exact tri_end [0] fun q hq => ⟨by rw [hr, hr2, ht, ht2]; simp, hq⟩

theorem back_spec {g : Glob} {s : List UInt8} (hN : 1010 < N) (ha : IsLab a) : Tri (stars [GlA g]) (F_moatlaw04_LabelBack N a s) fun r => pu (r = true) (stars [GlA g]) := by
  unfold F_moatlaw04_LabelBack
  have hl : (s.take 200).length ≤ 900 := by rw [List.length_take]; omega
  have han : a.toNat < 65536 := by have := ha.1; have := ha.2; omega
  refine tri_call [0] (shown_spec hN) fun r3 => tri_pu fun hr3 => tri_flat ?_
  refine tri_call [] (list_spec ha.1 ha.2 (by omega)) fun p => tri_flat ?_
  have hcl := cats_len a.toNat
  refine tri_call [0] (of_spec rd_own (by omega) (by omega)) fun r5 => tri_pu fun hr5 => tri_flat ?_
  rw [ofN_cats han] at hr5
  refine tri_call [] (text_spec ha.1 ha.2 (by omega)) fun t => tri_pu fun ht => tri_flat ?_
  refine tri_call [1] (parse_spec (s := t) (by rw [ht]; have := text_len (a := a.toNat); omega) hN) fun r7 => tri_pu fun hr7 => tri_flat ?_
  rw [ht, parse_text han] at hr7
  refine tri_op (cut_op s) ?_
  refine tri_call [0] (parse_spec hl hN) fun r9 => tri_pu fun hr9 => tri_flat ?_
  subst hr3 hr5 hr7
  have e : ((a.toNat : Int)) = a := Int.toNat_of_nonneg ha.1
  refine tri_bif_t (by simp [ofR, e]) (tri_assoc ?_)
  rcases parse_cases (s.take 200) with ⟨b, hb, hs1, hp⟩ | ⟨hno, hp⟩
  · rw [hp] at hr9
    subst hr9
    refine tri_bif_t (by simp) (tri_assoc ?_)
    refine tri_call [] (text_spec (a := (b : Int)) (by omega) (by omega) (by omega)) fun t2 => tri_pu fun ht2 => tri_flat (tri_bdret (tri_bdret ?_))
    rw [Int.toNat_natCast, hs1] at ht2
    exact tri_end [0] fun q hq => ⟨by rw [ht2]; simp, hq⟩
  · rw [hp] at hr9
    subst hr9
    refine tri_bif_f (by simp) (tri_bdret (tri_bdret ?_))
    exact tri_end [0] fun q hq => ⟨by simp, hq⟩
end
end Go.Moat
