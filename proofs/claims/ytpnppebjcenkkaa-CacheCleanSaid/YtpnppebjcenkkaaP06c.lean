/- Layer 6: sorting few ints; Dirty, Flush. -/
import Derived.Test.YtpnppebjcenkkaaL06b
namespace Go.Mini

theorem wr_u {k : IntKind} {n : Int} (hs : k.signed = false) (h0 : 0 ≤ n) (h1 : n < 2 ^ k.bits) : wr k n = n := by
  unfold wr IntKind.wrap
  rw [hs]
  simp only [Bool.false_and, Bool.false_eq_true, if_false]
  exact Int.emod_eq_of_lt h0 h1

section
variable {β : Type} {l : List HA} {S : β → HA}
/-- One element is written. -/
theorem tri_own_S (n : Nat) {s : Sl} {ks : List Int} (hl : l[n]? = some (OwnA s 1 (ints ks))) {i : Nat} (hi : i < ks.length) {v : Int} {f : Unit → M β} (kk : Tri (stars (upd l n (OwnA s 1 (ints (ks.set i v))))) (f ()) S) : Tri (stars l) (bd (idx 1 s (i : Int)) fun q => bd (stc q (.int .i64 v)) f) S := by
  refine tri_own n hl (fun h1 h2 => ?_) fun b ln h1 h2 => ?_
  · have := congrArg List.length h2
    rw [ints_len] at this
    simp at this
    subst this
    simp at hi
  · subst h1
    rw [ints_len] at h2
    refine tri_idx (by omega) (tri_stc n (nth_upd l n _ hl) (by rw [Nat.zero_add, Nat.mul_one, ints_len]; exact hi) rfl ?_)
    rw [Nat.zero_add, Nat.mul_one, upd_upd]
    have e : (ints ks).set i (.int .i64 v) = ints (ks.set i v) := by simp [ints, List.map_set]
    rw [e]
    refine kk.pre fun q hq => ?_
    have := stars_set_imp n (l := upd l n (pts b (.cells (ints (ks.set i v)) false))) (B := OwnA ⟨some ⟨b, 0⟩, ln⟩ 1 (ints (ks.set i v))) (nth_upd l n _ hl) (fun q h => .mk (by rw [ints_len, List.length_set]; exact h2) h) q hq
    rwa [upd_upd] at this
end
end Go.Mini

namespace Go.Moat
open Go.Mini
section
variable {N : Nat} {β : Type} {l : List HA} {S : β → HA}

theorem less_eq (N : Nat) (x y : Int) (h : Hp) : F_cmp_Less_int N x y h = some (decide (x < y), h) := by
  unfold F_cmp_Less_int F_cmp_isNaN_int
  simp [bd, ret]

theorem inner_spec {s : Sl} {ks : List Int} (hl : ks.length ≤ 12) : ∀ (K : Nat) (j : Nat), j < K → j < ks.length → Tri (stars [OwnA s 1 (ints ks)])
    (iter K (fun go_7 (v_6 : Int) => bd (if (decide ((0 : Int) < v_6)) = true then (bd (idx 1 s v_6) fun q_8 => bd (ldI .i64 q_8) fun (y_9 : Int) => bd (idx 1 s (wr .i64 (v_6 - (1 : Int)))) fun q_10 => bd (ldI .i64 q_10) fun (y_11 : Int) => bd (F_cmp_Less_int N y_9 y_11) fun r_12 => ret r_12) else ret false) fun c_13 => if c_13 = true then (bd (idx 1 s (wr .i64 (v_6 - (1 : Int)))) fun q_14 => bd (ldI .i64 q_14) fun (y_15 : Int) => bd (idx 1 s v_6) fun q_16 => bd (ldI .i64 q_16) fun (y_17 : Int) => bd (idx 1 s v_6) fun q_18 => bd (stc q_18 (MV.int .i64 y_15)) fun _ => bd (idx 1 s (wr .i64 (v_6 - (1 : Int)))) fun q_19 => bd (stc q_19 (MV.int .i64 y_17)) fun _ => go_7 (wr .i64 (v_6 - (1 : Int)))) else (ret ())) (j : Int) : M Unit)
    fun _ => exA fun js : List Int => pu (js.Perm ks) (stars [OwnA s 1 (ints js)]) := by
  intro K
  induction K generalizing ks with
  | zero => intro j hj; omega
  | succ K ih =>
    intro j hj hj2
    show Tri _ (bd (if _ then _ else _) _) _
    cases j with
    | zero =>
      refine Tri.bd (Q := fun r : Bool => pu (r = false) (stars [OwnA s 1 (ints ks)])) (tri_f (by simp) (tri_ret fun q hq => ⟨rfl, hq⟩)) fun r => tri_p fun hr => ?_
      subst hr
      exact tri_f (by simp) (tri_ret fun q hq => ⟨ks, .refl _, hq⟩)
    | succ j =>
      have e1 : wr .i64 (((j + 1 : Nat) : Int) - 1) = (j : Int) := by rw [wr64 (by omega) (by omega)]; simp
      have hj3 : j < ks.length := by omega
      refine Tri.bd (Q := fun r : Bool => stars [OwnA s 1 (ints ks)]) ?_ fun r => ?_
      · refine tri_t (by simp) ?_
        rw [e1]
        refine tri_own_I 0 rfl hj2 (tri_own_I 0 rfl hj3 (tri_op (less_eq N _ _) (tri_ret fun q hq => hq)))
      · cases r with
        | false => exact tri_f (by simp) (tri_ret fun q hq => ⟨ks, .refl _, hq⟩)
        | true =>
          refine tri_t rfl ?_
          rw [e1]
          refine tri_own_I 0 rfl hj3 (tri_own_I 0 rfl hj2 (tri_own_S 0 rfl hj2 ?_))
          dsimp only [sel, rem, nth, del, cat, upd]
          refine tri_own_S 0 rfl (i := j) (by rw [List.length_set]; exact hj3) ?_
          dsimp only [sel, rem, nth, del, cat, upd]
          have hp := List.set_set_perm (as := ks) hj2 hj3
          have hlen : ((ks.set (j + 1) ks[j]).set j ks[j + 1]).length = ks.length := by simp
          exact (ih (ks := (ks.set (j + 1) ks[j]).set j ks[j + 1]) (by rw [hlen]; exact hl) j (by omega) (by rw [hlen]; exact hj3)).post fun _ q ⟨js, h1, h2⟩ => ⟨js, h1.trans hp, h2⟩

theorem isort_spec {s : Sl} {ks : List Int} (hl : ks.length ≤ 12) (hN : 12 < N) : Tri (stars [OwnA s 1 (ints ks)]) (F_slices_insertionSortOrdered_int N s 0 (ks.length : Int)) fun _ => exA fun js : List Int => pu (js.Perm ks) (stars [OwnA s 1 (ints js)]) := by
  unfold F_slices_insertionSortOrdered_int
  have loop : ∀ (K : Nat) (j : Nat) (js : List Int), js.Perm ks → ks.length + 1 - j < K → Tri (stars [OwnA s 1 (ints js)])
      (iter K (fun go_5 (v_4 : Int) => if (decide (v_4 < (ks.length : Int))) = true then (bd (show M (Unit) from iter N (fun go_7 (v_6 : Int) => bd (if (decide ((0 : Int) < v_6)) = true then (bd (idx 1 s v_6) fun q_8 => bd (ldI .i64 q_8) fun (y_9 : Int) => bd (idx 1 s (wr .i64 (v_6 - (1 : Int)))) fun q_10 => bd (ldI .i64 q_10) fun (y_11 : Int) => bd (F_cmp_Less_int N y_9 y_11) fun r_12 => ret r_12) else ret false) fun c_13 => if c_13 = true then (bd (idx 1 s (wr .i64 (v_6 - (1 : Int)))) fun q_14 => bd (ldI .i64 q_14) fun (y_15 : Int) => bd (idx 1 s v_6) fun q_16 => bd (ldI .i64 q_16) fun (y_17 : Int) => bd (idx 1 s v_6) fun q_18 => bd (stc q_18 (MV.int .i64 y_15)) fun _ => bd (idx 1 s (wr .i64 (v_6 - (1 : Int)))) fun q_19 => bd (stc q_19 (MV.int .i64 y_17)) fun _ => go_7 (wr .i64 (v_6 - (1 : Int)))) else (ret ())) v_4) fun j_20 => go_5 (wr .i64 (v_4 + (1 : Int)))) else (ret ())) (j : Int) : M Unit)
      fun _ => exA fun js : List Int => pu (js.Perm ks) (stars [OwnA s 1 (ints js)]) := by
    intro K
    induction K with
    | zero => intro j js hp hj; omega
    | succ K ih =>
      intro j js hp hj
      show Tri _ (if _ then _ else _) _
      have hjl := hp.length_eq
      by_cases hj2 : j < ks.length
      · refine tri_t (by simp; omega) ?_
        refine Tri.bd (inner_spec (ks := js) (by omega) N j (by omega) (by omega)) fun _ => tri_x fun js2 => tri_p fun hp2 => ?_
        rw [wr64 (by omega) (by omega)]
        exact ih (j + 1) js2 (hp2.trans hp) (by omega)
      · exact tri_f (by simp; omega) (tri_ret fun q hq => ⟨js, hp, hq⟩)
  rw [show wr .i64 ((0 : Int) + 1) = ((1 : Nat) : Int) from rfl]
  exact Tri.bd (loop N 1 ks (.refl _) (by omega)) fun _ => tri_ret fun q hq => hq

set_option maxRecDepth 100000 in
theorem bitsLen_ok (N : Nat) {x : Int} (h0 : 0 ≤ x) (h1 : x < 256) : ∃ r, ∀ h, F_math_bits_Len N x h = some (r, h) := by
  unfold F_math_bits_Len F_math_bits_Len64
  obtain ⟨n, rfl⟩ : ∃ n : Nat, x = n := ⟨x.toNat, by omega⟩
  simp only [Bool.false_eq_true, if_false]
  have a1 : decide ((4294967296 : Int) ≤ (n : Int)) = false := by simp; omega
  have a2 : decide ((65536 : Int) ≤ (n : Int)) = false := by simp; omega
  have a3 : decide ((256 : Int) ≤ (n : Int)) = false := by simp; omega
  have a4 : wr .u8 (n : Int) = n := wr_u rfl (by omega) (by simp [IntKind.bits]; omega)
  simp only [a1, a2, a3, a4, bd, ret, Bool.false_eq_true, if_false, idxS]
  have hn : n < 256 := by omega
  rw [if_pos (by omega), Int.toNat_natCast]
  generalize ht : ([0, 1, 2, 2, 3, 3, 3, 3, 4, 4, 4, 4, 4, 4, 4, 4, 5, 5, 5, 5, 5, 5, 5, 5, 5, 5, 5, 5, 5, 5, 5, 5, 6, 6, 6, 6, 6, 6, 6, 6, 6, 6, 6, 6, 6, 6, 6, 6, 6, 6, 6, 6, 6, 6, 6, 6, 6, 6, 6, 6, 6, 6, 6, 6, 7, 7, 7, 7, 7, 7, 7, 7, 7, 7, 7, 7, 7, 7, 7, 7, 7, 7, 7, 7, 7, 7, 7, 7, 7, 7, 7, 7, 7, 7, 7, 7, 7, 7, 7, 7, 7, 7, 7, 7, 7, 7, 7, 7, 7, 7, 7, 7, 7, 7, 7, 7, 7, 7, 7, 7, 7, 7, 7, 7, 7, 7, 7, 7, 8, 8, 8, 8, 8, 8, 8, 8, 8, 8, 8, 8, 8, 8, 8, 8, 8, 8, 8, 8, 8, 8, 8, 8, 8, 8, 8, 8, 8, 8, 8, 8, 8, 8, 8, 8, 8, 8, 8, 8, 8, 8, 8, 8, 8, 8, 8, 8, 8, 8, 8, 8, 8, 8, 8, 8, 8, 8, 8, 8, 8, 8, 8, 8, 8, 8, 8, 8, 8, 8, 8, 8, 8, 8, 8, 8, 8, 8, 8, 8, 8, 8, 8, 8, 8, 8, 8, 8, 8, 8, 8, 8, 8, 8, 8, 8, 8, 8, 8, 8, 8, 8, 8, 8, 8, 8, 8, 8, 8, 8, 8, 8, 8, 8, 8, 8, 8, 8, 8, 8, 8, 8, 8, 8, 8, 8, 8, 8] : List UInt8) = T
  have hT : n < T.length := by rw [← ht]; exact hn
  rw [List.getElem?_eq_getElem hT]
  exact ⟨_, fun h => rfl⟩

theorem sort_spec {s : Sl} {ks : List Int} (hl : ks.length ≤ 12) (hN : 12 < N) : Tri (stars [OwnA s 1 (ints ks)]) (F_slices_Sort_Lint_int N s) fun _ => exA fun js : List Int => pu (js.Perm ks) (stars [OwnA s 1 (ints js)]) := by
  unfold F_slices_Sort_Lint_int
  refine own_lenI 0 rfl fun hs => ?_
  rw [hs, wr_u (k := .u64) rfl (by omega) (by simp [IntKind.bits]; omega)]
  obtain ⟨r, hr⟩ := bitsLen_ok N (x := (ks.length : Int)) (by omega) (by omega)
  refine tri_op hr ?_
  refine Tri.bd (Q := fun _ => exA fun js : List Int => pu (js.Perm ks) (stars [OwnA s 1 (ints js)])) ?_ fun _ => tri_ret fun q hq => hq
  unfold F_slices_pdqsortOrdered_int
  refine Tri.bd (Q := fun _ => exA fun js : List Int => pu (js.Perm ks) (stars [OwnA s 1 (ints js)])) ?_ fun _ => tri_ret fun q hq => hq
  obtain ⟨K, rfl⟩ : ∃ K, N = K + 1 := ⟨N - 1, by omega⟩
  show Tri _ (if _ then _ else _) _
  refine tri_t (by rw [wr64 (by dsimp only; omega) (by dsimp only; omega)]; simp; omega) ?_
  exact Tri.bd (isort_spec hl hN) fun _ => tri_ret fun q hq => hq

/-- The sectors that are to be written. -/
def dirtyK (L : List (Int × SlotS)) : List Int := (L.filter fun e => e.2.dirty).map (·.1)

variable {c d n : Nat} {room P : Int} {D : DskS} {m : Nat} {L : List (Int × SlotS)}

theorem look_at {E : List Ent} (hk : (ekeys E).Nodup) {j : Nat} (hj : j < E.length) : (ptrOf E E[j].k).getD (MV.ptr none) = .ptr (some ⟨E[j].b, 0⟩) := by
  rw [ptrOf_mem hk (List.getElem_mem hj)]
  rfl

theorem dirty_spec (hN : 900 < N) (hroom : room ≤ 12) : Tri (stars [CacheA c d n room P L]) (F_cache_Cache_Dirty N (some ⟨c, 0⟩)) fun r => exA fun ks : List Int => pu (ks.Perm (dirtyK L)) (stars [CacheA c d n room P L, OwnA r 1 (ints ks)]) := by
  unfold F_cache_Cache_Dirty
  refine tri_f (by simp) ?_
  refine tri_cache 0 rfl fun m sl E hE hW => ?_
  dsimp only [sel, rem, nth, del, cat, upd]
  refine tri_gL 0 rfl rfl ?_
  refine own_lenI 2 rfl fun hsl => ?_
  have hk : (ekeys E).Nodup := by rw [← ekeys_kx, hE]; exact hW.nodup
  have hlen : (ekeys E).length = L.length := by rw [ekeys_len, hE]
  have hEl : E.length = L.length := by rw [← hE, List.length_map]
  have hl := hW.len
  have loop : ∀ (K : Nat) (j : Nat) (w : Sl), E.length - j < K → j ≤ E.length → Tri (stars [pts c (.cells (cacheC d room m sl) false), MapE m E, OwnA sl 1 (ints (ekeys E)), SlotsA E, OwnA w 1 (ints (dirtyK (L.take j)))])
      (iter K (fun go_6 (v_5 : Sl × Int) => if (decide (v_5.2 < (sl.len : Int))) = true then (bd (idx 1 sl v_5.2) fun q_7 => bd (ldI .i64 q_7) fun (y_8 : Int) => bd (nonNil (some ⟨c, 0⟩)) fun q_9 => bd (fld q_9 2) fun q_10 => bd (ldM q_10) fun (y_11 : Option Nat) => bd (mapLook y_11 (MV.int .i64 y_8)) fun o_12 => bd (someOr (CTy.dec (.ptr) (o_12.getD (MV.ptr (none : Option MA))))) fun (y_13 : Option MA) => bd (nonNil y_13) fun q_14 => bd (fld q_14 3) fun q_15 => bd (ldB q_15) fun (y_16 : Bool) => bd (show M (Sl) from if y_16 = true then (bd (alloc [MV.int .i64 y_8]) fun q_17 => bd (app 1 8 v_5.1 (⟨q_17, 1⟩)) fun l_18 => ret l_18) else (ret v_5.1)) fun j_19 => go_6 ((j_19, wr .i64 (v_5.2 + (1 : Int))))) else (ret v_5.1)) ((w, (j : Int))))
      fun r => stars [pts c (.cells (cacheC d room m sl) false), MapE m E, OwnA sl 1 (ints (ekeys E)), SlotsA E, OwnA r 1 (ints (dirtyK L))] := by
    intro K
    induction K with
    | zero => intro j w hj; omega
    | succ K ih =>
      intro j w hj h1
      show Tri _ (if _ then _ else _) _
      by_cases hj2 : j < E.length
      · have hjL : j < L.length := by omega
        have hLj : L[j] = (E[j].k, E[j].x) := by
          have : L[j]? = some (E[j].k, E[j].x) := by rw [← hE, List.getElem?_map, List.getElem?_eq_getElem hj2]; rfl
          rw [List.getElem?_eq_getElem hjL] at this
          exact Option.some.inj this
        refine tri_t (by simp [hsl, hlen]; omega) ?_
        refine tri_own_I 2 rfl (i := j) (by omega) ?_
        have hkj : (ekeys E)[j]'(by omega) = E[j].k := by simp [ekeys]
        rw [hkj]
        refine tri_gM 0 rfl rfl (tri_mape 1 rfl _ ?_)
        rw [look_at hk hj2, dec_ptr]
        refine tri_some ?_
        refine tri_slot 3 (perm_at hj2) rfl ?_
        dsimp only [sel, rem, nth, del, cat, upd]
        refine tri_slotx 0 rfl fun bl hbl => ?_
        dsimp only [sel, rem, nth, del, cat, upd]
        refine tri_gB 0 rfl rfl ?_
        have back : ∀ q, stars [pts E[j].b (.cells (slotC E[j] bl) false), OwnA bl 1 (bytesOf E[j].x.s.b), SlotsA (E.eraseIdx j)] q → SlotsA E q := fun q hq => by
          rw [slots_perm (perm_at hj2), slots_cons]
          exact ent_fold (l := [SlotsA (E.eraseIdx j)]) [_, _] (fun q h => ⟨bl, hbl, h⟩) hq
        have htk : dirtyK (L.take (j + 1)) = dirtyK (L.take j) ++ if E[j].x.dirty = true then [E[j].k] else [] := by
          unfold dirtyK
          rw [List.take_succ_eq_append_getElem hjL, List.filter_append, List.map_append, hLj]
          congr 1
          by_cases hd : E[j].x.dirty = true
          · simp [hd]
          · simp [hd]
        refine Tri.bd (Q := fun r => stars [pts c (.cells (cacheC d room m sl) false), MapE m E, OwnA sl 1 (ints (ekeys E)), SlotsA E, OwnA r 1 (ints (dirtyK (L.take (j + 1))))]) ?_ fun r => ?_
        · rw [htk]
          have join : ∀ q (w' : Sl) ks, stars [pts E[j].b (.cells (slotC E[j] bl) false), OwnA bl 1 (bytesOf E[j].x.s.b), SlotsA (E.eraseIdx j), pts c (.cells (cacheC d room m sl) false), MapE m E, OwnA sl 1 (ints (ekeys E)), OwnA w' 1 (ints ks)] q → stars [pts c (.cells (cacheC d room m sl) false), MapE m E, OwnA sl 1 (ints (ekeys E)), SlotsA E, OwnA w' 1 (ints ks)] q := fun q w' ks hq => by
            have hq := ent_fold (l := [pts c (.cells (cacheC d room m sl) false), MapE m E, OwnA sl 1 (ints (ekeys E)), OwnA w' 1 (ints ks)]) [_, _, _] back hq
            exact ent_sel [1, 1, 1, 0, 0] hq
          by_cases hd : E[j].x.dirty = true
          · refine tri_t hd ?_
            rw [if_pos hd]
            refine tri_alloc fun b => ?_
            refine own_lenI 7 rfl fun hw => ?_
            have hdl : (dirtyK (L.take j)).length ≤ j := by
              unfold dirtyK
              rw [List.length_map]
              have := List.length_filter_le (fun e : Int × SlotS => e.2.dirty) (L.take j)
              rw [List.length_take] at this
              omega
            have := hW.most
            refine tri_call [7, 0] (pts_app (k := 1) (e := 1) (by' := 8) (by omega) (by simp) rfl (by have : most = 70368744177664 := rfl; omega)) fun r => tri_flat ?_
            dsimp only [sel, rem, nth, del, cat, upd]
            refine tri_end [2, 2, 2, 2, 2, 2, 0] fun q hq => ?_
            have e : ints (dirtyK (L.take j)) ++ [MV.int .i64 E[j].k].take (1 * 1) = ints (dirtyK (L.take j) ++ [E[j].k]) := by simp [ints]
            dsimp only [sel, rem, nth, del, cat, upd] at hq
            rw [e] at hq
            exact join q r _ hq
          · refine tri_f hd ?_
            rw [if_neg hd, List.append_nil]
            exact tri_end [0, 0, 0, 0, 0, 0, 0] fun q hq => join q w _ hq
        · rw [wr64 (by omega) (by omega)]
          exact ih (j + 1) r (by omega) (by omega)
      · have e : L.take j = L := List.take_of_length_le (by omega)
        rw [e]
        exact tri_f (by simp [hsl, hlen]; omega) (tri_ret fun q hq => hq)
  have hmo := hW.most
  have hdl : (dirtyK L).length ≤ L.length := by
    unfold dirtyK
    rw [List.length_map]
    exact List.length_filter_le _ _
  refine tri_call [0, 0, 0, 0] (Q := fun r => stars [pts c (.cells (cacheC d room m sl) false), MapE m E, OwnA sl 1 (ints (ekeys E)), SlotsA E, OwnA r 1 (ints (dirtyK L))]) ?_ fun r => tri_flat ?_
  · dsimp only [sel, rem, nth, del, cat, upd]
    exact (loop N 0 ⟨none, 0⟩ (by omega) (by omega)).pre fun q hq => ent_sel [1, 1, 1, 1, 0] (ent_emp (fun q h => OwnA.nil 1 h) hq)
  · dsimp only [sel, rem, nth, del, cat, upd]
    refine tri_call [4] (sort_spec (by omega) (by omega)) fun _ => tri_ex fun ks => tri_pu fun hp => tri_flat ?_
    dsimp only [sel, rem, nth, del, cat, upd]
    refine tri_end [1, 1, 1, 1, 0] fun q hq => ⟨ks, hp, ?_⟩
    exact ent_fold (l := [OwnA r 1 (ints ks)]) [_, _, _, _] (fun q h => by rw [← hE] at hW ⊢; exact cache_fold hW h) hq

/-- One sector is written, if it may. -/
def fstep (st : List (Int × SlotS) × DskS) (k : Int) : List (Int × SlotS) × DskS := match lookS st.1 k with
  | some x => if 0 < x.pins then st else (updL st.1 k { x with dirty := false }, wrD st.2 k x.s)
  | none => st
def cleanS (x : SlotS) : SlotS := if 0 < x.pins then x else { x with dirty := false }

theorem lookS_keys {L : List (Int × SlotS)} {k : Int} (h : k ∈ L.map (·.1)) : ∃ x, lookS L k = some x := by
  cases hl : lookS L k with
  | some x => exact ⟨x, rfl⟩
  | none => exact absurd h (lookS_none.1 hl)

structure FoldR (n : Nat) (room P : Int) (L : List (Int × SlotS)) (D : DskS) (ks : List Int) (r : List (Int × SlotS) × DskS) : Prop where
  wf : WfE n room P r.1
  live : Live n r.2
  lo : D.done ≤ r.2.done
  hi : r.2.done ≤ D.done + ks.length
  keys : r.1.map (·.1) = L.map (·.1)
  look : ∀ k, lookS r.1 k = if k ∈ ks then (lookS L k).map cleanS else lookS L k
  secs : ∀ k : Int, 0 ≤ k → r.2.secs[k.toNat]? = if k ∈ ks then (match lookS L k with | some x => if 0 < x.pins then D.secs[k.toNat]? else some x.s | none => D.secs[k.toNat]?) else D.secs[k.toNat]?

theorem fold_spec : ∀ (ks : List Int) (L : List (Int × SlotS)) (D : DskS), ks.Nodup → WfE n room P L → Live n D → FoldR n room P L D ks (ks.foldl fstep (L, D))
  | [], L, D, _, hW, hL => ⟨hW, hL, Int.le_refl _, by simp, rfl, fun k => by rw [if_neg (by simp)]; rfl, fun k _ => by rw [if_neg (by simp)]; rfl⟩
  | k :: ks, L, D, hn, hW, hL => by
    rw [List.nodup_cons] at hn
    show FoldR n room P L D (k :: ks) (ks.foldl fstep (fstep (L, D) k))
    have stay : fstep (L, D) k = (L, D) → (∀ x, lookS L k = some x → 0 < x.pins) → FoldR n room P L D (k :: ks) (ks.foldl fstep (fstep (L, D) k)) := fun h hx => by
      rw [h]
      have ih := fold_spec ks L D hn.2 hW hL
      refine ⟨ih.wf, ih.live, ih.lo, ?_, ih.keys, fun k' => ?_, fun k' h0 => ?_⟩
      · have := ih.hi
        rw [List.length_cons]
        omega
      · rw [ih.look]
        by_cases he : k' = k
        · subst he
          rw [if_neg hn.1, if_pos (by simp)]
          cases hl : lookS L k' with
          | none => rfl
          | some x => simp [cleanS, hx x hl]
        · by_cases hm : k' ∈ ks
          · rw [if_pos hm, if_pos (by simp [hm])]
          · rw [if_neg hm, if_neg (by simp [he, hm])]
      · rw [ih.secs k' h0]
        by_cases he : k' = k
        · subst he
          rw [if_neg hn.1, if_pos (by simp)]
          cases hl : lookS L k' with
          | none => rfl
          | some x => dsimp only; rw [if_pos (hx x hl)]
        · by_cases hm : k' ∈ ks
          · rw [if_pos hm, if_pos (by simp [hm])]
          · rw [if_neg hm, if_neg (by simp [he, hm])]
    cases hl : lookS L k with
    | none => exact stay (by unfold fstep; dsimp only; rw [hl]) (fun x hx => by rw [hl] at hx; cases hx)
    | some x =>
      by_cases hp : 0 < x.pins
      · exact stay (by unfold fstep; dsimp only; rw [hl]; dsimp only; rw [if_pos hp]) (fun y hy => by rw [hl] at hy; cases hy; exact hp)
      · have hs : fstep (L, D) k = (updL L k { x with dirty := false }, wrD D k x.s) := by
          unfold fstep
          dsimp only
          rw [hl]
          dsimp only
          rw [if_neg hp]
        rw [hs]
        have hm := lookS_mem hl
        have hr := hW.rng _ hm
        have hok := hW.ok _ hm
        dsimp only at hr hok
        have hW2 : WfE n room P (updL L k { x with dirty := false }) := wfe_upd hW (Int.le_refl _) hW.top hok (hW.pins _ hm)
        have hL2 := wrD_live hL hr.1 hr.2 hok
        have ih := fold_spec ks _ _ hn.2 hW2 hL2
        have hdn := wrD_done hL hr.1 hr.2 hok
        have hsz : k.toNat < D.secs.length := by rw [hL.secs]; omega
        refine ⟨ih.wf, ih.live, ?_, ?_, ih.keys.trans (updL_keys _ _ _), fun k' => ?_, fun k' h0 => ?_⟩
        · have := ih.lo
          omega
        · have := ih.hi
          rw [List.length_cons]
          omega
        · rw [ih.look, lookS_upd]
          by_cases he : k' = k
          · subst he
            rw [if_neg hn.1, if_pos rfl, if_pos (by simp), hl]
            simp [cleanS, hp]
          · rw [if_neg he]
            by_cases hm : k' ∈ ks
            · rw [if_pos hm, if_pos (by simp [hm])]
            · rw [if_neg hm, if_neg (by simp [he, hm])]
        · rw [ih.secs k' h0, lookS_upd, wrD_eq hL hr.1 hr.2 hok]
          dsimp only
          rw [List.getElem?_set]
          by_cases he : k' = k
          · subst he
            rw [if_neg hn.1, if_pos rfl, if_pos hsz, if_pos (by simp), hl]
            dsimp only
            rw [if_neg hp]
          · have hne : ¬ k.toNat = k'.toNat := by omega
            rw [if_neg he, if_neg hne]
            by_cases hm : k' ∈ ks
            · rw [if_pos hm, if_pos (by simp [hm])]
            · rw [if_neg hm, if_neg (by simp [he, hm])]

theorem flush_spec (hN : 900 < N) (hroom : room ≤ 12) (hL : Live n D) (hd : D.done < 1000000) : Tri (stars [CacheA c d n room P L, DiskA d D]) (F_cache_Cache_Flush N (some ⟨c, 0⟩))
    fun r => exA fun ks : List Int => pu (r = 0 ∧ ks.Perm (dirtyK L)) (stars [CacheA c d n room P (ks.foldl fstep (L, D)).1, DiskA d (flushD (ks.foldl fstep (L, D)).2)]) := by
  unfold F_cache_Cache_Flush
  refine tri_f (by simp) ?_
  refine cache_wf 0 rfl fun hW => ?_
  refine tri_call [0] (dirty_spec hN hroom) fun r => tri_ex fun ks => tri_pu fun hp => tri_flat ?_
  dsimp only [sel, rem, nth, del, cat, upd]
  refine own_lenI 1 rfl fun hr => ?_
  have hkn : ks.Nodup := hp.nodup_iff.2 ((List.filter_sublist.map _).nodup hW.nodup)
  have hkl : ks.length ≤ 12 := by
    have h1 := hp.length_eq
    have h2 := List.length_filter_le (fun e : Int × SlotS => e.2.dirty) L
    have h3 := hW.len
    unfold dirtyK at h1
    rw [List.length_map] at h1
    omega
  have loop : ∀ (K : Nat) (j : Nat), ks.length - j < K → j ≤ ks.length → Tri (stars [CacheA c d n room P ((ks.take j).foldl fstep (L, D)).1, OwnA r 1 (ints ks), DiskA d ((ks.take j).foldl fstep (L, D)).2])
      (iter K (fun go_4 (v_3 : Int) => if (decide (v_3 < (r.len : Int))) = true then (bd (show M (Unit ⊕ Int) from bd (idx 1 r v_3) fun q_5 => bd (ldI .i64 q_5) fun (y_6 : Int) => bd (nonNil (some ⟨c, 0⟩)) fun q_7 => bd (fld q_7 2) fun q_8 => bd (ldM q_8) fun (y_9 : Option Nat) => bd (mapLook y_9 (MV.int .i64 y_6)) fun o_10 => bd (someOr (CTy.dec (.ptr) (o_10.getD (MV.ptr (none : Option MA))))) fun (y_11 : Option MA) => bd (nonNil y_11) fun q_12 => bd (fld q_12 4) fun q_13 => bd (ldI .i64 q_13) fun (y_14 : Int) => if (decide ((0 : Int) < y_14)) = true then (ret ((Sum.inl ()))) else (bd (F_cache_Cache_write N (some ⟨c, 0⟩) y_11) fun r_15 => if (!decide (r_15 = (0 : Int))) = true then (ret (Sum.inr r_15)) else (ret ((Sum.inl ()))))) fun j_16 => (match j_16 with | Sum.inl j_17 => go_4 (wr .i64 (v_3 + (1 : Int))) | Sum.inr j_18 => ret (Sum.inr j_18))) else (ret ((Sum.inl ())))) (j : Int) : M (Unit ⊕ Int))
      fun r => pu (r = .inl ()) (stars [CacheA c d n room P (ks.foldl fstep (L, D)).1, DiskA d (ks.foldl fstep (L, D)).2]) := by
    intro K
    induction K with
    | zero => intro j hj; omega
    | succ K ih =>
      intro j hj h1
      show Tri _ (if _ then _ else _) _
      by_cases hj2 : j < ks.length
      · refine tri_t (by simp [hr]; omega) ?_
        have htk : (ks.take (j + 1)).foldl fstep (L, D) = fstep ((ks.take j).foldl fstep (L, D)) ks[j] := by
          rw [List.take_succ_eq_append_getElem hj2, List.foldl_append]
          rfl
        have hF := fold_spec (ks.take j) L D ((List.take_sublist _ _).nodup hkn) hW hL
        generalize hst : (ks.take j).foldl fstep (L, D) = st at hF htk ⊢
        obtain ⟨L1, D1⟩ := st
        dsimp only at hF ⊢
        have hkm : ks[j] ∈ L1.map (·.1) := by
          rw [hF.keys]
          have h2 := hp.mem_iff.1 (List.getElem_mem hj2)
          exact (List.filter_sublist.map _).subset h2
        obtain ⟨x, hx⟩ := lookS_keys hkm
        refine Tri.bd (Q := fun r' : Unit ⊕ Int => pu (r' = .inl ()) (stars [CacheA c d n room P (fstep (L1, D1) ks[j]).1, OwnA r 1 (ints ks), DiskA d (fstep (L1, D1) ks[j]).2])) ?_ fun r' => tri_p fun hr' => ?_
        · refine tri_own_I 1 rfl hj2 ?_
          refine tri_cache 0 rfl fun m sl E hE hW1 => ?_
          dsimp only [sel, rem, nth, del, cat, upd]
          have hk : (ekeys E).Nodup := by rw [← ekeys_kx, hE]; exact hW1.nodup
          have hx' := hx
          rw [← hE] at hx'
          obtain ⟨i, hi, hi1, hi2⟩ := lookS_at hx'
          refine tri_gM 0 rfl rfl (tri_mape 1 rfl _ ?_)
          rw [← hi1, look_at hk hi, dec_ptr]
          refine tri_some ?_
          refine tri_slot 3 (perm_at hi) rfl ?_
          dsimp only [sel, rem, nth, del, cat, upd]
          refine tri_slotx 0 rfl fun bl hbl => ?_
          dsimp only [sel, rem, nth, del, cat, upd]
          refine tri_gI 0 rfl rfl ?_
          have hfs : fstep (L1, D1) E[i].k = if 0 < E[i].x.pins then (L1, D1) else (updL L1 E[i].k { E[i].x with dirty := false }, wrD D1 E[i].k E[i].x.s) := by
            unfold fstep
            dsimp only
            rw [hi1, hx, ← hi2]
          rw [hfs]
          by_cases hpn : 0 < E[i].x.pins
          · rw [if_pos hpn]
            refine tri_t (by simpa using hpn) (tri_end [3, 3, 3, 0, 0, 0, 0, 0] fun q hq => ⟨rfl, ?_⟩)
            dsimp only [sel, rem, nth, del, cat, upd] at hq
            refine ent_fold (l := [OwnA r 1 (ints ks), DiskA d D1]) [_, _, _, _] (fun q h => by rw [← hE] at hW1 ⊢; exact cache_fold (m := m) (sl := sl) hW1 h) ?_
            refine ent_tail (fun q => ent_tail fun q => ent_tail fun q h => ?_) hq
            refine ent_fold (l := [OwnA r 1 (ints ks), DiskA d D1]) [_, _, _] (fun q h => ?_) h
            rw [slots_perm (perm_at hi), slots_cons]
            exact ent_fold (l := [SlotsA (E.eraseIdx i)]) [_, _] (fun q h => ⟨bl, hbl, h⟩) h
          · rw [if_neg hpn]
            refine tri_f (by simpa using hpn) ?_
            have hmem := List.getElem_mem hi
            have hkm2 : E[i].kx ∈ L1 := by rw [← hE]; exact List.mem_map_of_mem hmem
            have hrg := hW1.rng _ hkm2
            have hok := hW1.ok _ hkm2
            have hpb := hW1.pins _ hkm2
            have hlo := hF.hi
            have hlt : (ks.take j).length ≤ 12 := by rw [List.length_take]; omega
            refine Tri.pre (B := stars [pts c (.cells (cacheC d room m sl) false), SlotA E[i], DiskA d D1, SlotsA (E.eraseIdx i), MapE m E, OwnA sl 1 (ints (ekeys E)), OwnA r 1 (ints ks)]) ?_ fun q hq => ?_
            · refine tri_call [0, 0, 0] (cwrite_spec hF.live (by omega) hrg.1 hrg.2 hok) fun r' => tri_pu fun hr' => tri_flat ?_
              dsimp only [sel, rem, nth, del, cat, upd]
              refine tri_f (by simp [hr']) (tri_end [0, 3, 3, 0, 1, 1, 0] fun q hq => ⟨rfl, ?_⟩)
              dsimp only [sel, rem, nth, del, cat, upd] at hq
              refine ent_fold (l := [OwnA r 1 (ints ks), DiskA d (wrD D1 E[i].k E[i].x.s)]) [_, _, _, _, _] (fun q h => upd_fold (m := m) (sl := sl) hE hk hi (x := { E[i].x with dirty := false }) (P' := P) ?_ h) hq
              exact wfe_upd hW1 (Int.le_refl _) hW1.top hok hpb
            · have hq := ent_sel [3, 0, 0, 4, 0, 0, 0, 0] hq
              dsimp only [sel, rem, nth, del, cat, upd] at hq
              exact ent_tail (fun q h => ent_fold (l := [DiskA d D1, SlotsA (E.eraseIdx i), MapE m E, OwnA sl 1 (ints (ekeys E)), OwnA r 1 (ints ks)]) [_, _] (fun q h => ⟨bl, hbl, h⟩) h) hq
        · subst hr'
          dsimp only
          rw [wr64 (by omega) (by omega), ← htk]
          exact ih (j + 1) (by omega) (by omega)
      · have e : ks.take j = ks := List.take_of_length_le (by omega)
        rw [e]
        exact tri_f (by simp [hr]; omega) (tri_end [0, 1] fun q hq => ⟨rfl, hq⟩)
  have hF := fold_spec ks L D hkn hW hL
  refine tri_call [0, 0, 0] ((loop N 0 (by omega) (by omega)).pre fun q hq => hq) fun r => tri_pu fun hr => tri_flat ?_
  subst hr
  dsimp only [sel, rem, nth, del, cat, upd]
  refine tri_cache 0 rfl fun m sl E hE hW1 => ?_
  dsimp only [sel, rem, nth, del, cat, upd]
  refine tri_gP 0 rfl rfl ?_
  have h1 := hF.hi
  have h2 := hF.live.done
  refine tri_call [4] (disk_flush h2 (by omega)) fun r => tri_pu fun hr => tri_flat ?_
  dsimp only [sel, rem, nth, del, cat, upd]
  refine tri_end [1, 1, 1, 1, 0] fun q hq => ⟨ks, ⟨by rw [hr]; exact live_power hF.live, hp⟩, ?_⟩
  refine ent_fold (l := [_]) [_, _, _, _] (fun q h => by
    generalize (ks.foldl fstep (L, D)).1 = L1 at hE hW1 ⊢
    rw [← hE] at hW1 ⊢
    exact cache_fold hW1 h) hq

theorem flushD_eq (h : Live n D) : flushD D = { D with waits := [], done := D.done + 1 } := by
  unfold flushD
  rw [if_pos (live_power h), live_powerD h]
theorem flushD_live (h : Live n D) : Live n (flushD D) := by
  rw [flushD_eq h]
  have := h.done
  exact ⟨h.dead, h.fuse, by dsimp only; omega, by dsimp only [List.length_nil]; omega, h.secs⟩
end
end Go.Moat

/- Layer 6: what a sector's bytes are, by the cache and its disk. -/
namespace Go.Moat
open Go.Mini
section
variable {N : Nat} {c d n : Nat} {room P : Int} {D : DskS} {L : List (Int × SlotS)}

def secS (D : DskS) (k : Int) : SecS := (D.secs[k.toNat]?).getD zsec
/-- What a sector is. -/
def valS (L : List (Int × SlotS)) (D : DskS) (k : Int) : SecS := match lookS L k with
  | some x => x.s
  | none => secS D k
/-- A slot that is not to be written is as the disk has it. -/
def CleanOk (L : List (Int × SlotS)) (D : DskS) : Prop := ∀ k x, lookS L k = some x → x.dirty = false → x.s = secS D k

theorem secS_wr (h : Live n D) {k j : Int} {s : SecS} (h0 : 0 ≤ k) (h1 : k < n) (hs : s.ok) (hj : 0 ≤ j) : secS (wrD D k s) j = if j = k then s else secS D j := by
  unfold secS
  rw [wrD_eq h h0 h1 hs]
  dsimp only
  rw [List.getElem?_set]
  by_cases e : j = k
  · subst e
    rw [if_pos rfl, if_pos (by rw [h.secs]; omega), if_pos rfl]
    rfl
  · rw [if_neg (by omega), if_neg e]

theorem place_val (hW : WfE n room P L) (hL : Live n D) (hc : CleanOk L D) : (∀ k, 0 ≤ k → valS (placeL room L) (placeD room L D) k = valS L D k) ∧ CleanOk (placeL room L) (placeD room L D) ∧
    ∀ k, 0 ≤ k → (∀ x, lookS L k = some x → 0 < x.pins ∨ x.dirty = false) → secS (placeD room L D) k = secS D k := by
  unfold placeL placeD
  by_cases h1 : (L.length : Int) < room
  · rw [if_pos h1, if_pos h1]
    exact ⟨fun _ _ => rfl, hc, fun _ _ _ => rfl⟩
  · rw [if_neg h1, if_neg h1]
    cases hv : victim L with
    | none => exact ⟨fun _ _ => rfl, hc, fun _ _ _ => rfl⟩
    | some v =>
      dsimp only
      obtain ⟨hm, hp⟩ := victim_mem hv
      have hr := hW.rng v hm
      have hok := hW.ok v hm
      have hlv := lookS_of_mem hW.nodup hm
      have hsec : ∀ k, 0 ≤ k → secS (if v.2.dirty = true then wrD D v.1 v.2.s else D) k = if k = v.1 then v.2.s else secS D k := by
        intro k hk
        by_cases hd : v.2.dirty = true
        · rw [if_pos hd, secS_wr hL hr.1 hr.2 hok hk]
        · rw [if_neg hd]
          by_cases e : k = v.1
          · rw [if_pos e, e]
            exact (hc _ _ hlv (by simpa using hd)).symm
          · rw [if_neg e]
      refine ⟨fun k hk => ?_, fun k x hx hd => ?_, fun k hk hpk => ?_⟩
      · unfold valS
        rw [lookS_without]
        by_cases e : k = v.1
        · rw [if_pos e, e, hlv]
          dsimp only
          rw [hsec _ hr.1, if_pos rfl]
        · rw [if_neg e]
          cases hl : lookS L k with
          | some x => rfl
          | none => dsimp only; rw [hsec k hk, if_neg e]
      · rw [lookS_without] at hx
        by_cases e : k = v.1
        · rw [if_pos e] at hx; cases hx
        · rw [if_neg e] at hx
          have hk := (hW.rng _ (lookS_mem hx)).1
          rw [hsec k hk, if_neg e]
          exact hc k x hx hd
      · rw [hsec k hk]
        by_cases e : k = v.1
        · rw [if_pos e]
          subst e
          rcases hpk _ hlv with h | h
          · omega
          · exact hc _ _ hlv h
        · rw [if_neg e]

/-- Behind the making of a place: what stands where. -/
theorem rest_val (hW : WfE n room P L) (hL : Live n D) (hc : CleanOk L D) {i : Int} (h0 : 0 ≤ i ∧ i < n) : (∀ k, 0 ≤ k → k ≠ i → valS (restC room L i) (accD n room L D i) k = valS L D k) ∧ (∀ k x, lookS (restC room L i) k = some x → x.dirty = false → x.s = secS (accD n room L D i) k) ∧
    (lookS L i = none → secS (accD n room L D i) i = valS L D i) ∧ ∀ k, 0 ≤ k → (∀ x, lookS L k = some x → 0 < x.pins ∨ x.dirty = false) → secS (accD n room L D i) k = secS D k := by
  unfold restC accD
  rw [if_pos h0]
  cases hl : lookS L i with
  | some x =>
    dsimp only
    refine ⟨fun k hk hne => ?_, fun k x hx hd => ?_, fun h => (by cases h), fun _ _ _ => rfl⟩
    · unfold valS
      rw [lookS_without, if_neg hne]
    · rw [lookS_without] at hx
      split at hx
      · cases hx
      · exact hc k x hx hd
  | none =>
    dsimp only
    obtain ⟨h1, h2, h3⟩ := place_val hW hL hc
    refine ⟨fun k hk _ => h1 k hk, h2, fun _ => ?_, h3⟩
    have := h1 i h0.1
    unfold valS at this ⊢
    rw [lookS_place hl] at this
    rw [hl] at this ⊢
    exact this

theorem secS_getS (hL : Live n D) {i : Int} (h0 : 0 ≤ i ∧ i < n) : getS D i = secS D i := by
  unfold getS
  have : getE D i = 0 := by
    unfold getE
    rw [if_pos ⟨h0.1, by rw [hL.secs]; exact h0.2⟩, hL.dead]
    rfl
  rw [if_pos this]
  rfl

/-- Get tells what the sector is, and leaves all as it is. -/
theorem get_val (hW : WfE n room P L) (hL : Live n D) (hc : CleanOk L D) {i : Int} (h0 : 0 ≤ i ∧ i < n) : (getCX room L D i).s = valS L D i ∧ (∀ k, 0 ≤ k → valS (getCL n room L D i) (accD n room L D i) k = valS L D k) ∧ CleanOk (getCL n room L D i) (accD n room L D i) := by
  obtain ⟨h1, h2, h3, h4⟩ := rest_val hW hL hc h0
  have hx : (getCX room L D i).s = valS L D i := by
    unfold getCX
    cases hl : lookS L i with
    | some x => unfold valS; rw [hl]
    | none =>
      dsimp only
      have h5 := h3 hl
      rw [secS_getS (placeD_live hL hW) h0]
      unfold accD at h5
      rw [if_pos h0, hl] at h5
      exact h5
  refine ⟨hx, ?_⟩
  unfold getCL
  by_cases he : getCE n room L i = 0
  · rw [if_pos he]
    refine ⟨fun k hk => ?_, fun k x hlx hd => ?_⟩
    · by_cases e : k = i
      · subst e
        rw [← hx]
        show (match (if k = k then some (getCX room L D k) else lookS (restC room L k) k) with | some x => x.s | none => _) = _
        rw [if_pos rfl]
      · rw [← h1 k hk e]
        unfold valS
        show (match (if k = i then some (getCX room L D i) else lookS (restC room L i) k) with | some x => x.s | none => _) = _
        rw [if_neg e]
    · by_cases e : k = i
      · subst e
        have hlx' : (if k = k then some (getCX room L D k) else lookS (restC room L k) k) = some x := hlx
        rw [if_pos rfl] at hlx'
        cases hlx'
        rw [hx]
        unfold getCX at hd
        cases hl : lookS L k with
        | none => exact (h3 hl).symm
        | some y =>
          rw [hl] at hd
          unfold valS accD
          rw [hl, if_pos h0]
          exact hc k y hl hd
      · have hlx' : (if k = i then some (getCX room L D i) else lookS (restC room L i) k) = some x := hlx
        rw [if_neg e] at hlx'
        exact h2 k x hlx' hd
  · rw [if_neg he]
    have hcs : lookS L i = none ∧ placeE room L ≠ 0 := by
      unfold getCE at he
      rw [if_pos h0] at he
      cases hl : lookS L i with
      | some x => rw [hl] at he; exact absurd rfl he
      | none => rw [hl] at he; exact ⟨rfl, he⟩
    have hp := place_full (D := D) hcs.2
    have : accD n room L D i = D := by unfold accD; rw [if_pos h0, hcs.1]; exact hp.2.2
    rw [this]
    exact ⟨fun _ _ => rfl, hc⟩

/-- Put turns one sector. -/
theorem put_val (hW : WfE n room P L) (hL : Live n D) (hc : CleanOk L D) {i : Int} (h0 : 0 ≤ i ∧ i < n) (he : getCE n room L i = 0) (bs : List UInt8) (t : Int) : (∀ k, 0 ≤ k → valS (putCL n room L i bs t) (accD n room L D i) k = if k = i then ⟨bs, t⟩ else valS L D k) ∧ CleanOk (putCL n room L i bs t) (accD n room L D i) := by
  obtain ⟨h1, h2, h3, h4⟩ := rest_val hW hL hc h0
  unfold putCL
  rw [if_pos he]
  refine ⟨fun k hk => ?_, fun k x hlx hd => ?_⟩
  · by_cases e : k = i
    · subst e
      rw [if_pos rfl]
      show (match (if k = k then some (putX L k bs t) else lookS (restC room L k) k) with | some x => x.s | none => _) = _
      rw [if_pos rfl]
      rfl
    · rw [if_neg e, ← h1 k hk e]
      unfold valS
      show (match (if k = i then some (putX L i bs t) else lookS (restC room L i) k) with | some x => x.s | none => _) = _
      rw [if_neg e]
  · have hlx' : (if k = i then some (putX L i bs t) else lookS (restC room L i) k) = some x := hlx
    by_cases e : k = i
    · rw [if_pos e] at hlx'
      cases hlx'
      cases hd
    · rw [if_neg e] at hlx'
      exact h2 k x hlx' hd
theorem put_not {i : Int} (he : getCE n room L i ≠ 0) (bs : List UInt8) (t : Int) (h0 : 0 ≤ i ∧ i < n) : putCL n room L i bs t = L ∧ accD n room L D i = D := by
  unfold putCL
  rw [if_neg he]
  refine ⟨rfl, ?_⟩
  have hcs : lookS L i = none ∧ placeE room L ≠ 0 := by
    unfold getCE at he
    rw [if_pos h0] at he
    cases hl : lookS L i with
    | some x => rw [hl] at he; exact absurd rfl he
    | none => rw [hl] at he; exact ⟨rfl, he⟩
  unfold accD
  rw [if_pos h0, hcs.1]
  exact (place_full (D := D) hcs.2).2.2
theorem getCE_cases {i : Int} (h0 : 0 ≤ i ∧ i < n) : getCE n room L i = 0 ∨ getCE n room L i = 5 := by
  unfold getCE
  rw [if_pos h0]
  cases lookS L i with
  | some x => exact .inl rfl
  | none =>
    dsimp only
    unfold placeE
    split
    · exact .inl rfl
    · split
      · exact .inl rfl
      · exact .inr rfl
theorem getCE_out {i : Int} (h0 : ¬(0 ≤ i ∧ i < n)) : getCE n room L i = 1 := by
  unfold getCE
  rw [if_neg h0]

/-- Pins turn no bytes. -/
theorem pins_val {i p : Int} {x : SlotS} (hl : lookS L i = some x) : (∀ k, valS (updL L i { x with pins := p }) D k = valS L D k) ∧ (CleanOk L D → CleanOk (updL L i { x with pins := p }) D) := by
  refine ⟨fun k => ?_, fun hc k y hy hd => ?_⟩
  · unfold valS
    rw [lookS_upd]
    by_cases e : k = i
    · subst e
      rw [if_pos rfl, hl]
      rfl
    · rw [if_neg e]
  · rw [lookS_upd] at hy
    by_cases e : k = i
    · subst e
      rw [if_pos rfl, hl] at hy
      cases hy
      exact hc k x hl hd
    · rw [if_neg e] at hy
      exact hc k y hy hd

theorem dirty_mem (hn : (L.map (·.1)).Nodup) {k : Int} : k ∈ dirtyK L ↔ ∃ x, lookS L k = some x ∧ x.dirty = true := by
  unfold dirtyK
  constructor
  · intro h
    obtain ⟨e, he, rfl⟩ := List.mem_map.1 h
    obtain ⟨h1, h2⟩ := List.mem_filter.1 he
    exact ⟨e.2, lookS_of_mem hn h1, h2⟩
  · rintro ⟨x, h1, h2⟩
    exact List.mem_map.2 ⟨(k, x), List.mem_filter.2 ⟨lookS_mem h1, h2⟩, rfl⟩

/-- A flush turns no bytes. -/
theorem flush_val (hW : WfE n room P L) (hL : Live n D) (hc : CleanOk L D) {ks : List Int} (hp : ks.Perm (dirtyK L)) :
    (∀ k, 0 ≤ k → valS (ks.foldl fstep (L, D)).1 (flushD (ks.foldl fstep (L, D)).2) k = valS L D k) ∧ CleanOk (ks.foldl fstep (L, D)).1 (flushD (ks.foldl fstep (L, D)).2) ∧
    (∀ k, 0 ≤ k → (∀ x, lookS L k = some x → x.pins ≤ 0) → secS (flushD (ks.foldl fstep (L, D)).2) k = valS L D k) ∧
    (∀ k, 0 ≤ k → (∀ x, lookS L k = some x → 0 < x.pins) → secS (flushD (ks.foldl fstep (L, D)).2) k = secS D k) ∧
    FoldR n room P L D ks (ks.foldl fstep (L, D)) := by
  have hkn : ks.Nodup := hp.nodup_iff.2 ((List.filter_sublist.map _).nodup hW.nodup)
  have hF := fold_spec ks L D hkn hW hL
  generalize ks.foldl fstep (L, D) = r at hF ⊢
  obtain ⟨L1, D1⟩ := r
  have hmem : ∀ k, k ∈ ks ↔ ∃ x, lookS L k = some x ∧ x.dirty = true := fun k => hp.mem_iff.trans (dirty_mem hW.nodup)
  have hsec : ∀ k, 0 ≤ k → secS (flushD D1) k = if k ∈ ks then (match lookS L k with | some x => if 0 < x.pins then secS D k else x.s | none => secS D k) else secS D k := by
    intro k hk
    have h1 := hF.secs k hk
    dsimp only at h1
    unfold secS
    rw [flushD_eq hF.live]
    dsimp only
    rw [h1]
    by_cases hm : k ∈ ks
    · rw [if_pos hm, if_pos hm]
      cases lookS L k with
      | none => rfl
      | some x => dsimp only; split <;> rfl
    · rw [if_neg hm, if_neg hm]
  refine ⟨fun k hk => ?_, fun k y hy hd => ?_, fun k hk hx => ?_, fun k hk hx => ?_, hF⟩
  · unfold valS
    have h2 := hF.look k
    dsimp only at h2 ⊢
    rw [h2]
    cases hl : lookS L k with
    | some x =>
      by_cases hm : k ∈ ks
      · rw [if_pos hm]
        dsimp only [Option.map_some]
        unfold cleanS
        split <;> rfl
      · rw [if_neg hm]
    | none =>
      have : k ∉ ks := fun c => by
        obtain ⟨x, hx, _⟩ := (hmem k).1 c
        rw [hl] at hx; cases hx
      rw [if_neg this]
      dsimp only
      rw [hsec k hk, if_neg this]
  · have h2 := hF.look k
    dsimp only at h2
    rw [h2] at hy
    by_cases hm : k ∈ ks
    · rw [if_pos hm] at hy
      obtain ⟨x, hx, hxd⟩ := (hmem k).1 hm
      rw [hx] at hy
      cases hy
      have hk := (hW.rng _ (lookS_mem hx)).1
      dsimp only
      rw [hsec k hk, if_pos hm, hx]
      dsimp only
      unfold cleanS at hd ⊢
      by_cases hp : 0 < x.pins
      · rw [if_pos hp] at hd; rw [hxd] at hd; cases hd
      · rw [if_neg hp, if_neg hp]
    · rw [if_neg hm] at hy
      have hk := (hW.rng _ (lookS_mem hy)).1
      dsimp only
      rw [hsec k hk, if_neg hm]
      exact hc k y hy hd
  · dsimp only
    rw [hsec k hk]
    unfold valS
    cases hl : lookS L k with
    | none => dsimp only; split <;> rfl
    | some x =>
      dsimp only
      by_cases hm : k ∈ ks
      · rw [if_pos hm, if_neg (by have := hx x hl; omega)]
      · rw [if_neg hm]
        refine (hc k x hl ?_).symm
        cases hdx : x.dirty with
        | false => rfl
        | true => exact absurd ((hmem k).2 ⟨x, hl, hdx⟩) hm
  · dsimp only
    rw [hsec k hk]
    cases hl : lookS L k with
    | none => dsimp only; split <;> rfl
    | some x =>
      dsimp only
      rw [if_pos (hx x hl)]
      split <;> rfl
end
end Go.Moat
