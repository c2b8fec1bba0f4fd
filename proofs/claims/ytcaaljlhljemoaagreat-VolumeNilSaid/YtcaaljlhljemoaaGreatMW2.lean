/- Rows of structs that hold slices, as they come in: of such a slice its length alone is known (its block is dead). -/
import Derived.Test.YtcaaljlhljemoaaGreatMY
namespace Go.Mini
open Go.ChangeShapes Go.WideShapes Go.RowKit

section
variable {P : Program} {ρ : Rho}

def flatO : CTy → Bool
  | .bool | .int _ | .str => true
  | .sl e => Nat.ble 1 e && Nat.ble e 1000
  | _ => false

/-- The cells of a type, among which there may be slices. -/
def leafsO (P : Program) : Nat → TypeId → Option (List (Nat × CTy))
  | 0, _ => none
  | d + 1, t => match P.underlying t with
    | some (.struct fs) => fs.toList.foldr (fun f r => match leafsO P d f.type, r with
      | some l, some r => some (l.map (fun x => (f.offset + x.1, x.2)) ++ r)
      | _, _ => none) (some [])
    | some (.array n e) => match leafsO P d e with
      | some l => some ((List.range n).flatMap fun i => l.map fun x => (i * P.cellsOf e + x.1, x.2))
      | none => none
    | _ => match cty P t with
      | some c => bif flatO c then some [(0, c)] else none
      | none => none

/-- A slice that came in: nil, or so long. -/
def SlV (v : Value) : Prop := v = .slice none 0 0 ∨ ∃ a l c, v = .slice (some a) l c ∧ l ≤ c ∧ c ≤ maxLen ∧ (c = 0 ∨ a.spot = none)
def CellO (c : CTy) (v : Value) : Prop := FlatV c v ∨ ∃ e, c = .sl e ∧ e ≤ 1000 ∧ SlV v

theorem slv_trod {H : Type} {enc : TypeId × Value → H} {w : World} {t E : TypeId} (hu : P.underlying t = some (.slice E)) (hE : 0 < P.cellsOf E) {fuel : Nat} {cs : List Value} {x : DataW H × List MemPlace} (ht : DataW.trod enc P w 0 (fun _ => true) true fuel t cs = some x) : ∃ v r, cs = v :: r ∧ SlV v := by
  obtain ⟨dd, ps⟩ := x
  rcases DataW.trod_slice hu ht with ⟨h0, _⟩ | ⟨a, len, cap, elems, rest, n, _, h0, _, _, hl, hm, hlen, hel, hsp, _⟩
  · exact ⟨_, _, h0, .inl rfl⟩
  · refine ⟨_, _, h0, .inr ⟨a, len, cap, rfl, hl, hm, ?_⟩⟩
    by_cases hc : cap = 0
    · exact .inl hc
    · right
      obtain ⟨hrl, hr⟩ := hsp rfl
      have h1 : ∃ y, (w.cells? 0 (a.add (0 * P.cellsOf E)) (P.cellsOf E)).bind (DataW.trod enc P w 0 (fun _ => true) true n E) = some y := by
        by_cases hl0 : 0 < len
        · have h2 := hel 0 hl0
          rw [h2, List.getElem?_eq_getElem (by omega)]
          exact ⟨_, rfl⟩
        · have h2 := hr 0 (by omega)
          rw [show len + 0 = 0 by omega] at h2
          rw [h2, List.getElem?_eq_getElem (by omega)]
          exact ⟨_, rfl⟩
      obtain ⟨y, hy⟩ := h1
      rw [Option.bind_eq_some_iff] at hy
      obtain ⟨cs, h1, _⟩ := hy
      unfold World.cells? at h1
      rw [if_pos (Nat.zero_le _)] at h1
      obtain ⟨h3, h4⟩ := mapM_get h1
      have h5 : 0 < cs.length := by rw [h3]; simpa using hE
      obtain ⟨k, hk, h6⟩ := h4 0 cs[0] (List.getElem?_eq_getElem h5)
      have hk0 : k = 0 := by
        have : (List.range (P.cellsOf E))[0]? = some 0 := by rw [List.getElem?_range hE]
        rw [this] at hk
        exact (Option.some.inj hk).symm
      subst hk0
      rw [Nat.zero_mul, addr_zero, addr_zero] at h6
      unfold World.cell? at h6
      split at h6
      · cases hs : a.spot with
        | none => rfl
        | some z => rw [hs] at h6; cases h6
      · cases h6

theorem leafO_trod {H : Type} {enc : TypeId × Value → H} {w : World} : ∀ (d : Nat) (t : TypeId) (L : List (Nat × CTy)), leafsO P d t = some L → ∀ (fuel : Nat) (cs : List Value) (x : DataW H × List MemPlace),
    DataW.trod enc P w 0 (fun _ => true) true fuel t cs = some x → ∀ y ∈ L, ∃ v, cs[y.1]? = some v ∧ CellO y.2 v
  | 0, _, _, h, _, _, _, _, _, _ => by cases h
  | d + 1, t, L, h, fuel, cs, x, ht, y, hy => by
    cases fuel with
    | zero => cases ht
    | succ fuel =>
      have ht0 := ht
      have h0 := h
      simp only [leafsO] at h
      split at h
      · rename_i fs hu
        simp only [DataW.trod, hu] at ht
        split at ht
        · obtain ⟨ys, hys, _⟩ := map_some ht
          obtain ⟨f, hf, l, hl, z, hz, rfl⟩ := foldr_leafs h y hy
          obtain ⟨q, hq⟩ := mapM_mem hys f hf
          obtain ⟨v, hv, hfl⟩ := leafO_trod d f.type l hl fuel _ q hq z hz
          refine ⟨v, ?_, hfl⟩
          rw [List.getElem?_take] at hv
          split at hv
          · rw [List.getElem?_drop] at hv
            exact hv
          · cases hv
        · cases ht
      · rename_i n e hu
        split at h
        · rename_i l hl
          cases h
          rw [List.mem_flatMap] at hy
          obtain ⟨i, hi, hy⟩ := hy
          rw [List.mem_range] at hi
          rw [List.mem_map] at hy
          obtain ⟨z, hz, rfl⟩ := hy
          obtain ⟨xs, m, _, _, _, hxl, hel⟩ := DataW.trod_array hu ht0
          have hx := hel i hi
          rw [List.getElem?_eq_getElem (by omega)] at hx
          obtain ⟨v, hv, hfl⟩ := leafO_trod d e l hl m _ _ hx z hz
          refine ⟨v, ?_, hfl⟩
          rw [List.getElem?_take] at hv
          split at hv
          · rw [List.getElem?_drop] at hv
            exact hv
          · cases hv
        · cases h
      · rename_i hns hna
        split at h
        · rename_i c hc
          cases hfl : flatO c with
          | false => rw [hfl] at h; cases h
          | true =>
            rw [hfl] at h
            cases h
            simp only [List.mem_singleton] at hy
            subst hy
            cases hfc : flatC c with
            | true =>
              have hL : leafs P (d + 1) t = some [(0, c)] := by
                have hx : ∀ u, P.underlying t = some u → (∀ fs, u ≠ .struct fs) ∧ ∀ n e, u ≠ .array n e := fun u hu => ⟨fun fs c => hns fs (by rw [hu, c]), fun n e c => hna n e (by rw [hu, c])⟩
                unfold leafs
                cases hu : P.underlying t with
                | none => dsimp only; rw [hc]; dsimp only; rw [hfc]; rfl
                | some u =>
                  obtain ⟨h1, h2⟩ := hx u hu
                  cases u with
                  | struct fs => exact absurd rfl (h1 fs)
                  | array n e => exact absurd rfl (h2 n e)
                  | _ => dsimp only; rw [hc]; dsimp only; rw [hfc]; rfl
              obtain ⟨v, hv, hf⟩ := leaf_trod (d + 1) t [(0, c)] hL (fuel + 1) cs x ht0 (0, c) (by simp)
              exact ⟨v, hv, .inl hf⟩
            | false =>
              cases c with
              | sl e =>
                obtain ⟨E, hu, hE⟩ : ∃ E, P.underlying t = some (.slice E) ∧ P.cellsOf E = e := by
                  unfold cty at hc
                  split at hc <;> simp at hc
                  · rename_i E hu
                    exact ⟨E, hu, hc⟩
                unfold flatO at hfl
                rw [Bool.and_eq_true] at hfl
                have h1 := Nat.le_of_ble_eq_true hfl.1
                have h2 := Nat.le_of_ble_eq_true hfl.2
                obtain ⟨v, r, rfl, hv⟩ := slv_trod hu (by omega) ht0
                exact ⟨v, rfl, .inr ⟨e, rfl, h2, hv⟩⟩
              | bool => cases hfc
              | int k => cases hfc
              | str => cases hfc
              | _ => cases hfl
        · cases h

/-- Where a cell's slice lies. -/
def slRho (v : Option Value) : Option RB := match v with
  | some (.slice (some a) _ c) => some ⟨a.block, a.off, c * 1000⟩
  | _ => none
def outRho (rb : RB) (cell : Nat → Option Value) : Rho := fun b => match b with
  | 0 => some rb
  | j + 1 => slRho (cell j)

theorem cellO_enc {rb : RB} {cell : Nat → Option Value} {c : CTy} {v : Value} {j : Nat} (hj : cell j = some v) (h : CellO c v) : ∃ x : c.den, VRel (outRho rb cell) (c.enc x) v ∧ (c.enc x).has := by
  rcases h with h | ⟨e, rfl, he, h⟩
  · exact h.enc _
  · rcases h with rfl | ⟨a, l, cp, rfl, hl, hm, hs⟩
    · exact ⟨⟨none, 0⟩, .slNil _, trivial⟩
    · refine ⟨⟨some ⟨j + 1, 0⟩, l⟩, ?_, trivial⟩
      refine VRel.sl ⟨j + 1, 0⟩ ⟨a.block, a.off, cp * 1000⟩ l e cp a (by show slRho (cell j) = _; rw [hj]; rfl) hl ?_ (Nat.le_trans hm (by decide))
      rcases hs with hs | hs
      · exact .inl hs
      · right
        obtain ⟨ab, ao, as⟩ := a
        dsimp only at hs
        subst hs
        refine ⟨rfl, ?_⟩
        dsimp only
        have := Nat.mul_le_mul_left cp he
        omega

theorem outs_open {rb : RB} {cell : Nat → Option Value} : ∀ (cts : List CTy) (vs : List Value) (j0 : Nat), vs.length = cts.length → (∀ (j : Nat) v, vs[j]? = some v → cell (j0 + j) = some v) → (∀ (j : Nat) c v, cts[j]? = some c → vs[j]? = some v → CellO c v) → ∃ x : HC cts, VRels (outRho rb cell) (HC.enc cts x) vs ∧ ∀ m ∈ HC.enc cts x, m.has
  | [], [], _, _, _, _ => ⟨(), .nil, fun _ h => by cases h⟩
  | [], _ :: _, _, h, _, _ => by cases h
  | [c], [v], j0, _, hc, h => by
    obtain ⟨x, h1, h2⟩ := cellO_enc (rb := rb) (hc 0 v rfl) (h 0 c v rfl rfl)
    exact ⟨x, .cons _ _ _ _ h1 .nil, fun m hm => by
      have : m = c.enc x := by simpa [HC.enc] using hm
      rw [this]; exact h2⟩
  | [c], [], _, h, _, _ => by cases h
  | [c], _ :: _ :: _, _, h, _, _ => by simp at h
  | c :: d :: cts, [], _, h, _, _ => by cases h
  | c :: d :: cts, v :: vs, j0, hl, hc, h => by
    obtain ⟨x, h1, h2⟩ := cellO_enc (rb := rb) (hc 0 v rfl) (h 0 c v rfl rfl)
    obtain ⟨y, h3, h4⟩ := outs_open (rb := rb) (d :: cts) vs (j0 + 1) (by simpa using hl) (fun j v' hv => by have := hc (j + 1) v' (by simpa using hv); rwa [show j0 + 1 + j = j0 + (j + 1) by omega]) (fun j c' v' hc hv => h (j + 1) c' v' (by simpa using hc) (by simpa using hv))
    refine ⟨(x, y), .cons _ _ _ _ h1 h3, fun m hm => ?_⟩
    have hm' : m ∈ c.enc x :: HC.enc (d :: cts) y := hm
    rcases List.mem_cons.1 hm' with rfl | hm'
    · exact h2
    · exact h4 m hm'

theorem rowsO_open {rb : RB} {w : World} {b o : Nat} {cts : List CTy} {cap : Nat}
    (each : ∀ i, i < cap → ∃ cs : List Value, cs.length = cts.length ∧ (∀ (j : Nat) v, cs[j]? = some v → w.cell? ⟨b, o + (i * cts.length + j), none⟩ = some v) ∧ ∀ (j : Nat) c v, cts[j]? = some c → cs[j]? = some v → CellO c v) :
    ∀ k, k ≤ cap → ∃ xs : List (HC cts), xs.length = k ∧ (∀ (idx : Nat) m, (rowsOf cts xs)[idx]? = some m → ∃ v, w.cell? ⟨b, o + idx, none⟩ = some v ∧ VRel (outRho rb fun j => w.cell? ⟨b, o + j, none⟩) m v) ∧ ∀ m ∈ rowsOf cts xs, m.has
  | 0, _ => ⟨[], rfl, fun idx m h => by simp [rowsOf] at h, fun m h => by cases h⟩
  | k + 1, hk => by
    obtain ⟨xs, h1, h2, h3⟩ := rowsO_open each k (by omega)
    obtain ⟨cs, h4, h5, h6⟩ := each k (by omega)
    obtain ⟨x, h7, h8⟩ := outs_open (rb := rb) (cell := fun j => w.cell? ⟨b, o + j, none⟩) cts cs (k * cts.length) h4 h5 h6
    have hap : rowsOf cts (xs ++ [x]) = rowsOf cts xs ++ HC.enc cts x := by simp [rowsOf, List.flatMap_append]
    refine ⟨xs ++ [x], by simp [h1], fun idx m hm => ?_, fun m hm => ?_⟩
    · rw [hap, List.getElem?_append] at hm
      split at hm
      · exact h2 idx m hm
      · rename_i hi
        rw [rowsOf_length, h1] at hi hm
        obtain ⟨v, hv, hr⟩ := h7.get _ _ hm
        have := h5 _ v hv
        rw [show k * cts.length + (idx - k * cts.length) = idx by omega] at this
        exact ⟨v, this, hr⟩
    · rw [hap] at hm
      rcases List.mem_append.1 hm with hm | hm
      · exact h3 m hm
      · exact h8 m hm

theorem holds_get' (n : Nat) : ∀ (h : Hp) (c : Nat), (h.holds n).get c = if h.size ≤ c ∧ c < h.size + n then .dead else h.get c := by
  induction n with
  | zero => intro h c; rw [if_neg (by omega)]; rfl
  | succ n ih =>
    intro h c
    show (Hp.holds n (h.push .dead)).get c = _
    rw [ih, Hp.size_push, Hp.get_push]
    by_cases h1 : c = h.size
    · rw [if_neg (by omega), if_pos h1, if_pos (by omega)]
    · rw [if_neg h1]
      by_cases h2 : h.size + 1 ≤ c ∧ c < h.size + 1 + n
      · rw [if_pos h2, if_pos (by omega)]
      · rw [if_neg h2, if_neg (by omega)]
theorem holds_size' (n : Nat) : ∀ h : Hp, (h.holds n).size = h.size + n := by
  induction n with
  | zero => intro h; rfl
  | succ n ih =>
    intro h
    show (Hp.holds n (h.push .dead)).size = _
    rw [ih, Hp.size_push]
    omega

/-- One block of rows, and the dead ones of the slices in it. -/
theorem HRel.out {rb : RB} {x : Blk} {H : Array Obj} {cell : Nat → Option Value} {n : Nat} (hn : ∀ j, n ≤ j → cell j = .none) (hb : BRel (outRho rb cell) rb x H) (hG : GM = [] := by rfl) : HRel (outRho rb cell) ((Hp.empty.push x).holds n) H where
  gl := fun i g h => by rw [hG] at h; cases h
  dom := fun b q h => by
    rw [holds_size', Hp.size_push]
    cases b with
    | zero => simp only [Hp.empty]; omega
    | succ j =>
      by_cases hj : n ≤ j
      · have h2 : slRho (cell j) = some q := h
        rw [hn j hj] at h2
        cases h2
      · simp [Hp.empty]; omega
  live := fun b hd => by
    by_cases e : b = 0
    · subst e; exact ⟨rb, rfl⟩
    · refine absurd ?_ hd
      unfold Dead
      rw [holds_get', Hp.get_push]
      split
      · rfl
      · exact if_neg (by simpa [Hp.empty] using e)
  inj := fun b b' q q' h h' hd hd' hne => by
    have dead : ∀ c, c ≠ 0 → Dead ((Hp.empty.push x).holds n) c := fun c hc => by
      unfold Dead
      rw [holds_get', Hp.get_push]
      split
      · rfl
      · exact if_neg (by simpa [Hp.empty] using hc)
    by_cases e : b = 0
    · exact absurd (dead b' fun c => hne (e.trans c.symm)) hd'
    · exact absurd (dead b e) hd.live
  blk := fun b q h => by
    rw [holds_get', Hp.size_push]
    cases b with
    | zero =>
      cases h
      rw [if_neg (by simp [Hp.empty]), Hp.get_push, if_pos (show 0 = Hp.empty.size from rfl)]
      exact hb
    | succ j =>
      split
      · trivial
      · rw [Hp.get_push, if_neg (by simp [Hp.empty])]
        trivial
theorem own_out {x : Blk} {n : Nat} (h1 : ∀ cs, x ≠ .cells cs false) (h2 : ∀ es, x ≠ .map es) (b : Nat) : ¬ Own ((Hp.empty.push x).holds n) b := by
  rintro (⟨cs, h⟩ | ⟨es, h⟩) <;> rw [holds_get'] at h <;> split at h
  · cases h
  · rw [Hp.get_push] at h
    split at h
    · exact h1 _ h
    · cases h
  · cases h
  · rw [Hp.get_push] at h
    split at h
    · exact h2 _ h
    · cases h

/-- A slice of structs among whose cells there are slices, as it comes in. -/
theorem slice_outs {H : Type} {enc : TypeId × Value → H} {W : World} {t E : TypeId} (hu : P.underlying t = some (.slice E)) {d : Nat} {cts : List CTy} (hL : leafsO P d E = some (cts.zipIdx.map fun x => (x.2, x.1))) (hn : P.cellsOf E = cts.length) (hn0 : 0 < cts.length)
    {v : Value} {dd : DataW H} {ps : List MemPlace} (h : DataW.Trod enc P W 0 (fun _ => true) true t v dd ps) (hv : ∃ a l c, v = .slice a l c) (hG : GM = [] := by rfl) :
    ∃ (xs : List (HC cts)) (s : Sl) (x : Blk) (n : Nat) (ρ : Rho), s.len = xs.length ∧ xs.length ≤ maxLen ∧ (s = ⟨none, 0⟩ ∨ s.p = some ⟨0, 0⟩) ∧ (xs ≠ [] → x = .cells (rowsOf cts xs) true) ∧ HRel ρ ((Hp.empty.push x).holds n) W.heap ∧ (∀ b, ¬ Own ((Hp.empty.push x).holds n) b) ∧
      VRel ρ (.sl s.p s.len cts.length) v ∧ ∀ m ∈ rowsOf cts xs, m.has := by
  obtain ⟨a0, l0, c0, rfl⟩ := hv
  obtain ⟨fuel, hf⟩ := h
  rcases DataW.trod_slice hu hf with ⟨h0, _⟩ | ⟨a, len, cap, elems, rest, n, _, h0, _, _, hl, hm, hlen, hel, hsp, _⟩
  · simp [Value.cells] at h0
    obtain ⟨rfl, rfl, rfl⟩ := h0
    exact ⟨[], ⟨none, 0⟩, .dead, 0, outRho ⟨0, 0, 0⟩ fun _ => none, rfl, Nat.zero_le _, .inl rfl, fun h => absurd rfl h, HRel.out (fun _ _ => rfl) trivial hG, own_out (fun _ => by simp) (fun _ => by simp), VRel.slNil _, fun m h => by cases h⟩
  · simp [Value.cells] at h0
    obtain ⟨rfl, rfl, rfl⟩ := h0
    obtain ⟨hrl, hr⟩ := hsp rfl
    have each0 : ∀ i, i < c0 → ∃ y, (W.cells? 0 (a.add (i * cts.length)) cts.length).bind (DataW.trod enc P W 0 (fun _ => true) true n E) = some y := by
      intro i hi
      by_cases hil : i < l0
      · have h1 := hel i hil
        rw [hn] at h1
        rw [h1, List.getElem?_eq_getElem (by omega)]
        exact ⟨_, rfl⟩
      · have h1 := hr (i - l0) (by omega)
        rw [hn, show l0 + (i - l0) = i by omega] at h1
        rw [h1, List.getElem?_eq_getElem (by omega)]
        exact ⟨_, rfl⟩
    by_cases hc0 : c0 = 0
    · subst hc0
      have hl0 : l0 = 0 := by omega
      subst hl0
      exact ⟨[], ⟨some ⟨0, 0⟩, 0⟩, .dead, 0, outRho ⟨0, 0, 0⟩ fun _ => none, rfl, Nat.zero_le _, .inr rfl, fun h => absurd rfl h, HRel.out (fun _ _ => rfl) trivial hG, own_out (fun _ => by simp) (fun _ => by simp), VRel.sl ⟨0, 0⟩ ⟨0, 0, 0⟩ 0 _ 0 a rfl (Nat.le_refl _) (.inl rfl), fun m h => by cases h⟩
    · have cellsAt : ∀ i, i < c0 → ∃ cs : List Value, cs.length = cts.length ∧ (∀ (j : Nat) v, cs[j]? = some v → W.cell? ((a.add (i * cts.length)).add j) = some v) ∧ ∀ (j : Nat) c v, cts[j]? = some c → cs[j]? = some v → CellO c v := by
        intro i hi
        obtain ⟨y, hy⟩ := each0 i hi
        rw [Option.bind_eq_some_iff] at hy
        obtain ⟨cs, h1, h2⟩ := hy
        unfold World.cells? at h1
        rw [if_pos (Nat.zero_le _)] at h1
        obtain ⟨h3, h4⟩ := mapM_get h1
        refine ⟨cs, by simpa using h3, fun j v hj => ?_, fun j c v hc hj => ?_⟩
        · obtain ⟨k, hk, h5⟩ := h4 j v hj
          have hj2 : j < (List.range cts.length).length := (List.getElem?_eq_some_iff.1 hk).1
          rw [List.getElem?_range (by simpa using hj2)] at hk
          cases hk
          exact h5
        · have hmem : (j, c) ∈ cts.zipIdx.map (fun x => (x.2, x.1)) := by
            refine List.mem_map.2 ⟨(c, j), ?_, rfl⟩
            exact List.mem_zipIdx_iff_getElem?.2 hc
          obtain ⟨v', hv', hfl⟩ := leafO_trod d E _ hL n cs y h2 (j, c) hmem
          rw [hj] at hv'
          cases hv'
          exact hfl
      -- the row
      have hrow : ∃ cc el fz, W.heap[a.block]? = some (.cells cc el fz) ∧ a.spot = none := by
        obtain ⟨cs, h1, h2, _⟩ := cellsAt 0 (by omega)
        have h3 := h2 0 cs[0] (List.getElem?_eq_getElem (by omega))
        rw [Nat.zero_mul, addr_zero, addr_zero] at h3
        unfold World.cell? at h3
        split at h3
        · rename_i cc el fz hh
          refine ⟨cc, el, fz, hh, ?_⟩
          cases hs : a.spot with
          | none => rfl
          | some z => rw [hs] at h3; cases h3
        · cases h3
      obtain ⟨cc, el, fz, hh, hspot⟩ := hrow
      have each : ∀ i, i < c0 → ∃ cs : List Value, cs.length = cts.length ∧ (∀ (j : Nat) v, cs[j]? = some v → W.cell? ⟨a.block, a.off + (i * cts.length + j), none⟩ = some v) ∧ ∀ (j : Nat) c v, cts[j]? = some c → cs[j]? = some v → CellO c v := by
        intro i hi
        obtain ⟨cs, h1, h2, h3⟩ := cellsAt i hi
        refine ⟨cs, h1, fun j v hj => ?_, h3⟩
        have := h2 j v hj
        rwa [addr_add2 hspot] at this
      obtain ⟨xs, h1, h2, h3⟩ := rowsO_open (rb := ⟨a.block, a.off, c0 * cts.length⟩) each l0 hl
      have hsz : a.off + c0 * cts.length ≤ cc.size := by
        obtain ⟨cs, h4, h5, _⟩ := each (c0 - 1) (by omega)
        have h6 := h5 (cts.length - 1) cs[cts.length - 1] (List.getElem?_eq_getElem (by omega))
        unfold World.cell? at h6
        rw [hh] at h6
        dsimp only [Option.isSome] at h6
        have h7 := (Array.getElem?_eq_some_iff.1 (show cc[a.off + ((c0 - 1) * cts.length + (cts.length - 1))]? = some _ from h6)).1
        have h8 : (c0 - 1) * cts.length + cts.length = c0 * cts.length := by
          rw [← Nat.succ_mul]
          congr 1
          omega
        omega
      have hle : l0 * cts.length ≤ c0 * cts.length := Nat.mul_le_mul_right _ hl
      refine ⟨xs, ⟨some ⟨0, 0⟩, l0⟩, .cells (rowsOf cts xs) true, cc.size, outRho ⟨a.block, a.off, c0 * cts.length⟩ fun j => W.cell? ⟨a.block, a.off + j, none⟩, h1.symm, by omega, .inr rfl, fun _ => rfl, HRel.out ?_ ?_ hG, own_out (fun _ => by simp) (fun _ => by simp), ?_, h3⟩
      · intro j hj
        unfold World.cell?
        rw [hh]
        dsimp only [Option.isSome]
        exact Array.getElem?_eq_none (by omega)
      · refine ⟨cc, el, fz, hh, hsz, ?_, fun i m hm => ?_, fun hr => by cases hr⟩
        · rw [rowsOf_length, h1]
          exact hle
        · obtain ⟨v, hv, hr⟩ := h2 i m hm
          refine ⟨v, ?_, hr⟩
          unfold World.cell? at hv
          rw [hh] at hv
          exact hv
      · refine VRel.sl ⟨0, 0⟩ ⟨a.block, a.off, c0 * cts.length⟩ l0 _ c0 a rfl hl (.inr ⟨?_, ?_⟩) (Nat.le_trans hm (by decide : maxLen ≤ 9223372036854775807))
        · obtain ⟨ab, ao, as⟩ := a
          dsimp only at hspot
          subst hspot
          rfl
        · dsimp only
          omega

/-- A struct among whose cells there are slices, as it comes in. -/
theorem struct_outs {H : Type} {enc : TypeId × Value → H} {W : World} {r : Reach} {base : Nat} {t : TypeId} (hu : (match P.underlying t with | some (.struct _) => true | _ => false) = true) {d : Nat} {cts : List CTy} (hL : leafsO P d t = some (cts.zipIdx.map fun x => (x.2, x.1))) (hn : P.cellsOf t = cts.length)
    {v : Value} {dd : DataW H} {ps : List MemPlace} (h : DataW.Trod enc P W 0 (fun _ => true) true t v dd ps) (hv : Value.okWide P W r base t v) (hG : GM = [] := by rfl) :
    ∃ (x : HC cts) (n : Nat) (ρ : Rho), HRel ρ ((Hp.empty.push .dead).holds n) W.heap ∧ (∀ b, ¬ Own ((Hp.empty.push .dead).holds n) b) ∧ VRel ρ (.agg (HC.enc cts x)) v ∧ ∀ m ∈ HC.enc cts x, m.has := by
  obtain ⟨fs, hu⟩ : ∃ fs, P.underlying t = some (.struct fs) := by
    split at hu
    · exact ⟨_, by assumption⟩
    · cases hu
  simp only [Value.okWide, hu] at hv
  obtain ⟨cs, rfl, hsz, ts', hts', _, hc⟩ := hv
  obtain ⟨fuel, hf⟩ := h
  have hf' : DataW.trod enc P W 0 (fun _ => true) true fuel t cs.toList = some (dd, ps) := by simpa [Value.cells] using hf
  have hlen : cs.toList.length = cts.length := by simpa using hsz.trans hn
  obtain ⟨x, h1, h2⟩ := outs_open (rb := ⟨0, 0, 0⟩) (cell := fun j => cs.toList[j]?) cts cs.toList 0 hlen (fun j v hj => by rw [Nat.zero_add]; exact hj) (fun j c v hj hv => by
    have hmem : (j, c) ∈ cts.zipIdx.map (fun x => (x.2, x.1)) := List.mem_map.2 ⟨(c, j), List.mem_zipIdx_iff_getElem?.2 hj, rfl⟩
    obtain ⟨v', hv', hfl⟩ := leafO_trod d t _ hL fuel _ _ hf' (j, c) hmem
    rw [hv] at hv'
    cases hv'
    exact hfl)
  refine ⟨x, cs.toList.length, outRho ⟨0, 0, 0⟩ fun j => cs.toList[j]?, HRel.out (fun j hj => List.getElem?_eq_none hj) trivial hG, own_out (fun _ => by simp) (fun _ => by simp), ?_, h2⟩
  have := VRel.agg (HC.enc cts x) cs.toList h1
  simpa using this
end
end Go.Mini
