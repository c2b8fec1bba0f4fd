/- Rows of structs of numbers, texts and bools, as they come in. -/
import Derived.Test.YtcaaljlhljemoaaGreatMV
namespace Go.Mini

section
variable {P : Program} {ρ : Rho}

/-- The cells of a type that holds no place: where each stands, and what it is. -/
def leafs (P : Program) : Nat → TypeId → Option (List (Nat × CTy))
  | 0, _ => none
  | d + 1, t => match P.underlying t with
    | some (.struct fs) => fs.toList.foldr (fun f r => match leafs P d f.type, r with
      | some l, some r => some (l.map (fun x => (f.offset + x.1, x.2)) ++ r)
      | _, _ => none) (some [])
    | some (.array _ _) => none
    | _ => match cty P t with
      | some c => bif flatC c then some [(0, c)] else none
      | none => none

theorem foldr_leafs {g : Field → Option (List (Nat × CTy))} : ∀ {fs : List Field} {L : List (Nat × CTy)}, fs.foldr (fun f r => match g f, r with
      | some l, some r => some (l.map (fun x => (f.offset + x.1, x.2)) ++ r)
      | _, _ => none) (some []) = some L → ∀ x ∈ L, ∃ f ∈ fs, ∃ l, g f = some l ∧ ∃ y ∈ l, x = (f.offset + y.1, y.2)
  | [], L, h, x, hx => by cases h; cases hx
  | f :: fs, L, h, x, hx => by
    simp only [List.foldr_cons] at h
    split at h
    · rename_i l r hl hr
      cases h
      rcases List.mem_append.1 hx with hx | hx
      · obtain ⟨y, hy, rfl⟩ := List.mem_map.1 hx
        exact ⟨f, by simp, l, hl, y, hy, rfl⟩
      · obtain ⟨f', hf', l', h1, h2⟩ := foldr_leafs hr x hx
        exact ⟨f', by simp [hf'], l', h1, h2⟩
    · cases h

theorem mapM_mem {α β : Type} {g : α → Option β} : ∀ {l : List α} {ys : List β}, l.mapM g = some ys → ∀ a ∈ l, ∃ y, g a = some y
  | [], _, _, a, h => by cases h
  | b :: l, ys, h, a, ha => by
    rw [List.mapM_cons] at h
    cases hb : g b with
    | none => rw [hb] at h; cases h
    | some y =>
      rw [hb] at h
      cases hl : l.mapM g with
      | none => simp [hl] at h
      | some zs =>
        rcases List.mem_cons.1 ha with rfl | ha
        · exact ⟨y, hb⟩
        · exact mapM_mem hl a ha

/-- A cell of its kind. -/
def FlatV (c : CTy) (v : Value) : Prop := ∀ ρ : Rho, ∃ m x, VRel ρ m v ∧ c.dec m = some x ∧ m.has

theorem flat_bool (b : Bool) : FlatV .bool (.bool b) := fun _ => ⟨_, _, .bool _, rfl, trivial⟩
theorem flat_int {k : IntKind} {n : Int} (h : k.has n) : FlatV (.int k) (.int k n) := fun _ => ⟨_, _, .int _ _, if_pos rfl, h⟩
theorem flat_str {s : ByteArray} (h : (s.size : Int) ≤ IntKind.i64.max) : FlatV .str (.string s) := fun ρ => by
  refine ⟨.str s.data.toList, _, ?_, rfl, ?_⟩
  · have := VRel.str (ρ := ρ) s.data.toList
    simpa using this
  · show ((s.data.toList.length : Nat) : Int) ≤ _
    rw [Array.length_toList]
    exact h

theorem maxLen_i64 {n : Nat} (h : n ≤ maxLen) : (n : Int) ≤ IntKind.i64.max := by
  have h1 : (maxLen : Int) ≤ IntKind.i64.max := by decide
  omega

/-- What is read of such a type has such cells. -/
theorem leaf_trod {H : Type} {enc : TypeId × Value → H} {w : World} {base : Nat} {sp : Nat → Bool} {hd : Bool} : ∀ (d : Nat) (t : TypeId) (L : List (Nat × CTy)), leafs P d t = some L → ∀ (fuel : Nat) (cs : List Value) (x : DataW H × List MemPlace),
    DataW.trod enc P w base sp hd fuel t cs = some x → ∀ y ∈ L, ∃ v, cs[y.1]? = some v ∧ FlatV y.2 v
  | 0, _, _, h, _, _, _, _, _, _ => by cases h
  | d + 1, t, L, h, fuel, cs, x, ht, y, hy => by
    cases fuel with
    | zero => cases ht
    | succ fuel =>
      simp only [leafs] at h
      split at h
      · rename_i fs hu
        simp only [DataW.trod, hu] at ht
        split at ht
        · obtain ⟨ys, hys, _⟩ := map_some ht
          obtain ⟨f, hf, l, hl, z, hz, rfl⟩ := foldr_leafs h y hy
          obtain ⟨q, hq⟩ := mapM_mem hys f hf
          obtain ⟨v, hv, hfl⟩ := leaf_trod d f.type l hl fuel _ q hq z hz
          refine ⟨v, ?_, hfl⟩
          rw [List.getElem?_take] at hv
          split at hv
          · rw [List.getElem?_drop] at hv
            exact hv
          · cases hv
        · cases ht
      · cases h
      · rename_i hns hna
        split at h
        · rename_i c hc
          cases hfl : flatC c with
          | false => rw [hfl] at h; cases h
          | true =>
            rw [hfl] at h
            cases h
            simp only [List.mem_singleton] at hy
            subst hy
            cases c with
            | bool =>
              have hu := cty_bool hc
              simp only [DataW.trod, hu] at ht
              split at ht <;> first | (have hh := ‹some TypeDesc.bool = some _›; cases hh; done) | skip
              · exact ⟨_, rfl, flat_bool _⟩
              · cases ht
            | int k =>
              have hu := cty_int hc
              simp only [DataW.trod, hu] at ht
              split at ht <;> first | (have hh := ‹some (TypeDesc.int k) = some _›; cases hh; done) | skip
              · have hh := ‹some (TypeDesc.int k) = some _›
                cases hh
                split at ht
                · rename_i h2
                  obtain ⟨rfl, h3⟩ := h2
                  exact ⟨_, rfl, flat_int (by simpa [Lit.wf, IntKind.has] using h3)⟩
                · cases ht
              · cases ht
            | str =>
              have hu := cty_str hc
              simp only [DataW.trod, hu] at ht
              split at ht <;> first | (have hh := ‹some TypeDesc.string = some _›; cases hh; done) | skip
              · split at ht
                · rename_i h2
                  exact ⟨_, rfl, flat_str (maxLen_i64 h2)⟩
                · cases ht
              · cases ht
            | _ => cases hfl
        · cases h

theorem mapM_get {α β : Type} {g : α → Option β} : ∀ {l : List α} {ys : List β}, l.mapM g = some ys → ys.length = l.length ∧ ∀ (j : Nat) v, ys[j]? = some v → ∃ a, l[j]? = some a ∧ g a = some v
  | [], ys, h => by cases h; exact ⟨rfl, fun j v hj => by simp at hj⟩
  | b :: l, ys, h => by
    rw [List.mapM_cons] at h
    cases hb : g b with
    | none => rw [hb] at h; cases h
    | some y =>
      rw [hb] at h
      cases hl : l.mapM g with
      | none => simp [hl] at h
      | some zs =>
        simp [hl] at h
        subst h
        obtain ⟨h1, h2⟩ := mapM_get hl
        refine ⟨by simp [h1], fun j v hj => ?_⟩
        cases j with
        | zero => simp at hj; subst hj; exact ⟨b, rfl, hb⟩
        | succ j => exact h2 j v (by simpa using hj)

theorem FlatV.enc {c : CTy} {v : Value} (h : FlatV c v) (ρ : Rho) : ∃ x : c.den, VRel ρ (c.enc x) v ∧ (c.enc x).has := by
  obtain ⟨m, x, h1, h2, h3⟩ := h ρ
  have := CTy.enc_dec h2
  exact ⟨x, by rw [this]; exact h1, by rw [this]; exact h3⟩

/-- Cells of their kinds, as one value. -/
theorem flats_open (ρ : Rho) : ∀ (cts : List CTy) (vs : List Value), vs.length = cts.length → (∀ (j : Nat) c v, cts[j]? = some c → vs[j]? = some v → FlatV c v) → ∃ x : HC cts, VRels ρ (HC.enc cts x) vs ∧ ∀ m ∈ HC.enc cts x, m.has
  | [], [], _, _ => ⟨(), .nil, fun _ h => by cases h⟩
  | [], _ :: _, h, _ => by cases h
  | [c], [v], _, h => by
    obtain ⟨x, h1, h2⟩ := (h 0 c v rfl rfl).enc ρ
    exact ⟨x, .cons _ _ _ _ h1 .nil, fun m hm => by
      have : m = c.enc x := by simpa [HC.enc] using hm
      rw [this]; exact h2⟩
  | [c], [], h, _ => by cases h
  | [c], _ :: _ :: _, h, _ => by simp at h
  | c :: d :: cts, [], h, _ => by cases h
  | c :: d :: cts, v :: vs, hl, h => by
    obtain ⟨x, h1, h2⟩ := (h 0 c v rfl rfl).enc ρ
    obtain ⟨y, h3, h4⟩ := flats_open ρ (d :: cts) vs (by simpa using hl) (fun j c' v' hc hv => h (j + 1) c' v' (by simpa using hc) (by simpa using hv))
    refine ⟨(x, y), .cons _ _ _ _ h1 h3, fun m hm => ?_⟩
    have hm' : m ∈ c.enc x :: HC.enc (d :: cts) y := hm
    rcases List.mem_cons.1 hm' with rfl | hm'
    · exact h2
    · exact h4 m hm'

theorem HC.enc_length : ∀ (cts : List CTy) (x : HC cts), (HC.enc cts x).length = cts.length
  | [], _ => rfl
  | [_], _ => rfl
  | _ :: u :: r, x => by
    show (HC.enc (u :: r) x.2).length + 1 = _
    rw [HC.enc_length (u :: r) x.2]
    rfl

def rowsOf (cts : List CTy) (xs : List (HC cts)) : List MV := xs.flatMap (HC.enc cts)

theorem rowsOf_length {cts : List CTy} : ∀ (xs : List (HC cts)), (rowsOf cts xs).length = xs.length * cts.length
  | [] => by simp [rowsOf]
  | x :: xs => by
    have ih := rowsOf_length xs
    simp only [rowsOf, List.flatMap_cons, List.length_append, HC.enc_length, List.length_cons] at ih ⊢
    rw [ih, Nat.add_mul, Nat.one_mul, Nat.add_comm]

theorem rows_open (ρ : Rho) {w : World} {b o : Nat} {cts : List CTy} {cap : Nat}
    (each : ∀ i, i < cap → ∃ cs : List Value, cs.length = cts.length ∧ (∀ (j : Nat) v, cs[j]? = some v → w.cell? ⟨b, o + (i * cts.length + j), none⟩ = some v) ∧ ∀ (j : Nat) c v, cts[j]? = some c → cs[j]? = some v → FlatV c v) :
    ∀ k, k ≤ cap → ∃ xs : List (HC cts), xs.length = k ∧ (∀ (idx : Nat) m, (rowsOf cts xs)[idx]? = some m → ∃ v, w.cell? ⟨b, o + idx, none⟩ = some v ∧ VRel ρ m v) ∧ ∀ m ∈ rowsOf cts xs, m.has
  | 0, _ => ⟨[], rfl, fun idx m h => by simp [rowsOf] at h, fun m h => by cases h⟩
  | k + 1, hk => by
    obtain ⟨xs, h1, h2, h3⟩ := rows_open ρ each k (by omega)
    obtain ⟨cs, h4, h5, h6⟩ := each k (by omega)
    obtain ⟨x, h7, h8⟩ := flats_open ρ cts cs h4 h6
    have hap : rowsOf cts (xs ++ [x]) = rowsOf cts xs ++ HC.enc cts x := by simp [rowsOf, List.flatMap_append]
    refine ⟨xs ++ [x], by simp [h1], fun idx m hm => ?_, fun m hm => ?_⟩
    · rw [hap, List.getElem?_append] at hm
      split at hm
      · exact h2 idx m hm
      · rename_i hi
        rw [rowsOf_length, h1] at hi hm
        obtain ⟨v, hv, hr⟩ := h7.get _ _ hm
        have := h5 _ v hv
        rw [show k * cts.length + (idx - k * cts.length) = idx by omega] at this
        exact ⟨v, this, hr⟩
    · rw [hap] at hm
      rcases List.mem_append.1 hm with hm | hm
      · exact h3 m hm
      · exact h8 m hm

/-- One block that came in, alone. -/
def oneRho (rb : RB) : Rho := fun b => if b = 0 then some rb else none

theorem oneRho_zero (rb : RB) : oneRho rb 0 = some rb := rfl

theorem HRel.one {rb : RB} {x : Blk} {H : Array Obj} (hb : BRel (oneRho rb) rb x H) (hG : GM = [] := by rfl) : HRel (oneRho rb) (Hp.empty.push x) H where
  dom := fun b q h => by
    unfold oneRho at h
    split at h
    · rename_i e; subst e; exact Nat.zero_lt_one
    · cases h
  live := fun b hd => by
    by_cases e : b = 0
    · subst e; exact ⟨rb, rfl⟩
    · exact absurd (show (Hp.empty.push x).get b = .dead by rw [Hp.get_push]; exact if_neg e) hd
  inj := fun b b' q q' h h' _ _ hne => by
    unfold oneRho at h h'
    split at h
    · split at h'
      · rename_i e e'; exact absurd (e.trans e'.symm) hne
      · cases h'
    · cases h
  gl := fun i g h => by rw [hG] at h; cases h
  blk := fun b q h => by
    unfold oneRho at h
    split at h
    · rename_i e
      subst e
      cases h
      rw [Hp.get_push]
      exact hb
    · cases h

theorem own_one {x : Blk} (h1 : ∀ cs, x ≠ .cells cs false) (h2 : ∀ es, x ≠ .map es) (b : Nat) : ¬ Own (Hp.empty.push x) b := by
  rintro (⟨cs, h⟩ | ⟨es, h⟩) <;> rw [Hp.get_push] at h <;> split at h
  · exact h1 _ h
  · cases h
  · exact h2 _ h
  · cases h

theorem addr_zero (a : Addr) : a.add 0 = a := rfl
theorem addr_add2 {a : Addr} (h : a.spot = none) (p q : Nat) : (a.add p).add q = ⟨a.block, a.off + (p + q), none⟩ := by
  obtain ⟨b, o, s⟩ := a
  dsimp only at h
  subst h
  unfold Addr.add
  split <;> split <;> simp_all [Nat.add_assoc]

/-- A slice of such structs, as it comes in: the values; a heap in which they lie; what is passed. -/
theorem slice_raw {H : Type} {enc : TypeId × Value → H} {W : World} {t E : TypeId} (hu : P.underlying t = some (.slice E)) {d : Nat} {cts : List CTy} (hL : leafs P d E = some (cts.zipIdx.map fun x => (x.2, x.1))) (hn : P.cellsOf E = cts.length) (hn0 : 0 < cts.length)
    {v : Value} {dd : DataW H} {ps : List MemPlace} (h : DataW.Trod enc P W 0 (fun _ => true) true t v dd ps) (hv : ∃ a l c, v = .slice a l c):
    ∃ (xs : List (HC cts)) (s : Sl) (x : Blk) (rb : RB), s.len = xs.length ∧ xs.length ≤ maxLen ∧ (xs ≠ [] → s.p = some ⟨0, 0⟩ ∧ x = .cells (rowsOf cts xs) true) ∧ BRel (oneRho rb) rb x W.heap ∧ (∀ cs, x ≠ .cells cs false) ∧ (∀ es, x ≠ .map es) ∧
      VRel (oneRho rb) (.sl s.p s.len cts.length) v ∧ ∀ m ∈ rowsOf cts xs, m.has := by
  obtain ⟨a0, l0, c0, rfl⟩ := hv
  obtain ⟨fuel, hf⟩ := h
  rcases DataW.trod_slice hu hf with ⟨h0, _⟩ | ⟨a, len, cap, elems, rest, n, _, h0, _, _, hl, hm, hlen, hel, hsp, _⟩
  · simp [Value.cells] at h0
    obtain ⟨rfl, rfl, rfl⟩ := h0
    exact ⟨[], ⟨none, 0⟩, .dead, ⟨0, 0, 0⟩, rfl, Nat.zero_le _, fun h => absurd rfl h, trivial, ⟨fun _ => by simp, fun _ => by simp, VRel.slNil _, fun m h => by cases h⟩⟩
  · simp [Value.cells] at h0
    obtain ⟨rfl, rfl, rfl⟩ := h0
    obtain ⟨hrl, hr⟩ := hsp rfl
    have each0 : ∀ i, i < c0 → ∃ y, (W.cells? 0 (a.add (i * cts.length)) cts.length).bind (DataW.trod enc P W 0 (fun _ => true) true n E) = some y := by
      intro i hi
      by_cases hil : i < l0
      · have h1 := hel i hil
        rw [hn] at h1
        rw [h1, List.getElem?_eq_getElem (by omega)]
        exact ⟨_, rfl⟩
      · have h1 := hr (i - l0) (by omega)
        rw [hn, show l0 + (i - l0) = i by omega] at h1
        rw [h1, List.getElem?_eq_getElem (by omega)]
        exact ⟨_, rfl⟩
    by_cases hc0 : c0 = 0
    · subst hc0
      have hl0 : l0 = 0 := by omega
      subst hl0
      exact ⟨[], ⟨some ⟨0, 0⟩, 0⟩, .dead, ⟨0, 0, 0⟩, rfl, Nat.zero_le _, fun h => absurd rfl h, trivial, ⟨fun _ => by simp, fun _ => by simp, VRel.sl ⟨0, 0⟩ ⟨0, 0, 0⟩ 0 _ 0 a rfl (Nat.le_refl _) (.inl rfl), fun m h => by cases h⟩⟩
    · have cellsAt : ∀ i, i < c0 → ∃ cs : List Value, cs.length = cts.length ∧ (∀ (j : Nat) v, cs[j]? = some v → W.cell? ((a.add (i * cts.length)).add j) = some v) ∧ ∀ (j : Nat) c v, cts[j]? = some c → cs[j]? = some v → FlatV c v := by
        intro i hi
        obtain ⟨y, hy⟩ := each0 i hi
        rw [Option.bind_eq_some_iff] at hy
        obtain ⟨cs, h1, h2⟩ := hy
        unfold World.cells? at h1
        rw [if_pos (Nat.zero_le _)] at h1
        obtain ⟨h3, h4⟩ := mapM_get h1
        refine ⟨cs, by simpa using h3, fun j v hj => ?_, fun j c v hc hj => ?_⟩
        · obtain ⟨k, hk, h5⟩ := h4 j v hj
          have hj2 : j < (List.range cts.length).length := (List.getElem?_eq_some_iff.1 hk).1
          rw [List.getElem?_range (by simpa using hj2)] at hk
          cases hk
          exact h5
        · have hmem : (j, c) ∈ cts.zipIdx.map (fun x => (x.2, x.1)) := by
            refine List.mem_map.2 ⟨(c, j), ?_, rfl⟩
            exact List.mem_zipIdx_iff_getElem?.2 hc
          obtain ⟨v', hv', hfl⟩ := leaf_trod d E _ hL n cs y h2 (j, c) hmem
          rw [hj] at hv'
          cases hv'
          exact hfl
      -- the row
      have hrow : ∃ cc el fz, W.heap[a.block]? = some (.cells cc el fz) ∧ a.spot = none := by
        obtain ⟨cs, h1, h2, _⟩ := cellsAt 0 (by omega)
        have h3 := h2 0 cs[0] (List.getElem?_eq_getElem (by omega))
        rw [Nat.zero_mul, addr_zero, addr_zero] at h3
        unfold World.cell? at h3
        split at h3
        · rename_i cc el fz hh
          refine ⟨cc, el, fz, hh, ?_⟩
          cases hs : a.spot with
          | none => rfl
          | some z => rw [hs] at h3; cases h3
        · cases h3
      obtain ⟨cc, el, fz, hh, hspot⟩ := hrow
      have each : ∀ i, i < c0 → ∃ cs : List Value, cs.length = cts.length ∧ (∀ (j : Nat) v, cs[j]? = some v → W.cell? ⟨a.block, a.off + (i * cts.length + j), none⟩ = some v) ∧ ∀ (j : Nat) c v, cts[j]? = some c → cs[j]? = some v → FlatV c v := by
        intro i hi
        obtain ⟨cs, h1, h2, h3⟩ := cellsAt i hi
        refine ⟨cs, h1, fun j v hj => ?_, h3⟩
        have := h2 j v hj
        rwa [addr_add2 hspot] at this
      obtain ⟨xs, h1, h2, h3⟩ := rows_open (oneRho ⟨a.block, a.off, c0 * cts.length⟩) each l0 hl
      have hsz : a.off + c0 * cts.length ≤ cc.size := by
        obtain ⟨cs, h4, h5, _⟩ := each (c0 - 1) (by omega)
        have h6 := h5 (cts.length - 1) cs[cts.length - 1] (List.getElem?_eq_getElem (by omega))
        unfold World.cell? at h6
        rw [hh] at h6
        dsimp only [Option.isSome] at h6
        have h7 := (Array.getElem?_eq_some_iff.1 (show cc[a.off + ((c0 - 1) * cts.length + (cts.length - 1))]? = some _ from h6)).1
        have h8 : (c0 - 1) * cts.length + cts.length = c0 * cts.length := by
          rw [← Nat.succ_mul]
          congr 1
          omega
        omega
      have hle : l0 * cts.length ≤ c0 * cts.length := Nat.mul_le_mul_right _ hl
      refine ⟨xs, ⟨some ⟨0, 0⟩, l0⟩, .cells (rowsOf cts xs) true, ⟨a.block, a.off, c0 * cts.length⟩, h1.symm, by omega, fun _ => ⟨rfl, rfl⟩, ?_, ⟨fun _ => by simp, fun _ => by simp, ?_, h3⟩⟩
      · refine ⟨cc, el, fz, hh, hsz, ?_, fun i m hm => ?_, fun hr => by cases hr⟩
        · rw [rowsOf_length, h1]
          exact hle
        · obtain ⟨v, hv, hr⟩ := h2 i m hm
          unfold World.cell? at hv
          rw [hh] at hv
          exact ⟨v, hv, hr⟩
      · refine VRel.sl ⟨0, 0⟩ ⟨a.block, a.off, c0 * cts.length⟩ l0 _ c0 a rfl hl (.inr ⟨?_, ?_⟩) (Nat.le_trans hm (by decide : maxLen ≤ 9223372036854775807))
        · obtain ⟨ab, ao, as⟩ := a
          dsimp only at hspot
          subst hspot
          rfl
        · dsimp only
          omega

/-- .. and nothing beside it. -/
theorem slice_open {H : Type} {enc : TypeId × Value → H} {W : World} {t E : TypeId} (hu : P.underlying t = some (.slice E)) {d : Nat} {cts : List CTy} (hL : leafs P d E = some (cts.zipIdx.map fun x => (x.2, x.1))) (hn : P.cellsOf E = cts.length) (hn0 : 0 < cts.length)
    {v : Value} {dd : DataW H} {ps : List MemPlace} (h : DataW.Trod enc P W 0 (fun _ => true) true t v dd ps) (hv : ∃ a l c, v = .slice a l c) (hG : GM = [] := by rfl) :
    ∃ (xs : List (HC cts)) (s : Sl) (x : Blk) (rb : RB), s.len = xs.length ∧ xs.length ≤ maxLen ∧ (xs ≠ [] → s.p = some ⟨0, 0⟩ ∧ x = .cells (rowsOf cts xs) true) ∧ HRel (oneRho rb) (Hp.empty.push x) W.heap ∧ (∀ cs, x ≠ .cells cs false) ∧ (∀ es, x ≠ .map es) ∧
      VRel (oneRho rb) (.sl s.p s.len cts.length) v ∧ ∀ m ∈ rowsOf cts xs, m.has := by
  obtain ⟨xs, s, x, rb, h1, h2, h3, h4, h5, h6, h7, h8⟩ := slice_raw (P := P) hu hL hn hn0 h hv
  exact ⟨xs, s, x, rb, h1, h2, h3, HRel.one h4 hG, h5, h6, h7, h8⟩
end
end Go.Mini
