/- slices.Insert and slices.Delete at []int: the kit's contracts, as contracts of the small machine. -/
import Derived.Test.YtpnppebjcenkkaaMU
import Derived.Test.YtpnppebjcenkkaaMINS
import Derived.Shelf.Spec.SlicesInsert
import Derived.Shelf.Spec.SlicesInsertGrow
import Derived.Shelf.Slices.Delete
namespace Go.Mini
open Go.Shelf Go.Lib Go.Sort Go.RowKit Go.Proofs

section
variable {P : Program} {ρ : Rho} {h : Hp} {w : World}

theorem setCells_obj (b : Nat) : ∀ (vs : List Value) (o : Nat) (w : World) {c : Array Value} {el : TypeId} {fz : Nat × Nat}, w.heap[b]? = some (.cells c el fz) → ∃ c', (w.setCells b o vs).heap[b]? = some (.cells c' el fz) ∧ c'.size = c.size
  | [], _, _, c, _, _, h => ⟨c, h, rfl⟩
  | v :: r, o, w, c, el, fz, h => by
    have h1 : (w.setCell ⟨b, o, none⟩ v).heap[b]? = some (.cells (c.setIfInBounds o v) el fz) := by
      simp only [World.setCell, Array.getElem?_modify, if_true, h, Option.map_some]
      rfl
    obtain ⟨c', h2, h3⟩ := setCells_obj b r (o + 1) _ h1
    exact ⟨c', h2, by simpa using h3⟩

theorem setCells_rest (b : Nat) : ∀ (vs : List Value) (o : Nat) (w : World), (w.setCells b o vs).heap.size = w.heap.size ∧ (∀ i, i ≠ b → (w.setCells b o vs).heap[i]? = w.heap[i]?) ∧ (w.setCells b o vs).os = w.os ∧ (w.setCells b o vs).tape = w.tape ∧ (w.setCells b o vs).output = w.output
  | [], _, _ => ⟨rfl, fun _ _ => rfl, rfl, rfl, rfl⟩
  | v :: r, o, w => by
    obtain ⟨h1, h2, h3, h4, h5⟩ := setCells_rest b r (o + 1) (w.setCell ⟨b, o, none⟩ v)
    refine ⟨h1.trans (by simp [World.setCell]), fun i hi => (h2 i hi).trans ?_, h3, h4, h5⟩
    simp only [World.setCell, Array.getElem?_modify]
    rw [if_neg (Ne.symm hi)]

theorem cell_obj {w : World} {r i : Nat} {c : Array Value} {el : TypeId} {fz : Nat × Nat} (h : w.heap[r]? = some (.cells c el fz)) : w.cell? ⟨r, i, none⟩ = c[i]? := by
  simp [World.cell?, h]

/-- A row is laid over a piece of an own block's row: the block moves. -/
theorem adopt_row (k : HRel ρ h w.heap) {b : Nat} {rb : RB} (hb : ρ b = some rb) {cs : List MV} (hg : h.get b = .cells cs false) (o : Nat) (ho : o ≤ rb.e) {ns : List MV} (hn : o + ns.length ≤ rb.e) {c c' : Array Value} {el : TypeId} {fz : Nat × Nat}
    (h1 : w.heap[rb.r]? = some (.cells c el fz)) {w' : World} (hsz : w'.heap.size = w.heap.size) (hH : ∀ i, i ≠ rb.r → w'.heap[i]? = w.heap[i]?) (h2 : w'.heap[rb.r]? = some (.cells c' el fz)) (h3 : c'.size = c.size) (hos : w'.os = w.os) (ht : w'.tape = w.tape) (hout : w'.output = w.output)
    (hv : ∀ (i : Nat) v, ns[i]? = some v → ∃ v', c'[rb.o + o + i]? = some v' ∧ VRel ρ v v') :
    HRel (ρ.put h.size ⟨rb.r, rb.o + o, rb.e - o⟩) ((h.set b .dead).push (.cells ns false)) w'.heap ∧ HStp ρ h w (ρ.put h.size ⟨rb.r, rb.o + o, rb.e - o⟩) ((h.set b .dead).push (.cells ns false)) w' := by
  have hk := k.blk _ _ hb
  rw [hg] at hk
  obtain ⟨c0, el0, fz0, g1, g2, g3, g4, g5⟩ := hk
  rw [h1] at g1
  cases g1
  refine k.adopt hb (.inl ⟨cs, hg⟩) _ _ _ hsz hH hos ht hout fun ρ' hx => ⟨c', el, fz, h2, ?_, ?_, ?_, ?_⟩
  · dsimp only; omega
  · dsimp only; omega
  · intro i v hi
    obtain ⟨v', a, b⟩ := hv i v hi
    exact ⟨v', a, b.mono hx⟩
  · intro _
    dsimp only
    rcases g5 rfl with g | ⟨hp, g⟩
    · exact .inl g
    · exact .inr ⟨hp, by omega⟩

/-- The elements of a slice in an own block. -/
theorem own_cells (k : HRel ρ h w.heap) {b : Nat} {rb : RB} (hb : ρ b = some rb) {cs : List MV} {ro : Bool} (hg : h.get b = .cells cs ro) : ∃ c el fz, w.heap[rb.r]? = some (.cells c el fz) ∧ rb.o + rb.e ≤ c.size ∧ cs.length ≤ rb.e ∧
    (∀ (i : Nat) v, cs[i]? = some v → ∃ v', c[rb.o + i]? = some v' ∧ VRel ρ v v') ∧ (ro = false → fz.1 = fz.2 ∨ (plain = false ∧ rb.o + rb.e ≤ fz.1)) := by
  have hk := k.blk _ _ hb
  rw [hg] at hk
  exact hk

theorem ins_vals {vs : List Value} {x : Value} {N j : Nat} {u : Value} (hN : N ≤ vs.length) (hj : (vs.take N ++ x :: vs.drop N)[j]? = some u) : (j < N ∧ vs[j]? = some u) ∨ (j = N ∧ u = x) ∨ (N < j ∧ vs[j - 1]? = some u) := by
  have hl : (vs.take N).length = N := by simp; omega
  rcases Nat.lt_trichotomy j N with h | h | h
  · rw [List.getElem?_append_left (by omega), List.getElem?_take, if_pos h] at hj
    exact .inl ⟨h, hj⟩
  · subst h
    rw [List.getElem?_append_right (by omega), hl, Nat.sub_self] at hj
    exact .inr (.inl ⟨rfl, (Option.some.inj hj).symm⟩)
  · rw [List.getElem?_append_right (by omega), hl] at hj
    obtain ⟨d, rfl⟩ : ∃ d, j = N + 1 + d := ⟨j - (N + 1), by omega⟩
    rw [show N + 1 + d - N = d + 1 by omega, List.getElem?_cons_succ, List.getElem?_drop] at hj
    exact .inr (.inr ⟨h, by rw [show N + 1 + d - 1 = N + d by omega]; exact hj⟩)

/-- A world that differs by a row's cells alone. -/
structure RowOf (w w' : World) (b : Nat) : Prop where
  size : w'.heap.size = w.heap.size
  other : ∀ i, i ≠ b → w'.heap[i]? = w.heap[i]?
  os : w'.os = w.os
  tape : w'.tape = w.tape
  output : w'.output = w.output
  row : ∀ {c el fz}, w.heap[b]? = some (.cells c el fz) → ∃ c', w'.heap[b]? = some (.cells c' el fz) ∧ c'.size = c.size

theorem RowOf.refl (w : World) (b : Nat) : RowOf w w b := ⟨rfl, fun _ _ => rfl, rfl, rfl, rfl, fun h => ⟨_, h, rfl⟩⟩
theorem RowOf.trans {w w1 w2 : World} {b : Nat} (x : RowOf w w1 b) (y : RowOf w1 w2 b) : RowOf w w2 b :=
  ⟨y.size.trans x.size, fun i hi => (y.other i hi).trans (x.other i hi), y.os.trans x.os, y.tape.trans x.tape, y.output.trans x.output, fun h => by
    obtain ⟨c1, h1, h2⟩ := x.row h
    obtain ⟨c2, h3, h4⟩ := y.row h1
    exact ⟨c2, h3, h4.trans h2⟩⟩
theorem RowOf.drew (w : World) (b : Nat) : RowOf w w.drew b := ⟨rfl, fun _ _ => rfl, rfl, rfl, rfl, fun h => ⟨_, h, rfl⟩⟩
theorem RowOf.cells (w : World) (b o : Nat) (vs : List Value) : RowOf w (w.setCells b o vs) b := by
  obtain ⟨h1, h2, h3, h4, h5⟩ := setCells_rest b vs o w
  exact ⟨h1, h2, h3, h4, h5, fun h => setCells_obj b vs o w h⟩

theorem grown_bounds (w : World) (n c : Nat) (e : TypeId) (hn : n < 2 ^ 63) : n ≤ grownCap w n c e ∧ grownCap w n c e ≤ 9223372036854775807 := by
  unfold grownCap
  simp only [Question.cut]
  have := Nat.mod_lt (w.tape w.drawn (.appendCap n c e)) (show 0 < 2 ^ 63 - n by omega)
  omega

/-- A new row behind a dead block. -/
theorem new_row (k : HRel ρ h w.heap) {w' : World} {c : Array Value} {el : TypeId} {fz : Nat × Nat} (hw : w'.heap = w.heap.push (.cells c el fz)) (hfz : fz.1 = fz.2) (hos : w'.os = w.os) (ht : w'.tape = w.tape) (hout : w'.output = w.output) {ns : List MV} {vs : List Value} (hl : vs.length ≤ c.size) (hr : VRels ρ ns vs)
    (hv : ∀ (i : Nat) v, vs[i]? = some v → c[i]? = some v) :
    (ρ.put h.size ⟨w.heap.size, 0, c.size⟩) h.size = some ⟨w.heap.size, 0, c.size⟩ ∧ HRel (ρ.put h.size ⟨w.heap.size, 0, c.size⟩) (h.push (.cells ns false)) w'.heap ∧ HStp ρ h w (ρ.put h.size ⟨w.heap.size, 0, c.size⟩) (h.push (.cells ns false)) w' := by
  refine ⟨Rho.put_same _ _ _, ?_⟩
  refine k.alloc _ (by simp) _ (.cells c el fz) _ hw hos ht hout fun ρ' hx => ⟨c, el, fz, by rw [hw]; simp, by simp, by rw [hr.length]; exact hl, fun i v hi => ?_, fun _ => .inl hfz⟩
  obtain ⟨y, hy, hyr⟩ := hr.get _ _ hi
  exact ⟨y, by rw [Nat.zero_add]; exact hv i y hy, hyr.mono hx⟩

/-- What a contract of the small machine says of one call. -/
abbrev Done (ρ : Rho) (h : Hp) (w : World) (v : MV) (h' : Hp) : Ending → World → Prop := fun en w' => ∃ rv ρ', en = .returned rv ∧ VRel ρ' v rv ∧ HRel ρ' h' w'.heap ∧ HStp ρ h w ρ' h' w'

theorem row_rel (k : HRel ρ h w.heap) {rb : RB} {cs : List MV} {c : Array Value} {off n : Nat} (hle : off + n ≤ cs.length) (hc : ∀ (i : Nat) v, cs[i]? = some v → ∃ v', c[rb.o + i]? = some v' ∧ VRel ρ v v') (hsz : rb.o + rb.e ≤ c.size) (hcs : cs.length ≤ rb.e) :
    VRels ρ ((cs.drop off).take n) ((c.toList.drop (rb.o + off)).take n) := by
  apply VRels.of_get
  · simp; omega
  · intro j v y' hv1 hy1
    rw [List.getElem?_take] at hv1 hy1
    split at hv1
    · rename_i hj
      rw [if_pos hj] at hy1
      simp at hv1 hy1
      obtain ⟨v', hv', hr⟩ := hc _ _ hv1
      rw [← Nat.add_assoc, hy1] at hv'
      cases hv'
      exact hr
    · cases hv1

theorem not_frozen {w : World} {r i : Nat} {c : Array Value} {el : TypeId} {fz : Nat × Nat} (h : w.heap[r]? = some (.cells c el fz)) (hf : fz.1 = fz.2 ∨ i < fz.1) : w.frozen? ⟨r, i, none⟩ = false := by
  obtain ⟨lo, hi⟩ := fz
  simp only [World.frozen?, h]
  dsimp only at hf
  by_cases h1 : lo ≤ i
  · by_cases h2 : i < hi
    · omega
    · simp [h2]
  · simp [h1]

theorem insI_sound {r : Go.Shelf.Ren} (L : Lays2.n21 P r) (k : HRel ρ h w.heap) {s v : Sl} {i : Int} {x y : Value} (hx : VRel ρ (.sl s.p s.len 1) x) (hy : VRel ρ (.sl v.p v.len 1) y) {t : Sl} {h' : Hp} (e : insI s i v h = some (t, h')) :
    Calls P (r.f 21) #[x, .int .i64 i, y] w (Done ρ h w (.sl t.p t.len 1) h') := by
  obtain ⟨sp, sl⟩ := s
  obtain ⟨vp, vl⟩ := v
  dsimp only at hx hy
  unfold insI at e
  dsimp only at e
  split at e
  · cases e
  rename_i vb
  split at e
  case h_2 => cases e
  rename_i vs hvg
  split at e
  · cases e
  rename_i m hm
  split at e
  case isFalse => cases e
  rename_i hcond
  obtain ⟨hpl, rfl, hmc, hi0, hi1, hmost⟩ := hcond
  have hmo : most = 70368744177664 := rfl
  rw [hmo] at hmost
  obtain ⟨N, rfl⟩ : ∃ N : Nat, i = N := ⟨i.toNat, by omega⟩
  have hN : N ≤ sl := by omega
  rw [Int.toNat_natCast] at e
  cases hy with
  | sl _ rv _ _ vc va hvb hvl hvc hvm =>
  rcases hvc with hvc | ⟨rfl, hvc⟩
  · omega
  obtain ⟨c2, el2, fz2, q1, q2, q3, q4, q5⟩ := own_cells k hvb hvg
  have hfz2 : fz2.1 = fz2.2 := (q5 rfl).elim id fun q => by rw [hpl] at q; cases q.1
  obtain ⟨y, hy1, hy2⟩ := q4 _ _ hm
  have hvlt : rv.r < w.heap.size := (Array.getElem?_eq_some_iff.1 q1).1
  have hvs : ∀ (j : Nat) u, [y][j]? = some u → w.cell? ⟨rv.r, rv.o + vb.off + j, none⟩ = some u := by
    intro j u hj
    cases j with
    | zero => cases hj; rw [cell_obj q1, Nat.add_zero]; exact hy1
    | succ j => simp at hj
  have h1v : ∀ u ∈ [y], u.oneCell' = true := by
    intro u hu
    simp at hu
    subst hu
    exact hy2.oneCell hmc
  have hfa : w.frozen? ⟨rv.r, rv.o + vb.off, none⟩ = false := not_frozen q1 (.inl hfz2)
  have hfe : w.frozen? ⟨rv.r, c2.size, none⟩ = false := not_frozen q1 (.inl hfz2)
  have hsh : w.shape? rv.r = some (el2, c2.size) := by simp only [World.shape?, q1]
  have gone : ∀ (ba : Option Addr) (cap : Nat) (h1 : Hp) (os : List MV) (olds : List Value), HRel ρ h1 w.heap → HStp ρ h w ρ h1 w → h1.size = h.size → VRels ρ os olds → olds.length = sl → sl ≤ cap → cap < sl + 1 → N = sl → (ba = none → sl = 0) →
      (∀ a, ba = some a → ∀ (j : Nat) u, olds[j]? = some u → w.cell? (a.add j) = some u) →
      Calls P (r.f 21) #[.slice ba sl cap, .int .i64 N, .slice (some ⟨rv.r, rv.o + vb.off, none⟩) 1 vc] w (Done ρ h w (.sl (some ⟨h.size, 0⟩) (sl + 1) 1) (h1.push (.cells (os ++ [m]) false))) := by
    intro ba cap h1 os olds k1 st1 hs1 hor hol hcap hfull hNn hnil hcs
    subst hNn
    refine (Any2.slices_Insert_int_end_grow L ba N cap rv.r (rv.o + vb.off) 1 vc olds [y] w (by omega) hcap hfull (by omega) hol rfl hnil hcs hvs h1v).mono ?_
    rintro en w' ⟨rfl, rfl⟩
    have hg := grown_bounds w (N + 1) cap (r.t 3) (by omega)
    have k2 : HRel ρ h1 w.drew.heap := k1
    obtain ⟨p1, p2, p3⟩ := new_row (w := w.drew) (w' := w.drew.alloc (.cells ((olds ++ [y]).toArray ++ Builtin.zeroCells (Value.int .i64 0).cells (grownCap w (N + 1) cap (r.t 3) - (N + 1))) (r.t 3))) (ns := os ++ [m]) (vs := olds ++ [y]) k2 rfl rfl rfl rfl rfl (by simp) (hor.append (.cons _ _ _ _ hy2 .nil)) (by
      intro j u hj
      rw [Array.getElem?_append_left (by have := (List.getElem?_eq_some_iff.1 hj).1; simpa using this)]
      simpa using hj)
    rw [hs1] at p1 p2 p3
    refine ⟨_, _, rfl, sl_new p1 _ hg.1 ?_ hg.2, p2, st1.trans ((HStp.drew ρ h1 w).trans p3)⟩
    have hz : (Value.int .i64 0).cells.size = 1 := rfl
    simp [Builtin.zeroCells, hol, hz]
    omega
  cases hx with
  | slNil =>
    dsimp only at e
    simp only [if_true] at e
    cases e
    have := gone none 0 h [] [] k (HStp.refl _ _ _) rfl .nil rfl (by omega) (by omega) (by omega) (fun _ => rfl) (fun a ha => by cases ha)
    simpa using this
  | sl a rb _ _ cap ra hb hl hc hcm =>
    dsimp only at e
    split at e
    case h_2 => cases e
    rename_i cs hg
    split at e
    case isFalse => cases e
    rename_i hcond
    obtain ⟨hle, hne, hall⟩ := hcond
    cases e
    obtain ⟨c, el, fz, b1, b2, b3, b4, b5⟩ := own_cells k hb hg
    have hold := row_rel k hle b4 b2 b3
    generalize hos : (cs.drop a.off).take sl = os at hold hall
    generalize hvv : (c.toList.drop (rb.o + a.off)).take sl = olds at hold
    have hol : olds.length = sl := by rw [← hvv]; simp; omega
    have hosl : os.length = sl := by rw [hold.length, hol]
    have hcell : ∀ (j : Nat) u, olds[j]? = some u → w.cell? ⟨rb.r, rb.o + a.off + j, none⟩ = some u := by
      intro j u hj
      rw [← hvv, List.getElem?_take] at hj
      split at hj
      · rw [cell_obj b1]
        simpa using hj
      · cases hj
    have h1c : ∀ u ∈ olds, u.oneCell' = true := hold.oneCell hall
    have hbr : rv.r ≠ rb.r := k.inj _ _ _ _ hvb hb (Own.live (.inl ⟨_, hvg⟩)) (Own.live (.inl ⟨_, hg⟩)) (fun c => hne c.symm)
    have hnew : VRels ρ (os.take N ++ m :: os.drop N) (olds.take N ++ y :: olds.drop N) := (hold.take N).append (.cons _ _ _ _ hy2 (hold.drop N))
    have hlen : (os.take N ++ m :: os.drop N).length = sl + 1 := by simp; omega
    -- there is room
    have room : sl + 1 ≤ cap → ∀ w' : World, RowOf w w' rb.r → (∀ (j : Nat) u, (olds.take N ++ y :: olds.drop N)[j]? = some u → w'.cell? ⟨rb.r, rb.o + a.off + j, none⟩ = some u) → a.off + cap ≤ rb.e →
        Done ρ h w (.sl (some ⟨h.size, 0⟩) (sl + 1) 1) ((h.set a.blk .dead).push (.cells (os.take N ++ m :: os.drop N) false)) (.returned (.slice (some ⟨rb.r, rb.o + a.off, none⟩) (sl + 1) cap)) w' := by
      intro hroom w' hw hcw hcap
      obtain ⟨c', d1, d2⟩ := hw.row b1
      obtain ⟨g1, g2⟩ := adopt_row k hb hg a.off (by omega) (ns := os.take N ++ m :: os.drop N) (by rw [hlen]; omega) b1 hw.size hw.other d1 d2 hw.os hw.tape hw.output (by
        intro j u hj
        obtain ⟨u', hu, hr⟩ := hnew.get _ _ hj
        exact ⟨u', by rw [← cell_obj d1]; exact hcw j u' hu, hr⟩)
      exact ⟨_, _, rfl, sl_new (Rho.put_same _ _ _) cap hroom (by omega) hcm, g1, g2⟩
    by_cases hend : N = sl
    · subst hend
      have ht1 : olds.take N = olds := List.take_of_length_le (by omega)
      have ht2 : olds.drop N = [] := List.drop_of_length_le (by omega)
      have ht3 : os.take N = os := List.take_of_length_le (by omega)
      have ht4 : os.drop N = [] := List.drop_of_length_le (by omega)
      rw [ht1, ht2, ht3, ht4] at room hnew
      rw [ht3, ht4] at ⊢
      by_cases hroom : N + 1 ≤ cap
      · rcases hc with hc | ⟨rfl, hc⟩
        · omega
        refine (Any2.slices_Insert_int_end_room L rb.r (rb.o + a.off) N cap rv.r (rv.o + vb.off) 1 vc [y] w (by omega) hroom hcm rfl ?_ ?_ hvs h1v).mono ?_
        · intro j hj
          rw [cell_obj b1, Option.isSome_iff_exists]
          exact ⟨_, Array.getElem?_eq_getElem (by omega)⟩
        · intro j hj
          exact not_frozen b1 ((b5 rfl).imp id fun q => by omega)
        · rintro en w' ⟨rfl, rfl⟩
          refine room hroom _ (RowOf.cells _ _ _ _) ?_ (by omega)
          intro j u hj
          rw [List.getElem?_append] at hj
          split at hj
          · rename_i hjl
            rw [World.cell?_setCells_out _ _ _ _ _ (fun _ _ => .inl (by dsimp only; omega))]
            exact hcell j u hj
          · rename_i hjl
            have hj0 : j = N := by
              have := (List.getElem?_eq_some_iff.1 hj).1
              simp at this
              omega
            subst hj0
            rw [hol, Nat.sub_self] at hj
            cases hj
            have := World.cell?_setCells_in rb.r [y] (rb.o + a.off + j) w (by
              intro q hq
              rw [cell_obj b1, Option.isSome_iff_exists]
              simp at hq
              exact ⟨_, Array.getElem?_eq_getElem (by omega)⟩) 0 (by simp)
            simpa using this
      · refine gone (some ra) cap (h.set a.blk .dead) os olds (k.kill _) (HStp.kill _ _ _ _) rfl hold hol hl (by omega) rfl (fun c => by cases c) ?_
        intro a' ha' j u hj
        cases ha'
        rcases hc with hc | ⟨rfl, hc⟩
        · have := (List.getElem?_eq_some_iff.1 hj).1
          omega
        · rw [add_zero_or]
          exact hcell j u hj
    · have hlt : N < sl := by omega
      rcases hc with hc | ⟨rfl, hc⟩
      · omega
      have hblt : rb.r < w.heap.size := (Array.getElem?_eq_some_iff.1 b1).1
      by_cases hroom : sl + 1 ≤ cap
      · have hex : ∀ j, j < sl + 1 → (w.cell? ⟨rb.r, rb.o + a.off + j, none⟩).isSome = true := fun j hj => by
          rw [cell_obj b1, Option.isSome_iff_exists]
          exact ⟨_, Array.getElem?_eq_getElem (by omega)⟩
        refine (Any2.slices_Insert_int_shift L rb.r (rb.o + a.off) sl cap N rv.r (rv.o + vb.off) 1 vc olds [y] w hlt (by omega) hroom hcm hbr hol rfl hcell hex
          (fun j hj => not_frozen b1 ((b5 rfl).imp id fun q => by omega)) hvs h1c h1v el2 el c2.size c.size hsh (by simp only [World.shape?, b1]) (by omega) hfa hfe).mono ?_
        rintro en w' ⟨rfl, rfl⟩
        refine room hroom _ (((RowOf.drew _ _).trans (RowOf.cells _ _ _ _)).trans (RowOf.cells _ _ _ _)) ?_ (by omega)
        intro j u hj
        have hdl : (olds.drop N).length = sl - N := by simp [hol]
        rcases ins_vals (by omega) hj with ⟨h1, h2⟩ | ⟨rfl, rfl⟩ | ⟨h1, h2⟩
        · rw [World.cell?_setCells_out _ _ _ _ _ (fun _ _ => .inl (by dsimp only; omega)), World.cell?_setCells_out _ _ _ _ _ (fun _ _ => .inl (by dsimp only; omega))]
          exact hcell j u h2
        · have := World.cell?_setCells_in rb.r [u] (rb.o + a.off + j) (w.drew.setCells rb.r (rb.o + a.off + (j + 1)) (olds.drop j)) (by
            intro q hq
            simp at hq
            subst hq
            rw [World.cell?_setCells_out _ _ _ _ _ (fun _ _ => .inl (by dsimp only; omega))]
            exact hex j (by omega)) 0 (by simp)
          simpa using this
        · have hjl := (List.getElem?_eq_some_iff.1 h2).1
          rw [World.cell?_setCells_out _ _ _ _ _ (fun _ _ => .inr (by dsimp only; simp; omega))]
          have := World.cell?_setCells_in rb.r (olds.drop N) (rb.o + a.off + (N + 1)) w.drew (by
            intro q hq
            have := hex (N + 1 + q) (by omega)
            rw [show rb.o + a.off + (N + 1) + q = rb.o + a.off + (N + 1 + q) by omega]
            exact this) (j - (N + 1)) (by omega)
          rw [show rb.o + a.off + (N + 1) + (j - (N + 1)) = rb.o + a.off + j by omega] at this
          rw [this, List.getElem_drop]
          rw [← h2, List.getElem?_eq_getElem hjl]
          congr 1
          simp only [show N + (j - (N + 1)) = j - 1 by omega]
      · have hfull : cap < sl + 1 := by omega
        refine (Any2.slices_Insert_int_grow L rb.r (rb.o + a.off) sl cap N rv.r (rv.o + vb.off) 1 vc olds [y] w hlt (by omega) hl hfull (by omega) hol rfl hcell hvs h1c h1v).mono ?_
        rintro en w' ⟨rfl, hw'⟩
        have hgb := grown_bounds w (sl + 1) cap (r.t 3) (by omega)
        generalize grownCap w (sl + 1) cap (r.t 3) = G at hw' hgb ⊢
        have hz : (Value.int .i64 0).cells.size = 1 := rfl
        generalize hrow : ((olds.take N).toArray ++ Builtin.zeroCells (Value.int .i64 0).cells (sl + 1 - N) ++ Builtin.zeroCells (Value.int .i64 0).cells (G - (sl + 1))) = row0 at hw'
        have hrs : row0.size = G := by
          rw [← hrow]
          simp [Builtin.zeroCells, hz, hol]
          omega
        have hrl : ∀ j, j < N → row0[j]? = olds[j]? := by
          intro j hj
          rw [← hrow, Array.append_assoc, Array.getElem?_append_left (by simp; omega)]
          simp [hj]
        have hrow1 : (w.alloc (.cells row0 (r.t 3))).heap[w.heap.size]? = some (.cells row0 (r.t 3)) := heap_alloc_new _ _
        have hro : RowOf (w.alloc (.cells row0 (r.t 3))) w' w.heap.size := by
          rw [hw']
          exact (((RowOf.drew _ _).trans (RowOf.cells _ _ _ _)).trans (RowOf.drew _ _)).trans (RowOf.cells _ _ _ _)
        obtain ⟨c', d1, d2⟩ := hro.row hrow1
        have hpush : w'.heap = w.heap.push (.cells c' (r.t 3) (0, 0)) := by
          apply Array.ext_getElem?
          intro j
          rw [Array.getElem?_push]
          by_cases hj : j = w.heap.size
          · rw [if_pos hj, hj]; exact d1
          · rw [if_neg hj, hro.other j hj]
            show (w.heap.push _)[j]? = _
            rw [Array.getElem?_push, if_neg hj]
        have hdl : (olds.drop N).length = sl - N := by simp [hol]
        have hex : ∀ j, j < G → ((w.alloc (.cells row0 (r.t 3))).cell? ⟨w.heap.size, j, none⟩).isSome = true := fun j hj => by
          rw [cell_obj hrow1, Option.isSome_iff_exists]
          exact ⟨_, Array.getElem?_eq_getElem (by omega)⟩
        obtain ⟨p1, p2, p3⟩ := new_row (k.kill a.blk) hpush rfl hro.os hro.tape hro.output (ns := os.take N ++ m :: os.drop N) (vs := olds.take N ++ y :: olds.drop N) (by rw [d2, hrs]; simp; omega) hnew (by
          intro j u hj
          rw [← cell_obj d1, hw']
          rcases ins_vals (by omega) hj with ⟨h1, h2⟩ | ⟨rfl, rfl⟩ | ⟨h1, h2⟩
          · rw [World.cell?_setCells_out _ _ _ _ _ (fun _ _ => .inl (by dsimp only; omega))]
            show ((w.alloc (.cells row0 (r.t 3))).drew.setCells w.heap.size N [y]).cell? _ = _
            rw [World.cell?_setCells_out _ _ _ _ _ (fun _ _ => .inl (by dsimp only; omega))]
            show (w.alloc (.cells row0 (r.t 3))).cell? _ = _
            rw [cell_obj hrow1, hrl j h1]
            exact h2
          · rw [World.cell?_setCells_out _ _ _ _ _ (fun _ _ => .inl (by dsimp only; omega))]
            have := World.cell?_setCells_in w.heap.size [u] j (w.alloc (.cells row0 (r.t 3))).drew (by
              intro q hq
              simp at hq
              subst hq
              exact hex j (by omega)) 0 (by simp)
            simpa using this
          · have hjl := (List.getElem?_eq_some_iff.1 h2).1
            have := World.cell?_setCells_in w.heap.size (olds.drop N) (N + 1) ((w.alloc (.cells row0 (r.t 3))).drew.setCells w.heap.size N [y]).drew (by
              intro q hq
              show (((w.alloc (.cells row0 (r.t 3))).drew.setCells w.heap.size N [y]).cell? _).isSome = true
              rw [World.cell?_setCells_out _ _ _ _ _ (fun _ _ => .inr (by dsimp only; simp))]
              exact hex _ (by omega)) (j - (N + 1)) (by omega)
            rw [show N + 1 + (j - (N + 1)) = j by omega] at this
            rw [this, List.getElem_drop, ← h2, List.getElem?_eq_getElem hjl]
            congr 1
            simp only [show N + (j - (N + 1)) = j - 1 by omega])
        refine ⟨_, _, rfl, sl_new p1 G hgb.1 ?_ hgb.2, p2, (HStp.kill ρ h w a.blk).trans p3⟩
        rw [d2, hrs]
        omega

theorem intsOf_get {kd : IntKind} : ∀ (l : List MV) (zs : List Int), intsOf kd l = some zs → l = zs.map (.int kd)
  | [], zs, h => by cases h; rfl
  | .int k n :: r, zs, h => by
    simp only [intsOf] at h
    split at h
    · rename_i hk
      subst hk
      cases hr : intsOf kd r with
      | none => rw [hr] at h; cases h
      | some l =>
        rw [hr] at h
        cases h
        rw [intsOf_get r l hr]
        rfl
    · cases h
  | .bool _ :: _, _, h | .str _ :: _, _, h | .ptr _ :: _, _, h | .sl _ _ _ :: _, _, h | .map _ :: _, _, h | .fn _ _ :: _, _, h | .nilFn :: _, _, h | .iface _ _ :: _, _, h | .nilIface :: _, _, h | .agg _ :: _, _, h | .tup _ :: _, _, h => by simp [intsOf] at h

theorem delI_sound {r : Go.Shelf.Ren} (L : Lays2.n23 P r) (k : HRel ρ h w.heap) {s : Sl} {i j : Int} {x : Value} (hx : VRel ρ (.sl s.p s.len 1) x) {t : Sl} {h' : Hp} (e : delI s i j h = some (t, h')) :
    Calls P (r.f 23) #[x, .int .i64 i, .int .i64 j] w (Done ρ h w (.sl t.p t.len 1) h') := by
  obtain ⟨sp, sl⟩ := s
  dsimp only at hx
  unfold delI at e
  dsimp only at e
  split at e
  · cases e
  rename_i a
  split at e
  case h_2 => cases e
  rename_i cs hg
  split at e
  · cases e
  rename_i zs hzs
  split at e
  case isFalse => cases e
  rename_i hcond
  obtain ⟨hi0, hij, hj1, hl0, hle⟩ := hcond
  obtain ⟨N, rfl⟩ : ∃ N : Nat, i = N := ⟨i.toNat, by omega⟩
  obtain ⟨K, rfl⟩ : ∃ K : Nat, j = K := ⟨j.toNat, by omega⟩
  rw [Int.toNat_natCast, Int.toNat_natCast] at e
  cases e
  cases hx with
  | sl _ rb _ _ cap ra hb hl hc hcm =>
  rcases hc with hc | ⟨rfl, hc⟩
  · omega
  obtain ⟨c, el, fz, b1, b2, b3, b4, b5⟩ := own_cells k hb hg
  have hrow := intsOf_get _ _ hzs
  have hzl : zs.length = sl := by
    have := congrArg List.length hrow
    simp at this
    omega
  have hcz : ∀ (q : Nat) (hq : q < zs.length), c[rb.o + a.off + q]? = some (.int .i64 zs[q]) := by
    intro q hq
    have h1 : cs[a.off + q]? = some (.int .i64 zs[q]) := by
      have h2 : ((cs.drop a.off).take sl)[q]? = some (.int .i64 zs[q]) := by rw [hrow]; simp [hq]
      rw [List.getElem?_take, if_pos (by omega), List.getElem?_drop] at h2
      exact h2
    obtain ⟨v', h3, h4⟩ := b4 _ _ h1
    cases h4
    rw [Nat.add_assoc]
    exact h3
  have hH : Holds (Value.int .i64) w rb.r (rb.o + a.off) zs.toArray := by
    intro q hq
    have hq' : q < zs.length := by simpa using hq
    refine ⟨?_, not_frozen b1 ((b5 rfl).imp id fun q => by omega)⟩
    rw [cell_obj b1, hcz q hq']
    simp [hq']
  subst hzl
  refine (Any.slices_Delete_int L rb.r (rb.o + a.off) cap N K zs w hH hl hcm (by omega) (by omega)).mono ?_
  rintro en w' ⟨rfl, q, rfl⟩
  generalize hnl : (zs.take N ++ zs.drop K ++ List.replicate (K - N) 0) = nl
  have hnlen : nl.length = zs.length := by rw [← hnl]; simp; omega
  have hobj : (putRow (Value.int .i64) (Sort.ahead w q) rb.r (rb.o + a.off) nl.toArray).heap[rb.r]? = some (.cells (putCells (Value.int .i64) (rb.o + a.off) nl.toArray c) el fz) := by
    simp only [putRow, mapBlock, Sort.ahead, Array.getElem?_modify, if_true, b1, Option.map_some, onCells]
  obtain ⟨g1, g2⟩ := adopt_row k hb hg a.off (by omega) (ns := (zs.take N ++ zs.drop K).map (.int .i64)) (w' := putRow (Value.int .i64) (Sort.ahead w q) rb.r (rb.o + a.off) nl.toArray) (by simp; omega) b1 (by simp [putRow, mapBlock, Sort.ahead]) (by
      intro u hu
      simp only [putRow, mapBlock, Sort.ahead, Array.getElem?_modify]
      rw [if_neg (Ne.symm hu)]) hobj (by simp [putCells]) rfl rfl rfl (by
    intro u v hu
    rw [List.getElem?_map, Option.map_eq_some_iff] at hu
    obtain ⟨z, hz, rfl⟩ := hu
    refine ⟨.int .i64 z, ?_, .int _ _⟩
    have hul := (List.getElem?_eq_some_iff.1 hz).1
    have hul2 : u < nl.length := by rw [← hnl, List.length_append]; omega
    have hnu : nl[u]? = some z := by rw [← hnl, List.getElem?_append_left hul]; exact hz
    simp only [putCells, Array.getElem?_mapIdx]
    rw [Array.getElem?_eq_getElem (by omega), Option.map_some, if_pos (by simp; omega)]
    rw [show rb.o + a.off + u - (rb.o + a.off) = u by omega]
    rw [List.getElem?_eq_getElem hul2] at hnu
    simp [hul2, Option.some.inj hnu])
  have ht : (zs.length - (K - N)) = zs.length - ((K : Int) - (N : Int)).toNat := by omega
  refine ⟨_, _, rfl, ?_, g1, g2⟩
  rw [ht]
  exact sl_new (Rho.put_same _ _ _) cap (by dsimp only; omega) (by omega) hcm

theorem enter_of {f : FuncId} {fn : Func} (hf : P.funcs[f]? = some fn) (hname : (fn.name == "runtime.NumGoroutine") = false) (hb : fn.body.isSome = true) : ∀ (args : Array Value) (w : World), (callFunc f args).run P w = .ok (.enter f args) w := by
  intro args w
  obtain ⟨c, hc⟩ := Option.isSome_iff_exists.1 hb
  unfold callFunc
  simp only [Sem.run_bind, run_program, Result.andThen_ok, hf]
  simp [hname, hc]

theorem sound_ins {r : Go.Shelf.Ren} (L : Lays2.n21 P r) {n : Nat} (hn : r.f 21 = n) (hname : ((Body2.n21 r).name == "runtime.NumGoroutine") = false) (hb : (Body2.n21 r).body.isSome = true) : Sound P n (entry [.c (.sl 1), .c (.int .i64), .c (.sl 1)] [.s 0 (.c (.sl 1))] fun a => insI a.1 a.2.1 a.2.2) := by
  subst hn
  refine ⟨enter_of L.f21 hname hb, ?_⟩
  intro args v h h' e ρ w rargs kh hrel
  simp only [Entry.run, entry] at e
  cases hd : HT.dec [.c (.sl 1), .c (.int .i64), .c (.sl 1)] args with
  | none => rw [hd] at e; cases e
  | some a =>
    rw [hd] at e
    obtain ⟨t, h1, e1, e2⟩ := bd_some e
    cases e2
    have henc := HT.enc_dec _ args a hd
    obtain ⟨s, i, u⟩ := a
    subst henc
    cases hrel with
    | cons _ x _ xs hx hxs =>
    cases hxs with
    | cons _ y _ xs hy hxs =>
    cases hxs with
    | cons _ z _ xs hz hxs =>
    cases hxs
    cases hy
    exact insI_sound L kh hx hz e1

theorem sound_del {r : Go.Shelf.Ren} (L : Lays2.n23 P r) {n : Nat} (hn : r.f 23 = n) (hname : ((Body2.n23 r).name == "runtime.NumGoroutine") = false) (hb : (Body2.n23 r).body.isSome = true) : Sound P n (entry [.c (.sl 1), .c (.int .i64), .c (.int .i64)] [.s 0 (.c (.sl 1))] fun a => delI a.1 a.2.1 a.2.2) := by
  subst hn
  refine ⟨enter_of L.f23 hname hb, ?_⟩
  intro args v h h' e ρ w rargs kh hrel
  simp only [Entry.run, entry] at e
  cases hd : HT.dec [.c (.sl 1), .c (.int .i64), .c (.int .i64)] args with
  | none => rw [hd] at e; cases e
  | some a =>
    rw [hd] at e
    obtain ⟨t, h1, e1, e2⟩ := bd_some e
    cases e2
    have henc := HT.enc_dec _ args a hd
    obtain ⟨s, i, j⟩ := a
    subst henc
    cases hrel with
    | cons _ x _ xs hx hxs =>
    cases hxs with
    | cons _ y _ xs hy hxs =>
    cases hxs with
    | cons _ z _ xs hz hxs =>
    cases hxs
    cases hy
    cases hz
    exact delI_sound L kh hx e1

end
end Go.Mini
