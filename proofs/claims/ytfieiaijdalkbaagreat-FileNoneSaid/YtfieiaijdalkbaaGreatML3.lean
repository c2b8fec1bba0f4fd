/- Single operations: literals of structs and arrays; maps; then all of them in one. -/
import Derived.Test.YtfieiaijdalkbaaGreatML2
namespace Go.Mini
universe u
theorem fold_set (off : Nat) : ∀ (xs : List Value) (k : Nat) (cells : Array Value), off + k + xs.length ≤ cells.size →
  ((xs.zipIdx k).foldl (fun (cs : Array Value) (p : Value × Nat) => cs.setIfInBounds (off + p.2) p.1) cells).size = cells.size ∧
  ∀ i, ((xs.zipIdx k).foldl (fun (cs : Array Value) (p : Value × Nat) => cs.setIfInBounds (off + p.2) p.1) cells)[i]? = if off + k ≤ i ∧ i < off + k + xs.length then xs[i - (off + k)]? else cells[i]?
 | [], k, cells, _ => ⟨rfl, fun i => by rw [if_neg (by simp)]; rfl⟩
 | x :: xs, k, cells, h => by
  simp only [List.length_cons] at h
  obtain ⟨h1, h2⟩ := fold_set off xs (k + 1) (cells.setIfInBounds (off + k) x) (by simp; omega)
  simp only [List.zipIdx_cons, List.foldl_cons]
  refine ⟨by rw [h1]; simp, fun i => ?_⟩
  rw [h2]
  simp only [List.length_cons]
  by_cases a : off + k ≤ i ∧ i < off + k + (xs.length + 1)
  ·rw [if_pos a]
   by_cases b : i = off + k
   ·subst b
    rw [if_neg (by omega), Array.getElem?_setIfInBounds_self_of_lt (by omega)]
    simp
   ·rw [if_pos (by omega), show i - (off + k) = (i - (off + (k + 1))) + 1 by omega, List.getElem?_cons_succ]
  ·rw [if_neg a, if_neg (by omega), Array.getElem?_setIfInBounds_ne (by omega)]
section
variable {P : Program} {β : Type} {s : S} {res : β × Hp} {next : Act → World → Prop} {Q : Exit → Act → World → Prop} {k : Fr → M β} {C : List (Nat × Entry)} {priv : List Nat}
variable {type : TypeId} {pos : String} {after : Array Edge} {guard : Option (Nat × Bool)} {ins : Ins} {d : Nat}
theorem fill_sound (ok : Ok s) {place : Nat → Option (Nat × TypeId)} {pl : Nat → Option (Nat × Nat)} (hpl : ∀ i off t, place i = some (off, t) → pl i = some (off, P.cellsOf t)) :
  ∀ {parts : List (Nat × Operand)} {ps : List (Nat × Option Nat × Opd)}, partsC P place parts = some ps → ∀ {l : List (Nat × Option Nat × MV)}, partsOf s.fr ps = some l → ∀ {z cs : List MV}, fillV z l = some cs → ∀ {cells : Array Value}, VRels s.ρ z cells.toList →
   ∃ cells', Instr.fill pl cells (parts.map fun p => (p.1, Act.eval ⟨s.t, []⟩ p.2)) = some cells' ∧ VRels s.ρ cs cells'.toList
 | [], ps, hps, l, hl, z, cs, hf, cells, hr => by
  cases hps; cases hl
  simp only [fillV] at hf
  cases hf
  exact ⟨cells, rfl, hr⟩
 | (i, x) :: r, ps, hps, l, hl, z, cs, hf, cells, hr => by
  simp only [partsC] at hps
  split at hps
  ·rename_i off t hp
   split at hps
   ·rename_i o ps' ho hps'
    have hlen := hr.length
    simp at hlen
    have key : ∀ (n : Option Nat) (v : MV) (rv : Value) (vs : List MV) (xs : List Value) (l' : List (Nat × Option Nat × MV)), Act.eval ⟨s.t, []⟩ x = rv → rv.cells.toList = xs → VRels s.ρ vs xs → vs.length = P.cellsOf t → off + vs.length ≤ z.length → partsOf s.fr ps' = some l' → fillV (over z off vs) l' = some cs →
      ∃ cells', Instr.fill pl cells (((i, x) :: r).map fun p => (p.1, Act.eval ⟨s.t, []⟩ p.2)) = some cells' ∧ VRels s.ρ cs cells'.toList := by
     intro n v rv vs xs l' hrv hxs hv hvl hle hl' hf'
     have hvx := hv.length
     have hsz : rv.cells.size = xs.length := by rw [← hxs]; simp
     obtain ⟨f1, f2⟩ := fold_set off xs 0 cells (by omega)
     have hfold : rv.cells.zipIdx.foldl (fun cs (x : Value × Nat) => cs.setIfInBounds (off + x.2) x.1) cells = (xs.zipIdx 0).foldl (fun (cs : Array Value) (p : Value × Nat) => cs.setIfInBounds (off + p.2) p.1) cells := by
      rw [← hxs, ← Array.foldl_toList, Array.toList_zipIdx]
     have hnew : VRels s.ρ (over z off vs) ((xs.zipIdx 0).foldl (fun (cs : Array Value) (p : Value × Nat) => cs.setIfInBounds (off + p.2) p.1) cells).toList := by
      apply VRels.of_get
      ·rw [over_length _ _ _ hle]; simp [f1]; omega
      ·intro j u y hu hy
       rw [over_get _ _ _ _ hle] at hu
       rw [Array.getElem?_toList, f2] at hy
       simp only [Nat.add_zero] at hy
       rw [← hvx] at hy
       split at hu
       ·rename_i hj
        rw [if_pos hj] at hy
        obtain ⟨y', hy', hr'⟩ := hv.get _ _ hu
        rw [hy'] at hy; cases hy; exact hr'
       ·rename_i hj
        rw [if_neg hj] at hy
        obtain ⟨y', hy', hr'⟩ := hr.get _ _ hu
        rw [Array.getElem?_toList] at hy'
        rw [hy'] at hy; cases hy; exact hr'
     obtain ⟨cells', g1, g2⟩ := fill_sound ok hpl hps' hl' hf' hnew
     refine ⟨cells', ?_, g2⟩
     simp only [List.map_cons, Instr.fill, hrv, hpl _ _ _ hp]
     rw [if_neg (by simp; omega)]
     rw [hfold]
     exact g1
    cases hg : isAggT P t with
    | true =>
     rw [hg] at hps
     cases hps
     simp only [partsOf] at hl
     split at hl
     ·rename_i v l' hv hl'
      cases hl
      have hrv := opd_mv ok ho hv
      cases v with
      | agg vs =>
       simp only [fillV] at hf
       split at hf
       ·rename_i hc
        generalize hq : Act.eval ⟨s.t, []⟩ x = q at hrv
        cases hrv with
        | agg _ xs hxs => exact key none default _ vs xs l' hq (by simp [Value.cells]) hxs hc.1 (by omega) hl' hf
       ·cases hf
      | _ => cases hf
     ·cases hl
    | false =>
     rw [hg] at hps
     simp only [cond_false] at hps
     split at hps
     ·rename_i h1
      cases hps
      simp only [partsOf] at hl
      split at hl
      ·rename_i v l' hv hl'
       cases hl
       have hrv := opd_mv ok ho hv
       have hf2 : (if off < z.length ∧ isCell v = true then fillV (z.set off v) l' else none) = some cs := by
        cases v <;> exact hf
       split at hf2
       ·rename_i hc
        rw [← over_one _ _ _ hc.1] at hf2
        exact key none default _ [v] [Act.eval ⟨s.t, []⟩ x] l' rfl (by rw [cells_of_one (hrv.oneCell hc.2)]) (.cons _ _ _ _ hrv .nil) (by simp [h1]) (by simp; omega) hl' hf2
       ·cases hf2
      ·cases hl
     ·cases hps
   ·cases hps
  ·cases hps
theorem fillV_length : ∀ {l : List (Nat × Option Nat × MV)} {z cs : List MV}, fillV z l = some cs → cs.length = z.length
 | [], z, cs, h => by simp only [fillV] at h; cases h; rfl
 | (off, some n, v) :: r, z, cs, h => by
  cases v with
  | agg vs =>
   simp only [fillV] at h
   split at h
   ·rename_i hc
    rw [fillV_length h, over_length _ _ _ (by omega)]
   ·cases h
  | _ => cases h
 | (off, none, v) :: r, z, cs, h => by
  have h2 : (if off < z.length ∧ isCell v = true then fillV (z.set off v) r else none) = some cs := by
   cases v <;> exact h
  split at h2
  ·rw [fillV_length h2]; simp
  ·cases h2
theorem mapM_run {α : Type} (fs : List Field) (f : Field → Sem α) (g : Field → α) (h : ∀ x ∈ fs, ∀ w : World, (f x).run P w = .ok (g x) w) (w : World) : (fs.mapM f).run P w = .ok (fs.map g) w := by
 induction fs with
 | nil => simp
 | cons x fs ih =>
  have h1 := h x (by simp) w
  have h2 := ih (fun y hy => h y (by simp [hy]))
  simp [h1, h2]
theorem s_build {t : TypeId} {parts : Array (Nat × Operand)} (ok : Ok s) (hc : compOp P priv ⟨some d, .build t parts, type, pos, after, guard⟩ = some ins) (hn : insOk s.t.size ins = true) (e : evIns C ins s.fr k s.h = some res) (h : After s ins.dst k res next) :
  (⟨some d, .build t parts, type, pos, after, guard⟩ : Oper).wp P ⟨s.t, []⟩ s.w next Q := by
 simp only [compOp] at hc
 have hparts : (parts.map fun p => (p.1, Act.eval ⟨s.t, []⟩ p.2)).toList = parts.toList.map fun p => (p.1, Act.eval ⟨s.t, []⟩ p.2) := by simp
 split at hc
 ·rename_i z fs hz hu
  split at hc
  ·rename_i hall
   obtain ⟨ps, hps, rfl⟩ := map_some hc
   obtain ⟨l, hl, e1⟩ := okOf_some e
   obtain ⟨cs, hf, e2⟩ := okOf_some e1
   obtain ⟨i, zv, hi, hzv, hzr⟩ := zeroOf_spec hz
   have hmap : (fs.mapM fun f => do pure (f.offset, ← sizeOf f.type) : Sem (Array (Nat × Nat))).run P s.w = .ok (fs.map fun f => (f.offset, P.cellsOf f.type)) s.w := by
    rw [Array.mapM_eq_mapM_toList, Sem.run_map, mapM_run fs.toList _ (fun f => (f.offset, P.cellsOf f.type))]
    ·simp; rw [map_arr]
    ·intro x hx w
     have := List.all_eq_true.1 hall x hx
     obtain ⟨dd, hd⟩ := hasUnd this
     simp [sizeOf_run hd]
   obtain ⟨cells', g1, g2⟩ := fill_sound (pl := fun j => (fs.map fun f => (f.offset, P.cellsOf f.type))[j]?) ok (by
    intro j off t' hp
    obtain ⟨f, hf1, hf2⟩ := map_some hp
    cases hf2
    simp [hf1]) hps hl hf (hzr s.ρ)
   refine pure_step ok rfl (lt_of_insOk1 rfl hn) (rv := .agg cells') ?_ (by have := VRel.agg _ _ g2; simpa using this) e2 h
   simp only [execOp, Instr.build, Sem.run_bind, zeroValue_run hi hzv, Result.andThen_ok, und_run hu, hmap, hparts, g1, Sem.run_pure]
  ·cases hc
 ·rename_i z m E hz hu
  split at hc
  ·rename_i hund
   obtain ⟨dE, hE⟩ := hasUnd hund
   obtain ⟨ps, hps, rfl⟩ := map_some hc
   obtain ⟨l, hl, e1⟩ := okOf_some e
   obtain ⟨cs, hf, e2⟩ := okOf_some e1
   obtain ⟨i, zv, hi, hzv, hzr⟩ := zeroOf_spec hz
   obtain ⟨cells', g1, g2⟩ := fill_sound (pl := fun j => some (j * P.cellsOf E, P.cellsOf E)) ok (by
    intro j off t' hp
    cases hp; rfl) hps hl hf (hzr s.ρ)
   refine pure_step ok rfl (lt_of_insOk1 rfl hn) (rv := .agg cells') ?_ (by have := VRel.agg _ _ g2; simpa using this) e2 h
   simp only [execOp, Instr.build, Sem.run_bind, zeroValue_run hi hzv, Result.andThen_ok, und_run hu, sizeOf_run hE, hparts, g1, Sem.run_pure]
  ·cases hc
 ·cases hc
theorem repl_reps (n : Nat) (z : List MV) : repl n z = reps n z := by
 induction n with
 | zero => rfl
 | succ n ih => simp only [repl, reps, ih]
theorem s_buildSlice {t : TypeId} {len : Nat} {parts : Array (Nat × Operand)} (ok : Ok s) (hc : compOp P priv ⟨some d, .buildSlice t len parts, type, pos, after, guard⟩ = some ins) (hn : insOk s.t.size ins = true) (e : evIns C ins s.fr k s.h = some res) (h : After s ins.dst k res next) :
  (⟨some d, .buildSlice t len parts, type, pos, after, guard⟩ : Oper).wp P ⟨s.t, []⟩ s.w next Q := by
 simp only [compOp] at hc
 have hparts : (parts.map fun p => (p.1, Act.eval ⟨s.t, []⟩ p.2)).toList = parts.toList.map fun p => (p.1, Act.eval ⟨s.t, []⟩ p.2) := by simp
 split at hc
 ·rename_i E hu
  split at hc
  ·rename_i z hz
   split at hc
   ·rename_i hcond
    obtain ⟨hund, hzl, hsmall, hlsm⟩ := hcond
    obtain ⟨dE, hE⟩ := hasUnd hund
    obtain ⟨ps, hps, rfl⟩ := map_some hc
    obtain ⟨l, hl, e1⟩ := okOf_some e
    obtain ⟨cs, hf, e2⟩ := okOf_some e1
    obtain ⟨p, h1, e3, e4⟩ := bd_some e2
    cases e3
    obtain ⟨i, zv, hi, hzv, hzr⟩ := zeroOf_spec hz
    rw [repl_reps] at hf
    have hrel := reps_rel (ρ := s.ρ) len (hzr s.ρ) (P.cellsOf E) hzl
    obtain ⟨cells', g1, g2⟩ := fill_sound (pl := fun j => some (j * P.cellsOf E, P.cellsOf E)) ok (by
     intro j off t' hp
     cases hp; rfl) hps hl hf hrel
    obtain ⟨ρ', n1, n2, n3, n4⟩ := newRow_sound (P := P) ok.heap E g2
    have hlen : cells'.size = len * P.cellsOf E := by
     have a1 := g2.length
     have a2 := fillV_length hf
     have a3 := hrel.length
     simp at a1 a3
     omega
    refine out_step (r := .ok (.slice (some ⟨s.w.heap.size, 0, none⟩) len len) (s.w.alloc (.cells cells' E))) ok rfl (lt_of_insOk1 rfl hn) (v := .sl (some ⟨s.h.size, 0⟩) len (P.cellsOf E)) ⟨_, ρ', _, rfl, sl_new n2 _ (Nat.le_refl _) (by omega), n3, n4⟩ ?_ e4 h
    intro rv w' hrun
    cases hrun
    have hbig : ¬ (len * P.cellsOf E > 2 ^ 24) := by omega
    by_cases h0 : len * P.cellsOf E = 0
    ·have hg : (Array.range (len * P.cellsOf E)).map (fun x => zv.cells[x % zv.cells.size]!) = #[] := by rw [h0]; simp
     rw [hg] at g1
     have hg2 : (Array.range (len * P.cellsOf E)).map (fun x => (#[] : Array Value)[x % (#[] : Array Value).size]!) = #[] := by rw [h0]; simp
     have h0' : (len * P.cellsOf E = 0) = True := eq_true h0
     simp only [execOp, Instr.buildSlice, Sem.run_bind, und_run hu, Result.andThen_ok, sizeOf_run hE, hbig, if_false, h0', if_true, Sem.run_pure, hparts, hg2, g1, n1]
    ·simp only [execOp, Instr.buildSlice, Sem.run_bind, und_run hu, Result.andThen_ok, sizeOf_run hE, hbig, if_false, h0, Sem.run_pure, zeroValue_run hi hzv, hparts, g1, n1]
   ·cases hc
  ·cases hc
 ·cases hc
end
end Go.Mini
