/- Places, slices, append, copy, texts. -/
import Derived.Test.YtfieiaijdalkbaaGreatMF
import Derived.Laws.BytesString
namespace Go.Mini
section
variable {P : Program} {ρ : Rho} {h : Hp} {w : World}
theorem fld_sound (k : HRel ρ h w.heap) {T : TypeId} {fs : Array Field} (hu : P.underlying T = some (.struct fs)) {i : Nat} {f : Field} (hf : fs[i]? = some f) {d : TypeDesc} (hfu : P.underlying f.type = some d) (h0 : P.cellsOf f.type ≠ 0)
  {q : Option MA} {x : Value} (hx : VRel ρ (.ptr q) x) {p : Option MA} {h' : Hp} (e : fld q f.offset h = some (p, h')) : Out ρ h w ((Instr.fieldAt T x i).run P w) (.ptr p) h' := by
 cases hx with
 | nil => simp [fld, fail] at e
 | ptr a rb hb =>
  cases e
  refine Out.same k (rv := .pointer (some ⟨rb.r, rb.o + (a.off + f.offset), none⟩)) ?_ (.ptr ⟨a.blk, a.off + f.offset⟩ rb hb)
  simp [Instr.fieldAt, und_run hu, hf, Instr.sureAddr, fieldPlace, sizeOf_run hfu, h0, add_zero_or, Nat.add_assoc]
theorem idx_sound (k : HRel ρ h w.heap) {T E : TypeId} (hu : P.underlying T = some (.slice E)) {d : TypeDesc} (hE : P.underlying E = some d) {s : Sl} {x : Value} (hx : VRel ρ (.sl s.p s.len (P.cellsOf E)) x) {kd : IntKind} {n : Int}
  {p : Option MA} {h' : Hp} (e : idx (P.cellsOf E) s n h = some (p, h')) : Out ρ h w ((Instr.indexAt T x (.int kd n)).run P w) (.ptr p) h' := by
 obtain ⟨sp, sl⟩ := s
 unfold idx at e
 cases sp with
 | none => cases e
 | some a =>
  dsimp only at e hx
  split at e
  ·rename_i hn
   cases e
   cases hx with
   | sl a rb len ez cap ra hb hl hc =>
    rcases hc with hc | ⟨rfl, hc⟩
    ·omega
    ·refine Out.same k (rv := .pointer (some ⟨rb.r, rb.o + (a.off + n.toNat * P.cellsOf E), none⟩)) ?_ (.ptr ⟨a.blk, a.off + n.toNat * P.cellsOf E⟩ rb hb)
     simp [Instr.indexAt, asIntOf, und_run hu, sizeOf_run hE, hn.1, hn.2, add_zero_or, Nat.add_assoc]
  ·cases e
theorem idxA_sound (k : HRel ρ h w.heap) {T E : TypeId} {m : Nat} (hu : P.underlying T = some (.array m E)) {d : TypeDesc} (hE : P.underlying E = some d) {q : Option MA} {x : Value} (hx : VRel ρ (.ptr q) x) {kd : IntKind} {n : Int}
  {p : Option MA} {h' : Hp} (e : idxA m (P.cellsOf E) q n h = some (p, h')) : Out ρ h w ((Instr.indexAt T x (.int kd n)).run P w) (.ptr p) h' := by
 unfold idxA at e
 split at e
 ·rename_i a
  split at e
  ·rename_i hn
   cases e
   cases hx with
   | ptr a rb hb =>
    refine Out.same k (rv := .pointer (some ⟨rb.r, rb.o + (a.off + n.toNat * P.cellsOf E), none⟩)) ?_ (.ptr ⟨a.blk, a.off + n.toNat * P.cellsOf E⟩ rb hb)
    simp [Instr.indexAt, asIntOf, und_run hu, Instr.sureAddr, sizeOf_run hE, hn.1, hn.2, add_zero_or, Nat.add_assoc]
  ·cases e
 ·cases e
def BndOk (o : Option Value) (els n : Int) : Prop := (o = none ∧ n = els) ∨ ∃ kd, o = some (.int kd n)
theorem bounds_run {len cap : Nat} {isS : Bool} {lo hi : Option Value} {a b : Int} (ha : BndOk lo 0 a) (hb : BndOk hi len b) (h0 : 0 ≤ a) (h1 : a ≤ b) (h2 : b ≤ len) (hlc : len ≤ cap) :
  (Instr.sliceBounds isS len cap lo hi none).run P w = .ok (a.toNat, b.toNat, cap) w := by
 have hbc : b ≤ cap := by omega
 rcases ha with ⟨rfl, rfl⟩ | ⟨ka, rfl⟩
 ·rcases hb with ⟨rfl, rfl⟩ | ⟨kb, rfl⟩
  ·simp [Instr.sliceBounds]
  ·simp [Instr.sliceBounds, Instr.sliceBound, asIntOf, h1, hbc]
 ·rcases hb with ⟨rfl, rfl⟩ | ⟨kb, rfl⟩
  ·have : a ≤ (len : Int) := h1
   simp [Instr.sliceBounds, Instr.sliceBound, asIntOf, h0, this]
  ·have hb0 : 0 ≤ b := by omega
   have hab : a ≤ max b 0 := by omega
   simp [Instr.sliceBounds, Instr.sliceBound, asIntOf, h0, hb0, hbc, hab]
theorem slc_sound (k : HRel ρ h w.heap) {T E : TypeId} (hu : P.underlying T = some (.slice E)) {d : TypeDesc} (hE : P.underlying E = some d) {s : Sl} {x : Value} (hx : VRel ρ (.sl s.p s.len (P.cellsOf E)) x) {lo hi : Option Value} {a b : Int}
  (ha : BndOk lo 0 a) (hb : BndOk hi s.len b) {r : Sl} {h' : Hp} (e : slc (P.cellsOf E) s a b h = some (r, h')) : Out ρ h w ((Instr.sliceAt T x lo hi none).run P w) (.sl r.p r.len (P.cellsOf E)) h' := by
 unfold slc at e
 split at e
 ·rename_i hc
  obtain ⟨h0, h1, h2⟩ := hc
  cases e
  obtain ⟨sp, sl⟩ := s
  dsimp only at h2 hb hx
  cases hx with
  | slNil ez =>
   have hz : a = 0 ∧ b = 0 := by omega
   obtain ⟨rfl, rfl⟩ := hz
   refine Out.same k (rv := .slice none 0 0) ?_ (.slNil _)
   have := bounds_run (P := P) (w := w) (isS := true) (len := 0) (cap := 0) ha hb (by omega) (by omega) (by simp) (Nat.le_refl _)
   simp [Instr.sliceAt, und_run hu, Instr.slice, this, sizeOf_run hE]
  | sl q rb len ez cap ra hb' hl hcap =>
   have hbd := bounds_run (P := P) (w := w) (isS := true) (len := sl) (cap := cap) ha hb h0 h1 h2 hl
   have hbl : b.toNat ≤ cap := by omega
   by_cases hm : cap = a.toNat
   ·refine Out.same k (rv := .slice (some ra) (b.toNat - a.toNat) (cap - a.toNat)) ?_ ?_
    ·rw [← hm]
     simp [Instr.sliceAt, und_run hu, Instr.slice, hbd, sizeOf_run hE, ← hm]
    ·dsimp only
     have : (b - a).toNat = b.toNat - a.toNat := by omega
     simp only [Option.map_some, this]
     exact .sl _ rb _ _ _ _ hb' (by omega) (.inl (by omega))
   ·rcases hcap with hcap | ⟨rfl, hcap⟩
    ·omega
    ·refine Out.same k (rv := .slice (some ⟨rb.r, rb.o + (q.off + a.toNat * P.cellsOf E), none⟩) (b.toNat - a.toNat) (cap - a.toNat)) ?_ ?_
     ·simp [Instr.sliceAt, und_run hu, Instr.slice, hbd, sizeOf_run hE, hm, add_zero_or, Nat.add_assoc]
     ·dsimp only
      have : (b - a).toNat = b.toNat - a.toNat := by omega
      simp only [Option.map_some, this]
      refine .sl (q.add (a.toNat * P.cellsOf E)) rb _ _ _ _ hb' (by omega) (.inr ⟨rfl, ?_⟩)
      simp only [MA.add]
      have : (cap - a.toNat) * P.cellsOf E = cap * P.cellsOf E - a.toNat * P.cellsOf E := Nat.sub_mul _ _ _
      have h3 : a.toNat * P.cellsOf E ≤ cap * P.cellsOf E := Nat.mul_le_mul_right _ (by omega)
      omega
 ·cases e
theorem BRel.size {ρ : Rho} {rb : RB} {cs : List MV} {ro : Bool} {H : Array Obj} (b : BRel ρ rb (.cells cs ro) H) : cs.length ≤ rb.e := by
 obtain ⟨c, el, fz, h1, h2, h3, _⟩ := b; exact h3
theorem slcA_sound (k : HRel ρ h w.heap) {T E : TypeId} {m : Nat} (hu : P.underlying T = some (.array m E)) {d : TypeDesc} (hE : P.underlying E = some d) {q : Option MA} {x : Value} (hx : VRel ρ (.ptr q) x) {lo hi : Option Value} {a b : Int}
  (ha : BndOk lo 0 a) (hb : BndOk hi m b) {r : Sl} {h' : Hp} (e : slcA m (P.cellsOf E) q a b h = some (r, h')) : Out ρ h w ((Instr.sliceAt T x lo hi none).run P w) (.sl r.p r.len (P.cellsOf E)) h' := by
 unfold slcA at e
 split at e
 ·rename_i q
  split at e
  ·rename_i cs ro hg
   split at e
   ·rename_i hc
    obtain ⟨h0, h1, h2, h3, h4⟩ := hc
    have hmost : most = 70368744177664 := rfl
    cases e
    cases hx with
    | ptr q rb hb' =>
     have hbd := bounds_run (P := P) (w := w) (isS := false) (len := m) (cap := m) ha hb h0 h1 h2 (Nat.le_refl _)
     have hk := k.blk _ _ hb'
     rw [hg] at hk
     have hsz := hk.size
     have hab : (b - a).toNat = b.toNat - a.toNat := by omega
     by_cases hm : m = a.toNat
     ·refine Out.same k (rv := .slice (some ⟨rb.r, rb.o + q.off, none⟩) (b.toNat - a.toNat) (m - a.toNat)) ?_ ?_
      ·simp [Instr.sliceAt, und_run hu, Instr.sureAddr, hbd, sizeOf_run hE, ← hm]
      ·dsimp only
       rw [hab]
       refine .sl (q.add (a.toNat * P.cellsOf E)) rb _ _ _ _ hb' (show b.toNat - a.toNat ≤ m - a.toNat by omega) (.inl (by omega))
     ·refine Out.same k (rv := .slice (some ⟨rb.r, rb.o + (q.off + a.toNat * P.cellsOf E), none⟩) (b.toNat - a.toNat) (m - a.toNat)) ?_ ?_
      ·simp [Instr.sliceAt, und_run hu, Instr.sureAddr, hbd, sizeOf_run hE, hm, add_zero_or, Nat.add_assoc]
      ·dsimp only
       rw [hab]
       refine .sl (q.add (a.toNat * P.cellsOf E)) rb _ _ _ _ hb' (show b.toNat - a.toNat ≤ m - a.toNat by omega) (.inr ⟨rfl, ?_⟩)
       simp only [MA.add]
       have : (m - a.toNat) * P.cellsOf E = m * P.cellsOf E - a.toNat * P.cellsOf E := Nat.sub_mul _ _ _
       have h3 : a.toNat * P.cellsOf E ≤ m * P.cellsOf E := Nat.mul_le_mul_right _ (by omega)
       omega
   ·cases e
  ·cases e
 ·cases e
theorem cellsOf_sound (k : HRel ρ h w.heap) {e : Nat} {s : Sl} {x : Value} (hx : VRel ρ (.sl s.p s.len e) x) {cs : List MV} {h' : Hp} (he : cellsOf e s h = some (cs, h')) :
  h' = h ∧ cs.length = s.len * e ∧ ∃ b cap xs, x = .slice b s.len cap ∧ s.len ≤ cap ∧ (Builtin.firstCells e s.len x).run P w = .ok xs w ∧ VRels ρ cs xs.toList := by
 obtain ⟨sp, sl⟩ := s
 unfold cellsOf at he
 dsimp only at he hx ⊢
 cases hx with
 | slNil ez =>
  simp only [if_true] at he
  cases he
  refine ⟨rfl, by simp, none, 0, #[], rfl, Nat.le_refl _, ?_, .nil⟩
  simp [Builtin.firstCells]
 | sl a rb len ez cap ra hb hl hc =>
  simp only at he
  rcases hc with hc | ⟨rfl, hc⟩
  ·obtain rfl : sl = 0 := by omega
   subst hc
   obtain ⟨r, o, xs, hp, hlen, hcell, hv, rfl⟩ := ldn_sound k he (.ptr a rb hb)
   obtain rfl : xs = [] := List.length_eq_zero_iff.1 (by simpa using hlen)
   obtain rfl : cs = [] := by cases hv; rfl
   refine ⟨rfl, by simp, some ra, 0, #[], rfl, Nat.le_refl _, ?_, .nil⟩
   simp [Builtin.firstCells, loadCells, loadCellsFrom]
  ·obtain ⟨r, o, xs, hp, hlen, hcell, hv, rfl⟩ := ldn_sound k he (.ptr a rb hb)
   cases hp
   refine ⟨rfl, by rw [hv.length, hlen], _, cap, xs.toArray, rfl, hl, ?_, by simpa using hv⟩
   have := run_loadCells_list (P := P) w ⟨rb.r, rb.o + a.off, none⟩ xs hcell
   rw [hlen] at this
   simp [Builtin.firstCells, this]
end
end Go.Mini
