/- append, copy, texts, maps. -/
import Derived.Test.YtfieiaijdalkbaaGreatMG
namespace Go.Mini
theorem growBy_le (need : Nat) : ∀ (r c : Nat), 256 ≤ c → c ≤ 2 * need → Builtin.growBy need r c ≤ 2 * need
 | 0, c, _, h => h
 | r + 1, c, hc, h => by
  simp only [Builtin.growBy]
  split
  ·exact h
  ·exact growBy_le need r _ (by omega) (by omega)
theorem nextcap_le {need cap : Nat} (h : cap < need) : Builtin.nextslicecap need cap ≤ 2 * need := by
 unfold Builtin.nextslicecap
 split
 ·omega
 ·split
  ·omega
  ·exact growBy_le _ _ _ (by omega) (by omega)
section
variable {P : Program} {ρ : Rho} {h : Hp} {w : World}
theorem append_fit_run {T U E R : TypeId} {dE dU : TypeDesc} (hu : P.underlying T = some (.slice E)) (hE : P.underlying E = some dE) (hU : P.underlying U = some dU) (hi : ∀ k, dU ≠ .int k)
  {base : Option Addr} {len cap n : Nat} {x : Value} {xs : Array Value} (hl : (Builtin.lenOf x).run P w = .ok n w) (hf : (Builtin.firstCells (P.cellsOf E) n x).run P w = .ok xs w) (hfit : len + n ≤ cap) :
  (Builtin.append_ #[T, U] R #[.slice base len cap, x]).run P w = match base with
   | none => .ok (.slice none (len + n) cap) w
   | some a => ((storeCells (a.add (len * P.cellsOf E)) xs.toList).run P w).andThen fun _ w' => .ok (.slice base (len + n) cap) w' := by
 have hz : (match dU with | .int _ => true | _ => false) = false := by cases dU <;> first | rfl | exact absurd rfl (hi _)
 cases base with
 | none => simp [Builtin.append_, und_run hu, sizeOf_run hE, und_run hU, hz, hl, hfit, hf]
 | some a => simp [Builtin.append_, und_run hu, sizeOf_run hE, und_run hU, hz, hl, hfit, hf]
theorem append_grow_run {T U E R : TypeId} {dE dU : TypeDesc} (hu : P.underlying T = some (.slice E)) (hE : P.underlying E = some dE) (hU : P.underlying U = some dU) (hi : ∀ k, dU ≠ .int k)
  {i : TypeInfo} {z : Value} (hinfo : P.info? E = some i) (hzero : i.zero = some z) (hb0 : 0 < P.bytesOf E)
  {base : Option Addr} {len cap n : Nat} {x : Value} {xs old : Array Value} (hl : (Builtin.lenOf x).run P w = .ok n w)
  (hf : ∀ w' : World, w'.heap = w.heap → (Builtin.firstCells (P.cellsOf E) n x).run P w' = .ok xs w') (ho : ∀ w' : World, w'.heap = w.heap → (Builtin.firstCells (P.cellsOf E) len (.slice base len cap)).run P w' = .ok old w')
  (hfit : cap < len + n) (hmost : (len + n) * P.bytesOf E ≤ most) :
  ∃ nc rest, len + n ≤ nc ∧ nc ≤ 9223372036854775807 ∧ rest.size = (nc - (len + n)) * z.cells.size ∧ (Builtin.append_ #[T, U] R #[.slice base len cap, x]).run P w =
   ((newRow E (old ++ xs ++ rest)).run P { w with drawn := w.drawn + 1 }).andThen (fun a w' => .ok (.slice (some a) (len + n) nc) w') := by
 have hz : (match dU with | .int _ => true | _ => false) = false := by cases dU <;> first | rfl | exact absurd rfl (hi _)
 have hbi : i.bytes = P.bytesOf E := by simp [Program.bytesOf, hinfo]
 have hcap := nextcap_le hfit
 have hm : most = 70368744177664 := rfl
 have hle : Builtin.nextslicecap (len + n) cap * P.bytesOf E ≤ 2 * ((len + n) * P.bytesOf E) := by
  have := Nat.mul_le_mul_right (P.bytesOf E) hcap
  rw [Nat.mul_assoc] at this
  exact this
 have h48 : (2 : Nat) ^ 48 = 281474976710656 := by decide
 have c1 : ¬ (281474976710656 < Builtin.nextslicecap (len + n) cap * P.bytesOf E) := by omega
 have hfit' : ¬ (len + n ≤ cap) := by omega
 have hold := ho w.drew rfl
 have hnew := hf w.drew rfl
 have hbne : ¬ (P.bytesOf E = 0) := by omega
 refine ⟨len + n + w.tape w.drawn (.appendCap (len + n) cap E) % (2 ^ 63 - (len + n)), Builtin.zeroCells z.cells (len + n + w.tape w.drawn (.appendCap (len + n) cap E) % (2 ^ 63 - (len + n)) - (len + n)), Nat.le_add_right _ _, ?_, by simp [Builtin.zeroCells], ?_⟩
 ·have hq := Nat.mod_lt (w.tape w.drawn (.appendCap (len + n) cap E)) (show 0 < 2 ^ 63 - (len + n) by have := Nat.le_mul_of_pos_right (len + n) hb0; have hm : most = 70368744177664 := rfl; omega)
  omega
 simp [Builtin.append_, und_run hu, sizeOf_run hE, und_run hU, hz, hl, hfit', typeInfo, hinfo, hbi, c1, hbne, Question.forced, Question.cut, hold, hnew, zeroValue_run hinfo hzero]
theorem appc_sound (k : HRel ρ h w.heap) {T U E R : TypeId} {dE dU : TypeDesc} (hu : P.underlying T = some (.slice E)) (hE : P.underlying E = some dE) (hU : P.underlying U = some dU) (hi : ∀ k, dU ≠ .int k)
  {z : List MV} (hz : zeroOf P E = some z) (hzl : z.length = P.cellsOf E) (hb0 : 0 < P.bytesOf E) (he0 : 0 < P.cellsOf E) {s : Sl} {x y : Value} (hx : VRel ρ (.sl s.p s.len (P.cellsOf E)) x) {n : Nat} {xs : Array Value} {new : List MV}
  (hl : (Builtin.lenOf y).run P w = .ok n w) (hf : ∀ w' : World, w'.heap = w.heap → (Builtin.firstCells (P.cellsOf E) n y).run P w' = .ok xs w') (hv : VRels ρ new xs.toList) (hn : new.length = n * P.cellsOf E) (hcells : new.all isCell = true)
  {r : Sl} {h' : Hp} (e : appc (P.cellsOf E) (P.bytesOf E) s new h = some (r, h')) :
  Out ρ h w ((Builtin.append_ #[T, U] R #[x, y]).run P w) (.sl r.p r.len (P.cellsOf E)) h' := by
 obtain ⟨sp, sl⟩ := s
 dsimp only at hx
 obtain ⟨i, zv, hinfo, hzero, hzr⟩ := zeroOf_spec hz
 have hzs : zv.cells.size = P.cellsOf E := by have := (hzr ρ).length; simp at this; omega
 unfold appc at e
 by_cases h0 : new = []
 ·rw [if_pos h0] at e
  cases e
  subst h0
  have hn0 : n = 0 := by
   rcases Nat.mul_eq_zero.1 hn.symm with hn | hn
   ·exact hn
   ·omega
  subst hn0
  have hxs : xs = #[] := by have := hv.length; simp at this; exact Array.eq_empty_of_size_eq_zero this.symm
  cases hx with
  | slNil ez =>
   have := append_fit_run (P := P) (R := R) hu hE hU hi (base := none) (len := 0) (cap := 0) hl (hf w rfl) (Nat.le_refl _)
   exact Out.same k this (.slNil _)
  | sl a rb len ez cap ra hb hl' hc =>
   have := append_fit_run (P := P) (R := R) hu hE hU hi (base := some ra) (len := sl) (cap := cap) hl (hf w rfl) hl'
   refine Out.same k (rv := .slice (some ra) sl cap) ?_ (.sl a rb sl _ cap ra hb hl' hc)
   rw [this, hxs]
   simp [storeCells]
 ·rw [if_neg h0] at e
  split at e
  ·rename_i hcond
   have hdiv : new.length / P.cellsOf E = n := by rw [hn]; exact Nat.mul_div_cancel _ he0
   have hnp : 0 < n := by
    rcases Nat.eq_zero_or_pos n with hz0 | hz0
    ·subst hz0; simp at hn; exact absurd hn h0
    ·exact hz0
   rw [hdiv] at hcond e
   have hxs : xs.size = n * P.cellsOf E := by have := hv.length; simp at this; omega
   -- what is appended to a full slice
   have grow : ∀ (base : Option Addr) (cap : Nat) (old : List MV) (olds : Array Value) (h1 : Hp), HRel ρ h1 w.heap → HStp ρ h w ρ h1 w → VRels ρ old olds.toList → old.length = sl * P.cellsOf E → h1.size = h.size →
     (∀ w' : World, w'.heap = w.heap → (Builtin.firstCells (P.cellsOf E) sl (.slice base sl cap)).run P w' = .ok olds w') → cap < sl + n →
     Out ρ h w ((Builtin.append_ #[T, U] R #[.slice base sl cap, y]).run P w) (.sl (some ⟨h.size, 0⟩) (sl + n) (P.cellsOf E)) (h1.push (.cells (old ++ new) false)) := by
    intro base cap old olds h1 k1 st1 hold hol hs1 hfo hfull
    obtain ⟨nc, rest, hnc, hnc2, hrs, hrun⟩ := append_grow_run (P := P) (R := R) hu hE hU hi hinfo hzero hb0 hl hf hfo hfull hcond.2
    have k2 : HRel ρ h1 ({ w with drawn := w.drawn + 1 } : World).heap := k1
    have holds := hold.length
    simp at holds
    have hlen : (old ++ new).length ≤ (olds ++ xs ++ rest).size := by simp; omega
    obtain ⟨ρ', g1, g2, g3, g4⟩ := newRow_more (P := P) k2 E (cs := old ++ new) (xs := olds ++ xs ++ rest) hlen (by
     have : ((olds ++ xs ++ rest).toList.take (old ++ new).length) = olds.toList ++ xs.toList := by
      rw [Array.toList_append, Array.toList_append, List.take_left' (by simp; omega)]
     rw [this]
     exact hold.append hv)
    refine ⟨.slice (some ⟨w.heap.size, 0, none⟩) (sl + n) nc, ρ', _, ?_, ?_, g3, (st1.trans (HStp.drew ρ h1 w)).trans g4⟩
    ·rw [hrun, g1]; rfl
    ·rw [hs1] at g2
     refine sl_new g2 _ hnc ?_
     rw [show (olds ++ xs ++ rest).size = sl * P.cellsOf E + n * P.cellsOf E + (nc - (sl + n)) * P.cellsOf E by simp [hrs, hzs]; omega]
     rw [← Nat.add_mul, ← Nat.add_mul]
     exact Nat.mul_le_mul_right _ (by omega)
   cases hx with
   | slNil ez =>
    dsimp only at e
    simp only [if_true] at e
    cases e
    have := grow none 0 [] #[] h k (HStp.refl _ _ _) .nil (by simp) rfl (fun w' _ => by simp [Builtin.firstCells]) (by omega)
    simpa using this
   | sl a rb len ez cap ra hb hl' hc =>
    dsimp only at e
    split at e
    ·rename_i cs hg
     split at e
     ·rename_i hle
      cases e
      have hk := k.blk _ _ hb
      rw [hg] at hk
      obtain ⟨c, el, fz, b1, b2, b3, b4, b5⟩ := hk
      have hownb : Own h a.blk := .inl ⟨cs, hg⟩
      -- the old cells
      have holdv : VRels ρ ((cs.drop a.off).take (sl * P.cellsOf E)) ((c.toList.drop (rb.o + a.off)).take (sl * P.cellsOf E)) := by
       apply VRels.of_get
       ·simp; omega
       ·intro j v y' hv1 hy1
        rw [List.getElem?_take] at hv1 hy1
        split at hv1
        ·rename_i hj
         rw [if_pos hj] at hy1
         simp at hv1 hy1
         obtain ⟨v', hv', hr⟩ := b4 _ _ hv1
         rw [← Nat.add_assoc, hy1] at hv'
         cases hv'
         exact hr
        ·cases hv1
      by_cases hfit : sl + n ≤ cap
      ·-- in place
       rcases hc with hc | ⟨rfl, hc⟩
       ·omega
       ·have hrun := append_fit_run (P := P) (R := R) hu hE hU hi (base := some ⟨rb.r, rb.o + a.off, none⟩) (len := sl) (cap := cap) hl (hf w rfl) hfit
        have hmul : (sl + n) * P.cellsOf E ≤ cap * P.cellsOf E := Nat.mul_le_mul_right _ hfit
        rw [Nat.add_mul] at hmul
        have hst := storeCells_run (P := P) rb.r (rb.o + a.off + sl * P.cellsOf E) el fz xs.toList 0 c w b1
         (fun j _ hj => by
          have hj := hj
          simp at hj
          rcases b5 rfl with h | ⟨_, h⟩ <;> omega) (by simp; omega) (hv.oneCell hcells)
        simp only [Nat.add_zero] at hst
        have had := k.adopt (w' := w.setRow rb.r (c.toList.take (rb.o + a.off + sl * P.cellsOf E) ++ xs.toList ++ c.toList.drop (rb.o + a.off + sl * P.cellsOf E + xs.toList.length)).toArray) hb hownb (rb.o + a.off) (rb.e - a.off)
         (.cells ((cs.drop a.off).take (sl * P.cellsOf E) ++ new) false) (by simp) (fun i hi => setRow_other w rb.r i _ hi) rfl rfl rfl (by
          intro ρ' hext
          refine ⟨_, el, fz, setRow_heap w _ c _ el fz b1, ?_, ?_, ?_, ?_⟩
          ·dsimp only; simp; omega
          ·dsimp only; simp; omega
          ·intro j v hj
           dsimp only
           rw [List.getElem?_append] at hj
           have hl1 : ((cs.drop a.off).take (sl * P.cellsOf E)).length = sl * P.cellsOf E := by simp; omega
           rw [hl1] at hj
           split at hj
           ·rename_i hjl
            obtain ⟨y', hy', hr⟩ := holdv.get _ _ hj
            refine ⟨y', ?_, hr.mono hext⟩
            rw [List.getElem?_take, if_pos hjl, List.getElem?_drop] at hy'
            rw [List.getElem?_toArray, List.getElem?_append_left (by simp; omega), List.getElem?_append_left (by simp; omega), List.getElem?_take, if_pos (by omega)]
            exact hy'
           ·rename_i hjl
            obtain ⟨y', hy', hr⟩ := hv.get _ _ hj
            refine ⟨y', ?_, hr.mono hext⟩
            have hjn : j - sl * P.cellsOf E < new.length := (List.getElem?_eq_some_iff.1 hj).1
            rw [List.getElem?_toArray, List.getElem?_append_left (by simp; omega), List.getElem?_append_right (by simp; omega)]
            rw [← hy']
            congr 1
            simp; omega
          ·intro _
           have hae : a.off ≤ rb.e := by omega
           dsimp only
           rcases b5 rfl with h | ⟨hp, h⟩
           ·exact .inl h
           ·exact .inr ⟨hp, by omega⟩)
        refine ⟨.slice (some ⟨rb.r, rb.o + a.off, none⟩) (sl + n) cap, _, _, ?_, ?_, had.1, had.2⟩
        ·rw [hrun]
         simp only [add_zero_or]
         rw [hst]
         rfl
        ·refine sl_new (Rho.put_same _ _ _) _ hfit ?_
         omega
      ·-- a new row
       refine grow (some ra) cap _ ((c.toList.drop (rb.o + a.off)).take (sl * P.cellsOf E)).toArray (h.set a.blk .dead) (k.kill _) (HStp.kill _ _ _ _) (by simpa using holdv) (by simp; omega) rfl ?_ (by omega)
       intro w' hw'
       rcases hc with hc | ⟨rfl, hc⟩
       ·obtain rfl : sl = 0 := by omega
        simp [Builtin.firstCells, loadCells, loadCellsFrom]
       ·have hll : ((c.toList.drop (rb.o + a.off)).take (sl * P.cellsOf E)).length = sl * P.cellsOf E := by simp; omega
        have := run_loadCells_list (P := P) w' ⟨rb.r, rb.o + a.off, none⟩ ((c.toList.drop (rb.o + a.off)).take (sl * P.cellsOf E)) (by
         intro j v hj
         rw [add_zero_or, cell_at (by rw [hw']; exact b1)]
         rw [List.getElem?_take] at hj
         split at hj
         ·simpa using hj
         ·cases hj)
        rw [hll] at this
        simp [Builtin.firstCells, this]
     ·cases e
    ·cases e
  ·cases e
end
end Go.Mini
