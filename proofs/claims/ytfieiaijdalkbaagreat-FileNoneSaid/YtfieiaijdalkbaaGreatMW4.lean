/- Slices of bytes, beside one another, as they come in: their bytes can be read. -/
import Derived.Test.YtfieiaijdalkbaaGreatMW3
import Derived.Test.YtfieiaijdalkbaaGreatMY
namespace Go.Mini
open Go.ChangeShapes Go.WideShapes Go.RowKit
def ItemOk (H : Array Obj) (x : Option RB × Blk) : Prop := (x.1 = none ∧ x.2 = .dead) ∨ ∃ rb cs, x.1 = some rb ∧ x.2 = .cells cs true ∧ ∀ ρ, BRel ρ rb (.cells cs true) H
def itemRho (l : List (Option RB × Blk)) : Rho := fun b => (l[b]?).bind (·.1)
def itemHp (l : List (Option RB × Blk)) : Hp := hpL (l.map (·.2))
theorem itemHp_get (l : List (Option RB × Blk)) (b : Nat) : (itemHp l).get b = ((l[b]?).map (·.2)).getD .dead := by
 unfold itemHp
 rw [hpL_get, List.getElem?_map]
theorem itemHp_size (l : List (Option RB × Blk)) : (itemHp l).size = l.length := by
 unfold itemHp
 rw [hpL_size, List.length_map]
theorem items_own {H : Array Obj} {l : List (Option RB × Blk)} (hl : ∀ x ∈ l, ItemOk H x) (b : Nat) : ¬ Own (itemHp l) b := by
 have key : (itemHp l).get b = .dead ∨ ∃ cs, (itemHp l).get b = .cells cs true := by
  rw [itemHp_get]
  cases hx : l[b]? with
  | none => exact .inl rfl
  | some x =>
   rcases hl x (List.mem_of_getElem? hx) with ⟨_, h⟩ | ⟨rb, cs, _, h, _⟩
   ·exact .inl h
   ·exact .inr ⟨cs, h⟩
 rintro (⟨c, h⟩ | ⟨c, h⟩) <;> rcases key with k | ⟨cs, k⟩ <;> rw [k] at h <;> cases h
theorem HRel.items {H : Array Obj} {l : List (Option RB × Blk)} (hl : ∀ x ∈ l, ItemOk H x) (hG : GM = [] := by rfl) : HRel (itemRho l) (itemHp l) H := by
 refine ⟨fun b q h => ?_, fun b hd => ?_, fun b b' q q' h h' ho => absurd ho (items_own hl b), fun b q h => ?_, fun i g h => by rw [hG] at h; cases h⟩
 ·rw [itemHp_size]
  unfold itemRho at h
  cases hx : l[b]? with
  | none => rw [hx] at h; cases h
  | some x => exact (List.getElem?_eq_some_iff.1 hx).1
 ·unfold Dead at hd
  rw [itemHp_get] at hd
  unfold itemRho
  cases hx : l[b]? with
  | none => rw [hx] at hd; exact absurd rfl hd
  | some x =>
   rcases hl x (List.mem_of_getElem? hx) with ⟨_, h⟩ | ⟨rb, cs, h, _, _⟩
   ·rw [hx] at hd; exact absurd h hd
   ·exact ⟨rb, h⟩
 ·rw [itemHp_get]
  unfold itemRho at h
  cases hx : l[b]? with
  | none => rw [hx] at h; cases h
  | some x =>
   rw [hx] at h
   have h : x.1 = some q := h
   rcases hl x (List.mem_of_getElem? hx) with ⟨h1, _⟩ | ⟨rb, cs, h1, h2, h3⟩
   ·rw [h1] at h; cases h
   ·rw [h1] at h
    cases h
    show BRel _ _ x.2 H
    rw [h2]
    exact h3 _
def ByW (H : Array Obj) (v : Value) : Prop := v = .slice none 0 0 ∨ (∃ a cc el fz, v = .slice (some a) 0 0 ∧ H[a.block]? = some (.cells cc el fz)) ∨ ∃ bs, ByteAt H v bs
section
variable {P : Program}
theorem byw_in {H : Type} {enc : TypeId × Value → H} {W : World} {r : Reach} {base : Nat} {t E : TypeId} (hu : P.underlying t = some (.slice E)) (hE : P.cellsOf E = 1) (hL : leafs P 1 E = some [(0, .int .u8)]) {v : Value} {dd : DataW H} {ps : List MemPlace} (h : DataW.Trod enc P W 0 (fun _ => true) true t v dd ps) (hv : Value.okWide P W r base t v) : ByW W.heap v := by
 obtain ⟨a0, l0, c0, rfl⟩ := slice_shape hu hv
 obtain ⟨fuel, hf⟩ := h
 obtain ⟨v, r', e, hb⟩ := byv_trod hu hE hL hf
 simp [Value.cells] at e
 obtain ⟨rfl, _⟩ := e
 rcases hb with h | ⟨a, h⟩ | h
 ·exact .inl h
 ·right; left
  cases h
  unfold Value.okWide at hv
  rw [hu] at hv
  dsimp only at hv
  unfold Cell.okWide at hv
  rw [hu] at hv
  simp [Cell.ok, hu] at hv
  obtain ⟨_, _, row, cells, hs, _⟩ := hv
  unfold World.shape? at hs
  split at hs
  ·rename_i cc el fz hc
   exact ⟨a, cc, el, fz, rfl, hc⟩
  ·cases hs
 ·exact .inr (.inr h)
end
theorem item_of {H : Array Obj} {v : Value} (h : ByW H v) : ∃ (x : Option RB × Blk) (bs : List UInt8), ItemOk H x ∧ ∀ (ρ : Rho) (j : Nat), ρ j = x.1 → ∃ s : Sl, VRel ρ (.sl s.p s.len 1) v ∧ s.len = bs.length ∧ ∀ hp : Hp, j < hp.size → hp.get j = x.2 → RdC (InA hp) s 1 (bytesOf bs) := by
 rcases h with rfl | ⟨a, cc, el, fz, rfl, hc⟩ | ⟨bs, hb⟩
 ·exact ⟨(none, .dead), [], .inl ⟨rfl, rfl⟩, fun ρ j _ => ⟨⟨none, 0⟩, .slNil _, rfl, fun hp _ _ => rd_nil⟩⟩
 ·refine ⟨(some ⟨a.block, 0, 0⟩, .cells [] true), [], .inr ⟨_, _, rfl, rfl, fun ρ => ⟨cc, el, fz, hc, Nat.zero_le _, Nat.zero_le _, fun i m hm => by simp at hm, fun hr => by cases hr⟩⟩, fun ρ j hj => ⟨⟨some ⟨j, 0⟩, 0⟩, VRel.sl ⟨j, 0⟩ _ 0 1 0 a hj (Nat.le_refl _) (.inl rfl), rfl, fun hp hlt hg => ?_⟩⟩
  exact rd_in hlt hg (by simp [bytesOf])
 ·obtain ⟨a, c, cc, el, fz, rfl, h1, h2, h3, h4, h5, h6, h7⟩ := hb
  refine ⟨(some ⟨a.block, a.off, c⟩, .cells (bytesOf bs) true), bs, .inr ⟨_, _, rfl, rfl, fun ρ => ⟨cc, el, fz, h5, h6, by rw [bytes_len]; exact h1, fun i m hm => ?_, fun hr => by cases hr⟩⟩, fun ρ j hj => ⟨⟨some ⟨j, 0⟩, bs.length⟩, ?_, rfl, fun hp hlt hg => ?_⟩⟩
  ·have hi : i < bs.length := by
    have := (List.getElem?_eq_some_iff.1 hm).1
    rw [bytes_len] at this
    exact this
   refine ⟨_, h7 i hi, ?_⟩
   have e2 : m = .int .u8 bs[i].toNat := by
    unfold bytesOf at hm
    rw [List.getElem?_map, List.getElem?_eq_getElem hi] at hm
    exact (Option.some.inj hm).symm
   rw [e2]
   exact .int _ _
  ·refine VRel.sl ⟨j, 0⟩ ⟨a.block, a.off, c⟩ bs.length 1 c a hj h1 (.inr ⟨?_, ?_⟩) (Nat.le_trans h3 (by decide))
   ·obtain ⟨ab, ao, as⟩ := a
    dsimp only at h4
    subst h4
    rfl
   ·dsimp only
    omega
  ·exact rd_in hlt hg (by rw [bytes_len, Nat.mul_one])
end Go.Mini
