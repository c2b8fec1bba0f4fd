/- Rows of structs that hold slices, as they come in: of such a slice its length alone is known (its block is dead). -/
import Derived.Test.YtfieiaijdalkbaaGreatMY
namespace Go.Mini
open Go.ChangeShapes Go.WideShapes Go.RowKit
section
variable {P : Program} {ρ : Rho}
def slRho (v : Option Value) : Option RB := match v with
 | some (.slice (some a) _ c) => some ⟨a.block, a.off, c * 1000⟩
 | _ => none
def outRho (rb : RB) (cell : Nat → Option Value) : Rho := fun b => match b with
 | 0 => some rb
 | j + 1 => slRho (cell j)
theorem holds_get' (n : Nat) : ∀ (h : Hp) (c : Nat), (h.holds n).get c = if h.size ≤ c ∧ c < h.size + n then .dead else h.get c := by
 induction n with
 | zero => intro h c; rw [if_neg (by omega)]; rfl
 | succ n ih =>
  intro h c
  show (Hp.holds n (h.push .dead)).get c = _
  rw [ih, Hp.size_push, Hp.get_push]
  by_cases h1 : c = h.size
  ·rw [if_neg (by omega), if_pos h1, if_pos (by omega)]
  ·rw [if_neg h1]
   by_cases h2 : h.size + 1 ≤ c ∧ c < h.size + 1 + n
   ·rw [if_pos h2, if_pos (by omega)]
   ·rw [if_neg h2, if_neg (by omega)]
theorem holds_size' (n : Nat) : ∀ h : Hp, (h.holds n).size = h.size + n := by
 induction n with
 | zero => intro h; rfl
 | succ n ih =>
  intro h
  show (Hp.holds n (h.push .dead)).size = _
  rw [ih, Hp.size_push]
  omega
theorem HRel.out {rb : RB} {x : Blk} {H : Array Obj} {cell : Nat → Option Value} {n : Nat} (hn : ∀ j, n ≤ j → cell j = .none) (hb : BRel (outRho rb cell) rb x H) (hG : GM = [] := by rfl) : HRel (outRho rb cell) ((Hp.empty.push x).holds n) H where
 gl := fun i g h => by rw [hG] at h; cases h
 dom := fun b q h => by
  rw [holds_size', Hp.size_push]
  cases b with
  | zero => simp only [Hp.empty]; omega
  | succ j =>
   by_cases hj : n ≤ j
   ·have h2 : slRho (cell j) = some q := h
    rw [hn j hj] at h2
    cases h2
   ·simp [Hp.empty]; omega
 live := fun b hd => by
  by_cases e : b = 0
  ·subst e; exact ⟨rb, rfl⟩
  ·refine absurd ?_ hd
   unfold Dead
   rw [holds_get', Hp.get_push]
   split
   ·rfl
   ·exact if_neg (by simpa [Hp.empty] using e)
 inj := fun b b' q q' h h' hd hd' hne => by
  have dead : ∀ c, c ≠ 0 → Dead ((Hp.empty.push x).holds n) c := fun c hc => by
   unfold Dead
   rw [holds_get', Hp.get_push]
   split
   ·rfl
   ·exact if_neg (by simpa [Hp.empty] using hc)
  by_cases e : b = 0
  ·exact absurd (dead b' fun c => hne (e.trans c.symm)) hd'
  ·exact absurd (dead b e) hd.live
 blk := fun b q h => by
  rw [holds_get', Hp.size_push]
  cases b with
  | zero =>
   cases h
   rw [if_neg (by simp [Hp.empty]), Hp.get_push, if_pos (show 0 = Hp.empty.size from rfl)]
   exact hb
  | succ j =>
   split
   ·trivial
   ·rw [Hp.get_push, if_neg (by simp [Hp.empty])]
    trivial
theorem own_out {x : Blk} {n : Nat} (h1 : ∀ cs, x ≠ .cells cs false) (h2 : ∀ es, x ≠ .map es) (b : Nat) : ¬ Own ((Hp.empty.push x).holds n) b := by
 rintro (⟨cs, h⟩ | ⟨es, h⟩) <;> rw [holds_get'] at h <;> split at h
 ·cases h
 ·rw [Hp.get_push] at h
  split at h
  ·exact h1 _ h
  ·cases h
 ·cases h
 ·rw [Hp.get_push] at h
  split at h
  ·exact h2 _ h
  ·cases h
end
end Go.Mini
