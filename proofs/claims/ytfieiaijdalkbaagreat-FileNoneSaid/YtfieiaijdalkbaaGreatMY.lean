/- What comes in: slices and numbers, beside one another. -/
import Derived.Test.YtfieiaijdalkbaaGreatMW
import Derived.Test.YtfieiaijdalkbaaGreatMLW
namespace Go.Mini
open Go.ChangeShapes Go.WideShapes Go.RowKit
section
variable {P : Program}
theorem slice_shape {W : World} {r : Reach} {base : Nat} {t E : TypeId} {v : Value} (hu : P.underlying t = some (.slice E)) (h : Value.okWide P W r base t v) : ∃ a l c, v = .slice a l c := by
 unfold Value.okWide at h
 rw [hu] at h
 dsimp only at h
 unfold Cell.okWide at h
 rw [hu] at h
 cases v <;> simp [Cell.ok, hu] at h
 exact ⟨_, _, _, rfl⟩
theorem int_open {W : World} {r : Reach} {base : Nat} {t : TypeId} {k : IntKind} {v : Value} (hu : P.underlying t = some (.int k)) (h : Value.okWide P W r base t v) : ∃ n, v = .int k n ∧ k.has n := by
 unfold Value.okWide at h
 rw [hu] at h
 dsimp only at h
 unfold Cell.okWide at h
 rw [hu] at h
 cases v <;> simp [Cell.ok, hu] at h
 obtain ⟨rfl, h⟩ := h
 exact ⟨_, rfl, h⟩
end
end Go.Mini
