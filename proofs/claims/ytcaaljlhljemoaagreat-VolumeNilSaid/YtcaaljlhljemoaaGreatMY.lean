/- What comes in: slices and numbers, beside one another. -/
import Derived.Test.YtcaaljlhljemoaaGreatMW
import Derived.Test.YtcaaljlhljemoaaGreatMLW
namespace Go.Mini
open Go.ChangeShapes Go.WideShapes Go.RowKit

section
variable {P : Program}

theorem slice_shape {W : World} {r : Reach} {base : Nat} {t E : TypeId} {v : Value} (hu : P.underlying t = some (.slice E)) (h : Value.okWide P W r base t v) : ∃ a l c, v = .slice a l c := by
  unfold Value.okWide at h
  rw [hu] at h
  dsimp only at h
  unfold Cell.okWide at h
  rw [hu] at h
  cases v <;> simp [Cell.ok, hu] at h
  exact ⟨_, _, _, rfl⟩

theorem int_open {W : World} {r : Reach} {base : Nat} {t : TypeId} {k : IntKind} {v : Value} (hu : P.underlying t = some (.int k)) (h : Value.okWide P W r base t v) : ∃ n, v = .int k n ∧ k.has n := by
  unfold Value.okWide at h
  rw [hu] at h
  dsimp only at h
  unfold Cell.okWide at h
  rw [hu] at h
  cases v <;> simp [Cell.ok, hu] at h
  obtain ⟨rfl, h⟩ := h
  exact ⟨_, rfl, h⟩

/-- A slice of such structs, as it comes in. -/
theorem slice_in {H : Type} {enc : TypeId × Value → H} {W : World} {t E : TypeId} (hu : P.underlying t = some (.slice E)) {d : Nat} {cts : List CTy} (hL : leafs P d E = some (cts.zipIdx.map fun x => (x.2, x.1))) (hn : P.cellsOf E = cts.length) (hn0 : 0 < cts.length)
    {v : Value} {dd : DataW H} {ps : List MemPlace} (h : DataW.Trod enc P W 0 (fun _ => true) true t v dd ps) (hv : ∃ a l c, v = .slice a l c) (hG : GM = [] := by rfl) :
    ∃ (xs : List (HC cts)) (s : Sl) (x : Blk) (rb : RB), s.len = xs.length ∧ xs.length ≤ maxLen ∧ SlIn (Hp.empty.push x) s cts.length (rowsOf cts xs) ∧ HRel (oneRho rb) (Hp.empty.push x) W.heap ∧ (∀ b, ¬ Own (Hp.empty.push x) b) ∧
      VRel (oneRho rb) (.sl s.p s.len cts.length) v ∧ ∀ m ∈ rowsOf cts xs, m.has := by
  obtain ⟨xs, s, x, rb, h1, h2, h3, h4, h5, h6, h7, h8⟩ := slice_open hu hL hn hn0 h hv hG
  refine ⟨xs, s, x, rb, h1, h2, ⟨by rw [rowsOf_length, h1], fun hc => ?_⟩, h4, own_one h5 h6, h7, h8⟩
  have hne : xs ≠ [] := by
    intro c
    subst c
    exact hc rfl
  obtain ⟨g1, g2⟩ := h3 hne
  exact ⟨0, true, g1, by rw [g2]; exact Hp.get_push_same _ _, by simp [Hp.empty]⟩

theorem rows_int (k : IntKind) : ∀ (xs : List Int), rowsOf [.int k] xs = xs.map (.int k)
  | [] => rfl
  | y :: ys => by
    have ih := rows_int k ys
    show HC.enc [.int k] y ++ rowsOf [.int k] ys = _
    rw [ih]
    rfl

end
end Go.Mini
