/- The statement 'ProcPlays' holds: whatever is raised, opened, closed and moved, all answers are the document's: any acts, any number of processes. -/
import Derived.Test.YtajahediblcfeaaG19
import Derived.Test.YtajahediblcfeaaL19b
import Derived.Test.YtajahediblcfeaaMY
import Derived.Test.YtajahediblcfeaaRows
import Derived.WalkKit
namespace Go.Proofs.Ytajahediblcfeaa
open Go.Mini Go.Moat Go.RowKit Go.WideShapes
set_option maxRecDepth 100000

theorem own_knob : ownKnob Try.prog.godebug = none := by kernel_rfl
theorem laid_out : laidOutB Try.prog = true := by kernel_rfl
theorem plays_params : Try.f5.params = #[3, 33] := by kernel_rfl

theorem plays_lifted (os : Os) (started : os.Started) (H : Type) (enc : TypeId × Value → H) :
    ReturnsInHanded {} Try.checked os 5 .any (Rows.procPlaysSpec.pre6 enc Try.prog Try.f5 Rows.procPlaysRow.domain false) (Rows.procPlaysSpec.post enc Try.prog Try.f5 false true false false) := by
  refine lifted_of (C := Try.checked) started own_knob laid_out (by kernel_rfl) Try.func5 (ChangeSpec.witness6 (enc := enc) (C := Try.checked) false ⟨#[], #[.int .i64 0, .slice none 0 0], []⟩ 8 (by kernel_rfl) (by kernel_rfl) (by kernel_rfl) (by kernel_rfl))
    (rt := 4) (by kernel_rfl) (by kernel_rfl) rfl ?_ (by kernel_rfl) ?_
  · intro ds hl
    rw [plays_params] at hl
    match ds, hl with
    | [d0, d1], _ => rfl
  · intro W base args ds p hn hval hT _
    rw [plays_params] at hn hval hT
    obtain ⟨v0, v1, rfl⟩ : ∃ v0 v1, args = #[v0, v1] := by
      obtain ⟨l⟩ := args
      match l, hn with
      | [v0, v1], _ => exact ⟨v0, v1, rfl⟩
    match ds, hT with
    | d0 :: d1 :: ds, ⟨_, _, _, ⟨p1, p2, ht, _, _⟩, _⟩ =>
    obtain ⟨xs, s, x, rb, h1, _, h3, h4, h5, h6, h7⟩ := slice_in (P := Try.prog) (t := 33) (E := 38) (by kernel_rfl) (d := 3) (cts := actTs) (by kernel_rfl) (by kernel_rfl) (by decide) ht (slice_shape (P := Try.prog) (E := 38) (by kernel_rfl) (hval 1 33 v1 rfl rfl))
    obtain ⟨w0, rfl, hw0⟩ := int_open (P := Try.prog) (t := 3) (k := .i64) (by kernel_rfl) (hval 0 3 v0 rfl rfl)
    have hb : ∀ y ∈ xs, 0 ≤ labOf y ∧ labOf y < 65536 := by
      intro y hy
      have h8 : IntKind.u16.has (labOf y) := h7 _ (labOf_mem hy)
      simp [IntKind.has, IntKind.min, IntKind.max, IntKind.signed, IntKind.bits] at h8
      omega
    obtain ⟨r, h', hrun, rfl⟩ := plays_run hb (n := w0) h3
    exact calls_true (S5 1000) (margs := [.int .i64 w0, .sl s.p s.len 5]) (a := (w0, s)) rfl hrun h4 h5 (.cons _ _ _ _ (.int _ _) (.cons _ _ _ _ h6 .nil))

theorem plays_holds : Rows.ProcPlaysSaid :=
  OpenClaim.holds_of_wide 5 Try.f5 rfl rfl rfl rfl rfl rfl rfl ⟨rfl, rfl, rfl, rfl, rfl⟩ rfl rfl rfl rfl rfl (by kernel_rfl) Try.func5 (by kernel_rfl)
    (of_decide_eq_true (by kernel_rfl)) (by unfold Func.isWrapper; first | (rw [if_pos (by decide +kernel)]; kernel_rfl) | (rw [if_neg (by decide +kernel)]; exact ⟨rfl, rfl⟩))
    (fun os started H enc _ => plays_lifted os started H enc)

#print axioms plays_holds
end Go.Proofs.Ytajahediblcfeaa
