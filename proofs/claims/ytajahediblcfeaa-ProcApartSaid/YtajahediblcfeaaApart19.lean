/- The statement 'ProcApart' holds: what one opens, closes and moves changes nothing of another one's: any acts, any process. -/
import Derived.Test.YtajahediblcfeaaG19
import Derived.Test.YtajahediblcfeaaL19d
import Derived.Test.YtajahediblcfeaaMY
import Derived.Test.YtajahediblcfeaaRows
import Derived.WalkKit
namespace Go.Proofs.Ytajahediblcfeaa
open Go.Mini Go.Moat Go.RowKit Go.WideShapes
set_option maxRecDepth 100000

theorem own_knob : ownKnob Try.prog.godebug = none := by kernel_rfl
theorem laid_out : laidOutB Try.prog = true := by kernel_rfl
theorem apart_params : Try.f6.params = #[33, 5] := by kernel_rfl

theorem apart_lifted (os : Os) (started : os.Started) (H : Type) (enc : TypeId × Value → H) :
    ReturnsInHanded {} Try.checked os 6 .any (Rows.procApartSpec.pre6 enc Try.prog Try.f6 Rows.procApartRow.domain false) (Rows.procApartSpec.post enc Try.prog Try.f6 false true false false) := by
  refine lifted_of (C := Try.checked) started own_knob laid_out (by kernel_rfl) Try.func6 (ChangeSpec.witness6 (enc := enc) (C := Try.checked) false ⟨#[], #[.slice none 0 0, .int .u8 0], []⟩ 8 (by kernel_rfl) (by kernel_rfl) (by kernel_rfl) (by kernel_rfl))
    (rt := 4) (by kernel_rfl) (by kernel_rfl) rfl ?_ (by kernel_rfl) ?_
  · intro ds hl
    rw [apart_params] at hl
    match ds, hl with
    | [d0, d1], _ => rfl
  · intro W base args ds p hn hval hT _
    rw [apart_params] at hn hval hT
    obtain ⟨v0, v1, rfl⟩ : ∃ v0 v1, args = #[v0, v1] := by
      obtain ⟨l⟩ := args
      match l, hn with
      | [v0, v1], _ => exact ⟨v0, v1, rfl⟩
    match ds, hT with
    | d0 :: ds, ⟨p1, p2, ht, _, _⟩ =>
    obtain ⟨xs, s, x, rb, h1, _, h3, h4, h5, h6, h7⟩ := slice_in (P := Try.prog) (t := 33) (E := 38) (by kernel_rfl) (d := 3) (cts := actTs) (by kernel_rfl) (by kernel_rfl) (by decide) ht (slice_shape (P := Try.prog) (E := 38) (by kernel_rfl) (hval 0 33 v0 rfl rfl))
    obtain ⟨w1, rfl, hw1⟩ := int_open (P := Try.prog) (t := 5) (k := .u8) (by kernel_rfl) (hval 1 5 v1 rfl rfl)
    have hw2 : 0 ≤ w1 ∧ w1 < 256 := by
      have h8 : IntKind.u8.has w1 := hw1
      simp [IntKind.has, IntKind.min, IntKind.max, IntKind.signed, IntKind.bits] at h8
      omega
    obtain ⟨r, h', hrun, rfl⟩ := apart_run hw2 h3
    exact calls_true (S6 1000) (margs := [.sl s.p s.len 5, .int .u8 w1]) (a := (s, w1)) rfl hrun h4 h5 (.cons _ _ _ _ h6 (.cons _ _ _ _ (.int _ _) .nil))

theorem apart_holds : Rows.ProcApartSaid :=
  OpenClaim.holds_of_wide 6 Try.f6 rfl rfl rfl rfl rfl rfl rfl ⟨rfl, rfl, rfl, rfl, rfl⟩ rfl rfl rfl rfl rfl (by kernel_rfl) Try.func6 (by kernel_rfl)
    (of_decide_eq_true (by kernel_rfl)) (by unfold Func.isWrapper; first | (rw [if_pos (by decide +kernel)]; kernel_rfl) | (rw [if_neg (by decide +kernel)]; exact ⟨rfl, rfl⟩))
    (fun os started H enc _ => apart_lifted os started H enc)

#print axioms apart_holds
end Go.Proofs.Ytajahediblcfeaa
