/- The statement 'ProcShut' holds: when all that is open is closed nothing is held: any acts. -/
import Derived.Test.YtajahediblcfeaaG19
import Derived.Test.YtajahediblcfeaaL19c
import Derived.Test.YtajahediblcfeaaMY
import Derived.Test.YtajahediblcfeaaRows
import Derived.WalkKit
namespace Go.Proofs.Ytajahediblcfeaa
open Go.Mini Go.Moat Go.RowKit Go.WideShapes
set_option maxRecDepth 100000

theorem own_knob : ownKnob Try.prog.godebug = none := by kernel_rfl
theorem laid_out : laidOutB Try.prog = true := by kernel_rfl
theorem shut_params : Try.f4.params = #[33] := by kernel_rfl

theorem shut_lifted (os : Os) (started : os.Started) (H : Type) (enc : TypeId × Value → H) :
    ReturnsInHanded {} Try.checked os 4 .any (Rows.procShutSpec.pre6 enc Try.prog Try.f4 Rows.procShutRow.domain false) (Rows.procShutSpec.post enc Try.prog Try.f4 false true false false) := by
  refine lifted_of (C := Try.checked) started own_knob laid_out (by kernel_rfl) Try.func4 (ChangeSpec.witness6 (enc := enc) (C := Try.checked) false ⟨#[], #[.slice none 0 0], []⟩ 8 (by kernel_rfl) (by kernel_rfl) (by kernel_rfl) (by kernel_rfl))
    (rt := 4) (by kernel_rfl) (by kernel_rfl) rfl ?_ (by kernel_rfl) ?_
  · intro ds hl
    rw [shut_params] at hl
    match ds, hl with
    | [d0], _ => rfl
  · intro W base args ds p hn hval hT _
    rw [shut_params] at hn hval hT
    obtain ⟨v0, rfl⟩ : ∃ v0, args = #[v0] := by
      obtain ⟨l⟩ := args
      match l, hn with
      | [v0], _ => exact ⟨v0, rfl⟩
    match ds, hT with
    | d0 :: ds, ⟨p1, p2, ht, _, _⟩ =>
    obtain ⟨xs, s, x, rb, h1, _, h3, h4, h5, h6, h7⟩ := slice_in (P := Try.prog) (t := 33) (E := 38) (by kernel_rfl) (d := 3) (cts := actTs) (by kernel_rfl) (by kernel_rfl) (by decide) ht (slice_shape (P := Try.prog) (E := 38) (by kernel_rfl) (hval 0 33 v0 rfl rfl))
    obtain ⟨r, h', hrun, rfl⟩ := shut_run h3
    exact calls_true (S4 1000) (margs := [.sl s.p s.len 5]) (a := s) rfl hrun h4 h5 (.cons _ _ _ _ h6 .nil)

theorem shut_holds : Rows.ProcShutSaid :=
  OpenClaim.holds_of_wide 4 Try.f4 rfl rfl rfl rfl rfl rfl rfl ⟨rfl, rfl, rfl, rfl, rfl⟩ rfl rfl rfl rfl rfl (by kernel_rfl) Try.func4 (by kernel_rfl)
    (of_decide_eq_true (by kernel_rfl)) (by unfold Func.isWrapper; first | (rw [if_pos (by decide +kernel)]; kernel_rfl) | (rw [if_neg (by decide +kernel)]; exact ⟨rfl, rfl⟩))
    (fun os started H enc _ => shut_lifted os started H enc)

#print axioms shut_holds
end Go.Proofs.Ytajahediblcfeaa
