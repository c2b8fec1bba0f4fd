/- The statement 'VolumeTwice' holds: what is done twice, in the same way, leaves the same sectors, whatever acts there are. -/
import Derived.Test.YtcaaljlhljemoaaGreatG15
import Derived.Test.YtcaaljlhljemoaaGreatP15xa
import Derived.Test.YtcaaljlhljemoaaGreatA15
import Derived.Test.YtcaaljlhljemoaaGreatRows
import Derived.WalkKit
namespace Go.Proofs.YtcaaljlhljemoaaGreat
open Go.Mini Go.Moat Go.RowKit Go.WideShapes
set_option maxRecDepth 100000
theorem own_knob : ownKnob Tryz.prog.godebug = none := by kernel_rfl
theorem laid_out : laidOutB Tryz.prog = true := by kernel_rfl
theorem twice_params : Tryz.f5.params = #[22] := by kernel_rfl
theorem twice_lifted (os : Os) (started : os.Started) (H : Type) (enc : TypeId × Value → H) :
  ReturnsInHanded {} Tryz.checked os 5 .any (Rows.volumeTwiceSpec.pre6 enc Tryz.prog Tryz.f5 Rows.volumeTwiceRow.domain false) (Rows.volumeTwiceSpec.post enc Tryz.prog Tryz.f5 false true false false) := by
 refine zyl (C := Tryz.checked) started own_knob laid_out (by kernel_rfl) Tryz.func5 (ChangeSpec.witness6 (enc := enc) (C := Tryz.checked) false ⟨#[], #[.slice none 0 0], []⟩ 8 (by kernel_rfl) (by kernel_rfl) (by kernel_rfl) (by kernel_rfl))
  (rt := 4) (by kernel_rfl) (by kernel_rfl) rfl ?_ (by kernel_rfl) ?_
 ·intro ds hl
  rw [twice_params] at hl
  match ds, hl with
  | [d], _ => rfl
 ·intro W base args ds p hn hval hT _
  rw [twice_params] at hn hval hT
  obtain ⟨u, rfl⟩ : ∃ u, args = #[u] := by
   obtain ⟨l⟩ := args
   match l, hn with
   | [u], _ => exact ⟨u, rfl⟩
  match ds, hT with
  | d0 :: ds, ⟨p1, p2, ht, _, _⟩ =>
  obtain ⟨xs, s, hp, ρ, h1, h2, h3, h4, h5, h6, h7⟩ := zs3 (P := Tryz.prog) (t := 22) (E := 42) (by kernel_rfl) (d := 4) (cts := zby) (by kernel_rfl) (by kernel_rfl) (by decide) ht (zs2 (P := Tryz.prog) (t := 22) (E := 42) (by kernel_rfl) (hval 0 22 u rfl rfl))
  obtain ⟨acts, e1, e2, e3⟩ := ztb (T := InA hp) xs h6 h7
  obtain ⟨r, h', q', hrun, ⟨rfl, _⟩, _⟩ := zyg (N := 6000) (T := InA hp) (s := s) (acts := acts) (by omega) e3 (fun hne => by rw [e1]; exact h2 fun c => hne (by subst c; exact List.length_eq_zero_iff.1 e2)) (by omega) hp (zi3 hp) (by rw [z0y]; rfl) (z13j hp)
  exact zv8 (S5 6000).h (margs := [.sl s.p s.len 20]) (a := s) rfl hrun h3 h4 (.cons _ _ _ _ h5 .nil)
theorem twice_holds : Rows.VolumeTwiceSaid :=
 OpenClaim.holds_of_wide 5 Tryz.f5 rfl rfl rfl rfl rfl rfl rfl ⟨rfl, rfl, rfl, rfl, rfl⟩ rfl rfl rfl rfl rfl (by kernel_rfl) Tryz.func5 (by kernel_rfl)
  (of_decide_eq_true (by kernel_rfl)) (by unfold Func.isWrapper; first | (rw [if_pos (by decide +kernel)]; kernel_rfl) | (rw [if_neg (by decide +kernel)]; exact ⟨rfl, rfl⟩))
  (fun os started H enc _ => twice_lifted os started H enc)
#print axioms twice_holds
end Go.Proofs.YtcaaljlhljemoaaGreat
