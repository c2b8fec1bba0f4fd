/- The statement 'VolumeOrder' holds: what is known is in order behind each act, whatever acts there are. -/
import Derived.Test.YtcaaljlhljemoaaGreatG15
import Derived.Test.YtcaaljlhljemoaaGreatP15jg
import Derived.Test.YtcaaljlhljemoaaGreatA15
import Derived.Test.YtcaaljlhljemoaaGreatRows
import Derived.WalkKit
namespace Go.Proofs.YtcaaljlhljemoaaGreat
open Go.Mini Go.Moat Go.RowKit Go.WideShapes
set_option maxRecDepth 100000
theorem own_knob : ownKnob Tryz.prog.godebug = none := by kernel_rfl
theorem laid_out : laidOutB Tryz.prog = true := by kernel_rfl
theorem order_params : Tryz.f4.params = #[22] := by kernel_rfl
theorem order_lifted (os : Os) (started : os.Started) (H : Type) (enc : TypeId × Value → H) :
  ReturnsInHanded {} Tryz.checked os 4 .any (Rows.volumeOrderSpec.pre6 enc Tryz.prog Tryz.f4 Rows.volumeOrderRow.domain false) (Rows.volumeOrderSpec.post enc Tryz.prog Tryz.f4 false true false false) := by
 refine zq2 (C := Tryz.checked) started own_knob laid_out (by kernel_rfl) Tryz.func4 (ChangeSpec.witness6 (enc := enc) (C := Tryz.checked) false ⟨#[], #[.slice none 0 0], []⟩ 8 (by kernel_rfl) (by kernel_rfl) (by kernel_rfl) (by kernel_rfl))
  (rt := 4) (by kernel_rfl) (by kernel_rfl) rfl ?_ (by kernel_rfl) ?_
 ·intro ds hl
  rw [order_params] at hl
  match ds, hl with
  | [d], _ => rfl
 ·intro W base args ds p hn hval hT _
  rw [order_params] at hn hval hT
  obtain ⟨u, rfl⟩ : ∃ u, args = #[u] := by
   obtain ⟨l⟩ := args
   match l, hn with
   | [u], _ => exact ⟨u, rfl⟩
  match ds, hT with
  | d0 :: ds, ⟨p1, p2, ht, _, _⟩ =>
  obtain ⟨xs, s, hp, ρ, h1, h2, h3, h4, h5, h6, h7⟩ := zk0 (P := Tryz.prog) (t := 22) (E := 42) (by kernel_rfl) (d := 4) (cts := actT) (by kernel_rfl) (by kernel_rfl) (by decide) ht (zjz (P := Tryz.prog) (t := 22) (E := 42) (by kernel_rfl) (hval 0 22 u rfl rfl))
  obtain ⟨acts, e1, e2, e3⟩ := zl3 (T := InA hp) xs h6 h7
  obtain ⟨r, h', q', hrun, ⟨rfl, _⟩, _⟩ := zq0 (N := 6000) (T := InA hp) (s := s) (acts := acts) (by omega) e3 (fun hne => by rw [e1]; exact h2 fun c => hne (by subst c; exact List.length_eq_zero_iff.1 e2)) (by omega) hp (allOf hp) (by rw [z0k]; rfl) (zu7 hp)
  exact zmq (S4 6000) (margs := [.sl s.p s.len 20]) (a := s) rfl hrun h3 h4 (.cons _ _ _ _ h5 .nil)
theorem order_holds : Rows.VolumeOrderSaid :=
 OpenClaim.holds_of_wide 4 Tryz.f4 rfl rfl rfl rfl rfl rfl rfl ⟨rfl, rfl, rfl, rfl, rfl⟩ rfl rfl rfl rfl rfl (by kernel_rfl) Tryz.func4 (by kernel_rfl)
  (of_decide_eq_true (by kernel_rfl)) (by unfold Func.isWrapper; first | (rw [if_pos (by decide +kernel)]; kernel_rfl) | (rw [if_neg (by decide +kernel)]; exact ⟨rfl, rfl⟩))
  (fun os started H enc _ => order_lifted os started H enc)
#print axioms order_holds
end Go.Proofs.YtcaaljlhljemoaaGreat
