/- The statement 'FileApart' holds: each block that is used is one file's, once, and in a group of its label; and when all are let go of none is used, whatever acts there are. -/
import Derived.Test.YtfieiaijdalkbaaGreatG16
import Derived.Test.YtfieiaijdalkbaaGreatP16zr
import Derived.Test.YtfieiaijdalkbaaGreatA16
import Derived.Test.YtfieiaijdalkbaaGreatRows
import Derived.WalkKit
namespace Go.Proofs.YtfieiaijdalkbaaGreat
open Go.Mini Go.Moat Go.RowKit Go.WideShapes
set_option maxRecDepth 100000
theorem own_knob : ownKnob Tryz.prog.godebug = none := by kernel_rfl
theorem laid_out : laidOutB Tryz.prog = true := by kernel_rfl
theorem apart_params : Tryz.f8.params = #[47] := by kernel_rfl
theorem apart_lifted (os : Os) (started : os.Started) (H : Type) (enc : TypeId × Value → H) :
  ReturnsInHanded {} Tryz.checked os 8 .any (Rows.fileApartSpec.pre6 enc Tryz.prog Tryz.f8 Rows.fileApartRow.domain false) (Rows.fileApartSpec.post enc Tryz.prog Tryz.f8 false true false false) := by
 refine z123 (C := Tryz.checked) started own_knob laid_out (by kernel_rfl) Tryz.func8 (ChangeSpec.witness6 (enc := enc) (C := Tryz.checked) false ⟨#[], #[.slice none 0 0], []⟩ 8 (by kernel_rfl) (by kernel_rfl) (by kernel_rfl) (by kernel_rfl))
  (rt := 4) (by kernel_rfl) (by kernel_rfl) rfl ?_ (by kernel_rfl) ?_
 ·intro ds hl
  rw [apart_params] at hl
  match ds, hl with
  | [d], _ => rfl
 ·intro W base args ds p hn hval hT _
  rw [apart_params] at hn hval hT
  obtain ⟨u, rfl⟩ : ∃ u, args = #[u] := by
   obtain ⟨l⟩ := args
   match l, hn with
   | [u], _ => exact ⟨u, rfl⟩
  match ds, hT with
  | d0 :: ds, ⟨p1, p2, ht, _, _⟩ =>
  obtain ⟨xs, s, hp, ρ, h1, h2, h3, h4, h5, h6, h7⟩ := zux (P := Tryz.prog) (t := 47) (E := 54) (by kernel_rfl) (d := 4) (cts := zcv) (by kernel_rfl) (by kernel_rfl) (by decide) ht (zuw (P := Tryz.prog) (t := 47) (E := 54) (by kernel_rfl) (hval 0 47 u rfl rfl))
  obtain ⟨acts, e1, e2, e3⟩ := zw3 (T := InA hp) xs h6 h7
  obtain ⟨r, h', q', hrun, ⟨rfl, _⟩, _⟩ := z121 (N := 6000) (Tb := InA hp) (s := s) (acts := acts) (by omega) e3 (fun hne => by rw [e1]; exact h2 fun c => hne (by subst c; exact List.length_eq_zero_iff.1 e2)) (by omega) hp (zjn hp) (by rw [z2z]; rfl) (z17d hp)
  exact zy9 (S8 6000).h (margs := [.sl s.p s.len 5]) (a := s) rfl hrun h3 h4 (.cons _ _ _ _ h5 .nil)
theorem apart_holds : Rows.FileApartSaid :=
 OpenClaim.holds_of_wide 8 Tryz.f8 rfl rfl rfl rfl rfl rfl rfl ⟨rfl, rfl, rfl, rfl, rfl⟩ rfl rfl rfl rfl rfl (by kernel_rfl) Tryz.func8 (by kernel_rfl)
  (of_decide_eq_true (by kernel_rfl)) (by unfold Func.isWrapper; first | (rw [if_pos (by decide +kernel)]; kernel_rfl) | (rw [if_neg (by decide +kernel)]; exact ⟨rfl, rfl⟩))
  (fun os started H enc _ => apart_lifted os started H enc)
#print axioms apart_holds
end Go.Proofs.YtfieiaijdalkbaaGreat
