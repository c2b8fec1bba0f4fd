/- The statement 'FilePlays' holds: whatever is written, read and cut, each file has the document's bytes, and as many blocks as it needs; and there is no room only when as many blocks are missing. -/
import Derived.Test.YtfieiaijdalkbaaGreatG16
import Derived.Test.YtfieiaijdalkbaaGreatP16wd
import Derived.Test.YtfieiaijdalkbaaGreatA16
import Derived.Test.YtfieiaijdalkbaaGreatRows
import Derived.WalkKit
namespace Go.Proofs.YtfieiaijdalkbaaGreat
open Go.Mini Go.Moat Go.RowKit Go.WideShapes
set_option maxRecDepth 100000
theorem own_knob : ownKnob Tryz.prog.godebug = none := by kernel_rfl
theorem laid_out : laidOutB Tryz.prog = true := by kernel_rfl
theorem plays_params : Tryz.f7.params = #[5, 47] := by kernel_rfl
theorem plays_lifted (os : Os) (started : os.Started) (H : Type) (enc : TypeId × Value → H) :
  ReturnsInHanded {} Tryz.checked os 7 .any (Rows.filePlaysSpec.pre6 enc Tryz.prog Tryz.f7 Rows.filePlaysRow.domain false) (Rows.filePlaysSpec.post enc Tryz.prog Tryz.f7 false true false false) := by
 refine z13k (C := Tryz.checked) started own_knob laid_out (by kernel_rfl) Tryz.func7 (ChangeSpec.witness6 (enc := enc) (C := Tryz.checked) false ⟨#[], #[.int .u8 0, .slice none 0 0], []⟩ 8 (by kernel_rfl) (by kernel_rfl) (by kernel_rfl) (by kernel_rfl))
  (rt := 4) (by kernel_rfl) (by kernel_rfl) rfl ?_ (by kernel_rfl) ?_
 ·intro ds hl
  rw [plays_params] at hl
  match ds, hl with
  | [_, _], _ => rfl
 ·intro W base args ds p hn hval hT _
  rw [plays_params] at hn hval hT
  obtain ⟨u0, u, rfl⟩ : ∃ u0 u, args = #[u0, u] := by
   obtain ⟨l⟩ := args
   match l, hn with
   | [u0, u], _ => exact ⟨u0, u, rfl⟩
  match ds, hT with
  | _ :: ds, ⟨_, _, _, hT, _⟩ =>
  match ds, hT with
  | d0 :: ds, ⟨p1, p2, ht, _, _⟩ =>
  obtain ⟨a0, rfl, hx0⟩ := z16d (P := Tryz.prog) (t := 5) (k := .u8) (by kernel_rfl) (hval 0 5 u0 rfl rfl)
  obtain ⟨a0, rfl, hv0⟩ := zuz hx0
  obtain ⟨xs, s, hp, ρ, h1, h2, h3, h4, h5, h6, h7⟩ := zw5 (P := Tryz.prog) (t := 47) (E := 54) (by kernel_rfl) (d := 4) (cts := zd7) (by kernel_rfl) (by kernel_rfl) (by decide) ht (zw4 (P := Tryz.prog) (t := 47) (E := 54) (by kernel_rfl) (hval 1 47 u rfl rfl))
  obtain ⟨acts, e1, e2, e3⟩ := zxg (T := InA hp) xs h6 h7
  obtain ⟨r, h', q', hrun, ⟨rfl, _⟩, _⟩ := z13j (N := 6000) (Tb := InA hp) (s := s) (acts := acts) (gr := a0) (by omega) hv0 e3 (fun hne => by rw [e1]; exact h2 fun c => hne (by subst c; exact List.length_eq_zero_iff.1 e2)) (by omega) hp (zk7 hp) (by rw [stars_one]; rfl) (z18v hp)
  exact zzn (S7 6000).h (margs := [.int .u8 (a0 : Int), .sl s.p s.len 5]) (a := ((a0 : Int), s)) rfl hrun h3 h4 (.cons _ _ _ _ (.int _ _) (.cons _ _ _ _ h5 .nil))
theorem plays_holds : Rows.FilePlaysSaid :=
 OpenClaim.holds_of_wide 7 Tryz.f7 rfl rfl rfl rfl rfl rfl rfl ⟨rfl, rfl, rfl, rfl, rfl⟩ rfl rfl rfl rfl rfl (by kernel_rfl) Tryz.func7 (by kernel_rfl)
  (of_decide_eq_true (by kernel_rfl)) (by unfold Func.isWrapper; first | (rw [if_pos (by decide +kernel)]; kernel_rfl) | (rw [if_neg (by decide +kernel)]; exact ⟨rfl, rfl⟩))
  (fun os started H enc _ => plays_lifted os started H enc)
#print axioms plays_holds
end Go.Proofs.YtfieiaijdalkbaaGreat
