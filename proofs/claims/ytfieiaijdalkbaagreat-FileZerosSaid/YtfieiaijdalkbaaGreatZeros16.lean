/- The statement 'FileZeros' holds: what is cut off is gone: a file that is longer again has bytes 0 there. -/
import Derived.Test.YtfieiaijdalkbaaGreatG16
import Derived.Test.YtfieiaijdalkbaaGreatP16zh
import Derived.Test.YtfieiaijdalkbaaGreatMLR
import Derived.Test.YtfieiaijdalkbaaGreatMW4
import Derived.Test.YtfieiaijdalkbaaGreatRows
import Derived.WalkKit
namespace Go.Moat
open Go.Mini
theorem u16_has {n : Int} (h : (MV.int .u16 n).has) : ∃ k : Nat, n = k ∧ k < 65536 := by
 have h4 : IntKind.u16.has n := h
 simp [IntKind.has, IntKind.min, IntKind.max, IntKind.signed, IntKind.bits] at h4
 exact ⟨n.toNat, by omega, by omega⟩
end Go.Moat
namespace Go.Proofs.YtfieiaijdalkbaaGreat
open Go.Mini Go.Moat Go.RowKit Go.WideShapes
set_option maxRecDepth 100000
theorem own_knob : ownKnob Tryz.prog.godebug = none := by kernel_rfl
theorem laid_out : laidOutB Tryz.prog = true := by kernel_rfl
theorem zeros_params : Tryz.f4.params = #[23, 22, 22, 22] := by kernel_rfl
theorem zeros_lifted (os : Os) (started : os.Started) (H : Type) (enc : TypeId × Value → H) :
  ReturnsInHanded {} Tryz.checked os 4 .any (Rows.fileZerosSpec.pre6 enc Tryz.prog Tryz.f4 Rows.fileZerosRow.domain false) (Rows.fileZerosSpec.post enc Tryz.prog Tryz.f4 false true false false) := by
 refine lifted_of (C := Tryz.checked) started own_knob laid_out (by kernel_rfl) Tryz.func4 (ChangeSpec.witness6 (enc := enc) (C := Tryz.checked) false ⟨#[], #[.slice none 0 0, .int .u16 0, .int .u16 0, .int .u16 0], []⟩ 8 (by kernel_rfl) (by kernel_rfl) (by kernel_rfl) (by kernel_rfl))
  (rt := 4) (by kernel_rfl) (by kernel_rfl) rfl ?_ (by kernel_rfl) ?_
 ·intro ds hl
  rw [zeros_params] at hl
  match ds, hl with
  | [_, _, _, _], _ => rfl
 ·intro W base args ds p hn hval hT _
  rw [zeros_params] at hn hval hT
  obtain ⟨u0, u1, u2, u3, rfl⟩ : ∃ u0 u1 u2 u3, args = #[u0, u1, u2, u3] := by
   obtain ⟨l⟩ := args
   match l, hn with
   | [u0, u1, u2, u3], _ => exact ⟨u0, u1, u2, u3, rfl⟩
  match ds, hT with
  | _ :: ds, ⟨_, _, ht0, _, _⟩ =>
  obtain ⟨x0, A0, i0, k0⟩ := item_of (byw_in (P := Tryz.prog) (t := 23) (E := 5) (by kernel_rfl) (by kernel_rfl) (by kernel_rfl) ht0 (hval 0 23 u0 rfl rfl))
  obtain ⟨a1, rfl, hx1⟩ := int_open (P := Tryz.prog) (t := 22) (k := .u16) (by kernel_rfl) (hval 1 22 u1 rfl rfl)
  obtain ⟨a1, rfl, hv1⟩ := u16_has hx1
  obtain ⟨a2, rfl, hx2⟩ := int_open (P := Tryz.prog) (t := 22) (k := .u16) (by kernel_rfl) (hval 2 22 u2 rfl rfl)
  obtain ⟨a2, rfl, hv2⟩ := u16_has hx2
  obtain ⟨a3, rfl, hx3⟩ := int_open (P := Tryz.prog) (t := 22) (k := .u16) (by kernel_rfl) (hval 3 22 u3 rfl rfl)
  obtain ⟨a3, rfl, hv3⟩ := u16_has hx3
  obtain ⟨s0, v0, _, r0⟩ := k0 (itemRho [x0]) 0 rfl
  have hall : ∀ x ∈ [x0], ItemOk W.heap x := fun x hx => by
   simp only [List.mem_cons, List.not_mem_nil, or_false] at hx
   subst hx
   exact i0
  have hsz := itemHp_size [x0]
  obtain ⟨r, h', q', hrun, ⟨rfl, _⟩, _⟩ := zeros_law (N := 6000) (by omega) hv1 hv2 hv3 (r0 (itemHp [x0]) (by rw [hsz]; simp) (by rw [itemHp_get]; rfl)) (itemHp [x0]) (allOf (itemHp [x0])) (by rw [stars_one]; rfl) (has_all _)
  exact calls_true (S4 6000) (margs := [.sl s0.p s0.len 1, .int .u16 (a1 : Int), .int .u16 (a2 : Int), .int .u16 (a3 : Int)]) (a := (s0, (a1 : Int), (a2 : Int), (a3 : Int))) rfl hrun (HRel.items hall) (items_own hall) (.cons _ _ _ _ v0 (.cons _ _ _ _ (.int _ _) (.cons _ _ _ _ (.int _ _) (.cons _ _ _ _ (.int _ _) .nil))))
theorem zeros_holds : Rows.FileZerosSaid :=
 OpenClaim.holds_of_wide 4 Tryz.f4 rfl rfl rfl rfl rfl rfl rfl ⟨rfl, rfl, rfl, rfl, rfl⟩ rfl rfl rfl rfl rfl (by kernel_rfl) Tryz.func4 (by kernel_rfl)
  (of_decide_eq_true (by kernel_rfl)) (by unfold Func.isWrapper; first | (rw [if_pos (by decide +kernel)]; kernel_rfl) | (rw [if_neg (by decide +kernel)]; exact ⟨rfl, rfl⟩))
  (fun os started H enc _ => zeros_lifted os started H enc)
#print axioms zeros_holds
end Go.Proofs.YtfieiaijdalkbaaGreat
