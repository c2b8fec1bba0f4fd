/- The statement 'FileParts' holds: bytes that are written, or read, in two parts are as if they were in one. -/
import Derived.Test.YtfieiaijdalkbaaGreatG16
import Derived.Test.YtfieiaijdalkbaaGreatP16zh
import Derived.Test.YtfieiaijdalkbaaGreatMLR
import Derived.Test.YtfieiaijdalkbaaGreatMW4
import Derived.Test.YtfieiaijdalkbaaGreatRows
import Derived.WalkKit
namespace Go.Moat
open Go.Mini
theorem u16_has {n : Int} (h : (MV.int .u16 n).has) : ∃ k : Nat, n = k ∧ k < 65536 := by
 have h4 : IntKind.u16.has n := h
 simp [IntKind.has, IntKind.min, IntKind.max, IntKind.signed, IntKind.bits] at h4
 exact ⟨n.toNat, by omega, by omega⟩
end Go.Moat
namespace Go.Proofs.YtfieiaijdalkbaaGreat
open Go.Mini Go.Moat Go.RowKit Go.WideShapes
set_option maxRecDepth 100000
theorem own_knob : ownKnob Tryz.prog.godebug = none := by kernel_rfl
theorem laid_out : laidOutB Tryz.prog = true := by kernel_rfl
theorem parts_params : Tryz.f5.params = #[22, 22, 23] := by kernel_rfl
theorem parts_lifted (os : Os) (started : os.Started) (H : Type) (enc : TypeId × Value → H) :
  ReturnsInHanded {} Tryz.checked os 5 .any (Rows.filePartsSpec.pre6 enc Tryz.prog Tryz.f5 Rows.filePartsRow.domain false) (Rows.filePartsSpec.post enc Tryz.prog Tryz.f5 false true false false) := by
 refine lifted_of (C := Tryz.checked) started own_knob laid_out (by kernel_rfl) Tryz.func5 (ChangeSpec.witness6 (enc := enc) (C := Tryz.checked) false ⟨#[], #[.int .u16 0, .int .u16 0, .slice none 0 0], []⟩ 8 (by kernel_rfl) (by kernel_rfl) (by kernel_rfl) (by kernel_rfl))
  (rt := 4) (by kernel_rfl) (by kernel_rfl) rfl ?_ (by kernel_rfl) ?_
 ·intro ds hl
  rw [parts_params] at hl
  match ds, hl with
  | [_, _, _], _ => rfl
 ·intro W base args ds p hn hval hT _
  rw [parts_params] at hn hval hT
  obtain ⟨u0, u1, u2, rfl⟩ : ∃ u0 u1 u2, args = #[u0, u1, u2] := by
   obtain ⟨l⟩ := args
   match l, hn with
   | [u0, u1, u2], _ => exact ⟨u0, u1, u2, rfl⟩
  match ds, hT with
  | _ :: ds, ⟨_, _, _, hT, _⟩ =>
  match ds, hT with
  | _ :: ds, ⟨_, _, _, hT, _⟩ =>
  match ds, hT with
  | _ :: ds, ⟨_, _, ht2, _, _⟩ =>
  obtain ⟨a0, rfl, hx0⟩ := int_open (P := Tryz.prog) (t := 22) (k := .u16) (by kernel_rfl) (hval 0 22 u0 rfl rfl)
  obtain ⟨a0, rfl, hv0⟩ := u16_has hx0
  obtain ⟨a1, rfl, hx1⟩ := int_open (P := Tryz.prog) (t := 22) (k := .u16) (by kernel_rfl) (hval 1 22 u1 rfl rfl)
  obtain ⟨a1, rfl, hv1⟩ := u16_has hx1
  obtain ⟨x2, A2, i2, k2⟩ := item_of (byw_in (P := Tryz.prog) (t := 23) (E := 5) (by kernel_rfl) (by kernel_rfl) (by kernel_rfl) ht2 (hval 2 23 u2 rfl rfl))
  obtain ⟨s2, v2, _, r2⟩ := k2 (itemRho [x2]) 0 rfl
  have hall : ∀ x ∈ [x2], ItemOk W.heap x := fun x hx => by
   simp only [List.mem_cons, List.not_mem_nil, or_false] at hx
   subst hx
   exact i2
  have hsz := itemHp_size [x2]
  obtain ⟨r, h', q', hrun, ⟨rfl, _⟩, _⟩ := parts_law (N := 6000) (by omega) hv0 hv1 (r2 (itemHp [x2]) (by rw [hsz]; simp) (by rw [itemHp_get]; rfl)) (itemHp [x2]) (allOf (itemHp [x2])) (by rw [stars_one]; rfl) (has_all _)
  exact calls_true (S5 6000) (margs := [.int .u16 (a0 : Int), .int .u16 (a1 : Int), .sl s2.p s2.len 1]) (a := ((a0 : Int), (a1 : Int), s2)) rfl hrun (HRel.items hall) (items_own hall) (.cons _ _ _ _ (.int _ _) (.cons _ _ _ _ (.int _ _) (.cons _ _ _ _ v2 .nil)))
theorem parts_holds : Rows.FilePartsSaid :=
 OpenClaim.holds_of_wide 5 Tryz.f5 rfl rfl rfl rfl rfl rfl rfl ⟨rfl, rfl, rfl, rfl, rfl⟩ rfl rfl rfl rfl rfl (by kernel_rfl) Tryz.func5 (by kernel_rfl)
  (of_decide_eq_true (by kernel_rfl)) (by unfold Func.isWrapper; first | (rw [if_pos (by decide +kernel)]; kernel_rfl) | (rw [if_neg (by decide +kernel)]; exact ⟨rfl, rfl⟩))
  (fun os started H enc _ => parts_lifted os started H enc)
#print axioms parts_holds
end Go.Proofs.YtfieiaijdalkbaaGreat
