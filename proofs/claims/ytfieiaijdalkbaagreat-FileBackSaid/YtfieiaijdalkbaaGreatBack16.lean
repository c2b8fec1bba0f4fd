/- The statement 'FileBack' holds: what was written is read, all bytes ahead and behind as they were, and other files' not changed. -/
import Derived.Test.YtfieiaijdalkbaaGreatG16
import Derived.Test.YtfieiaijdalkbaaGreatP16zh
import Derived.Test.YtfieiaijdalkbaaGreatMLR
import Derived.Test.YtfieiaijdalkbaaGreatMW4
import Derived.Test.YtfieiaijdalkbaaGreatRows
import Derived.WalkKit
namespace Go.Moat
open Go.Mini
theorem u16_has {n : Int} (h : (MV.int .u16 n).has) : ∃ k : Nat, n = k ∧ k < 65536 := by
 have h4 : IntKind.u16.has n := h
 simp [IntKind.has, IntKind.min, IntKind.max, IntKind.signed, IntKind.bits] at h4
 exact ⟨n.toNat, by omega, by omega⟩
end Go.Moat
namespace Go.Proofs.YtfieiaijdalkbaaGreat
open Go.Mini Go.Moat Go.RowKit Go.WideShapes
set_option maxRecDepth 100000
theorem own_knob : ownKnob Tryz.prog.godebug = none := by kernel_rfl
theorem laid_out : laidOutB Tryz.prog = true := by kernel_rfl
theorem back_params : Tryz.f3.params = #[22, 22, 23, 23] := by kernel_rfl
theorem back_lifted (os : Os) (started : os.Started) (H : Type) (enc : TypeId × Value → H) :
  ReturnsInHanded {} Tryz.checked os 3 .any (Rows.fileBackSpec.pre6 enc Tryz.prog Tryz.f3 Rows.fileBackRow.domain false) (Rows.fileBackSpec.post enc Tryz.prog Tryz.f3 false true false false) := by
 refine lifted_of (C := Tryz.checked) started own_knob laid_out (by kernel_rfl) Tryz.func3 (ChangeSpec.witness6 (enc := enc) (C := Tryz.checked) false ⟨#[], #[.int .u16 0, .int .u16 0, .slice none 0 0, .slice none 0 0], []⟩ 8 (by kernel_rfl) (by kernel_rfl) (by kernel_rfl) (by kernel_rfl))
  (rt := 4) (by kernel_rfl) (by kernel_rfl) rfl ?_ (by kernel_rfl) ?_
 ·intro ds hl
  rw [back_params] at hl
  match ds, hl with
  | [_, _, _, _], _ => rfl
 ·intro W base args ds p hn hval hT _
  rw [back_params] at hn hval hT
  obtain ⟨u1, u2, u3, u4, rfl⟩ : ∃ u1 u2 u3 u4, args = #[u1, u2, u3, u4] := by
   obtain ⟨l⟩ := args
   match l, hn with
   | [u1, u2, u3, u4], _ => exact ⟨u1, u2, u3, u4, rfl⟩
  match ds, hT with
  | _ :: ds, ⟨_, _, _, hT, _⟩ =>
  match ds, hT with
  | _ :: ds, ⟨_, _, _, hT, _⟩ =>
  match ds, hT with
  | _ :: ds, ⟨_, _, ht3, hT, _⟩ =>
  match ds, hT with
  | _ :: ds, ⟨_, _, ht4, _, _⟩ =>
  obtain ⟨a, rfl, ha1⟩ := int_open (P := Tryz.prog) (t := 22) (k := .u16) (by kernel_rfl) (hval 0 22 u1 rfl rfl)
  obtain ⟨a, rfl, ha⟩ := u16_has ha1
  obtain ⟨b, rfl, hb1⟩ := int_open (P := Tryz.prog) (t := 22) (k := .u16) (by kernel_rfl) (hval 1 22 u2 rfl rfl)
  obtain ⟨b, rfl, hb⟩ := u16_has hb1
  have w3 := byw_in (P := Tryz.prog) (t := 23) (E := 5) (by kernel_rfl) (by kernel_rfl) (by kernel_rfl) ht3 (hval 2 23 u3 rfl rfl)
  have w4 := byw_in (P := Tryz.prog) (t := 23) (E := 5) (by kernel_rfl) (by kernel_rfl) (by kernel_rfl) ht4 (hval 3 23 u4 rfl rfl)
  obtain ⟨x3, A, i3, k3⟩ := item_of w3
  obtain ⟨x4, B, i4, k4⟩ := item_of w4
  obtain ⟨s3, v3, _, r3⟩ := k3 (itemRho [x3, x4]) 0 rfl
  obtain ⟨s4, v4, _, r4⟩ := k4 (itemRho [x3, x4]) 1 rfl
  have hall : ∀ x ∈ [x3, x4], ItemOk W.heap x := fun x hx => by
   simp only [List.mem_cons, List.not_mem_nil, or_false] at hx
   rcases hx with rfl | rfl
   ·exact i3
   ·exact i4
  have hsz := itemHp_size [x3, x4]
  obtain ⟨r, h', q', hrun, ⟨rfl, _⟩, _⟩ := back_law (N := 6000) (by omega) ha hb (r3 (itemHp [x3, x4]) (by rw [hsz]; simp) (by rw [itemHp_get]; rfl)) (r4 (itemHp [x3, x4]) (by rw [hsz]; simp) (by rw [itemHp_get]; rfl)) (itemHp [x3, x4]) (allOf (itemHp [x3, x4])) (by rw [stars_one]; rfl) (has_all _)
  exact calls_true (S3 6000) (margs := [.int .u16 (a : Int), .int .u16 (b : Int), .sl s3.p s3.len 1, .sl s4.p s4.len 1]) (a := ((a : Int), (b : Int), s3, s4)) rfl hrun (HRel.items hall) (items_own hall) (.cons _ _ _ _ (.int _ _) (.cons _ _ _ _ (.int _ _) (.cons _ _ _ _ v3 (.cons _ _ _ _ v4 .nil))))
theorem back_holds : Rows.FileBackSaid :=
 OpenClaim.holds_of_wide 3 Tryz.f3 rfl rfl rfl rfl rfl rfl rfl ⟨rfl, rfl, rfl, rfl, rfl⟩ rfl rfl rfl rfl rfl (by kernel_rfl) Tryz.func3 (by kernel_rfl)
  (of_decide_eq_true (by kernel_rfl)) (by unfold Func.isWrapper; first | (rw [if_pos (by decide +kernel)]; kernel_rfl) | (rw [if_neg (by decide +kernel)]; exact ⟨rfl, rfl⟩))
  (fun os started H enc _ => back_lifted os started H enc)
#print axioms back_holds
end Go.Proofs.YtfieiaijdalkbaaGreat
