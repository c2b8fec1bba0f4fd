/- The statement 'FileNone' holds: of an inode that is not there nothing is read, written or cut, and which places may not be. -/
import Derived.Test.YtfieiaijdalkbaaGreatG16
import Derived.Test.YtfieiaijdalkbaaGreatP16zh
import Derived.Test.YtfieiaijdalkbaaGreatMLR
import Derived.Test.YtfieiaijdalkbaaGreatMW4
import Derived.Test.YtfieiaijdalkbaaGreatRows
import Derived.WalkKit
namespace Go.Moat
open Go.Mini
theorem i64_has {n : Int} (h : (MV.int .i64 n).has) : -9223372036854775808 ≤ n ∧ n < 9223372036854775808 := by
 have h4 : IntKind.i64.has n := h
 simp [IntKind.has, IntKind.min, IntKind.max, IntKind.signed, IntKind.bits] at h4
 omega
end Go.Moat
namespace Go.Proofs.YtfieiaijdalkbaaGreat
open Go.Mini Go.Moat Go.RowKit Go.WideShapes
set_option maxRecDepth 100000
theorem own_knob : ownKnob Tryz.prog.godebug = none := by kernel_rfl
theorem laid_out : laidOutB Tryz.prog = true := by kernel_rfl
theorem none_params : Tryz.f6.params = #[3, 3, 3, 23] := by kernel_rfl
theorem none_lifted (os : Os) (started : os.Started) (H : Type) (enc : TypeId × Value → H) :
  ReturnsInHanded {} Tryz.checked os 6 .any (Rows.fileNoneSpec.pre6 enc Tryz.prog Tryz.f6 Rows.fileNoneRow.domain false) (Rows.fileNoneSpec.post enc Tryz.prog Tryz.f6 false true false false) := by
 refine lifted_of (C := Tryz.checked) started own_knob laid_out (by kernel_rfl) Tryz.func6 (ChangeSpec.witness6 (enc := enc) (C := Tryz.checked) false ⟨#[], #[.int .i64 0, .int .i64 0, .int .i64 0, .slice none 0 0], []⟩ 8 (by kernel_rfl) (by kernel_rfl) (by kernel_rfl) (by kernel_rfl))
  (rt := 4) (by kernel_rfl) (by kernel_rfl) rfl ?_ (by kernel_rfl) ?_
 ·intro ds hl
  rw [none_params] at hl
  match ds, hl with
  | [_, _, _, _], _ => rfl
 ·intro W base args ds p hn hval hT _
  rw [none_params] at hn hval hT
  obtain ⟨u0, u1, u2, u3, rfl⟩ : ∃ u0 u1 u2 u3, args = #[u0, u1, u2, u3] := by
   obtain ⟨l⟩ := args
   match l, hn with
   | [u0, u1, u2, u3], _ => exact ⟨u0, u1, u2, u3, rfl⟩
  match ds, hT with
  | _ :: ds, ⟨_, _, _, hT, _⟩ =>
  match ds, hT with
  | _ :: ds, ⟨_, _, _, hT, _⟩ =>
  match ds, hT with
  | _ :: ds, ⟨_, _, _, hT, _⟩ =>
  match ds, hT with
  | _ :: ds, ⟨_, _, ht3, _, _⟩ =>
  obtain ⟨a0, rfl, hx0⟩ := int_open (P := Tryz.prog) (t := 3) (k := .i64) (by kernel_rfl) (hval 0 3 u0 rfl rfl)
  have hv0 := i64_has hx0
  obtain ⟨a1, rfl, hx1⟩ := int_open (P := Tryz.prog) (t := 3) (k := .i64) (by kernel_rfl) (hval 1 3 u1 rfl rfl)
  have hv1 := i64_has hx1
  obtain ⟨a2, rfl, hx2⟩ := int_open (P := Tryz.prog) (t := 3) (k := .i64) (by kernel_rfl) (hval 2 3 u2 rfl rfl)
  have hv2 := i64_has hx2
  obtain ⟨x3, A3, i3, k3⟩ := item_of (byw_in (P := Tryz.prog) (t := 23) (E := 5) (by kernel_rfl) (by kernel_rfl) (by kernel_rfl) ht3 (hval 3 23 u3 rfl rfl))
  obtain ⟨s3, v3, _, r3⟩ := k3 (itemRho [x3]) 0 rfl
  have hall : ∀ x ∈ [x3], ItemOk W.heap x := fun x hx => by
   simp only [List.mem_cons, List.not_mem_nil, or_false] at hx
   subst hx
   exact i3
  have hsz := itemHp_size [x3]
  obtain ⟨r, h', q', hrun, ⟨rfl, _⟩, _⟩ := none_law (N := 6000) (n := a2) (by omega) hv0 hv1 (r3 (itemHp [x3]) (by rw [hsz]; simp) (by rw [itemHp_get]; rfl)) (itemHp [x3]) (allOf (itemHp [x3])) (by rw [stars_one]; rfl) (has_all _)
  exact calls_true (S6 6000) (margs := [.int .i64 a0, .int .i64 a1, .int .i64 a2, .sl s3.p s3.len 1]) (a := (a0, a1, a2, s3)) rfl hrun (HRel.items hall) (items_own hall) (.cons _ _ _ _ (.int _ _) (.cons _ _ _ _ (.int _ _) (.cons _ _ _ _ (.int _ _) (.cons _ _ _ _ v3 .nil))))
theorem none_holds : Rows.FileNoneSaid :=
 OpenClaim.holds_of_wide 6 Tryz.f6 rfl rfl rfl rfl rfl rfl rfl ⟨rfl, rfl, rfl, rfl, rfl⟩ rfl rfl rfl rfl rfl (by kernel_rfl) Tryz.func6 (by kernel_rfl)
  (of_decide_eq_true (by kernel_rfl)) (by unfold Func.isWrapper; first | (rw [if_pos (by decide +kernel)]; kernel_rfl) | (rw [if_neg (by decide +kernel)]; exact ⟨rfl, rfl⟩))
  (fun os started H enc _ => none_lifted os started H enc)
#print axioms none_holds
end Go.Proofs.YtfieiaijdalkbaaGreat
