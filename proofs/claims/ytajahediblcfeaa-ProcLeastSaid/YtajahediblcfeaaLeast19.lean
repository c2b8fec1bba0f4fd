/- The statement 'ProcLeast' holds: what is opened has the least number that is not open, whatever bytes come in. -/
import Derived.Test.YtajahediblcfeaaG19
import Derived.Test.YtajahediblcfeaaL19a
import Derived.Test.YtajahediblcfeaaMY
import Derived.Test.YtajahediblcfeaaRows
import Derived.Test.YtajahediblcfeaaMV
import Derived.WalkKit
namespace Go.Proofs.Ytajahediblcfeaa
open Go.Mini Go.Moat Go.RowKit Go.WideShapes
set_option maxRecDepth 100000

theorem own_knob : ownKnob Try.prog.godebug = none := by kernel_rfl
theorem laid_out : laidOutB Try.prog = true := by kernel_rfl
theorem least_params : Try.f3.params = #[22, 5] := by kernel_rfl

theorem least_lifted (os : Os) (started : os.Started) (H : Type) (enc : TypeId × Value → H) :
    ReturnsInHanded {} Try.checked os 3 .any (Rows.procLeastSpec.pre6 enc Try.prog Try.f3 Rows.procLeastRow.domain false) (Rows.procLeastSpec.post enc Try.prog Try.f3 false true false false) := by
  refine lifted_of (C := Try.checked) started own_knob laid_out (by kernel_rfl) Try.func3 (ChangeSpec.witness6 (enc := enc) (C := Try.checked) false ⟨#[], #[.slice none 0 0, .int .u8 0], []⟩ 8 (by kernel_rfl) (by kernel_rfl) (by kernel_rfl) (by kernel_rfl))
    (rt := 4) (by kernel_rfl) (by kernel_rfl) rfl ?_ (by kernel_rfl) ?_
  · intro ds hl
    rw [least_params] at hl
    match ds, hl with
    | [d, e], _ => rfl
  · intro W base args ds p hn hval hT _
    rw [least_params] at hn hval hT
    obtain ⟨v, u, rfl⟩ : ∃ v u, args = #[v, u] := by
      obtain ⟨l⟩ := args
      match l, hn with
      | [v, u], _ => exact ⟨v, u, rfl⟩
    match ds, hT with
    | d :: ds, ⟨p1, p2, ht, _, _⟩ =>
    obtain ⟨xs, s, x, rb, h1, _, h3, h4, h5, h6, h7⟩ := slice_in (P := Try.prog) (t := 22) (E := 5) (by kernel_rfl) (d := 3) (cts := [.int .u8]) (by kernel_rfl) (by kernel_rfl) (by decide) ht (slice_shape (P := Try.prog) (E := 5) (by kernel_rfl) (hval 0 22 v rfl rfl))
    obtain ⟨w, rfl, hw⟩ := int_open (P := Try.prog) (t := 5) (k := .u8) (by kernel_rfl) (hval 1 5 u rfl rfl)
    obtain ⟨ys, hys⟩ : ∃ ys : List Int, ys = xs := ⟨xs, rfl⟩
    have hrows : rowsOf [.int .u8] xs = ys.map (.int .u8) := by rw [hys]; exact rows_int .u8 xs
    rw [hrows] at h3 h7
    have hb : ∀ y ∈ ys, 0 ≤ y ∧ y < 256 := by
      intro y hy
      have h8 : IntKind.u8.has y := h7 _ (List.mem_map_of_mem hy)
      simp [IntKind.has, IntKind.min, IntKind.max, IntKind.signed, IntKind.bits] at h8
      omega
    have hw2 : 0 ≤ w ∧ w < 256 := by
      have h8 : IntKind.u8.has w := hw
      simp [IntKind.has, IntKind.min, IntKind.max, IntKind.signed, IntKind.bits] at h8
      omega
    obtain ⟨r, h', hrun, rfl⟩ := least_run hb hw2 h3
    exact calls_true (S3 1000) (margs := [.sl s.p s.len 1, .int .u8 w]) (a := (s, w)) rfl hrun h4 h5 (.cons _ _ _ _ h6 (.cons _ _ _ _ (.int _ _) .nil))

theorem least_holds : Rows.ProcLeastSaid :=
  OpenClaim.holds_of_wide 3 Try.f3 rfl rfl rfl rfl rfl rfl rfl ⟨rfl, rfl, rfl, rfl, rfl⟩ rfl rfl rfl rfl rfl (by kernel_rfl) Try.func3 (by kernel_rfl)
    (of_decide_eq_true (by kernel_rfl)) (by unfold Func.isWrapper; first | (rw [if_pos (by decide +kernel)]; kernel_rfl) | (rw [if_neg (by decide +kernel)]; exact ⟨rfl, rfl⟩))
    (fun os started H enc _ => least_lifted os started H enc)

#print axioms least_holds
end Go.Proofs.Ytajahediblcfeaa
