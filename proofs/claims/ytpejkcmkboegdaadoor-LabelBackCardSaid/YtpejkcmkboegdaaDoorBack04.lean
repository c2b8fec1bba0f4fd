/- The statement 'LabelBack' holds: whatever label and text come in, text and list lead back. -/
import Derived.Test.YtpejkcmkboegdaaDoorO04
import Derived.Test.YtpejkcmkboegdaaDoorP04c
import Derived.Test.YtpejkcmkboegdaaDoorCards
namespace Go.Proofs.YtpejkcmkboegdaaDoor
open Go.Mini Go.Moat Go.RowKit Go.WideShapes
set_option maxRecDepth 100000

theorem back_params : Tryd.f4.params = #[23, 9] := by kernel_rfl

theorem back_lifted (os : Os) (started : os.Started) (H : Type) (enc : TypeId × Value → H) :
    ReturnsInHanded {} Tryd.checked os 4 .any (fun w args => (Rows.labelBackSpec.pre enc Tryd.prog Tryd.f4 Rows.labelBackRow.domain false w args ∧ laidMetH Tryd.prog laidL w) ∧ sizedMet enc Tryd.prog Tryd.f4 (OpenSpec.ofChange Rows.labelBackSpec) false w args)
      (Rows.labelBackSpec.post enc Tryd.prog Tryd.f4 false true false false) := by
  refine lifted_tied (C := Tryd.checked) (X := fun w => laidMetH Tryd.prog laidL w) started (fun _ _ hh h => h.of_heap hh) own_knob laid_out (by kernel_rfl) Tryd.func4
    (ChangeSpec.witness_shaped (enc := enc) (C := Tryd.checked) (os := os) (X := fun w _ => laidMetH Tryd.prog laidL w) false (World.laidAll Tryd.prog os laidL) #[.int .u16 0, .string ⟨#[]⟩] 8 (World.laidAll_os _ _ _)
      (World.shaped_of_ZipB (by kernel_rfl) (by kernel_rfl)) (by kernel_rfl) (by kernel_rfl) (by kernel_rfl)
      (by rw [MakeChecks.laidMetH_plain _ _ _ (by kernel_rfl)]; exact laidMet_laidAll _ (by kernel_rfl) (by kernel_rfl)))
    (rt := 4) (by kernel_rfl) (by kernel_rfl) rfl ?_ (by kernel_rfl) ?_
  · intro ds hl
    rw [back_params] at hl
    match ds, hl with
    | [d, e], _ => rfl
  · intro W base args ds p hn hval hT hL hsh
    rw [back_params] at hn hval hT
    obtain ⟨u, v, rfl⟩ : ∃ u v, args = #[u, v] := by
      obtain ⟨l⟩ := args
      match l, hn with
      | [u, v], _ => exact ⟨u, v, rfl⟩
    obtain ⟨a, rfl, ha⟩ := int_open (P := Tryd.prog) (t := 23) (k := .u16) (by kernel_rfl) (hval 0 23 u rfl rfl)
    obtain ⟨b, rfl⟩ := str_open (P := Tryd.prog) (t := 9) (by kernel_rfl) (hval 1 9 v rfl rfl)
    obtain ⟨a0, a1, m, s0, s1, c0, c1, c2⟩ := vars_open hL hsh
    obtain ⟨h', hrun⟩ := run_plain (fun g => back_spec (N := 2000) (s := b) (by omega) (lab_of ha)) m
    obtain ⟨hr, hno⟩ := gl_start (x := .dead) (rb := ⟨0, 0, 0⟩) rfl s0 s1 c0 c1 c2 (fun _ => by simp) (fun _ => by simp) trivial
    exact calls_true (S4 2000) (margs := [.int .u16 a, .str b]) (a := (a, b)) rfl hrun hr hno (.cons _ _ _ _ (.int _ _) (.cons _ _ _ _ (.str _) .nil))

theorem back_row : Rows.LabelBackSaid :=
  OpenClaim.holds_of_wide 4 Tryd.f4 rfl rfl rfl rfl rfl rfl rfl ⟨rfl, rfl, rfl, rfl, rfl⟩ rfl rfl rfl rfl rfl (by kernel_rfl) Tryd.func4 (by kernel_rfl)
    (of_decide_eq_true (by kernel_rfl)) (by unfold Func.isWrapper; first | (rw [if_pos (by decide +kernel)]; kernel_rfl) | (rw [if_neg (by decide +kernel)]; exact ⟨rfl, rfl⟩))
    (fun os started H enc _ => back_lifted os started H enc)

theorem back_holds : Rows.LabelBackCardSaid :=
  Claim7.holds_tied_plain_at .later [] [.data, .data, .data, .data, .sentinel, .sentinel, .pinned] true (true, "c417201eb3d783debcbc0e2e4f07941c79809183ec7ed771f018481866310294") true back_row (fun _ h => by cases h) (by kernel_rfl) (fun _ h => by cases h) labelBack_row_tie rfl ⟨rfl, rfl⟩ (by kernel_rfl) rfl
    (fun f fn hf hfn => by
      obtain rfl : f = 4 := Option.some.inj ((show Tryd.prog.funcNamed "moat/moatlaw04.LabelBack" = some 4 by kernel_rfl).symm.trans hf) |>.symm
      obtain rfl : fn = Tryd.f4 := (Option.some.inj (Tryd.func4.symm.trans hfn)).symm
      exact ⟨by kernel_rfl, fun j t ht => by
        rw [back_params] at ht
        have hm : t ∈ [23, 9] := by simpa using Array.mem_of_getElem? ht
        have hall : ([23, 9].all fun u => !Tryd.prog.wantsStandIn u) = true := by kernel_rfl
        exact (show Tryd.prog.wantsStandIn t = false by simpa using List.all_eq_true.1 hall t hm)⟩)
    (by kernel_rfl)

#print axioms back_holds
end Go.Proofs.YtpejkcmkboegdaaDoor
