/- The statement 'LabelTexts' holds: whatever label and text come in, the text of the one and the label of the other are the document's. -/
import Derived.Test.YtpejkcmkboegdaaDoorO04
import Derived.Test.YtpejkcmkboegdaaDoorP04c
import Derived.Test.YtpejkcmkboegdaaDoorCards
namespace Go.Proofs.YtpejkcmkboegdaaDoor
open Go.Mini Go.Moat Go.RowKit Go.WideShapes
set_option maxRecDepth 100000

theorem texts_params : Tryd.f3.params = #[23, 9] := by kernel_rfl

theorem texts_lifted (os : Os) (started : os.Started) (H : Type) (enc : TypeId × Value → H) :
    ReturnsInHanded {} Tryd.checked os 3 .any (fun w args => (Rows.labelTextsSpec.pre enc Tryd.prog Tryd.f3 Rows.labelTextsRow.domain false w args ∧ laidMetH Tryd.prog laidL w) ∧ sizedMet enc Tryd.prog Tryd.f3 (OpenSpec.ofChange Rows.labelTextsSpec) false w args)
      (Rows.labelTextsSpec.post enc Tryd.prog Tryd.f3 false true false false) := by
  refine lifted_tied (C := Tryd.checked) (X := fun w => laidMetH Tryd.prog laidL w) started (fun _ _ hh h => h.of_heap hh) own_knob laid_out (by kernel_rfl) Tryd.func3
    (ChangeSpec.witness_shaped (enc := enc) (C := Tryd.checked) (os := os) (X := fun w _ => laidMetH Tryd.prog laidL w) false (World.laidAll Tryd.prog os laidL) #[.int .u16 0, .string ⟨#[]⟩] 8 (World.laidAll_os _ _ _)
      (World.shaped_of_ZipB (by kernel_rfl) (by kernel_rfl)) (by kernel_rfl) (by kernel_rfl) (by kernel_rfl)
      (by rw [MakeChecks.laidMetH_plain _ _ _ (by kernel_rfl)]; exact laidMet_laidAll _ (by kernel_rfl) (by kernel_rfl)))
    (rt := 4) (by kernel_rfl) (by kernel_rfl) rfl ?_ (by kernel_rfl) ?_
  · intro ds hl
    rw [texts_params] at hl
    match ds, hl with
    | [d, e], _ => rfl
  · intro W base args ds p hn hval hT hL hsh
    rw [texts_params] at hn hval hT
    obtain ⟨u, v, rfl⟩ : ∃ u v, args = #[u, v] := by
      obtain ⟨l⟩ := args
      match l, hn with
      | [u, v], _ => exact ⟨u, v, rfl⟩
    obtain ⟨a, rfl, ha⟩ := int_open (P := Tryd.prog) (t := 23) (k := .u16) (by kernel_rfl) (hval 0 23 u rfl rfl)
    obtain ⟨b, rfl⟩ := str_open (P := Tryd.prog) (t := 9) (by kernel_rfl) (hval 1 9 v rfl rfl)
    obtain ⟨a0, a1, m, s0, s1, c0, c1, c2⟩ := vars_open hL hsh
    obtain ⟨h', hrun⟩ := run_plain (fun g => texts_spec (N := 2000) (s := b) (by omega) (lab_of ha)) m
    obtain ⟨hr, hno⟩ := gl_start (x := .dead) (rb := ⟨0, 0, 0⟩) rfl s0 s1 c0 c1 c2 (fun _ => by simp) (fun _ => by simp) trivial
    exact calls_true (S3 2000) (margs := [.int .u16 a, .str b]) (a := (a, b)) rfl hrun hr hno (.cons _ _ _ _ (.int _ _) (.cons _ _ _ _ (.str _) .nil))

theorem texts_row : Rows.LabelTextsSaid :=
  OpenClaim.holds_of_wide 3 Tryd.f3 rfl rfl rfl rfl rfl rfl rfl ⟨rfl, rfl, rfl, rfl, rfl⟩ rfl rfl rfl rfl rfl (by kernel_rfl) Tryd.func3 (by kernel_rfl)
    (of_decide_eq_true (by kernel_rfl)) (by unfold Func.isWrapper; first | (rw [if_pos (by decide +kernel)]; kernel_rfl) | (rw [if_neg (by decide +kernel)]; exact ⟨rfl, rfl⟩))
    (fun os started H enc _ => texts_lifted os started H enc)

theorem texts_holds : Rows.LabelTextsCardSaid :=
  Claim7.holds_tied_plain_at .later [] [.data, .data, .data, .data, .sentinel, .sentinel, .pinned] true (true, "c417201eb3d783debcbc0e2e4f07941c79809183ec7ed771f018481866310294") true texts_row (fun _ h => by cases h) (by kernel_rfl) (fun _ h => by cases h) labelTexts_row_tie rfl ⟨rfl, rfl⟩ (by kernel_rfl) rfl
    (fun f fn hf hfn => by
      obtain rfl : f = 3 := Option.some.inj ((show Tryd.prog.funcNamed "moat/moatlaw04.LabelTexts" = some 3 by kernel_rfl).symm.trans hf) |>.symm
      obtain rfl : fn = Tryd.f3 := (Option.some.inj (Tryd.func3.symm.trans hfn)).symm
      exact ⟨by kernel_rfl, fun j t ht => by
        rw [texts_params] at ht
        have hm : t ∈ [23, 9] := by simpa using Array.mem_of_getElem? ht
        have hall : ([23, 9].all fun u => !Tryd.prog.wantsStandIn u) = true := by kernel_rfl
        exact (show Tryd.prog.wantsStandIn t = false by simpa using List.all_eq_true.1 hall t hm)⟩)
    (by kernel_rfl)

#print axioms texts_holds
end Go.Proofs.YtpejkcmkboegdaaDoor
