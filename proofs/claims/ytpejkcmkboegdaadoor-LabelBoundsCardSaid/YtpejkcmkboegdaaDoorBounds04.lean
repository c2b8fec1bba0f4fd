/- The statement 'LabelBounds' holds: whatever labels come in, join and meet are bounds. -/
import Derived.Test.YtpejkcmkboegdaaDoorO04
import Derived.Test.YtpejkcmkboegdaaDoorL04a
import Derived.Test.YtpejkcmkboegdaaDoorCards
namespace Go.Proofs.YtpejkcmkboegdaaDoor
open Go.Mini Go.Moat Go.RowKit Go.WideShapes
set_option maxRecDepth 100000

theorem bounds_params : Tryd.f7.params = #[23, 23, 23] := by kernel_rfl

theorem bounds_lifted (os : Os) (started : os.Started) (H : Type) (enc : TypeId × Value → H) :
    ReturnsInHanded {} Tryd.checked os 7 .any (fun w args => (Rows.labelBoundsSpec.pre enc Tryd.prog Tryd.f7 Rows.labelBoundsRow.domain false w args ∧ laidMetH Tryd.prog laidL w) ∧ sizedMet enc Tryd.prog Tryd.f7 (OpenSpec.ofChange Rows.labelBoundsSpec) false w args)
      (Rows.labelBoundsSpec.post enc Tryd.prog Tryd.f7 false true false false) := by
  refine lifted_tied (C := Tryd.checked) (X := fun w => laidMetH Tryd.prog laidL w) started (fun _ _ hh h => h.of_heap hh) own_knob laid_out (by kernel_rfl) Tryd.func7
    (ChangeSpec.witness_shaped (enc := enc) (C := Tryd.checked) (os := os) (X := fun w _ => laidMetH Tryd.prog laidL w) false (World.laidAll Tryd.prog os laidL) #[.int .u16 0, .int .u16 0, .int .u16 0] 8 (World.laidAll_os _ _ _)
      (World.shaped_of_ZipB (by kernel_rfl) (by kernel_rfl)) (by kernel_rfl) (by kernel_rfl) (by kernel_rfl)
      (by rw [MakeChecks.laidMetH_plain _ _ _ (by kernel_rfl)]; exact laidMet_laidAll _ (by kernel_rfl) (by kernel_rfl)))
    (rt := 4) (by kernel_rfl) (by kernel_rfl) rfl ?_ (by kernel_rfl) ?_
  · intro ds hl
    rw [bounds_params] at hl
    match ds, hl with
    | [d, e, f], _ => rfl
  · intro W base args ds p hn hval hT hL hsh
    rw [bounds_params] at hn hval hT
    obtain ⟨u, v, z, rfl⟩ : ∃ u v z, args = #[u, v, z] := by
      obtain ⟨l⟩ := args
      match l, hn with
      | [u, v, z], _ => exact ⟨u, v, z, rfl⟩
    obtain ⟨a, rfl, ha⟩ := int_open (P := Tryd.prog) (t := 23) (k := .u16) (by kernel_rfl) (hval 0 23 u rfl rfl)
    obtain ⟨b, rfl, hb⟩ := int_open (P := Tryd.prog) (t := 23) (k := .u16) (by kernel_rfl) (hval 1 23 v rfl rfl)
    obtain ⟨c, rfl, hc⟩ := int_open (P := Tryd.prog) (t := 23) (k := .u16) (by kernel_rfl) (hval 2 23 z rfl rfl)
    obtain ⟨a0, a1, m, s0, s1, c0, c1, c2⟩ := vars_open hL hsh
    obtain ⟨h', hrun⟩ := run_plain (fun g => bounds_spec (N := 2000) (by omega) (lab_of ha) (lab_of hb) (lab_of hc)) m
    obtain ⟨hr, hno⟩ := gl_start (x := .dead) (rb := ⟨0, 0, 0⟩) rfl s0 s1 c0 c1 c2 (fun _ => by simp) (fun _ => by simp) trivial
    exact calls_true (S7 2000) (margs := [.int .u16 a, .int .u16 b, .int .u16 c]) (a := (a, b, c)) rfl hrun hr hno (.cons _ _ _ _ (.int _ _) (.cons _ _ _ _ (.int _ _) (.cons _ _ _ _ (.int _ _) .nil)))

theorem bounds_row : Rows.LabelBoundsSaid :=
  OpenClaim.holds_of_wide 7 Tryd.f7 rfl rfl rfl rfl rfl rfl rfl ⟨rfl, rfl, rfl, rfl, rfl⟩ rfl rfl rfl rfl rfl (by kernel_rfl) Tryd.func7 (by kernel_rfl)
    (of_decide_eq_true (by kernel_rfl)) (by unfold Func.isWrapper; first | (rw [if_pos (by decide +kernel)]; kernel_rfl) | (rw [if_neg (by decide +kernel)]; exact ⟨rfl, rfl⟩))
    (fun os started H enc _ => bounds_lifted os started H enc)

theorem bounds_holds : Rows.LabelBoundsCardSaid :=
  Claim7.holds_tied_plain_at .later [] [.data, .data, .data, .data, .sentinel, .sentinel, .pinned] true (true, "c417201eb3d783debcbc0e2e4f07941c79809183ec7ed771f018481866310294") true bounds_row (fun _ h => by cases h) (by kernel_rfl) (fun _ h => by cases h) labelBounds_row_tie rfl ⟨rfl, rfl⟩ (by kernel_rfl) rfl
    (fun f fn hf hfn => by
      obtain rfl : f = 7 := Option.some.inj ((show Tryd.prog.funcNamed "moat/moatlaw04.LabelBounds" = some 7 by kernel_rfl).symm.trans hf) |>.symm
      obtain rfl : fn = Tryd.f7 := (Option.some.inj (Tryd.func7.symm.trans hfn)).symm
      exact ⟨by kernel_rfl, fun j t ht => by
        rw [bounds_params] at ht
        have hm : t ∈ [23, 23, 23] := by simpa using Array.mem_of_getElem? ht
        have hall : ([23, 23, 23].all fun u => !Tryd.prog.wantsStandIn u) = true := by kernel_rfl
        exact (show Tryd.prog.wantsStandIn t = false by simpa using List.all_eq_true.1 hall t hm)⟩)
    (by kernel_rfl)

#print axioms bounds_holds
end Go.Proofs.YtpejkcmkboegdaaDoor
