/- The statement 'LabelJoins' holds: whatever numbers and label come in, a label is the join of its categories. -/
import Derived.Test.YtpejkcmkboegdaaDoorO04
import Derived.Test.YtpejkcmkboegdaaDoorO04b
import Derived.Test.YtpejkcmkboegdaaDoorCards
namespace Go.Proofs.YtpejkcmkboegdaaDoor
open Go.Mini Go.Moat Go.RowKit Go.WideShapes
set_option maxRecDepth 100000

theorem joins_params : Tryd.f6.params = #[31, 23] := by kernel_rfl

theorem joins_lifted (os : Os) (started : os.Started) (H : Type) (enc : TypeId × Value → H) :
    ReturnsInHanded {} Tryd.checked os 6 .any (fun w args => (Rows.labelJoinsSpec.pre enc Tryd.prog Tryd.f6 Rows.labelJoinsRow.domain false w args ∧ laidMetH Tryd.prog laidL w) ∧ sizedMet enc Tryd.prog Tryd.f6 (OpenSpec.ofChange Rows.labelJoinsSpec) false w args)
      (Rows.labelJoinsSpec.post enc Tryd.prog Tryd.f6 false true false false) := by
  refine lifted_tied (C := Tryd.checked) (X := fun w => laidMetH Tryd.prog laidL w) started (fun _ _ hh h => h.of_heap hh) own_knob laid_out (by kernel_rfl) Tryd.func6
    (ChangeSpec.witness_shaped (enc := enc) (C := Tryd.checked) (os := os) (X := fun w _ => laidMetH Tryd.prog laidL w) false (World.laidAll Tryd.prog os laidL) #[.slice none 0 0, .int .u16 0] 8 (World.laidAll_os _ _ _)
      (World.shaped_of_ZipB (by kernel_rfl) (by kernel_rfl)) (by kernel_rfl) (by kernel_rfl) (by kernel_rfl)
      (by rw [MakeChecks.laidMetH_plain _ _ _ (by kernel_rfl)]; exact laidMet_laidAll _ (by kernel_rfl) (by kernel_rfl)))
    (rt := 4) (by kernel_rfl) (by kernel_rfl) rfl ?_ (by kernel_rfl) ?_
  · intro ds hl
    rw [joins_params] at hl
    match ds, hl with
    | [d, e], _ => rfl
  · intro W base args ds p hn hval hT hL hsh
    rw [joins_params] at hn hval hT
    obtain ⟨u, v, rfl⟩ : ∃ u v, args = #[u, v] := by
      obtain ⟨l⟩ := args
      match l, hn with
      | [u, v], _ => exact ⟨u, v, rfl⟩
    match ds, hT with
    | d0 :: ds, ⟨p1, p2, ht, _, _⟩ =>
    obtain ⟨a, rfl, ha⟩ := int_open (P := Tryd.prog) (t := 23) (k := .u16) (by kernel_rfl) (hval 1 23 v rfl rfl)
    obtain ⟨a0, a1, m, s0, s1, c0, c1, c2⟩ := vars_open hL hsh
    obtain ⟨ks, s, x, rb, hbr, hx1, hx2, hvr, hx⟩ := slice_gl ht (hval 0 31 u rfl rfl) a0 a1
    obtain ⟨h', hrun⟩ := run_slice hx (fun g T hr => joins_spec (N := 2000) hr (by omega) (lab_of ha)) m
    obtain ⟨hr, hno⟩ := gl_start rfl s0 s1 c0 c1 c2 hx1 hx2 hbr
    exact calls_true (S6 2000) (margs := [.sl s.p s.len 1, .int .u16 a]) (a := (s, a)) rfl hrun hr hno (.cons _ _ _ _ hvr (.cons _ _ _ _ (.int _ _) .nil))

theorem joins_row : Rows.LabelJoinsSaid :=
  OpenClaim.holds_of_wide 6 Tryd.f6 rfl rfl rfl rfl rfl rfl rfl ⟨rfl, rfl, rfl, rfl, rfl⟩ rfl rfl rfl rfl rfl (by kernel_rfl) Tryd.func6 (by kernel_rfl)
    (of_decide_eq_true (by kernel_rfl)) (by unfold Func.isWrapper; first | (rw [if_pos (by decide +kernel)]; kernel_rfl) | (rw [if_neg (by decide +kernel)]; exact ⟨rfl, rfl⟩))
    (fun os started H enc _ => joins_lifted os started H enc)

theorem joins_holds : Rows.LabelJoinsCardSaid :=
  Claim7.holds_tied_plain_at .later [] [.data, .data, .data, .data, .sentinel, .sentinel, .pinned] true (true, "c417201eb3d783debcbc0e2e4f07941c79809183ec7ed771f018481866310294") true joins_row (fun _ h => by cases h) (by kernel_rfl) (fun _ h => by cases h) labelJoins_row_tie rfl ⟨rfl, rfl⟩ (by kernel_rfl) rfl
    (fun f fn hf hfn => by
      obtain rfl : f = 6 := Option.some.inj ((show Tryd.prog.funcNamed "moat/moatlaw04.LabelJoins" = some 6 by kernel_rfl).symm.trans hf) |>.symm
      obtain rfl : fn = Tryd.f6 := (Option.some.inj (Tryd.func6.symm.trans hfn)).symm
      exact ⟨by kernel_rfl, fun j t ht => by
        rw [joins_params] at ht
        have hm : t ∈ [31, 23] := by simpa using Array.mem_of_getElem? ht
        have hall : ([31, 23].all fun u => !Tryd.prog.wantsStandIn u) = true := by kernel_rfl
        exact (show Tryd.prog.wantsStandIn t = false by simpa using List.all_eq_true.1 hall t hm)⟩)
    (by kernel_rfl)

#print axioms joins_holds
end Go.Proofs.YtpejkcmkboegdaaDoor
