/- The statement 'ProcNil' holds: a nil table has nothing, whatever act comes in. -/
import Derived.Test.YtajahediblcfeaaGNil
import Derived.Test.YtajahediblcfeaaRows
import Derived.Test.YtajahediblcfeaaMV
import Derived.WalkKit
namespace Go.Proofs.Ytajahediblcfeaa
open Go.Mini Go.RowKit Go.WideShapes
set_option maxRecDepth 100000

theorem shown_true : (F8 1000 Hp.empty).map (·.1) = some true := by kernel_rfl

theorem shown_run : ∃ h, F8 1000 Hp.empty = some (true, h) := by
  have := shown_true
  cases h : F8 1000 Hp.empty with
  | none => rw [h] at this; cases this
  | some x =>
    rw [h] at this
    obtain ⟨b, h'⟩ := x
    simp at this
    exact ⟨h', by rw [this]⟩

theorem nil_does (N : Nat) (a : Int × Int × Int × Int × Int) (h : Hp) : ∃ i, F14 N none a h = some ((i, 2), h) := by
  unfold F14
  by_cases h0 : a.1.tmod 4 = 0
  · simp only [h0, decide_true, if_true]; exact ⟨_, rfl⟩
  · by_cases h1 : a.1.tmod 4 = 1
    · simp only [h1, decide_true, if_true]; exact ⟨_, rfl⟩
    · by_cases h2 : a.1.tmod 4 = 2
      · simp only [h2, decide_true, if_true]; exact ⟨_, rfl⟩
      · simp only [h0, h1, h2, decide_false]; exact ⟨_, rfl⟩

theorem nil_run (a : Int × Int × Int × Int × Int) : ∃ h, F7 1000 a Hp.empty = some (true, h) := by
  obtain ⟨h, hs⟩ := shown_run
  obtain ⟨i, hd⟩ := nil_does 1000 a h
  refine ⟨h, ?_⟩
  unfold F7
  simp only [bd, hs]
  rw [show F14 1000 none (a.1, a.2.1, a.2.2.1, a.2.2.2.1, a.2.2.2.2) h = some ((i, 2), h) from hd]
  rfl

theorem own_knob : ownKnob Try.prog.godebug = none := by kernel_rfl
theorem laid_out : laidOutB Try.prog = true := by kernel_rfl
theorem nil_params : Try.f7.params = #[38] := by kernel_rfl

theorem nil_lifted (os : Os) (started : os.Started) (H : Type) (enc : TypeId × Value → H) :
    ReturnsInHanded {} Try.checked os 7 .any (Rows.procNilSpec.pre6 enc Try.prog Try.f7 Rows.procNilRow.domain false) (Rows.procNilSpec.post enc Try.prog Try.f7 false true false false) := by
  refine lifted_of (C := Try.checked) started own_knob laid_out (by kernel_rfl) Try.func7 (ChangeSpec.witness6 (enc := enc) (C := Try.checked) false ⟨#[], #[.agg #[.int .u8 0, .int .i64 0, .int .i64 0, .int .i64 0, .int .u16 0]], []⟩ 8 (by kernel_rfl) (by kernel_rfl) (by kernel_rfl) (by kernel_rfl))
    (rt := 4) (by kernel_rfl) (by kernel_rfl) rfl ?_ (by kernel_rfl) ?_
  · intro ds hl
    rw [nil_params] at hl
    match ds, hl with
    | [d], _ => rfl
  · intro W base args ds p hn hval _ _
    rw [nil_params] at hn hval
    obtain ⟨v, rfl⟩ : ∃ v, args = #[v] := by
      obtain ⟨l⟩ := args
      match l, hn with
      | [v], _ => exact ⟨v, rfl⟩
    have hv := hval 0 38 v rfl rfl
    obtain ⟨m, x, h1, h2, _⟩ := struct_open (P := Try.prog) (ρ := fun _ => none) (t := 38) (by kernel_rfl) (ts := [5, 3, 3, 3, 36]) (by kernel_rfl) (by kernel_rfl) (cts := [.int .u8, .int .i64, .int .i64, .int .i64, .int .u16]) (by kernel_rfl) rfl hv
    obtain ⟨h', hrun⟩ := nil_run x
    refine calls_true (S7 1000) (margs := [m]) (a := x) h2 hrun (HRel.none _) own_empty (.cons _ _ _ _ h1 .nil)

theorem nil_holds : Rows.ProcNilSaid :=
  OpenClaim.holds_of_wide 7 Try.f7 rfl rfl rfl rfl rfl rfl rfl ⟨rfl, rfl, rfl, rfl, rfl⟩ rfl rfl rfl rfl rfl (by kernel_rfl) Try.func7 (by kernel_rfl)
    (of_decide_eq_true (by kernel_rfl)) (by unfold Func.isWrapper; first | (rw [if_pos (by decide +kernel)]; kernel_rfl) | (rw [if_neg (by decide +kernel)]; exact ⟨rfl, rfl⟩))
    (fun os started H enc _ => nil_lifted os started H enc)

#print axioms nil_holds
end Go.Proofs.Ytajahediblcfeaa
