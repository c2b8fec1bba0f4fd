/- The statement 'CacheClean' holds: a flush leaves nothing dirty that is not pinned, all that was put is on the disk then, and another one writes nothing: any room, any acts. -/
import Derived.Test.YtpnppebjcenkkaaG06
import Derived.Test.YtpnppebjcenkkaaL06e
import Derived.Test.YtpnppebjcenkkaaMW2
import Derived.Test.YtpnppebjcenkkaaRows
import Derived.WalkKit
namespace Go.Proofs.Ytpnppebjcenkkaa
open Go.Mini Go.Moat Go.RowKit Go.WideShapes
set_option maxRecDepth 100000

theorem own_knob : ownKnob Try.prog.godebug = none := by kernel_rfl
theorem laid_out : laidOutB Try.prog = true := by kernel_rfl
theorem clean_params : Try.f7.params = #[5, 22] := by kernel_rfl

theorem u8_has {w : Int} (h : IntKind.u8.has w) : 0 ≤ w ∧ w < 256 := by
  simp [IntKind.has, IntKind.min, IntKind.max, IntKind.signed, IntKind.bits] at h
  omega

/-- The blocks that came in. -/
theorem in_acts {s : Sl} {x : Blk} {n : Nat} {ys : List ActT} (h2 : s = ⟨none, 0⟩ ∨ s.p = some ⟨0, 0⟩) (h3 : ys ≠ [] → x = .cells (rowsOf actT ys) true) (h1 : s.len = ys.length) : ∃ q, stars [InA s actT ys] q ∧ Has ((Hp.empty.push x).holds n) q := by
  by_cases hy : ys = []
  · refine ⟨fun _ => none, ?_, fun b x h => by cases h⟩
    rw [stars_one]
    exact .inl ⟨hy, fun _ => rfl⟩
  · refine ⟨fun b => if b = 0 then some x else none, ?_, fun b y h => ?_⟩
    · rw [stars_one]
      refine .inr ⟨?_, ?_⟩
      · rcases h2 with rfl | h2
        · exact absurd (List.length_eq_zero_iff.1 h1.symm) hy
        · exact h2
      · rw [← h3 hy]
        exact fun _ => rfl
    · dsimp only at h
      split at h
      · rename_i hb
        cases h
        subst hb
        refine ⟨by rw [holds_size', Hp.size_push]; simp only [Hp.empty]; omega, ?_⟩
        rw [holds_get', if_neg (by simp [Hp.empty]), Hp.get_push, if_pos (show 0 = Hp.empty.size from rfl)]
      · cases h

theorem acts_c {ys : List ActT} (h : ∀ m ∈ rowsOf actT ys, m.has) : ∀ y ∈ ys, 0 ≤ y.2.2.1 ∧ y.2.2.1 < 256 := by
  intro y hy
  have h2 : MV.int .u8 y.2.2.1 ∈ rowsOf actT ys := by
    unfold rowsOf
    exact List.mem_flatMap.2 ⟨y, hy, by show MV.int .u8 y.2.2.1 ∈ [MV.int .u8 y.1, MV.int .i64 y.2.1, MV.int .u8 y.2.2.1, MV.sl y.2.2.2.p y.2.2.2.len 1]; simp⟩
  exact u8_has (h _ h2)

theorem clean_lifted (os : Os) (started : os.Started) (H : Type) (enc : TypeId × Value → H) :
    ReturnsInHanded {} Try.checked os 7 .any (Rows.cacheCleanSpec.pre6 enc Try.prog Try.f7 Rows.cacheCleanRow.domain false) (Rows.cacheCleanSpec.post enc Try.prog Try.f7 false true false false) := by
  refine lifted_of (C := Try.checked) started own_knob laid_out (by kernel_rfl) Try.func7 (ChangeSpec.witness6 (enc := enc) (C := Try.checked) false ⟨#[], #[.int .u8 0, .slice none 0 0], []⟩ 8 (by kernel_rfl) (by kernel_rfl) (by kernel_rfl) (by kernel_rfl))
    (rt := 4) (by kernel_rfl) (by kernel_rfl) rfl ?_ (by kernel_rfl) ?_
  · intro ds hl
    rw [clean_params] at hl
    match ds, hl with
    | [d, e], _ => rfl
  · intro W base args ds p hn hval hT _
    rw [clean_params] at hn hval hT
    obtain ⟨u, v, rfl⟩ : ∃ u v, args = #[u, v] := by
      obtain ⟨l⟩ := args
      match l, hn with
      | [u, v], _ => exact ⟨u, v, rfl⟩
    match ds, hT with
    | d0 :: d1 :: ds, ⟨_, _, _, ⟨p1, p2, ht, _, _⟩, _⟩ =>
    obtain ⟨xs, s, x, n, ρ, h1, _, h2, h3, h4, h5, h6, h7⟩ := slice_outs (P := Try.prog) (t := 22) (E := 35) (by kernel_rfl) (d := 3) (cts := actT) (by kernel_rfl) (by kernel_rfl) (by decide) ht (slice_shape (P := Try.prog) (E := 35) (by kernel_rfl) (hval 1 22 v rfl rfl))
    obtain ⟨w, rfl, hw⟩ := int_open (P := Try.prog) (t := 5) (k := .u8) (by kernel_rfl) (hval 0 5 u rfl rfl)
    obtain ⟨ys, hys⟩ : ∃ ys : List ActT, ys = xs := ⟨xs, rfl⟩
    subst hys
    obtain ⟨q, hq, hh⟩ := in_acts (n := n) h2 h3 h1
    obtain ⟨r, h', q', hrun, ⟨rfl, _⟩, _⟩ := clean_law (N := 1000) rfl (by omega) (u8_has hw) h1 (acts_c h7) _ q hq hh
    exact calls_true (S7 1000) (margs := [.int .u8 w, .sl s.p s.len 4]) (a := (w, s)) rfl hrun h4 h5 (.cons _ _ _ _ (.int _ _) (.cons _ _ _ _ h6 .nil))

theorem clean_holds : Rows.CacheCleanSaid :=
  OpenClaim.holds_of_wide 7 Try.f7 rfl rfl rfl rfl rfl rfl rfl ⟨rfl, rfl, rfl, rfl, rfl⟩ rfl rfl rfl rfl rfl (by kernel_rfl) Try.func7 (by kernel_rfl)
    (of_decide_eq_true (by kernel_rfl)) (by unfold Func.isWrapper; first | (rw [if_pos (by decide +kernel)]; kernel_rfl) | (rw [if_neg (by decide +kernel)]; exact ⟨rfl, rfl⟩))
    (fun os started H enc _ => clean_lifted os started H enc)

#print axioms clean_holds
end Go.Proofs.Ytpnppebjcenkkaa
