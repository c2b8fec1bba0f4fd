/- The statement 'VolumeZero' holds: a block that is taken is bytes 0, whatever acts came ahead of it. -/
import Derived.Test.YtcaaljlhljemoaaGreatG15
import Derived.Test.YtcaaljlhljemoaaGreatP15s
import Derived.Test.YtcaaljlhljemoaaGreatMLR
import Derived.Test.YtcaaljlhljemoaaGreatMW3
import Derived.Test.YtcaaljlhljemoaaGreatRows
import Derived.WalkKit
namespace Go.Moat
open Go.Mini
def actT : List CTy := [.int .u8, .int .i64, .int .u16, .int .u8, .sl 1, .int .u8, .int .u8, .int .i64, .int .i64, .int .i64, .int .i64, .int .i64, .int .i64, .int .i64, .int .i64, .int .i64, .int .i64, .int .i64, .int .i64, .int .u64]
theorem u8_has {n : Int} (h : (MV.int .u8 n).has) : ∃ k : Nat, n = k ∧ k < 256 := by
 have h4 : IntKind.u8.has n := h
 simp [IntKind.has, IntKind.min, IntKind.max, IntKind.signed, IntKind.bits] at h4
 exact ⟨n.toNat, by omega, by omega⟩
theorem u16_has {n : Int} (h : (MV.int .u16 n).has) : ∃ k : Nat, n = k ∧ k < 65536 := by
 have h4 : IntKind.u16.has n := h
 simp [IntKind.has, IntKind.min, IntKind.max, IntKind.signed, IntKind.bits] at h4
 exact ⟨n.toNat, by omega, by omega⟩
theorem act_one {T : HA} (x : HC actT) (h1 : ∀ m ∈ HC.enc actT x, m.has) (h2 : ∀ p ln, MV.sl p ln 1 ∈ HC.enc actT x → ∃ bs : List UInt8, RdC T ⟨p, ln⟩ 1 (bytesOf bs)) : ∃ A : ActS, actC A = HC.enc actT x ∧ ActIn T A := by
 obtain ⟨k, at_, lab, c, b, n0, n1, n2, n3, n4, n5, n6, n7, n8, n9, n10, n11, n12, n13, th⟩ := x
 have hm : ∀ m ∈ ([.int .u8 k, .int .i64 at_, .int .u16 lab, .int .u8 c, .sl b.p b.len 1, .int .u8 n0, .int .u8 n1, .int .i64 n2, .int .i64 n3, .int .i64 n4, .int .i64 n5, .int .i64 n6, .int .i64 n7, .int .i64 n8, .int .i64 n9, .int .i64 n10, .int .i64 n11, .int .i64 n12, .int .i64 n13, .int .u64 th] : List MV), m.has := h1
 obtain ⟨k', e1, b1⟩ := u8_has (hm (.int .u8 k) (by simp))
 obtain ⟨lab', e2, b2⟩ := u16_has (hm (.int .u16 lab) (by simp))
 obtain ⟨c', e3, b3⟩ := u8_has (hm (.int .u8 c) (by simp))
 obtain ⟨n0', e4, b4⟩ := u8_has (hm (.int .u8 n0) (by simp))
 obtain ⟨n1', e5, b5⟩ := u8_has (hm (.int .u8 n1) (by simp))
 obtain ⟨bs, hbs⟩ := h2 b.p b.len (by
  show MV.sl b.p b.len 1 ∈ ([.int .u8 k, .int .i64 at_, .int .u16 lab, .int .u8 c, .sl b.p b.len 1, .int .u8 n0, .int .u8 n1, .int .i64 n2, .int .i64 n3, .int .i64 n4, .int .i64 n5, .int .i64 n6, .int .i64 n7, .int .i64 n8, .int .i64 n9, .int .i64 n10, .int .i64 n11, .int .i64 n12, .int .i64 n13, .int .u64 th] : List MV)
  simp)
 refine ⟨⟨k', at_, lab', c', b, bs, ⟨n0', n1', ⟨[n2, n3, n4, n5, n6, n7, n8, n9, n10, n11, n12, n13], rfl⟩⟩, th⟩, ?_, ⟨b1, b2, b3, hbs⟩⟩
 show ([.int .u8 (k' : Int), .int .i64 at_, .int .u16 (lab' : Int), .int .u8 (c' : Int), .sl b.p b.len 1, .int .u8 (n0' : Int), .int .u8 (n1' : Int), .int .i64 n2, .int .i64 n3, .int .i64 n4, .int .i64 n5, .int .i64 n6, .int .i64 n7, .int .i64 n8, .int .i64 n9, .int .i64 n10, .int .i64 n11, .int .i64 n12, .int .i64 n13, .int .u64 th] : List MV) = _
 rw [← e1, ← e2, ← e3, ← e4, ← e5]
 rfl
theorem act_all {T : HA} : ∀ (xs : List (HC actT)), (∀ m ∈ rowsOf actT xs, m.has) → (∀ p ln, MV.sl p ln 1 ∈ rowsOf actT xs → ∃ bs : List UInt8, RdC T ⟨p, ln⟩ 1 (bytesOf bs)) → ∃ acts : List ActS, catL actC acts = rowsOf actT xs ∧ acts.length = xs.length ∧ ∀ A ∈ acts, ActIn T A
 | [], _, _ => ⟨[], rfl, rfl, fun _ h => by cases h⟩
 | x :: xs, h1, h2 => by
  have e : rowsOf actT (x :: xs) = HC.enc actT x ++ rowsOf actT xs := rfl
  rw [e] at h1 h2
  obtain ⟨A, h3, h4⟩ := act_one (T := T) x (fun m hm => h1 m (List.mem_append.2 (.inl hm))) fun p ln hm => h2 p ln (List.mem_append.2 (.inl hm))
  obtain ⟨acts, h5, h6, h7⟩ := act_all xs (fun m hm => h1 m (List.mem_append.2 (.inr hm))) fun p ln hm => h2 p ln (List.mem_append.2 (.inr hm))
  refine ⟨A :: acts, ?_, by simp [h6], fun B hB => ?_⟩
  ·rw [e, ← h3, ← h5]
   rfl
  ·rcases List.mem_cons.1 hB with rfl | hB
   ·exact h4
   ·exact h7 B hB
end Go.Moat
namespace Go.Proofs.YtcaaljlhljemoaaGreat
open Go.Mini Go.Moat Go.RowKit Go.WideShapes
set_option maxRecDepth 100000
theorem own_knob : ownKnob Tryz.prog.godebug = none := by kernel_rfl
theorem laid_out : laidOutB Tryz.prog = true := by kernel_rfl
theorem zero_params : Tryz.f3.params = #[22, 24] := by kernel_rfl
theorem zero_lifted (os : Os) (started : os.Started) (H : Type) (enc : TypeId × Value → H) :
  ReturnsInHanded {} Tryz.checked os 3 .any (Rows.volumeZeroSpec.pre6 enc Tryz.prog Tryz.f3 Rows.volumeZeroRow.domain false) (Rows.volumeZeroSpec.post enc Tryz.prog Tryz.f3 false true false false) := by
 refine lifted_of (C := Tryz.checked) started own_knob laid_out (by kernel_rfl) Tryz.func3 (ChangeSpec.witness6 (enc := enc) (C := Tryz.checked) false ⟨#[], #[.slice none 0 0, .int .u16 0], []⟩ 8 (by kernel_rfl) (by kernel_rfl) (by kernel_rfl) (by kernel_rfl))
  (rt := 4) (by kernel_rfl) (by kernel_rfl) rfl ?_ (by kernel_rfl) ?_
 ·intro ds hl
  rw [zero_params] at hl
  match ds, hl with
  | [d, e], _ => rfl
 ·intro W base args ds p hn hval hT _
  rw [zero_params] at hn hval hT
  obtain ⟨u, v, rfl⟩ : ∃ u v, args = #[u, v] := by
   obtain ⟨l⟩ := args
   match l, hn with
   | [u, v], _ => exact ⟨u, v, rfl⟩
  match ds, hT with
  | d0 :: ds, ⟨p1, p2, ht, _, _⟩ =>
  obtain ⟨xs, s, hp, ρ, h1, h2, h3, h4, h5, h6, h7⟩ := slice_bytes (P := Tryz.prog) (t := 22) (E := 42) (by kernel_rfl) (d := 4) (cts := actT) (by kernel_rfl) (by kernel_rfl) (by decide) ht (slice_shape (P := Tryz.prog) (t := 22) (E := 42) (by kernel_rfl) (hval 0 22 u rfl rfl))
  obtain ⟨a, rfl, ha⟩ := int_open (P := Tryz.prog) (t := 24) (k := .u16) (by kernel_rfl) (hval 1 24 v rfl rfl)
  obtain ⟨a, rfl, hlt⟩ := u16_has ha
  obtain ⟨acts, e1, e2, e3⟩ := act_all (T := InA hp) xs h6 h7
  obtain ⟨r, h', q', hrun, ⟨rfl, _⟩, _⟩ := zero_law (N := 6000) (T := InA hp) (s := s) (acts := acts) (by omega) e3 (fun hne => by rw [e1]; exact h2 fun c => hne (by subst c; exact List.length_eq_zero_iff.1 e2)) (by omega) hlt hp (allOf hp) (by rw [stars_one]; rfl) (has_all hp)
  exact calls_true (S3 6000) (margs := [.sl s.p s.len 20, .int .u16 (a : Int)]) (a := (s, (a : Int))) rfl hrun h3 h4 (.cons _ _ _ _ h5 (.cons _ _ _ _ (.int _ _) .nil))
theorem zero_holds : Rows.VolumeZeroSaid :=
 OpenClaim.holds_of_wide 3 Tryz.f3 rfl rfl rfl rfl rfl rfl rfl ⟨rfl, rfl, rfl, rfl, rfl⟩ rfl rfl rfl rfl rfl (by kernel_rfl) Tryz.func3 (by kernel_rfl)
  (of_decide_eq_true (by kernel_rfl)) (by unfold Func.isWrapper; first | (rw [if_pos (by decide +kernel)]; kernel_rfl) | (rw [if_neg (by decide +kernel)]; exact ⟨rfl, rfl⟩))
  (fun os started H enc _ => zero_lifted os started H enc)
#print axioms zero_holds
end Go.Proofs.YtcaaljlhljemoaaGreat
