/- The statement 'VolumeNil' holds: a nil volume has nothing, and a nil disk none. -/
import Derived.Test.YtcaaljlhljemoaaGreatG15
import Derived.Test.YtcaaljlhljemoaaGreatP15l
import Derived.Test.YtcaaljlhljemoaaGreatMLR
import Derived.Test.YtcaaljlhljemoaaGreatMW2
import Derived.Test.YtcaaljlhljemoaaGreatRows
import Derived.WalkKit
namespace Go.Moat
open Go.Mini

/-- An act's cells. -/
def actT : List CTy := [.int .u8, .int .i64, .int .u16, .int .u8, .sl 1, .int .u8, .int .u8, .int .i64, .int .i64, .int .i64, .int .i64, .int .i64, .int .i64, .int .i64, .int .i64, .int .i64, .int .i64, .int .i64, .int .i64, .int .u64]

theorem nil_law' {N : Nat} (hN : 5000 < N) (k at_ lab c : Int) (b : Sl) (n0 n1 n2 n3 n4 n5 n6 n7 n8 n9 n10 n11 n12 n13 th : Int) : Tri (stars []) (F_moatlaw15_VolumeNil N [.int .u8 k, .int .i64 at_, .int .u16 lab, .int .u8 c, .sl b.p b.len 1, .int .u8 n0, .int .u8 n1, .int .i64 n2, .int .i64 n3, .int .i64 n4, .int .i64 n5, .int .i64 n6, .int .i64 n7, .int .i64 n8, .int .i64 n9, .int .i64 n10, .int .i64 n11, .int .i64 n12, .int .i64 n13, .int .u64 th]) fun r => pu (r = true) emp := by
  have alloc : ∀ (a : Int) (h : Hp), F_volume_Volume_Alloc N none a h = some ((0, 2), h) := fun a h => rfl
  have read : ∀ (b : Int) (h : Hp), F_volume_Volume_Read N none b h = some ((⟨none, 0⟩, 2), h) := fun b h => rfl
  have mk : ∀ (k a : Int) (h : Hp), F_volume_Volume_Make N none k a h = some ((0, 2), h) := fun k a h => rfl
  have has : ∀ (i : Int) (h : Hp), F_volume_Volume_has N none i h = some (2, h) := fun i h => rfl
  have used : ∀ (i : Int) (h : Hp), F_volume_Volume_used N none i h = some (2, h) := fun i h => rfl
  have ino : ∀ (i : Int) (h : Hp), F_volume_Volume_Inode N none i h = some ((inoC Ino.z, 0, 2), h) := fun i h => by
    unfold F_volume_Volume_Inode
    simp only [bd, has]
    rfl
  have mount : ∀ (h : Hp), F_volume_Mount N none h = some ((none, 2), h) := fun h => rfl
  have abort : ∀ (h : Hp), F_volume_Volume_Abort N none h = some ((), h) := fun h => rfl
  have begin : ∀ (h : Hp), F_volume_Volume_Begin N none h = some (2, h) := fun h => rfl
  have sync : ∀ (h : Hp), F_volume_Volume_Sync N none h = some (2, h) := fun h => rfl
  have geo : ∀ (h : Hp), F_volume_Volume_Geo N none h = some ((0, 0, 0, 0), h) := fun h => rfl
  have meta_ : ∀ (h : Hp), F_volume_Volume_Meta N none h = some ((⟨none, 0⟩, ⟨none, 0⟩, ⟨none, 0⟩, ⟨none, 0⟩), h) := fun h => rfl
  have free : ∀ (b : Int) (h : Hp), F_volume_Volume_Free N none b h = some (2, h) := fun b h => by
    unfold F_volume_Volume_Free
    simp only [bd, used]
    rfl
  have write : ∀ (b : Int) (s : Sl) (h : Hp), F_volume_Volume_Write N none b s h = some (2, h) := fun b s h => by
    unfold F_volume_Volume_Write
    have e : ((!Option.isNone (none : Option MA)) && !decide ((s.len : Int) = 64)) = false := by simp
    rw [e, if_neg (show ¬ (false = true) by decide)]
    simp only [bd, used]
    rfl
  have unmake : ∀ (b : Int) (h : Hp), F_volume_Volume_Unmake N none b h = some (2, h) := fun b h => by
    unfold F_volume_Volume_Unmake
    simp only [bd, has]
    rfl
  have set_ : ∀ (b : Int) (n : List MV) (h : Hp), F_volume_Volume_Set N none b n h = some (2, h) := fun b n h => by
    unfold F_volume_Volume_Set
    simp only [bd, has]
    rfl
  have dirty : ∀ (h : Hp), F_volume_Volume_Dirty N none h = some (0, h) := fun h => rfl
  unfold F_moatlaw15_VolumeNil
  refine tri_call [] (shown_spec hN) fun r => tri_pu fun hr => ?_
  subst hr
  refine tri_some (tri_dI (tri_op (alloc _) ?_))
  refine tri_some (tri_dI (tri_op (read _) ?_))
  refine tri_some (tri_dI (tri_some (tri_dI (tri_op (mk _ _) ?_))))
  refine tri_some (tri_dI (tri_op (ino _) ?_))
  refine tri_op (a := ()) (fun h => rfl) ?_
  refine tri_op mount (tri_op abort ?_)
  refine tri_op (a := true) (fun h => by simp [bd, begin, ret]) ?_
  refine tri_op (a := true) (fun h => by simp [bd, sync, ret]) ?_
  refine tri_op (a := true) (fun h => by simp [bd, geo, ret]) ?_
  refine tri_op (a := true) (fun h => by simp [bd, meta_, ret]) ?_
  refine tri_op (a := true) (fun h => show bd (F_volume_Volume_Free N none at_) (fun r => ret (decide (r = 2))) h = some (true, h) by simp [bd, free, ret]) ?_
  refine tri_op (a := true) (fun h => show bd (F_volume_Volume_Write N none at_ b) (fun r => ret (decide (r = 2))) h = some (true, h) by simp [bd, write, ret]) ?_
  refine tri_op (a := true) (fun h => show bd (F_volume_Volume_Unmake N none at_) (fun r => ret (decide (r = 2))) h = some (true, h) by simp [bd, unmake, ret]) ?_
  refine tri_call [] (Q := fun c => pu (c = true) (stars [])) ?_ fun c => tri_pu fun hc => tri_flat ?_
  · refine tri_t rfl (tri_some (tri_dI ?_))
    refine tri_op (a := [.int .u8 n0, .int .u8 n1, .int .i64 n2, .int .i64 n3, .int .i64 n4, .int .i64 n5, .int .i64 n6, .int .i64 n7, .int .i64 n8, .int .i64 n9, .int .i64 n10, .int .i64 n11, .int .i64 n12, .int .i64 n13]) (fun h => rfl) ?_
    exact tri_op (set_ _ _) (tri_end [] fun q hq => ⟨rfl, hq⟩)
  subst hc
  refine tri_op (a := true) (fun h => show bd (F_volume_Volume_Dirty N none) (fun r => ret (decide (r = 0))) h = some (true, h) by simp [bd, dirty, ret]) ?_
  refine tri_call [] (Q := fun c => pu (c = true) (stars [])) ?_ fun c => tri_pu fun hc => tri_flat (tri_end [] fun q hq => ⟨hc, hq⟩)
  refine tri_t rfl ?_
  refine tri_op (a := g6.t) (fun h => rfl) ?_
  refine tri_call [] (Q := fun c => pu (c = 2) (stars [])) ?_ fun c => tri_pu fun hc => tri_flat (tri_end [] fun q hq => ⟨by rw [hc]; rfl, hq⟩)
  show Tri _ (F_volume_Format N none g6.t) _
  unfold F_volume_Format
  refine tri_call [] (plan_spec g6_ok) fun r3 => tri_pu fun h3 => tri_flat ?_
  exact tri_t rfl (tri_end [] fun q hq => ⟨rfl, hq⟩)
theorem nil_law {N : Nat} (hN : 5000 < N) (x : HC actT) : Tri (stars []) (F_moatlaw15_VolumeNil N (HC.enc actT x)) fun r => pu (r = true) emp := by
  obtain ⟨k, at_, lab, c, b, n0, n1, n2, n3, n4, n5, n6, n7, n8, n9, n10, n11, n12, n13, th⟩ := x
  exact nil_law' hN k at_ lab c b n0 n1 n2 n3 n4 n5 n6 n7 n8 n9 n10 n11 n12 n13 th
end Go.Moat

namespace Go.Proofs.YtcaaljlhljemoaaGreat
open Go.Mini Go.Moat Go.RowKit Go.WideShapes
set_option maxRecDepth 100000

theorem own_knob : ownKnob Tryz.prog.godebug = none := by kernel_rfl
theorem laid_out : laidOutB Tryz.prog = true := by kernel_rfl
theorem nil_params : Tryz.f7.params = #[42] := by kernel_rfl

theorem nil_lifted (os : Os) (started : os.Started) (H : Type) (enc : TypeId × Value → H) :
    ReturnsInHanded {} Tryz.checked os 7 .any (Rows.volumeNilSpec.pre6 enc Tryz.prog Tryz.f7 Rows.volumeNilRow.domain false) (Rows.volumeNilSpec.post enc Tryz.prog Tryz.f7 false true false false) := by
  refine lifted_of (C := Tryz.checked) started own_knob laid_out (by kernel_rfl) Tryz.func7 (ChangeSpec.witness6 (enc := enc) (C := Tryz.checked) false ⟨#[], #[.agg #[.int .u8 0, .int .i64 0, .int .u16 0, .int .u8 0, .slice none 0 0, .int .u8 0, .int .u8 0, .int .i64 0, .int .i64 0, .int .i64 0, .int .i64 0, .int .i64 0, .int .i64 0, .int .i64 0, .int .i64 0, .int .i64 0, .int .i64 0, .int .i64 0, .int .i64 0, .int .u64 0]], []⟩ 8 (by kernel_rfl) (by kernel_rfl) (by kernel_rfl) (by kernel_rfl))
    (rt := 4) (by kernel_rfl) (by kernel_rfl) rfl ?_ (by kernel_rfl) ?_
  · intro ds hl
    rw [nil_params] at hl
    match ds, hl with
    | [d], _ => rfl
  · intro W base args ds p hn hval hT _
    rw [nil_params] at hn hval hT
    obtain ⟨u, rfl⟩ : ∃ u, args = #[u] := by
      obtain ⟨l⟩ := args
      match l, hn with
      | [u], _ => exact ⟨u, rfl⟩
    match ds, hT with
    | d0 :: ds, ⟨p1, p2, ht, _, _⟩ =>
    obtain ⟨x, n, ρ, h4, h5, h6, h7⟩ := struct_outs (P := Tryz.prog) (t := 42) (by kernel_rfl) (d := 4) (cts := actT) (by kernel_rfl) (by kernel_rfl) ht (hval 0 42 u rfl rfl)
    obtain ⟨r, h', q', hrun, ⟨rfl, _⟩, _⟩ := nil_law (N := 6000) (by omega) x ((Hp.empty.push .dead).holds n) (fun _ => none) (fun _ => rfl) (fun _ _ h => by cases h)
    exact calls_true (S7 6000) (margs := [.agg (HC.enc actT x)]) (a := HC.enc actT x) rfl hrun h4 h5 (.cons _ _ _ _ h6 .nil)

theorem nil_holds : Rows.VolumeNilSaid :=
  OpenClaim.holds_of_wide 7 Tryz.f7 rfl rfl rfl rfl rfl rfl rfl ⟨rfl, rfl, rfl, rfl, rfl⟩ rfl rfl rfl rfl rfl (by kernel_rfl) Tryz.func7 (by kernel_rfl)
    (of_decide_eq_true (by kernel_rfl)) (by unfold Func.isWrapper; first | (rw [if_pos (by decide +kernel)]; kernel_rfl) | (rw [if_neg (by decide +kernel)]; exact ⟨rfl, rfl⟩))
    (fun os started H enc _ => nil_lifted os started H enc)

#print axioms nil_holds
end Go.Proofs.YtcaaljlhljemoaaGreat
