/- The statement 'CacheNil' holds: a nil cache has nothing, and a nil disk none: any patch, any room. -/
import Derived.Test.YtpnppebjcenkkaaG06
import Derived.Test.YtpnppebjcenkkaaP06b
import Derived.Test.YtpnppebjcenkkaaMLR
import Derived.Test.YtpnppebjcenkkaaMW2
import Derived.Test.YtpnppebjcenkkaaRows
import Derived.WalkKit
namespace Go.Moat
open Go.Mini

theorem nil_law {N : Nat} (hp : plain = true) (hN : 999 < N) (p : Int × Sl × Int) (room : Int) : Tri (stars []) (F_moatlaw06_CacheNil N p room) fun r => pu (r = true) emp := by
  have may : ∀ (i : Int) (h : Hp), F_cache_Cache_may N none i h = some (2, h) := fun i h => rfl
  have get : ∀ (i : Int) (h : Hp), F_cache_Cache_Get N none i h = some ((⟨none, 0⟩, 2), h) := fun i h => by
    unfold F_cache_Cache_Get
    simp only [bd, may]
    rfl
  have put : ∀ (p : Int × Sl × Int) (h : Hp), F_cache_Cache_Put N none p h = some (2, h) := fun p h => by
    unfold F_cache_Cache_Put
    simp only [bd, may]
    rfl
  have pin : ∀ (i : Int) (h : Hp), F_cache_Cache_Pin N none i h = some (2, h) := fun i h => by
    unfold F_cache_Cache_Pin
    rfl
  have unpin : ∀ (i : Int) (h : Hp), F_cache_Cache_Unpin N none i h = some (2, h) := fun i h => by
    unfold F_cache_Cache_Unpin
    rfl
  have flush : ∀ (h : Hp), F_cache_Cache_Flush N none h = some (2, h) := fun h => rfl
  have has : ∀ (h : Hp), F_cache_Cache_Has N none h = some (⟨none, 0⟩, h) := fun h => rfl
  have dirty : ∀ (h : Hp), F_cache_Cache_Dirty N none h = some (⟨none, 0⟩, h) := fun h => rfl
  have new : ∀ (h : Hp), F_cache_New N none room h = some ((none, 2), h) := fun h => rfl
  unfold F_moatlaw06_CacheNil
  refine tri_call [] (shown_spec hp (by omega)) fun r => tri_pu fun hr => ?_
  subst hr
  refine tri_op (get _) (tri_op new ?_)
  refine tri_op (a := true) (fun h => by simp [bd, put, ret]) ?_
  refine tri_op (a := true) (fun h => by simp [bd, pin, ret]) ?_
  refine tri_op (a := true) (fun h => by simp [bd, unpin, ret]) ?_
  refine tri_op (a := true) (fun h => by simp [bd, flush, ret]) ?_
  refine tri_op (a := true) (fun h => by simp [bd, has, ret]) ?_
  refine tri_op (a := true) (fun h => by simp [bd, dirty, ret]) ?_
  exact tri_end [] fun q hq => ⟨rfl, hq⟩
end Go.Moat

namespace Go.Proofs.Ytpnppebjcenkkaa
open Go.Mini Go.Moat Go.RowKit Go.WideShapes
set_option maxRecDepth 100000

theorem own_knob : ownKnob Try.prog.godebug = none := by kernel_rfl
theorem laid_out : laidOutB Try.prog = true := by kernel_rfl
theorem nil_params : Try.f6.params = #[45, 3] := by kernel_rfl

theorem nil_lifted (os : Os) (started : os.Started) (H : Type) (enc : TypeId × Value → H) :
    ReturnsInHanded {} Try.checked os 6 .any (Rows.cacheNilSpec.pre6 enc Try.prog Try.f6 Rows.cacheNilRow.domain false) (Rows.cacheNilSpec.post enc Try.prog Try.f6 false true false false) := by
  refine lifted_of (C := Try.checked) started own_knob laid_out (by kernel_rfl) Try.func6 (ChangeSpec.witness6 (enc := enc) (C := Try.checked) false ⟨#[], #[.agg #[.int .i64 0, .slice none 0 0, .int .u16 0], .int .i64 0], []⟩ 8 (by kernel_rfl) (by kernel_rfl) (by kernel_rfl) (by kernel_rfl))
    (rt := 4) (by kernel_rfl) (by kernel_rfl) rfl ?_ (by kernel_rfl) ?_
  · intro ds hl
    rw [nil_params] at hl
    match ds, hl with
    | [d, e], _ => rfl
  · intro W base args ds p hn hval hT _
    rw [nil_params] at hn hval hT
    obtain ⟨u, v, rfl⟩ : ∃ u v, args = #[u, v] := by
      obtain ⟨l⟩ := args
      match l, hn with
      | [u, v], _ => exact ⟨u, v, rfl⟩
    match ds, hT with
    | d0 :: ds, ⟨p1, p2, ht, _, _⟩ =>
    obtain ⟨x, n, ρ, h4, h5, h6, h7⟩ := struct_outs (P := Try.prog) (t := 45) (by kernel_rfl) (d := 3) (cts := [.int .i64, .sl 1, .int .u16]) (by kernel_rfl) (by kernel_rfl) ht (hval 0 45 u rfl rfl)
    obtain ⟨w, rfl, hw⟩ := int_open (P := Try.prog) (t := 3) (k := .i64) (by kernel_rfl) (hval 1 3 v rfl rfl)
    obtain ⟨y, hy⟩ : ∃ y : Int × Sl × Int, y = x := ⟨x, rfl⟩
    subst hy
    obtain ⟨r, h', q', hrun, ⟨rfl, _⟩, _⟩ := nil_law (N := 1000) rfl (by omega) y w ((Hp.empty.push .dead).holds n) (fun _ => none) (fun _ => rfl) (fun _ _ h => by cases h)
    exact calls_true (S6 1000) (margs := [.agg (HC.enc [.int .i64, .sl 1, .int .u16] y), .int .i64 w]) (a := (y, w)) rfl hrun h4 h5 (.cons _ _ _ _ h6 (.cons _ _ _ _ (.int _ _) .nil))

theorem nil_holds : Rows.CacheNilSaid :=
  OpenClaim.holds_of_wide 6 Try.f6 rfl rfl rfl rfl rfl rfl rfl ⟨rfl, rfl, rfl, rfl, rfl⟩ rfl rfl rfl rfl rfl (by kernel_rfl) Try.func6 (by kernel_rfl)
    (of_decide_eq_true (by kernel_rfl)) (by unfold Func.isWrapper; first | (rw [if_pos (by decide +kernel)]; kernel_rfl) | (rw [if_neg (by decide +kernel)]; exact ⟨rfl, rfl⟩))
    (fun os started H enc _ => nil_lifted os started H enc)

#print axioms nil_holds
end Go.Proofs.Ytpnppebjcenkkaa
