/- slices.Insert and slices.Delete at []int, as contracts of the small machine: definitions. -/
import Derived.Test.YtcaaljlhljemoaaGreatMA
namespace Go.Mini

/-- slices.Insert(s, i, x): one element, out of a row of its own. -/
def insI (s : Sl) (i : Int) (v : Sl) : M Sl := fun h => match v.p with
  | none => none
  | some vb => match h.get vb.blk with
    | .cells vs false => match vs[vb.off]? with
      | none => none
      | some x => if plain = true ∧ v.len = 1 ∧ isCell x = true ∧ 0 ≤ i ∧ i ≤ s.len ∧ (s.len + 1) * 8 ≤ most then match s.p with
        | none => if s.len = 0 then some (⟨some ⟨h.size, 0⟩, 1⟩, h.push (.cells [x] false)) else none
        | some a => match h.get a.blk with
          | .cells cs false => if a.off + s.len ≤ cs.length ∧ a.blk ≠ vb.blk ∧ ((cs.drop a.off).take s.len).all isCell = true then
              some (⟨some ⟨h.size, 0⟩, s.len + 1⟩, (h.set a.blk .dead).push (.cells (((cs.drop a.off).take s.len).take i.toNat ++ x :: ((cs.drop a.off).take s.len).drop i.toNat) false)) else none
          | _ => none
      else none
    | _ => none

/-- slices.Delete(s, i, j) -/
def delI (s : Sl) (i j : Int) : M Sl := fun h => match s.p with
  | none => none
  | some a => match h.get a.blk with
    | .cells cs false => match intsOf .i64 ((cs.drop a.off).take s.len) with
      | none => none
      | some zs => if 0 ≤ i ∧ i ≤ j ∧ j ≤ s.len ∧ 0 < s.len ∧ a.off + s.len ≤ cs.length then
          some (⟨some ⟨h.size, 0⟩, s.len - (j - i).toNat⟩, (h.set a.blk .dead).push (.cells ((zs.take i.toNat ++ zs.drop j.toNat).map (.int .i64)) false)) else none
    | _ => none

end Go.Mini

/- slices.Insert and slices.Delete at []int, as the printed texts name them. -/
namespace Go.Moat
open Go.Mini

/-- slices.Insert[[]int,int] -/
def F_slices_Insert_Lint_int (N : Nat) (s : Sl) (i : Int) (v : Sl) : M (Sl) := insI s i v

/-- slices.Delete[[]int,int] -/
def F_slices_Delete_Lint_int (N : Nat) (s : Sl) (i j : Int) : M (Sl) := delI s i j

end Go.Moat
