/- slices.Insert and slices.Delete at []int, as the printed texts name them. -/
import Derived.Test.YtpnppebjcenkkaaMINS
namespace Go.Moat
open Go.Mini

/-- slices.Insert[[]int,int] -/
def F_slices_Insert_Lint_int (N : Nat) (s : Sl) (i : Int) (v : Sl) : M (Sl) := insI s i v

/-- slices.Delete[[]int,int] -/
def F_slices_Delete_Lint_int (N : Nat) (s : Sl) (i j : Int) : M (Sl) := delI s i j

end Go.Moat
