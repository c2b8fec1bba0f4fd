/- slices.Sorted and maps.Clone, as layer 16's printed texts name them. -/
import Derived.Test.YtfieiaijdalkbaaGreatMDSRT
namespace Go.Moat
open Go.Mini
def F_4h(N:Nat)(seq:MV):M (Sl):=z9v 133 seq
def F_5g(N:Nat)(m:Option Nat):M (Option Nat):=zb7 m
end Go.Moat
