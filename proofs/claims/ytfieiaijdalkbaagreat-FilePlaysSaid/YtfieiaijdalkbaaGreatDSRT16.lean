/- slices.Sorted and maps.Clone, as layer 16's printed texts name them. -/
import Derived.Test.YtfieiaijdalkbaaGreatMDSRT
namespace Go.Moat
open Go.Mini
def F_4q(N:Nat)(seq:MV):M (Sl):=za6 133 seq
def F_5p(N:Nat)(m:Option Nat):M (Option Nat):=zbi m
end Go.Moat
