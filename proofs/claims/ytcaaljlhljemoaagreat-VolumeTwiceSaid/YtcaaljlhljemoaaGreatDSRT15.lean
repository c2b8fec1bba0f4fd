/- slices.Sorted and maps.Clone, as layer 15's printed texts name them. -/
import Derived.Test.YtcaaljlhljemoaaGreatMDSRT
namespace Go.Moat
open Go.Mini
def F_44(N:Nat)(seq:MV):M (Sl):=z9g 150 seq
def F_5b(N:Nat)(m:Option Nat):M (Option Nat):=zal m
end Go.Moat
