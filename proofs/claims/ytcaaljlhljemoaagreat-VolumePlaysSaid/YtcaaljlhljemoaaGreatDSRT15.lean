/- slices.Sorted and maps.Clone, as layer 15's printed texts name them. -/
import Derived.Test.YtcaaljlhljemoaaGreatMDSRT
namespace Go.Moat
open Go.Mini
def F_4l(N:Nat)(seq:MV):M (Sl):=z9o 150 seq
def F_5s(N:Nat)(m:Option Nat):M (Option Nat):=zas m
end Go.Moat
