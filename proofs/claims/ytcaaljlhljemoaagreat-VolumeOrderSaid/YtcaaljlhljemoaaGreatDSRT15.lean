/- slices.Sorted and maps.Clone, as layer 15's printed texts name them. -/
import Derived.Test.YtcaaljlhljemoaaGreatMDSRT
namespace Go.Moat
open Go.Mini
def F_45 (N:Nat) (seq:MV):M (Sl):=sortedK 150 seq
def F_5c (N:Nat) (m:Option Nat):M (Option Nat):=cloneMp m
end Go.Moat
