/- slices.Sorted and maps.Clone, laid at layer 15's program: contracts of the small machine. -/
import Derived.Test.YtcaaljlhljemoaaGreatS15p
import Derived.Test.YtcaaljlhljemoaaGreatMSRT
import Derived.Test.YtcaaljlhljemoaaGreatDSRT15
import Derived.KernelRfl
namespace Go.Proofs.YtcaaljlhljemoaaGreat
open Go.Shelf Go.Mini Go.Moat
theorem z12w(m:Nat):AnyZI.SortsIn Tryz.prog Tryz.laysS_ren Fence.wide m:=
  ⟨fun blk off cap ss W hH hblk hsz=>callsIn_wide.2 (AnyM.slices_Sort_int Tryz.laysO blk off cap ss W hH hblk hsz),
   fun p cap W=>callsIn_wide.2 (AnyM.slices_Sort_int_none Tryz.laysO p cap W)⟩
def E118(N:Nat):Entry:=z8f [.c .any] [.s 0 (.c (.sl 1))] fun a=>F_44 N a
def E110(N:Nat):Entry:=z8f [.c .map] [.s 0 (.c .map)] fun a=>F_5b N a
theorem S118(N:Nat):Sound Tryz.prog 118 (E118 N):=zpm (rK:=Tryz.laysK_ren) (rS:=Tryz.laysS_ren) {Tryz.laysK with} Tryz.laysS z12w (Tryz.laysO.f5.enters rfl)
theorem S110(N:Nat):Sound Tryz.prog 110 (E110 N):=znq Tryz.laysC
end Go.Proofs.YtcaaljlhljemoaaGreat
