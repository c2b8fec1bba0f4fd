/- slices.Sorted and maps.Clone, laid at layer 16's program: contracts of the small machine. -/
import Derived.Test.YtfieiaijdalkbaaGreatS16p
import Derived.Test.YtfieiaijdalkbaaGreatMSRT
import Derived.Test.YtfieiaijdalkbaaGreatDSRT16
import Derived.KernelRfl
namespace Go.Proofs.YtfieiaijdalkbaaGreat
open Go.Shelf Go.Mini Go.Moat
theorem z17z(m:Nat):AnyZI.SortsIn Tryz.prog Tryz.laysS_ren Fence.wide m:=
  ⟨fun blk off cap ss W hH hblk hsz=>callsIn_wide.2 (AnyM.slices_Sort_int Tryz.laysO blk off cap ss W hH hblk hsz),
   fun p cap W=>callsIn_wide.2 (AnyM.slices_Sort_int_none Tryz.laysO p cap W)⟩
def E92(N:Nat):Entry:=z5o [.c .any] [.s 0 (.c (.sl 1))] fun a=>F_4q N a
def E84(N:Nat):Entry:=z5o [.c .map] [.s 0 (.c .map)] fun a=>F_5p N a
theorem S92(N:Nat):Sound Tryz.prog 92 (E92 N):=zt2 (rK:=Tryz.laysK_ren) (rS:=Tryz.laysS_ren) {Tryz.laysK with} Tryz.laysS z17z (Tryz.laysO.f5.enters rfl)
theorem S84(N:Nat):Sound Tryz.prog 84 (E84 N):=zr2 Tryz.laysC
end Go.Proofs.YtfieiaijdalkbaaGreat
