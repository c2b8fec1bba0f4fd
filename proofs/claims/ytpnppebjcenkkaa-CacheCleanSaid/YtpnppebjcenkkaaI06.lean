/- slices.Insert and slices.Delete at []int, laid at layer 06's program: contracts of the small machine. -/
import Derived.Test.YtpnppebjcenkkaaProg
import Derived.Test.YtpnppebjcenkkaaMINT
import Derived.Test.YtpnppebjcenkkaaMINS
import Derived.KernelRfl
namespace Go.Proofs.Ytpnppebjcenkkaa
open Go.Shelf Go.Mini Go.Moat
def lays21_ren : Go.Shelf.Ren := ⟨fun | 21 => 36 | 27 => 44 | 28 => 45 | 35 => 57 | 39 => 64 | n => n, fun | 22 => 36 | 3 => 3 | 4 => 4 | 0 => 0 | n => n, fun | n => n⟩
theorem lays21 : Go.Proofs.Lays2.n21 Try.prog lays21_ren := {
  mixed := by kernel_rfl
  f21 := Try.func36.trans (congrArg some (by kernel_rfl))
  f27 := Try.func44.trans (congrArg some (by kernel_rfl))
  f28 := Try.func45.trans (congrArg some (by kernel_rfl))
  f35 := Try.func57.trans (congrArg some (by kernel_rfl))
  f39 := Try.func64.trans (congrArg some (by kernel_rfl))
  t0 := Try.underlying0
  a0 := Try.isAgg0
  z0 := Try.sizeOf0
  v0 := Try.zeroValue0
  t3 := Try.underlying3
  a3 := Try.isAgg3
  z3 := Try.sizeOf3
  v3 := Try.zeroValue3
  t4 := Try.underlying4
  a4 := Try.isAgg4
  z4 := Try.sizeOf4
  v4 := Try.zeroValue4
  t22 := Try.underlying36
  a22 := Try.isAgg36
  z22 := Try.sizeOf36
  v22 := Try.zeroValue36
  i3 := by kernel_rfl }
def lays23_ren : Go.Shelf.Ren := ⟨fun | 23 => 43 | n => n, fun | 22 => 36 | 3 => 3 | 4 => 4 | 0 => 0 | n => n, fun | n => n⟩
theorem lays23 : Go.Proofs.Lays2.n23 Try.prog lays23_ren := {
  mixed := by kernel_rfl
  f23 := Try.func43.trans (congrArg some (by kernel_rfl))
  t0 := Try.underlying0
  a0 := Try.isAgg0
  z0 := Try.sizeOf0
  v0 := Try.zeroValue0
  t3 := Try.underlying3
  a3 := Try.isAgg3
  z3 := Try.sizeOf3
  v3 := Try.zeroValue3
  t4 := Try.underlying4
  a4 := Try.isAgg4
  z4 := Try.sizeOf4
  v4 := Try.zeroValue4
  t22 := Try.underlying36
  a22 := Try.isAgg36
  z22 := Try.sizeOf36
  v22 := Try.zeroValue36
  i3 := by kernel_rfl }

def E36 (N : Nat) : Entry := entry [.c (.sl 1), .c (.int .i64), .c (.sl 1)] [.s 0 (.c (.sl 1))] fun a => F_slices_Insert_Lint_int N a.1 a.2.1 a.2.2
def E43 (N : Nat) : Entry := entry [.c (.sl 1), .c (.int .i64), .c (.int .i64)] [.s 0 (.c (.sl 1))] fun a => F_slices_Delete_Lint_int N a.1 a.2.1 a.2.2
theorem S36 (N : Nat) : Sound Try.prog 36 (E36 N) := sound_ins lays21 rfl (by kernel_rfl) (by kernel_rfl)
theorem S43 (N : Nat) : Sound Try.prog 43 (E43 N) := sound_del lays23 rfl (by kernel_rfl) (by kernel_rfl)
end Go.Proofs.Ytpnppebjcenkkaa
