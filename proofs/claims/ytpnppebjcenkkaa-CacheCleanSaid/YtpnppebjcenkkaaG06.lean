/- PRINTED by gen.py: that the code comes to what is printed. Not trusted: Lean checks it. -/
import Derived.Test.YtpnppebjcenkkaaMU
import Derived.Test.YtpnppebjcenkkaaMINS
import Derived.Test.YtpnppebjcenkkaaD06
import Derived.Test.YtpnppebjcenkkaaI06
import Derived.Test.YtpnppebjcenkkaaProg
import Derived.KernelRfl
namespace Go.Proofs.Ytpnppebjcenkkaa
open Go.Mini Go.Moat
set_option maxRecDepth 100000

/-- moat/disk.New -/
def H9 : List Hint := [.no]
def E9 (N : Nat) : Entry := entry [.c (.int .i64)] [.s 2 (.c .ptr), .s 3 (.c (.int .i64))] fun a => F_disk_New N a
noncomputable def C9 : MC := mcOf (comp Try.prog 14 [] [] (bodyOf Try.f9) H9)
theorem S9 (N : Nat) : Sound Try.prog 9 (E9 N) :=
  sound_of (C := []) (N := N) (ntmps := 14) (priv := []) (pu := []) (hs := H9) (mc := C9) (c := bodyOf Try.f9) (allS_get (trivial : AllS Try.prog [])) Try.func9 (by kernel_rfl) (by kernel_rfl) (by kernel_rfl) (Nat.le_of_ble_eq_true (by kernel_rfl)) (by kernel_rfl) (by kernel_rfl) (fun a => by kernel_rfl)

/-- moat/cache.New -/
def H10 : List Hint := [.no, .no]
def E10 (N : Nat) : Entry := entry [.c .ptr, .c (.int .i64)] [.s 4 (.c .ptr), .s 5 (.c (.int .i64))] fun a => F_cache_New N a.1 a.2
noncomputable def C10 : MC := mcOf (comp Try.prog 19 [] [] (bodyOf Try.f10) H10)
theorem S10 (N : Nat) : Sound Try.prog 10 (E10 N) :=
  sound_of (C := []) (N := N) (ntmps := 19) (priv := []) (pu := []) (hs := H10) (mc := C10) (c := bodyOf Try.f10) (allS_get (trivial : AllS Try.prog [])) Try.func10 (by kernel_rfl) (by kernel_rfl) (by kernel_rfl) (Nat.le_of_ble_eq_true (by kernel_rfl)) (by kernel_rfl) (by kernel_rfl) (fun a => by kernel_rfl)

/-- moat/moatlaw06.patch -/
def H17 : List Hint := [.join [(.normal, ⟨[], []⟩)], .loop ⟨[.s 10 (.c (.int .i64))], []⟩, .no, .no]
def E17 (N : Nat) : Entry := entry [.c (.int .i64), .c (.int .u8)] [.m 4 (.st [.int .i64, .sl 1, .int .u16])] fun a => F_moatlaw06_patch N a.1 a.2
noncomputable def C17 : MC := mcOf (comp Try.prog 23 [4] [4] (bodyOf Try.f17) H17)
theorem S17 (N : Nat) : Sound Try.prog 17 (E17 N) :=
  sound_of (C := []) (N := N) (ntmps := 23) (priv := [4]) (pu := [4]) (hs := H17) (mc := C17) (c := bodyOf Try.f17) (allS_get (trivial : AllS Try.prog [])) Try.func17 (by kernel_rfl) (by kernel_rfl) (by kernel_rfl) (Nat.le_of_ble_eq_true (by kernel_rfl)) (by kernel_rfl) (by kernel_rfl) (fun a => by kernel_rfl)

/-- (*moat/disk.Disk).Len -/
def H34 : List Hint := [.no]
def E34 (N : Nat) : Entry := entry [.c .ptr] [.s 2 (.c (.int .i64))] fun a => F_disk_Disk_Len N a
noncomputable def C34 : MC := mcOf (comp Try.prog 10 [] [] (bodyOf Try.f34) H34)
theorem S34 (N : Nat) : Sound Try.prog 34 (E34 N) :=
  sound_of (C := []) (N := N) (ntmps := 10) (priv := []) (pu := []) (hs := H34) (mc := C34) (c := bodyOf Try.f34) (allS_get (trivial : AllS Try.prog [])) Try.func34 (by kernel_rfl) (by kernel_rfl) (by kernel_rfl) (Nat.le_of_ble_eq_true (by kernel_rfl)) (by kernel_rfl) (by kernel_rfl) (fun a => by kernel_rfl)

/-- (*moat/cache.Cache).may -/
def H25 : List Hint := [.no, .no, .no]
def E25 (N : Nat) : Entry := entry [.c .ptr, .c (.int .i64)] [.s 4 (.c (.int .i64))] fun a => F_cache_Cache_may N a.1 a.2
noncomputable def C25 : MC := mcOf (comp Try.prog 20 [] [] (bodyOf Try.f25) H25)
theorem S25 (N : Nat) : Sound Try.prog 25 (E25 N) :=
  sound_of (C := [(34, E34 N)]) (N := N) (ntmps := 20) (priv := []) (pu := []) (hs := H25) (mc := C25) (c := bodyOf Try.f25) (allS_get (⟨S34 N, trivial⟩ : AllS Try.prog [(34, E34 N)])) Try.func25 (by kernel_rfl) (by kernel_rfl) (by kernel_rfl) (Nat.le_of_ble_eq_true (by kernel_rfl)) (by kernel_rfl) (by kernel_rfl) (fun a => by kernel_rfl)

/-- (*moat/disk.Disk).there -/
def H39 : List Hint := []
def E39 (N : Nat) : Entry := entry [.c .ptr, .c (.int .i64)] [.s 4 (.c .bool)] fun a => F_disk_Disk_there N a.1 a.2
noncomputable def C39 : MC := mcOf (comp Try.prog 13 [] [] (bodyOf Try.f39) H39)
theorem S39 (N : Nat) : Sound Try.prog 39 (E39 N) :=
  sound_of (C := [(34, E34 N)]) (N := N) (ntmps := 13) (priv := []) (pu := []) (hs := H39) (mc := C39) (c := bodyOf Try.f39) (allS_get (⟨S34 N, trivial⟩ : AllS Try.prog [(34, E34 N)])) Try.func39 (by kernel_rfl) (by kernel_rfl) (by kernel_rfl) (Nat.le_of_ble_eq_true (by kernel_rfl)) (by kernel_rfl) (by kernel_rfl) (fun a => by kernel_rfl)

/-- (*moat/disk.Disk).power -/
def H38 : List Hint := [.no, .no, .no, .no, .join [(.normal, ⟨[], []⟩)]]
def E38 (N : Nat) : Entry := entry [.c .ptr] [.s 2 (.c (.int .i64))] fun a => F_disk_Disk_power N a
noncomputable def C38 : MC := mcOf (comp Try.prog 40 [] [] (bodyOf Try.f38) H38)
theorem S38 (N : Nat) : Sound Try.prog 38 (E38 N) :=
  sound_of (C := []) (N := N) (ntmps := 40) (priv := []) (pu := []) (hs := H38) (mc := C38) (c := bodyOf Try.f38) (allS_get (trivial : AllS Try.prog [])) Try.func38 (by kernel_rfl) (by kernel_rfl) (by kernel_rfl) (Nat.le_of_ble_eq_true (by kernel_rfl)) (by kernel_rfl) (by kernel_rfl) (fun a => by kernel_rfl)

/-- (*moat/disk.Disk).Write -/
def H37 : List Hint := [.no, .no, .no, .no, .draw false [], .draw false [], .draw false []]
def E37 (N : Nat) : Entry := entry [.c .ptr, .st [.int .i64, .sl 1, .int .u16]] [.s 4 (.c (.int .i64))] fun a => F_disk_Disk_Write N a.1 a.2
noncomputable def C37 : MC := mcOf (comp Try.prog 63 [3] [3, 12, 17, 27, 31, 39, 45, 59] (bodyOf Try.f37) H37)
theorem S37 (N : Nat) : Sound Try.prog 37 (E37 N) :=
  sound_of (C := [(39, E39 N), (38, E38 N)]) (N := N) (ntmps := 63) (priv := [3]) (pu := [3, 12, 17, 27, 31, 39, 45, 59]) (hs := H37) (mc := C37) (c := bodyOf Try.f37) (allS_get (⟨S39 N, ⟨S38 N, trivial⟩⟩ : AllS Try.prog [(39, E39 N), (38, E38 N)])) Try.func37 (by kernel_rfl) (by kernel_rfl) (by kernel_rfl) (Nat.le_of_ble_eq_true (by kernel_rfl)) (by kernel_rfl) (by kernel_rfl) (fun a => by kernel_rfl)

/-- (*moat/cache.Cache).write -/
def H30 : List Hint := [.draw false [], .no]
def E30 (N : Nat) : Entry := entry [.c .ptr, .c .ptr] [.s 4 (.c (.int .i64))] fun a => F_cache_Cache_write N a.1 a.2
noncomputable def C30 : MC := mcOf (comp Try.prog 21 [] [] (bodyOf Try.f30) H30)
theorem S30 (N : Nat) : Sound Try.prog 30 (E30 N) :=
  sound_of (C := [(37, E37 N)]) (N := N) (ntmps := 21) (priv := []) (pu := []) (hs := H30) (mc := C30) (c := bodyOf Try.f30) (allS_get (⟨S37 N, trivial⟩ : AllS Try.prog [(37, E37 N)])) Try.func30 (by kernel_rfl) (by kernel_rfl) (by kernel_rfl) (Nat.le_of_ble_eq_true (by kernel_rfl)) (by kernel_rfl) (by kernel_rfl) (fun a => by kernel_rfl)

/-- slices.Index[[]int,int] -/
def H42 : List Hint := [.join [(.normal, ⟨[], []⟩), (.ret, ⟨[.s 4 (.c (.int .i64))], []⟩)], .loop ⟨[.s 8 (.c (.int .i64))], []⟩, .no, .no, .no]
def E42 (N : Nat) : Entry := entry [.c (.sl 1), .c (.int .i64)] [.s 4 (.c (.int .i64))] fun a => F_slices_Index_Lint_int N a.1 a.2
noncomputable def C42 : MC := mcOf (comp Try.prog 19 [] [] (bodyOf Try.f42) H42)
theorem S42 (N : Nat) : Sound Try.prog 42 (E42 N) :=
  sound_of (C := []) (N := N) (ntmps := 19) (priv := []) (pu := []) (hs := H42) (mc := C42) (c := bodyOf Try.f42) (allS_get (trivial : AllS Try.prog [])) Try.func42 (by kernel_rfl) (by kernel_rfl) (by kernel_rfl) (Nat.le_of_ble_eq_true (by kernel_rfl)) (by kernel_rfl) (by kernel_rfl) (fun a => by kernel_rfl)

/-- (*moat/cache.Cache).leave -/
def H35 : List Hint := [.join [(.normal, ⟨[], []⟩)]]
def E35 (N : Nat) : Entry := entry [.c .ptr, .c (.int .i64)] [] fun a => F_cache_Cache_leave N a.1 a.2
noncomputable def C35 : MC := mcOf (comp Try.prog 24 [] [] (bodyOf Try.f35) H35)
theorem S35 (N : Nat) : Sound Try.prog 35 (E35 N) :=
  sound_of (C := [(42, E42 N), (43, E43 N)]) (N := N) (ntmps := 24) (priv := []) (pu := []) (hs := H35) (mc := C35) (c := bodyOf Try.f35) (allS_get (⟨S42 N, ⟨S43 N, trivial⟩⟩ : AllS Try.prog [(42, E42 N), (43, E43 N)])) Try.func35 (by kernel_rfl) (by kernel_rfl) (by kernel_rfl) (Nat.le_of_ble_eq_true (by kernel_rfl)) (by kernel_rfl) (by kernel_rfl) (fun a => by kernel_rfl)

/-- (*moat/cache.Cache).place -/
def H26 : List Hint := [.draw false [], .no, .join [(.normal, ⟨[], []⟩), (.ret, ⟨[.s 2 (.c (.int .i64))], []⟩)], .loop ⟨[.s 3 (.c (.int .i64))], []⟩, .no, .no, .no, .join [(.normal, ⟨[], []⟩), (.ret, ⟨[.s 2 (.c (.int .i64))], []⟩)], .no]
def E26 (N : Nat) : Entry := entry [.c .ptr] [.s 2 (.c (.int .i64))] fun a => F_cache_Cache_place N a
noncomputable def C26 : MC := mcOf (comp Try.prog 63 [] [] (bodyOf Try.f26) H26)
theorem S26 (N : Nat) : Sound Try.prog 26 (E26 N) :=
  sound_of (C := [(30, E30 N), (35, E35 N)]) (N := N) (ntmps := 63) (priv := []) (pu := []) (hs := H26) (mc := C26) (c := bodyOf Try.f26) (allS_get (⟨S30 N, ⟨S35 N, trivial⟩⟩ : AllS Try.prog [(30, E30 N), (35, E35 N)])) Try.func26 (by kernel_rfl) (by kernel_rfl) (by kernel_rfl) (Nat.le_of_ble_eq_true (by kernel_rfl)) (by kernel_rfl) (by kernel_rfl) (fun a => by kernel_rfl)

/-- slices.Clone[[]byte,byte] -/
def H29 : List Hint := [.no]
def E29 (N : Nat) : Entry := entry [.c (.sl 1)] [.s 2 (.c (.sl 1))] fun a => F_slices_Clone_Lbyte_byte N a
noncomputable def C29 : MC := mcOf (comp Try.prog 8 [] [] (bodyOf Try.f29) H29)
theorem S29 (N : Nat) : Sound Try.prog 29 (E29 N) :=
  sound_of (C := []) (N := N) (ntmps := 8) (priv := []) (pu := []) (hs := H29) (mc := C29) (c := bodyOf Try.f29) (allS_get (trivial : AllS Try.prog [])) Try.func29 (by kernel_rfl) (by kernel_rfl) (by kernel_rfl) (Nat.le_of_ble_eq_true (by kernel_rfl)) (by kernel_rfl) (by kernel_rfl) (fun a => by kernel_rfl)

/-- (*moat/cache.Cache).first -/
def H28 : List Hint := []
def E28 (N : Nat) : Entry := entry [.c .ptr, .c (.int .i64)] [] fun a => F_cache_Cache_first N a.1 a.2
noncomputable def C28 : MC := mcOf (comp Try.prog 17 [] [] (bodyOf Try.f28) H28)
theorem S28 (N : Nat) : Sound Try.prog 28 (E28 N) :=
  sound_of (C := [(35, E35 N), (36, E36 N)]) (N := N) (ntmps := 17) (priv := []) (pu := []) (hs := H28) (mc := C28) (c := bodyOf Try.f28) (allS_get (⟨S35 N, ⟨S36 N, trivial⟩⟩ : AllS Try.prog [(35, E35 N), (36, E36 N)])) Try.func28 (by kernel_rfl) (by kernel_rfl) (by kernel_rfl) (Nat.le_of_ble_eq_true (by kernel_rfl)) (by kernel_rfl) (by kernel_rfl) (fun a => by kernel_rfl)

/-- (*moat/cache.Cache).Put -/
def H16 : List Hint := [.no, .no, .draw false [], .join [(.normal, ⟨[.s 6 (.c .ptr)], []⟩), (.ret, ⟨[.s 4 (.c (.int .i64))], []⟩)], .no, .draw false []]
def E16 (N : Nat) : Entry := entry [.c .ptr, .st [.int .i64, .sl 1, .int .u16]] [.s 4 (.c (.int .i64))] fun a => F_cache_Cache_Put N a.1 a.2
noncomputable def C16 : MC := mcOf (comp Try.prog 60 [3] [3, 10, 16, 25, 42, 45, 48, 57] (bodyOf Try.f16) H16)
theorem S16 (N : Nat) : Sound Try.prog 16 (E16 N) :=
  sound_of (C := [(25, E25 N), (26, E26 N), (29, E29 N), (28, E28 N)]) (N := N) (ntmps := 60) (priv := [3]) (pu := [3, 10, 16, 25, 42, 45, 48, 57]) (hs := H16) (mc := C16) (c := bodyOf Try.f16) (allS_get (⟨S25 N, ⟨S26 N, ⟨S29 N, ⟨S28 N, trivial⟩⟩⟩⟩ : AllS Try.prog [(25, E25 N), (26, E26 N), (29, E29 N), (28, E28 N)])) Try.func16 (by kernel_rfl) (by kernel_rfl) (by kernel_rfl) (Nat.le_of_ble_eq_true (by kernel_rfl)) (by kernel_rfl) (by kernel_rfl) (fun a => by kernel_rfl)

/-- (*moat/disk.Disk).get -/
def H32 : List Hint := [.no, .no, .no, .no]
def E32 (N : Nat) : Entry := entry [.c .ptr, .c (.int .i64)] [.m 4 (.agg 65), .s 5 (.c (.int .i64))] fun a => F_disk_Disk_get N a.1 a.2
noncomputable def C32 : MC := mcOf (comp Try.prog 29 [4] [] (bodyOf Try.f32) H32)
theorem S32 (N : Nat) : Sound Try.prog 32 (E32 N) :=
  sound_of (C := [(39, E39 N)]) (N := N) (ntmps := 29) (priv := [4]) (pu := []) (hs := H32) (mc := C32) (c := bodyOf Try.f32) (allS_get (⟨S39 N, trivial⟩ : AllS Try.prog [(39, E39 N)])) Try.func32 (by kernel_rfl) (by kernel_rfl) (by kernel_rfl) (Nat.le_of_ble_eq_true (by kernel_rfl)) (by kernel_rfl) (by kernel_rfl) (fun a => by kernel_rfl)

/-- (*moat/disk.Disk).Read -/
def H20 : List Hint := [.no]
def E20 (N : Nat) : Entry := entry [.c .ptr, .c (.int .i64)] [.s 4 (.c (.sl 1)), .s 5 (.c (.int .i64))] fun a => F_disk_Disk_Read N a.1 a.2
noncomputable def C20 : MC := mcOf (comp Try.prog 20 [] [] (bodyOf Try.f20) H20)
theorem S20 (N : Nat) : Sound Try.prog 20 (E20 N) :=
  sound_of (C := [(32, E32 N), (29, E29 N)]) (N := N) (ntmps := 20) (priv := []) (pu := []) (hs := H20) (mc := C20) (c := bodyOf Try.f20) (allS_get (⟨S32 N, ⟨S29 N, trivial⟩⟩ : AllS Try.prog [(32, E32 N), (29, E29 N)])) Try.func20 (by kernel_rfl) (by kernel_rfl) (by kernel_rfl) (Nat.le_of_ble_eq_true (by kernel_rfl)) (by kernel_rfl) (by kernel_rfl) (fun a => by kernel_rfl)

/-- (*moat/disk.Disk).Tag -/
def H27 : List Hint := []
def E27 (N : Nat) : Entry := entry [.c .ptr, .c (.int .i64)] [.s 4 (.c (.int .u16)), .s 5 (.c (.int .i64))] fun a => F_disk_Disk_Tag N a.1 a.2
noncomputable def C27 : MC := mcOf (comp Try.prog 17 [6] [] (bodyOf Try.f27) H27)
theorem S27 (N : Nat) : Sound Try.prog 27 (E27 N) :=
  sound_of (C := [(32, E32 N)]) (N := N) (ntmps := 17) (priv := [6]) (pu := []) (hs := H27) (mc := C27) (c := bodyOf Try.f27) (allS_get (⟨S32 N, trivial⟩ : AllS Try.prog [(32, E32 N)])) Try.func27 (by kernel_rfl) (by kernel_rfl) (by kernel_rfl) (Nat.le_of_ble_eq_true (by kernel_rfl)) (by kernel_rfl) (by kernel_rfl) (fun a => by kernel_rfl)

/-- (*moat/cache.Cache).Get -/
def H15 : List Hint := [.no, .join [(.normal, ⟨[.s 7 (.c .ptr)], []⟩), (.ret, ⟨[.s 4 (.c (.sl 1)), .s 5 (.c (.int .i64))], []⟩)], .no, .no]
def E15 (N : Nat) : Entry := entry [.c .ptr, .c (.int .i64)] [.s 4 (.c (.sl 1)), .s 5 (.c (.int .i64))] fun a => F_cache_Cache_Get N a.1 a.2
noncomputable def C15 : MC := mcOf (comp Try.prog 78 [] [] (bodyOf Try.f15) H15)
theorem S15 (N : Nat) : Sound Try.prog 15 (E15 N) :=
  sound_of (C := [(25, E25 N), (26, E26 N), (20, E20 N), (27, E27 N), (28, E28 N), (29, E29 N)]) (N := N) (ntmps := 78) (priv := []) (pu := []) (hs := H15) (mc := C15) (c := bodyOf Try.f15) (allS_get (⟨S25 N, ⟨S26 N, ⟨S20 N, ⟨S27 N, ⟨S28 N, ⟨S29 N, trivial⟩⟩⟩⟩⟩⟩ : AllS Try.prog [(25, E25 N), (26, E26 N), (20, E20 N), (27, E27 N), (28, E28 N), (29, E29 N)])) Try.func15 (by kernel_rfl) (by kernel_rfl) (by kernel_rfl) (Nat.le_of_ble_eq_true (by kernel_rfl)) (by kernel_rfl) (by kernel_rfl) (fun a => by kernel_rfl)

/-- (*moat/cache.Cache).Pin -/
def H13 : List Hint := [.no]
def E13 (N : Nat) : Entry := entry [.c .ptr, .c (.int .i64)] [.s 4 (.c (.int .i64))] fun a => F_cache_Cache_Pin N a.1 a.2
noncomputable def C13 : MC := mcOf (comp Try.prog 28 [] [] (bodyOf Try.f13) H13)
theorem S13 (N : Nat) : Sound Try.prog 13 (E13 N) :=
  sound_of (C := []) (N := N) (ntmps := 28) (priv := []) (pu := []) (hs := H13) (mc := C13) (c := bodyOf Try.f13) (allS_get (trivial : AllS Try.prog [])) Try.func13 (by kernel_rfl) (by kernel_rfl) (by kernel_rfl) (Nat.le_of_ble_eq_true (by kernel_rfl)) (by kernel_rfl) (by kernel_rfl) (fun a => by kernel_rfl)

/-- slices.Clone[[]int,int] -/
def H24 : List Hint := [.no]
def E24 (N : Nat) : Entry := entry [.c (.sl 1)] [.s 2 (.c (.sl 1))] fun a => F_slices_Clone_Lint_int N a
noncomputable def C24 : MC := mcOf (comp Try.prog 8 [] [] (bodyOf Try.f24) H24)
theorem S24 (N : Nat) : Sound Try.prog 24 (E24 N) :=
  sound_of (C := []) (N := N) (ntmps := 8) (priv := []) (pu := []) (hs := H24) (mc := C24) (c := bodyOf Try.f24) (allS_get (trivial : AllS Try.prog [])) Try.func24 (by kernel_rfl) (by kernel_rfl) (by kernel_rfl) (Nat.le_of_ble_eq_true (by kernel_rfl)) (by kernel_rfl) (by kernel_rfl) (fun a => by kernel_rfl)

/-- (*moat/cache.Cache).Has -/
def H12 : List Hint := [.no]
def E12 (N : Nat) : Entry := entry [.c .ptr] [.s 2 (.c (.sl 1))] fun a => F_cache_Cache_Has N a
noncomputable def C12 : MC := mcOf (comp Try.prog 10 [] [] (bodyOf Try.f12) H12)
theorem S12 (N : Nat) : Sound Try.prog 12 (E12 N) :=
  sound_of (C := [(24, E24 N)]) (N := N) (ntmps := 10) (priv := []) (pu := []) (hs := H12) (mc := C12) (c := bodyOf Try.f12) (allS_get (⟨S24 N, trivial⟩ : AllS Try.prog [(24, E24 N)])) Try.func12 (by kernel_rfl) (by kernel_rfl) (by kernel_rfl) (Nat.le_of_ble_eq_true (by kernel_rfl)) (by kernel_rfl) (by kernel_rfl) (fun a => by kernel_rfl)

/-- moat/moatref06.SameInts -/
def H18 : List Hint := [.no, .join [(.normal, ⟨[], []⟩), (.ret, ⟨[.s 4 (.c .bool)], []⟩)], .loop ⟨[.s 5 (.c (.int .i64))], []⟩, .no, .no, .draw false [], .no]
def E18 (N : Nat) : Entry := entry [.c (.sl 1), .c (.sl 1)] [.s 4 (.c .bool)] fun a => F_moatref06_SameInts N a.1 a.2
noncomputable def C18 : MC := mcOf (comp Try.prog 26 [] [] (bodyOf Try.f18) H18)
theorem S18 (N : Nat) : Sound Try.prog 18 (E18 N) :=
  sound_of (C := []) (N := N) (ntmps := 26) (priv := []) (pu := []) (hs := H18) (mc := C18) (c := bodyOf Try.f18) (allS_get (trivial : AllS Try.prog [])) Try.func18 (by kernel_rfl) (by kernel_rfl) (by kernel_rfl) (Nat.le_of_ble_eq_true (by kernel_rfl)) (by kernel_rfl) (by kernel_rfl) (fun a => by kernel_rfl)

/-- moat/moatlaw06.shown -/
def H8 : List Hint := [.no, .no, .draw true [80]]
def E8 (N : Nat) : Entry := entry [] [.s 0 (.c .bool)] fun a => F_moatlaw06_shown N
noncomputable def C8 : MC := mcOf (comp Try.prog 87 [] [] (bodyOf Try.f8) H8)
theorem S8 (N : Nat) : Sound Try.prog 8 (E8 N) :=
  sound_of (C := [(9, E9 N), (10, E10 N), (17, E17 N), (16, E16 N), (15, E15 N), (20, E20 N), (13, E13 N), (12, E12 N), (18, E18 N)]) (N := N) (ntmps := 87) (priv := []) (pu := []) (hs := H8) (mc := C8) (c := bodyOf Try.f8) (allS_get (⟨S9 N, ⟨S10 N, ⟨S17 N, ⟨S16 N, ⟨S15 N, ⟨S20 N, ⟨S13 N, ⟨S12 N, ⟨S18 N, trivial⟩⟩⟩⟩⟩⟩⟩⟩⟩ : AllS Try.prog [(9, E9 N), (10, E10 N), (17, E17 N), (16, E16 N), (15, E15 N), (20, E20 N), (13, E13 N), (12, E12 N), (18, E18 N)])) Try.func8 (by kernel_rfl) (by kernel_rfl) (by kernel_rfl) (Nat.le_of_ble_eq_true (by kernel_rfl)) (by kernel_rfl) (by kernel_rfl) (fun a => by kernel_rfl)

/-- moat/moatlaw06.few -/
def H11 : List Hint := [.join [(.normal, ⟨[], []⟩), (.ret, ⟨[.s 2 (.c (.sl 4))], []⟩)], .loop ⟨[.s 6 (.c (.int .i64))], []⟩, .no, .no, .no]
def E11 (N : Nat) : Entry := entry [.c (.sl 4)] [.s 2 (.c (.sl 4))] fun a => F_moatlaw06_few N a
noncomputable def C11 : MC := mcOf (comp Try.prog 25 [] [] (bodyOf Try.f11) H11)
theorem S11 (N : Nat) : Sound Try.prog 11 (E11 N) :=
  sound_of (C := []) (N := N) (ntmps := 25) (priv := []) (pu := []) (hs := H11) (mc := C11) (c := bodyOf Try.f11) (allS_get (trivial : AllS Try.prog [])) Try.func11 (by kernel_rfl) (by kernel_rfl) (by kernel_rfl) (Nat.le_of_ble_eq_true (by kernel_rfl)) (by kernel_rfl) (by kernel_rfl) (fun a => by kernel_rfl)

/-- (*moat/cache.Cache).Unpin -/
def H14 : List Hint := [.no]
def E14 (N : Nat) : Entry := entry [.c .ptr, .c (.int .i64)] [.s 4 (.c (.int .i64))] fun a => F_cache_Cache_Unpin N a.1 a.2
noncomputable def C14 : MC := mcOf (comp Try.prog 40 [] [] (bodyOf Try.f14) H14)
theorem S14 (N : Nat) : Sound Try.prog 14 (E14 N) :=
  sound_of (C := []) (N := N) (ntmps := 40) (priv := []) (pu := []) (hs := H14) (mc := C14) (c := bodyOf Try.f14) (allS_get (trivial : AllS Try.prog [])) Try.func14 (by kernel_rfl) (by kernel_rfl) (by kernel_rfl) (Nat.le_of_ble_eq_true (by kernel_rfl)) (by kernel_rfl) (by kernel_rfl) (fun a => by kernel_rfl)

/-- moat/moatlaw06.CacheFirst -/
def H3 : List Hint := [.no, .join [(.normal, ⟨[], []⟩), (.ret, ⟨[.s 4 (.c .bool)], []⟩)], .loop ⟨[.s 47 (.c (.int .i64))], []⟩, .no, .join [(.normal, ⟨[], []⟩), (.ret, ⟨[.s 4 (.c .bool)], []⟩)], .no, .no, .join [(.normal, ⟨[], []⟩)], .no, .join [(.normal, ⟨[], []⟩)], .join [(.normal, ⟨[], []⟩), (.exit 1, ⟨[], []⟩)], .no, .no, .no, .join [(.normal, ⟨[.s 17 (.c (.sl 1)), .s 18 (.c .bool)], []⟩)], .loop ⟨[.s 17 (.c (.sl 1)), .s 18 (.c .bool), .s 103 (.c (.int .i64))], []⟩, .no, .no, .join [(.normal, ⟨[.s 17 (.c (.sl 1)), .s 18 (.c .bool)], []⟩)], .join [(.normal, ⟨[.s 17 (.c (.sl 1))], []⟩), (.ret, ⟨[.s 4 (.c .bool)], []⟩)], .join [(.normal, ⟨[.s 21 (.c (.int .i64))], []⟩)], .loop ⟨[.s 21 (.c (.int .i64))], []⟩, .no, .no, .no, .draw false [], .draw true [156], .no]
def E3 (N : Nat) : Entry := entry [.c (.int .u8), .c (.sl 4)] [.s 4 (.c .bool)] fun a => F_moatlaw06_CacheFirst N a.1 a.2
noncomputable def C3 : MC := mcOf (comp Try.prog 163 [13] [13, 53, 59, 64, 71, 76, 84, 94, 96, 108, 154] (bodyOf Try.f3) H3)
theorem S3 (N : Nat) : Sound Try.prog 3 (E3 N) :=
  sound_of (C := [(8, E8 N), (9, E9 N), (10, E10 N), (11, E11 N), (12, E12 N), (13, E13 N), (14, E14 N), (15, E15 N), (17, E17 N), (16, E16 N), (18, E18 N)]) (N := N) (ntmps := 163) (priv := [13]) (pu := [13, 53, 59, 64, 71, 76, 84, 94, 96, 108, 154]) (hs := H3) (mc := C3) (c := bodyOf Try.f3) (allS_get (⟨S8 N, ⟨S9 N, ⟨S10 N, ⟨S11 N, ⟨S12 N, ⟨S13 N, ⟨S14 N, ⟨S15 N, ⟨S17 N, ⟨S16 N, ⟨S18 N, trivial⟩⟩⟩⟩⟩⟩⟩⟩⟩⟩⟩ : AllS Try.prog [(8, E8 N), (9, E9 N), (10, E10 N), (11, E11 N), (12, E12 N), (13, E13 N), (14, E14 N), (15, E15 N), (17, E17 N), (16, E16 N), (18, E18 N)])) Try.func3 (by kernel_rfl) (by kernel_rfl) (by kernel_rfl) (Nat.le_of_ble_eq_true (by kernel_rfl)) (by kernel_rfl) (by kernel_rfl) (fun a => by kernel_rfl)

/-- math/bits.Len32 -/
def H55 : List Hint := [.join [(.normal, ⟨[.s 0 (.c (.int .u32)), .s 2 (.c (.int .i64))], []⟩)], .join [(.normal, ⟨[.s 0 (.c (.int .u32)), .s 2 (.c (.int .i64))], []⟩)]]
def E55 (N : Nat) : Entry := entry [.c (.int .u32)] [.s 2 (.c (.int .i64))] fun a => F_math_bits_Len32 N a
noncomputable def C55 : MC := mcOf (comp Try.prog 19 [] [] (bodyOf Try.f55) H55)
theorem S55 (N : Nat) : Sound Try.prog 55 (E55 N) :=
  sound_of (C := []) (N := N) (ntmps := 19) (priv := []) (pu := []) (hs := H55) (mc := C55) (c := bodyOf Try.f55) (allS_get (trivial : AllS Try.prog [])) Try.func55 (by kernel_rfl) (by kernel_rfl) (by kernel_rfl) (Nat.le_of_ble_eq_true (by kernel_rfl)) (by kernel_rfl) (by kernel_rfl) (fun a => by kernel_rfl)

/-- math/bits.Len64 -/
def H56 : List Hint := [.join [(.normal, ⟨[.s 0 (.c (.int .u64)), .s 2 (.c (.int .i64))], []⟩)], .join [(.normal, ⟨[.s 0 (.c (.int .u64)), .s 2 (.c (.int .i64))], []⟩)], .join [(.normal, ⟨[.s 0 (.c (.int .u64)), .s 2 (.c (.int .i64))], []⟩)]]
def E56 (N : Nat) : Entry := entry [.c (.int .u64)] [.s 2 (.c (.int .i64))] fun a => F_math_bits_Len64 N a
noncomputable def C56 : MC := mcOf (comp Try.prog 25 [] [] (bodyOf Try.f56) H56)
theorem S56 (N : Nat) : Sound Try.prog 56 (E56 N) :=
  sound_of (C := []) (N := N) (ntmps := 25) (priv := []) (pu := []) (hs := H56) (mc := C56) (c := bodyOf Try.f56) (allS_get (trivial : AllS Try.prog [])) Try.func56 (by kernel_rfl) (by kernel_rfl) (by kernel_rfl) (Nat.le_of_ble_eq_true (by kernel_rfl)) (by kernel_rfl) (by kernel_rfl) (fun a => by kernel_rfl)

/-- math/bits.Len -/
def H41 : List Hint := [.no]
def E41 (N : Nat) : Entry := entry [.c (.int .u64)] [.s 2 (.c (.int .i64))] fun a => F_math_bits_Len N a
noncomputable def C41 : MC := mcOf (comp Try.prog 8 [] [] (bodyOf Try.f41) H41)
theorem S41 (N : Nat) : Sound Try.prog 41 (E41 N) :=
  sound_of (C := [(55, E55 N), (56, E56 N)]) (N := N) (ntmps := 8) (priv := []) (pu := []) (hs := H41) (mc := C41) (c := bodyOf Try.f41) (allS_get (⟨S55 N, ⟨S56 N, trivial⟩⟩ : AllS Try.prog [(55, E55 N), (56, E56 N)])) Try.func41 (by kernel_rfl) (by kernel_rfl) (by kernel_rfl) (Nat.le_of_ble_eq_true (by kernel_rfl)) (by kernel_rfl) (by kernel_rfl) (fun a => by kernel_rfl)

/-- cmp.isNaN[int] -/
def H63 : List Hint := []
def E63 (N : Nat) : Entry := entry [.c (.int .i64)] [.s 2 (.c .bool)] fun a => F_cmp_isNaN_int N a
noncomputable def C63 : MC := mcOf (comp Try.prog 6 [] [] (bodyOf Try.f63) H63)
theorem S63 (N : Nat) : Sound Try.prog 63 (E63 N) :=
  sound_of (C := []) (N := N) (ntmps := 6) (priv := []) (pu := []) (hs := H63) (mc := C63) (c := bodyOf Try.f63) (allS_get (trivial : AllS Try.prog [])) Try.func63 (by kernel_rfl) (by kernel_rfl) (by kernel_rfl) (Nat.le_of_ble_eq_true (by kernel_rfl)) (by kernel_rfl) (by kernel_rfl) (fun a => by kernel_rfl)

/-- cmp.Less[int] -/
def H52 : List Hint := []
def E52 (N : Nat) : Entry := entry [.c (.int .i64), .c (.int .i64)] [.s 4 (.c .bool)] fun a => F_cmp_Less_int N a.1 a.2
noncomputable def C52 : MC := mcOf (comp Try.prog 17 [] [] (bodyOf Try.f52) H52)
theorem S52 (N : Nat) : Sound Try.prog 52 (E52 N) :=
  sound_of (C := [(63, E63 N)]) (N := N) (ntmps := 17) (priv := []) (pu := []) (hs := H52) (mc := C52) (c := bodyOf Try.f52) (allS_get (⟨S63 N, trivial⟩ : AllS Try.prog [(63, E63 N)])) Try.func52 (by kernel_rfl) (by kernel_rfl) (by kernel_rfl) (Nat.le_of_ble_eq_true (by kernel_rfl)) (by kernel_rfl) (by kernel_rfl) (fun a => by kernel_rfl)

/-- slices.insertionSortOrdered[int] -/
def H46 : List Hint := [.join [(.normal, ⟨[], []⟩)], .loop ⟨[.s 6 (.c (.int .i64))], []⟩, .no, .no, .join [(.normal, ⟨[], []⟩)], .loop ⟨[.s 7 (.c (.int .i64))], []⟩, .draw false [], .no, .no, .draw false []]
def E46 (N : Nat) : Entry := entry [.c (.sl 1), .c (.int .i64), .c (.int .i64)] [] fun a => F_slices_insertionSortOrdered_int N a.1 a.2.1 a.2.2
noncomputable def C46 : MC := mcOf (comp Try.prog 49 [] [] (bodyOf Try.f46) H46)
theorem S46 (N : Nat) : Sound Try.prog 46 (E46 N) :=
  sound_of (C := [(52, E52 N)]) (N := N) (ntmps := 49) (priv := []) (pu := []) (hs := H46) (mc := C46) (c := bodyOf Try.f46) (allS_get (⟨S52 N, trivial⟩ : AllS Try.prog [(52, E52 N)])) Try.func46 (by kernel_rfl) (by kernel_rfl) (by kernel_rfl) (Nat.le_of_ble_eq_true (by kernel_rfl)) (by kernel_rfl) (by kernel_rfl) (fun a => by kernel_rfl)

/-- slices.siftDownOrdered[int] -/
def H58 : List Hint := [.join [(.normal, ⟨[], []⟩), (.ret, ⟨[], []⟩)], .loop ⟨[.s 8 (.c (.int .i64))], []⟩, .no, .no, .draw false [], .join [(.normal, ⟨[.s 9 (.c (.int .i64))], []⟩)], .draw false [], .no, .draw false []]
def E58 (N : Nat) : Entry := entry [.c (.sl 1), .c (.int .i64), .c (.int .i64), .c (.int .i64)] [] fun a => F_slices_siftDownOrdered_int N a.1 a.2.1 a.2.2.1 a.2.2.2
noncomputable def C58 : MC := mcOf (comp Try.prog 76 [] [] (bodyOf Try.f58) H58)
theorem S58 (N : Nat) : Sound Try.prog 58 (E58 N) :=
  sound_of (C := [(52, E52 N)]) (N := N) (ntmps := 76) (priv := []) (pu := []) (hs := H58) (mc := C58) (c := bodyOf Try.f58) (allS_get (⟨S52 N, trivial⟩ : AllS Try.prog [(52, E52 N)])) Try.func58 (by kernel_rfl) (by kernel_rfl) (by kernel_rfl) (Nat.le_of_ble_eq_true (by kernel_rfl)) (by kernel_rfl) (by kernel_rfl) (fun a => by kernel_rfl)

/-- slices.heapSortOrdered[int] -/
def H47 : List Hint := [.join [(.normal, ⟨[], []⟩)], .loop ⟨[.s 9 (.c (.int .i64))], []⟩, .no, .no, .join [(.normal, ⟨[], []⟩)], .loop ⟨[.s 10 (.c (.int .i64))], []⟩, .no, .no, .draw false []]
def E47 (N : Nat) : Entry := entry [.c (.sl 1), .c (.int .i64), .c (.int .i64)] [] fun a => F_slices_heapSortOrdered_int N a.1 a.2.1 a.2.2
noncomputable def C47 : MC := mcOf (comp Try.prog 56 [] [] (bodyOf Try.f47) H47)
theorem S47 (N : Nat) : Sound Try.prog 47 (E47 N) :=
  sound_of (C := [(58, E58 N)]) (N := N) (ntmps := 56) (priv := []) (pu := []) (hs := H47) (mc := C47) (c := bodyOf Try.f47) (allS_get (⟨S58 N, trivial⟩ : AllS Try.prog [(58, E58 N)])) Try.func47 (by kernel_rfl) (by kernel_rfl) (by kernel_rfl) (Nat.le_of_ble_eq_true (by kernel_rfl)) (by kernel_rfl) (by kernel_rfl) (fun a => by kernel_rfl)

/-- slices.nextPowerOfTwo -/
def H59 : List Hint := []
def E59 (N : Nat) : Entry := entry [.c (.int .i64)] [.s 2 (.c (.int .u64))] fun a => F_slices_nextPowerOfTwo N a
noncomputable def C59 : MC := mcOf (comp Try.prog 7 [] [] (bodyOf Try.f59) H59)
theorem S59 (N : Nat) : Sound Try.prog 59 (E59 N) :=
  sound_of (C := [(41, E41 N)]) (N := N) (ntmps := 7) (priv := []) (pu := []) (hs := H59) (mc := C59) (c := bodyOf Try.f59) (allS_get (⟨S41 N, trivial⟩ : AllS Try.prog [(41, E41 N)])) Try.func59 (by kernel_rfl) (by kernel_rfl) (by kernel_rfl) (Nat.le_of_ble_eq_true (by kernel_rfl)) (by kernel_rfl) (by kernel_rfl) (fun a => by kernel_rfl)

/-- (*slices.xorshift).Next -/
def H60 : List Hint := [.draw false [], .draw false [], .draw false []]
def E60 (N : Nat) : Entry := entry [.c .ptr] [.s 2 (.c (.int .u64))] fun a => F_slices_xorshift_Next N a
noncomputable def C60 : MC := mcOf (comp Try.prog 33 [] [] (bodyOf Try.f60) H60)
theorem S60 (N : Nat) : Sound Try.prog 60 (E60 N) :=
  sound_of (C := []) (N := N) (ntmps := 33) (priv := []) (pu := []) (hs := H60) (mc := C60) (c := bodyOf Try.f60) (allS_get (trivial : AllS Try.prog [])) Try.func60 (by kernel_rfl) (by kernel_rfl) (by kernel_rfl) (Nat.le_of_ble_eq_true (by kernel_rfl)) (by kernel_rfl) (by kernel_rfl) (fun a => by kernel_rfl)

/-- slices.breakPatternsOrdered[int] -/
def H48 : List Hint := [.join [(.normal, ⟨[], []⟩)], .join [(.normal, ⟨[], []⟩)], .loop ⟨[.s 9 (.c (.int .i64))], []⟩, .no, .no, .join [(.normal, ⟨[.s 10 (.c (.int .i64))], []⟩)], .draw false []]
def E48 (N : Nat) : Entry := entry [.c (.sl 1), .c (.int .i64), .c (.int .i64)] [] fun a => F_slices_breakPatternsOrdered_int N a.1 a.2.1 a.2.2
noncomputable def C48 : MC := mcOf (comp Try.prog 65 [] [] (bodyOf Try.f48) H48)
theorem S48 (N : Nat) : Sound Try.prog 48 (E48 N) :=
  sound_of (C := [(59, E59 N), (60, E60 N)]) (N := N) (ntmps := 65) (priv := []) (pu := []) (hs := H48) (mc := C48) (c := bodyOf Try.f48) (allS_get (⟨S59 N, ⟨S60 N, trivial⟩⟩ : AllS Try.prog [(59, E59 N), (60, E60 N)])) Try.func48 (by kernel_rfl) (by kernel_rfl) (by kernel_rfl) (Nat.le_of_ble_eq_true (by kernel_rfl)) (by kernel_rfl) (by kernel_rfl) (fun a => by kernel_rfl)

/-- slices.order2Ordered[int] -/
def H65 : List Hint := [.draw false [], .no]
def E65 (N : Nat) : Entry := entry [.c (.sl 1), .c (.int .i64), .c (.int .i64), .c .ptr] [.s 8 (.c (.int .i64)), .s 9 (.c (.int .i64))] fun a => F_slices_order2Ordered_int N a.1 a.2.1 a.2.2.1 a.2.2.2
noncomputable def C65 : MC := mcOf (comp Try.prog 28 [] [] (bodyOf Try.f65) H65)
theorem S65 (N : Nat) : Sound Try.prog 65 (E65 N) :=
  sound_of (C := [(52, E52 N)]) (N := N) (ntmps := 28) (priv := []) (pu := []) (hs := H65) (mc := C65) (c := bodyOf Try.f65) (allS_get (⟨S52 N, trivial⟩ : AllS Try.prog [(52, E52 N)])) Try.func65 (by kernel_rfl) (by kernel_rfl) (by kernel_rfl) (Nat.le_of_ble_eq_true (by kernel_rfl)) (by kernel_rfl) (by kernel_rfl) (fun a => by kernel_rfl)

/-- slices.medianOrdered[int] -/
def H62 : List Hint := []
def E62 (N : Nat) : Entry := entry [.c (.sl 1), .c (.int .i64), .c (.int .i64), .c (.int .i64), .c .ptr] [.s 10 (.c (.int .i64))] fun a => F_slices_medianOrdered_int N a.1 a.2.1 a.2.2.1 a.2.2.2.1 a.2.2.2.2
noncomputable def C62 : MC := mcOf (comp Try.prog 36 [] [] (bodyOf Try.f62) H62)
theorem S62 (N : Nat) : Sound Try.prog 62 (E62 N) :=
  sound_of (C := [(65, E65 N)]) (N := N) (ntmps := 36) (priv := []) (pu := []) (hs := H62) (mc := C62) (c := bodyOf Try.f62) (allS_get (⟨S65 N, trivial⟩ : AllS Try.prog [(65, E65 N)])) Try.func62 (by kernel_rfl) (by kernel_rfl) (by kernel_rfl) (Nat.le_of_ble_eq_true (by kernel_rfl)) (by kernel_rfl) (by kernel_rfl) (fun a => by kernel_rfl)

/-- slices.medianAdjacentOrdered[int] -/
def H61 : List Hint := []
def E61 (N : Nat) : Entry := entry [.c (.sl 1), .c (.int .i64), .c .ptr] [.s 6 (.c (.int .i64))] fun a => F_slices_medianAdjacentOrdered_int N a.1 a.2.1 a.2.2
noncomputable def C61 : MC := mcOf (comp Try.prog 15 [] [] (bodyOf Try.f61) H61)
theorem S61 (N : Nat) : Sound Try.prog 61 (E61 N) :=
  sound_of (C := [(62, E62 N)]) (N := N) (ntmps := 15) (priv := []) (pu := []) (hs := H61) (mc := C61) (c := bodyOf Try.f61) (allS_get (⟨S62 N, trivial⟩ : AllS Try.prog [(62, E62 N)])) Try.func61 (by kernel_rfl) (by kernel_rfl) (by kernel_rfl) (Nat.le_of_ble_eq_true (by kernel_rfl)) (by kernel_rfl) (by kernel_rfl) (fun a => by kernel_rfl)

/-- slices.choosePivotOrdered[int] -/
def H49 : List Hint := [.join [(.normal, ⟨[.s 11 (.c (.int .i64))], []⟩)], .join [(.normal, ⟨[.s 10 (.c (.int .i64)), .s 11 (.c (.int .i64)), .s 12 (.c (.int .i64))], []⟩)], .no, .no, .no]
def E49 (N : Nat) : Entry := entry [.c (.sl 1), .c (.int .i64), .c (.int .i64)] [.s 6 (.c (.int .i64)), .s 7 (.c (.int .i64))] fun a => F_slices_choosePivotOrdered_int N a.1 a.2.1 a.2.2
noncomputable def C49 : MC := mcOf (comp Try.prog 57 [] [] (bodyOf Try.f49) H49)
theorem S49 (N : Nat) : Sound Try.prog 49 (E49 N) :=
  sound_of (C := [(61, E61 N), (62, E62 N)]) (N := N) (ntmps := 57) (priv := []) (pu := []) (hs := H49) (mc := C49) (c := bodyOf Try.f49) (allS_get (⟨S61 N, ⟨S62 N, trivial⟩⟩ : AllS Try.prog [(61, E61 N), (62, E62 N)])) Try.func49 (by kernel_rfl) (by kernel_rfl) (by kernel_rfl) (Nat.le_of_ble_eq_true (by kernel_rfl)) (by kernel_rfl) (by kernel_rfl) (fun a => by kernel_rfl)

/-- slices.reverseRangeOrdered[int] -/
def H50 : List Hint := [.join [(.normal, ⟨[], []⟩)], .loop ⟨[.s 6 (.c (.int .i64)), .s 7 (.c (.int .i64))], []⟩, .no, .no, .draw false []]
def E50 (N : Nat) : Entry := entry [.c (.sl 1), .c (.int .i64), .c (.int .i64)] [] fun a => F_slices_reverseRangeOrdered_int N a.1 a.2.1 a.2.2
noncomputable def C50 : MC := mcOf (comp Try.prog 32 [] [] (bodyOf Try.f50) H50)
theorem S50 (N : Nat) : Sound Try.prog 50 (E50 N) :=
  sound_of (C := []) (N := N) (ntmps := 32) (priv := []) (pu := []) (hs := H50) (mc := C50) (c := bodyOf Try.f50) (allS_get (trivial : AllS Try.prog [])) Try.func50 (by kernel_rfl) (by kernel_rfl) (by kernel_rfl) (Nat.le_of_ble_eq_true (by kernel_rfl)) (by kernel_rfl) (by kernel_rfl) (fun a => by kernel_rfl)

/-- slices.partialInsertionSortOrdered[int] -/
def H51 : List Hint := [.join [(.normal, ⟨[], []⟩), (.ret, ⟨[.s 6 (.c .bool)], []⟩)], .loop ⟨[.s 7 (.c (.int .i64)), .s 8 (.c (.int .i64))], []⟩, .no, .no, .join [(.normal, ⟨[.s 7 (.c (.int .i64))], []⟩)], .loop ⟨[.s 7 (.c (.int .i64))], []⟩, .draw false [], .no, .no, .no, .no, .draw false [], .join [(.normal, ⟨[], []⟩)], .join [(.normal, ⟨[], []⟩)], .loop ⟨[.s 9 (.c (.int .i64))], []⟩, .no, .no, .draw false [], .no, .draw false [], .join [(.normal, ⟨[], []⟩)], .join [(.normal, ⟨[], []⟩)], .loop ⟨[.s 10 (.c (.int .i64))], []⟩, .no, .no, .draw false [], .no, .draw false []]
def E51 (N : Nat) : Entry := entry [.c (.sl 1), .c (.int .i64), .c (.int .i64)] [.s 6 (.c .bool)] fun a => F_slices_partialInsertionSortOrdered_int N a.1 a.2.1 a.2.2
noncomputable def C51 : MC := mcOf (comp Try.prog 133 [] [] (bodyOf Try.f51) H51)
theorem S51 (N : Nat) : Sound Try.prog 51 (E51 N) :=
  sound_of (C := [(52, E52 N)]) (N := N) (ntmps := 133) (priv := []) (pu := []) (hs := H51) (mc := C51) (c := bodyOf Try.f51) (allS_get (⟨S52 N, trivial⟩ : AllS Try.prog [(52, E52 N)])) Try.func51 (by kernel_rfl) (by kernel_rfl) (by kernel_rfl) (Nat.le_of_ble_eq_true (by kernel_rfl)) (by kernel_rfl) (by kernel_rfl) (fun a => by kernel_rfl)

/-- slices.partitionEqualOrdered[int] -/
def H53 : List Hint := [.draw false [], .join [(.normal, ⟨[.s 9 (.c (.int .i64))], []⟩)], .loop ⟨[.s 9 (.c (.int .i64)), .s 10 (.c (.int .i64))], []⟩, .no, .join [(.normal, ⟨[.s 9 (.c (.int .i64))], []⟩)], .loop ⟨[.s 9 (.c (.int .i64))], []⟩, .draw false [], .no, .no, .join [(.normal, ⟨[.s 10 (.c (.int .i64))], []⟩)], .loop ⟨[.s 10 (.c (.int .i64))], []⟩, .draw false [], .no, .no, .no, .draw false []]
def E53 (N : Nat) : Entry := entry [.c (.sl 1), .c (.int .i64), .c (.int .i64), .c (.int .i64)] [.s 8 (.c (.int .i64))] fun a => F_slices_partitionEqualOrdered_int N a.1 a.2.1 a.2.2.1 a.2.2.2
noncomputable def C53 : MC := mcOf (comp Try.prog 84 [] [] (bodyOf Try.f53) H53)
theorem S53 (N : Nat) : Sound Try.prog 53 (E53 N) :=
  sound_of (C := [(52, E52 N)]) (N := N) (ntmps := 84) (priv := []) (pu := []) (hs := H53) (mc := C53) (c := bodyOf Try.f53) (allS_get (⟨S52 N, trivial⟩ : AllS Try.prog [(52, E52 N)])) Try.func53 (by kernel_rfl) (by kernel_rfl) (by kernel_rfl) (Nat.le_of_ble_eq_true (by kernel_rfl)) (by kernel_rfl) (by kernel_rfl) (fun a => by kernel_rfl)

/-- slices.partitionOrdered[int] -/
def H54 : List Hint := [.draw false [], .join [(.normal, ⟨[.s 10 (.c (.int .i64))], []⟩)], .loop ⟨[.s 10 (.c (.int .i64))], []⟩, .draw false [], .no, .no, .join [(.normal, ⟨[.s 11 (.c (.int .i64))], []⟩)], .loop ⟨[.s 11 (.c (.int .i64))], []⟩, .draw false [], .no, .no, .no, .draw false [], .draw false [], .join [(.normal, ⟨[.s 11 (.c (.int .i64))], []⟩)], .loop ⟨[.s 10 (.c (.int .i64)), .s 11 (.c (.int .i64))], []⟩, .no, .join [(.normal, ⟨[.s 10 (.c (.int .i64))], []⟩)], .loop ⟨[.s 10 (.c (.int .i64))], []⟩, .draw false [], .no, .no, .join [(.normal, ⟨[.s 11 (.c (.int .i64))], []⟩)], .loop ⟨[.s 11 (.c (.int .i64))], []⟩, .draw false [], .no, .no, .no, .draw false [], .draw false []]
def E54 (N : Nat) : Entry := entry [.c (.sl 1), .c (.int .i64), .c (.int .i64), .c (.int .i64)] [.s 8 (.c (.int .i64)), .s 9 (.c .bool)] fun a => F_slices_partitionOrdered_int N a.1 a.2.1 a.2.2.1 a.2.2.2
noncomputable def C54 : MC := mcOf (comp Try.prog 168 [] [] (bodyOf Try.f54) H54)
theorem S54 (N : Nat) : Sound Try.prog 54 (E54 N) :=
  sound_of (C := [(52, E52 N)]) (N := N) (ntmps := 168) (priv := []) (pu := []) (hs := H54) (mc := C54) (c := bodyOf Try.f54) (allS_get (⟨S52 N, trivial⟩ : AllS Try.prog [(52, E52 N)])) Try.func54 (by kernel_rfl) (by kernel_rfl) (by kernel_rfl) (Nat.le_of_ble_eq_true (by kernel_rfl)) (by kernel_rfl) (by kernel_rfl) (fun a => by kernel_rfl)

/-- slices.pdqsortOrdered[int] -/
def H40 : List Hint := [.join [(.ret, ⟨[], []⟩)], .loop ⟨[.s 1 (.c (.int .i64)), .s 2 (.c (.int .i64)), .s 3 (.c (.int .i64)), .s 8 (.c .bool), .s 9 (.c .bool)], []⟩, .no, .no, .no, .join [(.normal, ⟨[.s 3 (.c (.int .i64))], []⟩)], .join [(.normal, ⟨[.s 11 (.c (.int .i64)), .s 12 (.c (.int .i64))], []⟩)], .join [(.normal, ⟨[], []⟩), (.ret, ⟨[], []⟩)], .no, .draw false [], .no, .no, .cut 26, .cut 29]
def E40 (N : Nat) : Entry := entry [.c (.sl 1), .c (.int .i64), .c (.int .i64), .c (.int .i64)] [] fun a => F_slices_pdqsortOrdered_int N a.1 a.2.1 a.2.2.1 a.2.2.2
noncomputable def C40 : MC := mcOf (comp Try.prog 134 [] [] (bodyOf Try.f40) H40)
theorem S40 (N : Nat) : Sound Try.prog 40 (E40 N) :=
  sound_of (C := [(46, E46 N), (47, E47 N), (48, E48 N), (49, E49 N), (50, E50 N), (51, E51 N), (52, E52 N), (53, E53 N), (54, E54 N)]) (N := N) (ntmps := 134) (priv := []) (pu := []) (hs := H40) (mc := C40) (c := bodyOf Try.f40) (allS_get (⟨S46 N, ⟨S47 N, ⟨S48 N, ⟨S49 N, ⟨S50 N, ⟨S51 N, ⟨S52 N, ⟨S53 N, ⟨S54 N, trivial⟩⟩⟩⟩⟩⟩⟩⟩⟩ : AllS Try.prog [(46, E46 N), (47, E47 N), (48, E48 N), (49, E49 N), (50, E50 N), (51, E51 N), (52, E52 N), (53, E53 N), (54, E54 N)])) Try.func40 (by kernel_rfl) (by kernel_rfl) (by kernel_rfl) (Nat.le_of_ble_eq_true (by kernel_rfl)) (by kernel_rfl) (by kernel_rfl) (fun a => by kernel_rfl)

/-- slices.Sort[[]int,int] -/
def H33 : List Hint := []
def E33 (N : Nat) : Entry := entry [.c (.sl 1)] [] fun a => F_slices_Sort_Lint_int N a
noncomputable def C33 : MC := mcOf (comp Try.prog 11 [] [] (bodyOf Try.f33) H33)
theorem S33 (N : Nat) : Sound Try.prog 33 (E33 N) :=
  sound_of (C := [(41, E41 N), (40, E40 N)]) (N := N) (ntmps := 11) (priv := []) (pu := []) (hs := H33) (mc := C33) (c := bodyOf Try.f33) (allS_get (⟨S41 N, ⟨S40 N, trivial⟩⟩ : AllS Try.prog [(41, E41 N), (40, E40 N)])) Try.func33 (by kernel_rfl) (by kernel_rfl) (by kernel_rfl) (Nat.le_of_ble_eq_true (by kernel_rfl)) (by kernel_rfl) (by kernel_rfl) (fun a => by kernel_rfl)

/-- (*moat/cache.Cache).Dirty -/
def H21 : List Hint := [.no, .join [(.normal, ⟨[.s 3 (.c (.sl 1))], []⟩)], .loop ⟨[.s 3 (.c (.sl 1)), .s 13 (.c (.int .i64))], []⟩, .no, .no, .join [(.normal, ⟨[.s 3 (.c (.sl 1))], []⟩)]]
def E21 (N : Nat) : Entry := entry [.c .ptr] [.s 2 (.c (.sl 1))] fun a => F_cache_Cache_Dirty N a
noncomputable def C21 : MC := mcOf (comp Try.prog 34 [] [] (bodyOf Try.f21) H21)
theorem S21 (N : Nat) : Sound Try.prog 21 (E21 N) :=
  sound_of (C := [(33, E33 N)]) (N := N) (ntmps := 34) (priv := []) (pu := []) (hs := H21) (mc := C21) (c := bodyOf Try.f21) (allS_get (⟨S33 N, trivial⟩ : AllS Try.prog [(33, E33 N)])) Try.func21 (by kernel_rfl) (by kernel_rfl) (by kernel_rfl) (Nat.le_of_ble_eq_true (by kernel_rfl)) (by kernel_rfl) (by kernel_rfl) (fun a => by kernel_rfl)

/-- (*moat/disk.Disk).Flush -/
def H31 : List Hint := [.no]
def E31 (N : Nat) : Entry := entry [.c .ptr] [.s 2 (.c (.int .i64))] fun a => F_disk_Disk_Flush N a
noncomputable def C31 : MC := mcOf (comp Try.prog 12 [] [] (bodyOf Try.f31) H31)
theorem S31 (N : Nat) : Sound Try.prog 31 (E31 N) :=
  sound_of (C := [(38, E38 N)]) (N := N) (ntmps := 12) (priv := []) (pu := []) (hs := H31) (mc := C31) (c := bodyOf Try.f31) (allS_get (⟨S38 N, trivial⟩ : AllS Try.prog [(38, E38 N)])) Try.func31 (by kernel_rfl) (by kernel_rfl) (by kernel_rfl) (Nat.le_of_ble_eq_true (by kernel_rfl)) (by kernel_rfl) (by kernel_rfl) (fun a => by kernel_rfl)

/-- (*moat/cache.Cache).Flush -/
def H19 : List Hint := [.no, .join [(.normal, ⟨[], []⟩), (.ret, ⟨[.s 2 (.c (.int .i64))], []⟩)], .loop ⟨[.s 12 (.c (.int .i64))], []⟩, .no, .join [(.normal, ⟨[], []⟩), (.ret, ⟨[.s 2 (.c (.int .i64))], []⟩)], .no, .no]
def E19 (N : Nat) : Entry := entry [.c .ptr] [.s 2 (.c (.int .i64))] fun a => F_cache_Cache_Flush N a
noncomputable def C19 : MC := mcOf (comp Try.prog 39 [] [] (bodyOf Try.f19) H19)
theorem S19 (N : Nat) : Sound Try.prog 19 (E19 N) :=
  sound_of (C := [(21, E21 N), (30, E30 N), (31, E31 N)]) (N := N) (ntmps := 39) (priv := []) (pu := []) (hs := H19) (mc := C19) (c := bodyOf Try.f19) (allS_get (⟨S21 N, ⟨S30 N, ⟨S31 N, trivial⟩⟩⟩ : AllS Try.prog [(21, E21 N), (30, E30 N), (31, E31 N)])) Try.func19 (by kernel_rfl) (by kernel_rfl) (by kernel_rfl) (Nat.le_of_ble_eq_true (by kernel_rfl)) (by kernel_rfl) (by kernel_rfl) (fun a => by kernel_rfl)

/-- moat/moatlaw06.CacheLast -/
def H4 : List Hint := [.no, .join [(.normal, ⟨[.p 11 (.arr .u8)], []⟩), (.ret, ⟨[.s 4 (.c .bool)], []⟩)], .loop ⟨[.s 44 (.c (.int .i64)), .p 11 (.arr .u8)], [(11, 11, 0)]⟩, .no, .join [(.normal, ⟨[.p 11 (.arr .u8)], [(11, 11, 0)]⟩), (.ret, ⟨[.s 4 (.c .bool)], []⟩)], .no, .no, .join [(.normal, ⟨[.p 11 (.arr .u8)], [(11, 11, 0)]⟩), (.ret, ⟨[.s 4 (.c .bool)], []⟩)], .draw true [], .no, .join [(.normal, ⟨[.p 11 (.arr .u8)], [(11, 11, 0)]⟩), (.ret, ⟨[.s 4 (.c .bool)], []⟩)], .join [(.normal, ⟨[.p 11 (.arr .u8)], [(11, 11, 0)]⟩)], .no, .join [(.normal, ⟨[], []⟩), (.ret, ⟨[.s 4 (.c .bool)], []⟩)], .join [(.normal, ⟨[], []⟩), (.ret, ⟨[.s 4 (.c .bool)], []⟩)], .join [(.normal, ⟨[], []⟩), (.ret, ⟨[.s 4 (.c .bool)], []⟩)], .no, .join [(.normal, ⟨[], []⟩), (.ret, ⟨[.s 4 (.c .bool)], []⟩)], .loop ⟨[.s 133 (.c (.int .i64))], []⟩, .no, .no, .no, .no]
def E4 (N : Nat) : Entry := entry [.c (.int .u8), .c (.sl 4)] [.s 4 (.c .bool)] fun a => F_moatlaw06_CacheLast N a.1 a.2
noncomputable def C4 : MC := mcOf (comp Try.prog 149 [11, 13] [13, 48, 52, 56, 63, 80, 93, 95, 101, 103, 115, 121] (bodyOf Try.f4) H4)
theorem S4 (N : Nat) : Sound Try.prog 4 (E4 N) :=
  sound_of (C := [(8, E8 N), (9, E9 N), (10, E10 N), (11, E11 N), (15, E15 N), (17, E17 N), (16, E16 N), (13, E13 N), (14, E14 N), (19, E19 N), (12, E12 N)]) (N := N) (ntmps := 149) (priv := [11, 13]) (pu := [13, 48, 52, 56, 63, 80, 93, 95, 101, 103, 115, 121]) (hs := H4) (mc := C4) (c := bodyOf Try.f4) (allS_get (⟨S8 N, ⟨S9 N, ⟨S10 N, ⟨S11 N, ⟨S15 N, ⟨S17 N, ⟨S16 N, ⟨S13 N, ⟨S14 N, ⟨S19 N, ⟨S12 N, trivial⟩⟩⟩⟩⟩⟩⟩⟩⟩⟩⟩ : AllS Try.prog [(8, E8 N), (9, E9 N), (10, E10 N), (11, E11 N), (15, E15 N), (17, E17 N), (16, E16 N), (13, E13 N), (14, E14 N), (19, E19 N), (12, E12 N)])) Try.func4 (by kernel_rfl) (by kernel_rfl) (by kernel_rfl) (Nat.le_of_ble_eq_true (by kernel_rfl)) (by kernel_rfl) (by kernel_rfl) (fun a => by kernel_rfl)

/-- moat/moatlaw06.CachePinned -/
def H5 : List Hint := [.no, .join [(.normal, ⟨[], []⟩), (.ret, ⟨[.s 4 (.c .bool)], []⟩)], .loop ⟨[.s 52 (.c (.int .i64))], []⟩, .no, .no, .no, .join [(.normal, ⟨[], []⟩), (.ret, ⟨[.s 4 (.c .bool)], []⟩)], .join [(.normal, ⟨[], []⟩), (.ret, ⟨[.s 4 (.c .bool)], []⟩)], .join [(.normal, ⟨[], []⟩), (.ret, ⟨[.s 4 (.c .bool)], []⟩)], .no, .draw true [], .no, .no]
def E5 (N : Nat) : Entry := entry [.c (.int .u8), .c (.sl 4)] [.s 4 (.c .bool)] fun a => F_moatlaw06_CachePinned N a.1 a.2
noncomputable def C5 : MC := mcOf (comp Try.prog 130 [11] [11, 56, 62, 68, 70] (bodyOf Try.f5) H5)
theorem S5 (N : Nat) : Sound Try.prog 5 (E5 N) :=
  sound_of (C := [(8, E8 N), (9, E9 N), (10, E10 N), (17, E17 N), (16, E16 N), (13, E13 N), (11, E11 N), (15, E15 N), (19, E19 N), (20, E20 N), (14, E14 N)]) (N := N) (ntmps := 130) (priv := [11]) (pu := [11, 56, 62, 68, 70]) (hs := H5) (mc := C5) (c := bodyOf Try.f5) (allS_get (⟨S8 N, ⟨S9 N, ⟨S10 N, ⟨S17 N, ⟨S16 N, ⟨S13 N, ⟨S11 N, ⟨S15 N, ⟨S19 N, ⟨S20 N, ⟨S14 N, trivial⟩⟩⟩⟩⟩⟩⟩⟩⟩⟩⟩ : AllS Try.prog [(8, E8 N), (9, E9 N), (10, E10 N), (17, E17 N), (16, E16 N), (13, E13 N), (11, E11 N), (15, E15 N), (19, E19 N), (20, E20 N), (14, E14 N)])) Try.func5 (by kernel_rfl) (by kernel_rfl) (by kernel_rfl) (Nat.le_of_ble_eq_true (by kernel_rfl)) (by kernel_rfl) (by kernel_rfl) (fun a => by kernel_rfl)

/-- moat/moatlaw06.CacheNil -/
def H6 : List Hint := []
def E6 (N : Nat) : Entry := entry [.st [.int .i64, .sl 1, .int .u16], .c (.int .i64)] [.s 4 (.c .bool)] fun a => F_moatlaw06_CacheNil N a.1 a.2
noncomputable def C6 : MC := mcOf (comp Try.prog 81 [2] [2, 15, 40, 48] (bodyOf Try.f6) H6)
theorem S6 (N : Nat) : Sound Try.prog 6 (E6 N) :=
  sound_of (C := [(8, E8 N), (15, E15 N), (10, E10 N), (16, E16 N), (13, E13 N), (14, E14 N), (19, E19 N), (12, E12 N), (21, E21 N)]) (N := N) (ntmps := 81) (priv := [2]) (pu := [2, 15, 40, 48]) (hs := H6) (mc := C6) (c := bodyOf Try.f6) (allS_get (⟨S8 N, ⟨S15 N, ⟨S10 N, ⟨S16 N, ⟨S13 N, ⟨S14 N, ⟨S19 N, ⟨S12 N, ⟨S21 N, trivial⟩⟩⟩⟩⟩⟩⟩⟩⟩ : AllS Try.prog [(8, E8 N), (15, E15 N), (10, E10 N), (16, E16 N), (13, E13 N), (14, E14 N), (19, E19 N), (12, E12 N), (21, E21 N)])) Try.func6 (by kernel_rfl) (by kernel_rfl) (by kernel_rfl) (Nat.le_of_ble_eq_true (by kernel_rfl)) (by kernel_rfl) (by kernel_rfl) (fun a => by kernel_rfl)

/-- (*moat/disk.Disk).Done -/
def H22 : List Hint := [.no]
def E22 (N : Nat) : Entry := entry [.c .ptr] [.s 2 (.c (.int .i64))] fun a => F_disk_Disk_Done N a
noncomputable def C22 : MC := mcOf (comp Try.prog 9 [] [] (bodyOf Try.f22) H22)
theorem S22 (N : Nat) : Sound Try.prog 22 (E22 N) :=
  sound_of (C := []) (N := N) (ntmps := 9) (priv := []) (pu := []) (hs := H22) (mc := C22) (c := bodyOf Try.f22) (allS_get (trivial : AllS Try.prog [])) Try.func22 (by kernel_rfl) (by kernel_rfl) (by kernel_rfl) (Nat.le_of_ble_eq_true (by kernel_rfl)) (by kernel_rfl) (by kernel_rfl) (fun a => by kernel_rfl)

/-- (*moat/disk.Disk).Crash -/
def H23 : List Hint := [.no, .join [(.normal, ⟨[], []⟩)], .loop ⟨[.s 4 (.c (.int .i64))], []⟩, .no, .no, .draw false [], .join [(.normal, ⟨[], []⟩)], .loop ⟨[.s 45 (.c (.int .i64))], []⟩, .no, .no, .join [(.normal, ⟨[], []⟩)], .draw false []]
def E23 (N : Nat) : Entry := entry [.c .ptr, .c (.int .u64)] [] fun a => F_disk_Disk_Crash N a.1 a.2
noncomputable def C23 : MC := mcOf (comp Try.prog 75 [6] [] (bodyOf Try.f23) H23)
theorem S23 (N : Nat) : Sound Try.prog 23 (E23 N) :=
  sound_of (C := []) (N := N) (ntmps := 75) (priv := [6]) (pu := []) (hs := H23) (mc := C23) (c := bodyOf Try.f23) (allS_get (trivial : AllS Try.prog [])) Try.func23 (by kernel_rfl) (by kernel_rfl) (by kernel_rfl) (Nat.le_of_ble_eq_true (by kernel_rfl)) (by kernel_rfl) (by kernel_rfl) (fun a => by kernel_rfl)

/-- moat/moatlaw06.CacheClean -/
def H7 : List Hint := [.no, .join [(.normal, ⟨[.p 10 (.arr .u8)], [(10, 10, 0)]⟩), (.ret, ⟨[.s 4 (.c .bool)], []⟩)], .loop ⟨[.s 40 (.c (.int .i64)), .p 10 (.arr .u8)], [(10, 10, 0)]⟩, .no, .no, .no, .join [(.normal, ⟨[.p 10 (.arr .u8)], [(10, 10, 0)]⟩), (.ret, ⟨[.s 4 (.c .bool)], []⟩)], .join [(.normal, ⟨[.p 10 (.arr .u8)], [(10, 10, 0)]⟩), (.ret, ⟨[.s 4 (.c .bool)], []⟩)], .join [(.normal, ⟨[.p 10 (.arr .u8)], [(10, 10, 0)]⟩), (.ret, ⟨[.s 4 (.c .bool)], []⟩)], .no, .no, .no, .join [(.normal, ⟨[], []⟩), (.ret, ⟨[.s 4 (.c .bool)], []⟩)], .loop ⟨[.s 100 (.c (.int .i64))], []⟩, .no, .no, .draw true [], .no]
def E7 (N : Nat) : Entry := entry [.c (.int .u8), .c (.sl 4)] [.s 4 (.c .bool)] fun a => F_moatlaw06_CacheClean N a.1 a.2
noncomputable def C7 : MC := mcOf (comp Try.prog 124 [10, 12] [12, 44, 50, 56, 58, 63, 67, 71, 73] (bodyOf Try.f7) H7)
theorem S7 (N : Nat) : Sound Try.prog 7 (E7 N) :=
  sound_of (C := [(8, E8 N), (9, E9 N), (10, E10 N), (11, E11 N), (15, E15 N), (17, E17 N), (16, E16 N), (19, E19 N), (21, E21 N), (22, E22 N), (23, E23 N), (20, E20 N)]) (N := N) (ntmps := 124) (priv := [10, 12]) (pu := [12, 44, 50, 56, 58, 63, 67, 71, 73]) (hs := H7) (mc := C7) (c := bodyOf Try.f7) (allS_get (⟨S8 N, ⟨S9 N, ⟨S10 N, ⟨S11 N, ⟨S15 N, ⟨S17 N, ⟨S16 N, ⟨S19 N, ⟨S21 N, ⟨S22 N, ⟨S23 N, ⟨S20 N, trivial⟩⟩⟩⟩⟩⟩⟩⟩⟩⟩⟩⟩ : AllS Try.prog [(8, E8 N), (9, E9 N), (10, E10 N), (11, E11 N), (15, E15 N), (17, E17 N), (16, E16 N), (19, E19 N), (21, E21 N), (22, E22 N), (23, E23 N), (20, E20 N)])) Try.func7 (by kernel_rfl) (by kernel_rfl) (by kernel_rfl) (Nat.le_of_ble_eq_true (by kernel_rfl)) (by kernel_rfl) (by kernel_rfl) (fun a => by kernel_rfl)

end Go.Proofs.Ytpnppebjcenkkaa
