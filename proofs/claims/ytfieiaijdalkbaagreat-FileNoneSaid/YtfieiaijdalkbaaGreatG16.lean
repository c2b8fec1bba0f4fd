/- PRINTED by gen.py: that the code comes to what is printed. Not trusted: Lean checks it. -/
import Derived.Test.YtfieiaijdalkbaaGreatMXR
import Derived.Test.YtfieiaijdalkbaaGreatD16
import Derived.Test.YtfieiaijdalkbaaGreatProg
import Derived.KernelRfl
namespace Go.Proofs.YtfieiaijdalkbaaGreat
open Go.Mini Go.Moat
set_option maxRecDepth 100000
def H97 : List Hint := []
def E97 (N : Nat) : Entry := entry [.c (.int .i64), .c (.int .i64), .c (.int .i64)] [.s 6 (.c .bool)] fun a => F_0o N a.1 a.2.1 a.2.2
noncomputable def C97 : MC := mcOf (comp Tryz.prog 15 [] [] (bodyOf Tryz.f97) none H97)
theorem S97 (N : Nat) : Sound Tryz.prog 97 (E97 N) :=
 sound_of (C := []) (N := N) (ntmps := 15) (priv := []) (pu := []) (hs := H97) (mc := C97) (c := bodyOf Tryz.f97) (allS_get (trivial : AllS Tryz.prog [])) Tryz.func97 (by kernel_rfl) (by kernel_rfl) (by kernel_rfl) (Nat.le_of_ble_eq_true (by kernel_rfl)) (by kernel_rfl) (by kernel_rfl) (fun a => by kernel_rfl)
def H57 : List Hint := [.no, .draw false []]
def E57 (N : Nat) : Entry := entry [.st [.int .i64, .int .i64, .int .i64, .int .i64]] [.s 2 (.c .bool)] fun a => F_06 N a
noncomputable def C57 : MC := mcOf (comp Tryz.prog 30 [1] [1, 3, 8, 14, 19, 23, 25] (bodyOf Tryz.f57) none H57)
theorem S57 (N : Nat) : Sound Tryz.prog 57 (E57 N) :=
 sound_of (C := [(97, E97 N)]) (N := N) (ntmps := 30) (priv := [1]) (pu := [1, 3, 8, 14, 19, 23, 25]) (hs := H57) (mc := C57) (c := bodyOf Tryz.f57) (allS_get (⟨S97 N, trivial⟩ : AllS Tryz.prog [(97, E97 N)])) Tryz.func57 (by kernel_rfl) (by kernel_rfl) (by kernel_rfl) (Nat.le_of_ble_eq_true (by kernel_rfl)) (by kernel_rfl) (by kernel_rfl) (fun a => by kernel_rfl)
def H58 : List Hint := []
def E58 (N : Nat) : Entry := entry [.c (.int .i64), .c .ptr] [.s 3 (.c (.int .i64))] fun a => F_04 N a.1 a.2
noncomputable def C58 : MC := mcOf (comp Tryz.prog 8 [] [] (bodyOf Tryz.f58) none H58)
theorem S58 (N : Nat) : Sound Tryz.prog 58 (E58 N) :=
 sound_of (C := []) (N := N) (ntmps := 8) (priv := []) (pu := []) (hs := H58) (mc := C58) (c := bodyOf Tryz.f58) (allS_get (trivial : AllS Tryz.prog [])) Tryz.func58 (by kernel_rfl) (by kernel_rfl) (by kernel_rfl) (Nat.le_of_ble_eq_true (by kernel_rfl)) (by kernel_rfl) (by kernel_rfl) (fun a => by kernel_rfl)
def H27 : List Hint := [.no, .draw false []]
def E27 (N : Nat) : Entry := entry [.st [.int .i64, .int .i64, .int .i64, .int .i64]] [.m 2 (.st [.int .i64, .int .i64, .int .i64, .int .i64, .int .i64, .int .i64, .int .i64]), .s 3 (.c (.int .i64))] fun a => F_0f N a
noncomputable def C27 : MC := mcOf (comp Tryz.prog 36 [1, 2] [1, 2, 14, 24, 29, 31] (bodyOf Tryz.f27) none H27)
theorem S27 (N : Nat) : Sound Tryz.prog 27 (E27 N) :=
 sound_of (C := [(57, E57 N), (58, E58 N)]) (N := N) (ntmps := 36) (priv := [1, 2]) (pu := [1, 2, 14, 24, 29, 31]) (hs := H27) (mc := C27) (c := bodyOf Tryz.f27) (allS_get (⟨S57 N, ⟨S58 N, trivial⟩⟩ : AllS Tryz.prog [(57, E57 N), (58, E58 N)])) Tryz.func27 (by kernel_rfl) (by kernel_rfl) (by kernel_rfl) (Nat.le_of_ble_eq_true (by kernel_rfl)) (by kernel_rfl) (by kernel_rfl) (fun a => by kernel_rfl)
def H28 : List Hint := [.no]
def E28 (N : Nat) : Entry := entry [.c (.int .i64)] [.s 2 (.c .ptr), .s 3 (.c (.int .i64))] fun a => F_1v N a
noncomputable def C28 : MC := mcOf (comp Tryz.prog 14 [] [] (bodyOf Tryz.f28) none H28)
theorem S28 (N : Nat) : Sound Tryz.prog 28 (E28 N) :=
 sound_of (C := []) (N := N) (ntmps := 14) (priv := []) (pu := []) (hs := H28) (mc := C28) (c := bodyOf Tryz.f28) (allS_get (trivial : AllS Tryz.prog [])) Tryz.func28 (by kernel_rfl) (by kernel_rfl) (by kernel_rfl) (Nat.le_of_ble_eq_true (by kernel_rfl)) (by kernel_rfl) (by kernel_rfl) (fun a => by kernel_rfl)
def H59 : List Hint := [.no]
def E59 (N : Nat) : Entry := entry [.c .ptr] [.s 2 (.c (.int .i64))] fun a => F_02 N a
noncomputable def C59 : MC := mcOf (comp Tryz.prog 10 [] [] (bodyOf Tryz.f59) none H59)
theorem S59 (N : Nat) : Sound Tryz.prog 59 (E59 N) :=
 sound_of (C := []) (N := N) (ntmps := 10) (priv := []) (pu := []) (hs := H59) (mc := C59) (c := bodyOf Tryz.f59) (allS_get (trivial : AllS Tryz.prog [])) Tryz.func59 (by kernel_rfl) (by kernel_rfl) (by kernel_rfl) (Nat.le_of_ble_eq_true (by kernel_rfl)) (by kernel_rfl) (by kernel_rfl) (fun a => by kernel_rfl)
def H49 : List Hint := [.no]
def E49 (N : Nat) : Entry := entry [.st [.int .i64, .int .i64, .int .i64, .int .i64]] [.s 2 (.c (.int .i64))] fun a => F_0g N a
noncomputable def C49 : MC := mcOf (comp Tryz.prog 10 [1] [1, 6] (bodyOf Tryz.f49) none H49)
theorem S49 (N : Nat) : Sound Tryz.prog 49 (E49 N) :=
 sound_of (C := [(57, E57 N)]) (N := N) (ntmps := 10) (priv := [1]) (pu := [1, 6]) (hs := H49) (mc := C49) (c := bodyOf Tryz.f49) (allS_get (⟨S57 N, trivial⟩ : AllS Tryz.prog [(57, E57 N)])) Tryz.func49 (by kernel_rfl) (by kernel_rfl) (by kernel_rfl) (Nat.le_of_ble_eq_true (by kernel_rfl)) (by kernel_rfl) (by kernel_rfl) (fun a => by kernel_rfl)
def H98 : List Hint := [.no]
def E98 (N : Nat) : Entry := entry [.c (.int .i64)] [.s 2 (.c (.int .i64))] fun a => F_0p N a
noncomputable def C98 : MC := mcOf (comp Tryz.prog 11 [] [] (bodyOf Tryz.f98) none H98)
theorem S98 (N : Nat) : Sound Tryz.prog 98 (E98 N) :=
 sound_of (C := []) (N := N) (ntmps := 11) (priv := []) (pu := []) (hs := H98) (mc := C98) (c := bodyOf Tryz.f98) (allS_get (trivial : AllS Tryz.prog [])) Tryz.func98 (by kernel_rfl) (by kernel_rfl) (by kernel_rfl) (Nat.le_of_ble_eq_true (by kernel_rfl)) (by kernel_rfl) (by kernel_rfl) (fun a => by kernel_rfl)
def H60 : List Hint := [.draw false []]
def E60 (N : Nat) : Entry := entry [.st [.int .i64, .int .i64, .int .i64, .int .i64]] [.s 2 (.c .bool)] fun a => F_03 N a
noncomputable def C60 : MC := mcOf (comp Tryz.prog 11 [1] [1, 7] (bodyOf Tryz.f60) none H60)
theorem S60 (N : Nat) : Sound Tryz.prog 60 (E60 N) :=
 sound_of (C := [(49, E49 N), (98, E98 N)]) (N := N) (ntmps := 11) (priv := [1]) (pu := [1, 7]) (hs := H60) (mc := C60) (c := bodyOf Tryz.f60) (allS_get (⟨S49 N, ⟨S98 N, trivial⟩⟩ : AllS Tryz.prog [(49, E49 N), (98, E98 N)])) Tryz.func60 (by kernel_rfl) (by kernel_rfl) (by kernel_rfl) (Nat.le_of_ble_eq_true (by kernel_rfl)) (by kernel_rfl) (by kernel_rfl) (fun a => by kernel_rfl)
def H134 : List Hint := []
def E134 (N : Nat) : Entry := entry [.c (.int .u64), .c (.int .i64)] [.s 4 (.c .bool)] fun a => F_1w N a.1 a.2
noncomputable def C134 : MC := mcOf (comp Tryz.prog 14 [] [] (bodyOf Tryz.f134) none H134)
theorem S134 (N : Nat) : Sound Tryz.prog 134 (E134 N) :=
 sound_of (C := []) (N := N) (ntmps := 14) (priv := []) (pu := []) (hs := H134) (mc := C134) (c := bodyOf Tryz.f134) (allS_get (trivial : AllS Tryz.prog [])) Tryz.func134 (by kernel_rfl) (by kernel_rfl) (by kernel_rfl) (Nat.le_of_ble_eq_true (by kernel_rfl)) (by kernel_rfl) (by kernel_rfl) (fun a => by kernel_rfl)
def H135 : List Hint := [.join [(.normal, ⟨[], []⟩)], .loop ⟨[.s 7 (.c (.int .i64))], []⟩, .no, .no]
def E135 (N : Nat) : Entry := entry [.c (.sl 1), .c (.int .u64)] [] fun a => F_1x N a.1 a.2
noncomputable def C135 : MC := mcOf (comp Tryz.prog 19 [] [] (bodyOf Tryz.f135) none H135)
theorem S135 (N : Nat) : Sound Tryz.prog 135 (E135 N) :=
 sound_of (C := []) (N := N) (ntmps := 19) (priv := []) (pu := []) (hs := H135) (mc := C135) (c := bodyOf Tryz.f135) (allS_get (trivial : AllS Tryz.prog [])) Tryz.func135 (by kernel_rfl) (by kernel_rfl) (by kernel_rfl) (Nat.le_of_ble_eq_true (by kernel_rfl)) (by kernel_rfl) (by kernel_rfl) (fun a => by kernel_rfl)
def H99 : List Hint := [.no, .no, .no, .join [(.normal, ⟨[], []⟩), (.ret, ⟨[.s 4 (.c (.sl 1)), .s 5 (.c (.int .i64))], []⟩)], .loop ⟨[.s 29 (.c (.int .i64))], []⟩, .no, .no, .no]
def E99 (N : Nat) : Entry := entry [.c (.int .i64), .c (.sl 1)] [.s 4 (.c (.sl 1)), .s 5 (.c (.int .i64))] fun a => F_07 N a.1 a.2
noncomputable def C99 : MC := mcOf (comp Tryz.prog 51 [] [] (bodyOf Tryz.f99) none H99)
theorem S99 (N : Nat) : Sound Tryz.prog 99 (E99 N) :=
 sound_of (C := [(134, E134 N), (135, E135 N)]) (N := N) (ntmps := 51) (priv := []) (pu := []) (hs := H99) (mc := C99) (c := bodyOf Tryz.f99) (allS_get (⟨S134 N, ⟨S135 N, trivial⟩⟩ : AllS Tryz.prog [(134, E134 N), (135, E135 N)])) Tryz.func99 (by kernel_rfl) (by kernel_rfl) (by kernel_rfl) (Nat.le_of_ble_eq_true (by kernel_rfl)) (by kernel_rfl) (by kernel_rfl) (fun a => by kernel_rfl)
def H100 : List Hint := [.no, .no, .no]
def E100 (N : Nat) : Entry := entry [.c (.sl 1), .c (.int .i64)] [.s 4 (.c (.sl 1)), .s 5 (.c (.int .i64))] fun a => F_11 N a.1 a.2
noncomputable def C100 : MC := mcOf (comp Tryz.prog 25 [] [] (bodyOf Tryz.f100) none H100)
theorem S100 (N : Nat) : Sound Tryz.prog 100 (E100 N) :=
 sound_of (C := []) (N := N) (ntmps := 25) (priv := []) (pu := []) (hs := H100) (mc := C100) (c := bodyOf Tryz.f100) (allS_get (trivial : AllS Tryz.prog [])) Tryz.func100 (by kernel_rfl) (by kernel_rfl) (by kernel_rfl) (Nat.le_of_ble_eq_true (by kernel_rfl)) (by kernel_rfl) (by kernel_rfl) (fun a => by kernel_rfl)
def H153 : List Hint := [.jump 0 ⟨[.s 5 (.c (.int .u32)), .s 6 (.c (.int .u32)), .s 7 (.c (.sl 1))], []⟩, .join [(.normal, ⟨[.s 5 (.c (.int .u32)), .s 6 (.c (.int .u32))], []⟩)], .loop ⟨[.s 5 (.c (.int .u32)), .s 6 (.c (.int .u32)), .s 25 (.c (.int .i64))], []⟩, .no, .no, .no, .join [(.normal, ⟨[.s 5 (.c (.int .u32)), .s 6 (.c (.int .u32))], []⟩)], .loop ⟨[.s 5 (.c (.int .u32)), .s 6 (.c (.int .u32)), .s 25 (.c (.int .i64))], []⟩, .no, .no, .no]
def E153 (N : Nat) : Entry := entry [.c (.int .u32), .c (.sl 1)] [.s 4 (.c (.int .u32))] fun a => F_1y N a.1 a.2
noncomputable def C153 : MC := mcOf (comp Tryz.prog 51 [] [] (bodyOf Tryz.f153) none H153)
theorem S153 (N : Nat) : Sound Tryz.prog 153 (E153 N) :=
 sound_of (C := []) (N := N) (ntmps := 51) (priv := []) (pu := []) (hs := H153) (mc := C153) (c := bodyOf Tryz.f153) (allS_get (trivial : AllS Tryz.prog [])) Tryz.func153 (by kernel_rfl) (by kernel_rfl) (by kernel_rfl) (Nat.le_of_ble_eq_true (by kernel_rfl)) (by kernel_rfl) (by kernel_rfl) (fun a => by kernel_rfl)
def H136 : List Hint := []
def E136 (N : Nat) : Entry := entry [.c (.sl 1)] [.s 2 (.c (.int .u32))] fun a => F_12 N a
noncomputable def C136 : MC := mcOf (comp Tryz.prog 5 [] [] (bodyOf Tryz.f136) none H136)
theorem S136 (N : Nat) : Sound Tryz.prog 136 (E136 N) :=
 sound_of (C := [(153, E153 N)]) (N := N) (ntmps := 5) (priv := []) (pu := []) (hs := H136) (mc := C136) (c := bodyOf Tryz.f136) (allS_get (⟨S153 N, trivial⟩ : AllS Tryz.prog [(153, E153 N)])) Tryz.func136 (by kernel_rfl) (by kernel_rfl) (by kernel_rfl) (Nat.le_of_ble_eq_true (by kernel_rfl)) (by kernel_rfl) (by kernel_rfl) (fun a => by kernel_rfl)
def H101 : List Hint := []
def E101 (N : Nat) : Entry := entry [.c (.sl 1)] [.s 2 (.c (.sl 1))] fun a => F_13 N a
noncomputable def C101 : MC := mcOf (comp Tryz.prog 28 [] [] (bodyOf Tryz.f101) none H101)
theorem S101 (N : Nat) : Sound Tryz.prog 101 (E101 N) :=
 sound_of (C := [(136, E136 N), (99, E99 N)]) (N := N) (ntmps := 28) (priv := []) (pu := []) (hs := H101) (mc := C101) (c := bodyOf Tryz.f101) (allS_get (⟨S136 N, ⟨S99 N, trivial⟩⟩ : AllS Tryz.prog [(136, E136 N), (99, E99 N)])) Tryz.func101 (by kernel_rfl) (by kernel_rfl) (by kernel_rfl) (Nat.le_of_ble_eq_true (by kernel_rfl)) (by kernel_rfl) (by kernel_rfl) (fun a => by kernel_rfl)
def H61 : List Hint := [.no]
def E61 (N : Nat) : Entry := entry [.st [.int .i64, .int .i64, .int .i64, .int .i64]] [.s 2 (.c (.sl 1)), .s 3 (.c (.int .i64))] fun a => F_14 N a
noncomputable def C61 : MC := mcOf (comp Tryz.prog 38 [1] [1, 12, 15, 18, 21] (bodyOf Tryz.f61) none H61)
theorem S61 (N : Nat) : Sound Tryz.prog 61 (E61 N) :=
 sound_of (C := [(57, E57 N), (99, E99 N), (100, E100 N), (101, E101 N)]) (N := N) (ntmps := 38) (priv := [1]) (pu := [1, 12, 15, 18, 21]) (hs := H61) (mc := C61) (c := bodyOf Tryz.f61) (allS_get (⟨S57 N, ⟨S99 N, ⟨S100 N, ⟨S101 N, trivial⟩⟩⟩⟩ : AllS Tryz.prog [(57, E57 N), (99, E99 N), (100, E100 N), (101, E101 N)])) Tryz.func61 (by kernel_rfl) (by kernel_rfl) (by kernel_rfl) (Nat.le_of_ble_eq_true (by kernel_rfl)) (by kernel_rfl) (by kernel_rfl) (fun a => by kernel_rfl)
def H102 : List Hint := []
def E102 (N : Nat) : Entry := entry [.c .ptr, .c (.int .i64)] [.s 4 (.c .bool)] fun a => F_15 N a.1 a.2
noncomputable def C102 : MC := mcOf (comp Tryz.prog 13 [] [] (bodyOf Tryz.f102) none H102)
theorem S102 (N : Nat) : Sound Tryz.prog 102 (E102 N) :=
 sound_of (C := [(59, E59 N)]) (N := N) (ntmps := 13) (priv := []) (pu := []) (hs := H102) (mc := C102) (c := bodyOf Tryz.f102) (allS_get (⟨S59 N, trivial⟩ : AllS Tryz.prog [(59, E59 N)])) Tryz.func102 (by kernel_rfl) (by kernel_rfl) (by kernel_rfl) (Nat.le_of_ble_eq_true (by kernel_rfl)) (by kernel_rfl) (by kernel_rfl) (fun a => by kernel_rfl)
def H103 : List Hint := [.no, .no, .no, .no, .join [(.normal, ⟨[], []⟩)]]
def E103 (N : Nat) : Entry := entry [.c .ptr] [.s 2 (.c (.int .i64))] fun a => F_16 N a
noncomputable def C103 : MC := mcOf (comp Tryz.prog 40 [] [] (bodyOf Tryz.f103) none H103)
theorem S103 (N : Nat) : Sound Tryz.prog 103 (E103 N) :=
 sound_of (C := []) (N := N) (ntmps := 40) (priv := []) (pu := []) (hs := H103) (mc := C103) (c := bodyOf Tryz.f103) (allS_get (trivial : AllS Tryz.prog [])) Tryz.func103 (by kernel_rfl) (by kernel_rfl) (by kernel_rfl) (Nat.le_of_ble_eq_true (by kernel_rfl)) (by kernel_rfl) (by kernel_rfl) (fun a => by kernel_rfl)
def H62 : List Hint := [.no, .no, .no, .no, .draw false [], .draw false [], .draw false []]
def E62 (N : Nat) : Entry := entry [.c .ptr, .st [.int .i64, .sl 1, .int .u16]] [.s 4 (.c (.int .i64))] fun a => F_17 N a.1 a.2
noncomputable def C62 : MC := mcOf (comp Tryz.prog 63 [3] [3, 12, 17, 27, 31, 39, 45, 59] (bodyOf Tryz.f62) none H62)
theorem S62 (N : Nat) : Sound Tryz.prog 62 (E62 N) :=
 sound_of (C := [(102, E102 N), (103, E103 N)]) (N := N) (ntmps := 63) (priv := [3]) (pu := [3, 12, 17, 27, 31, 39, 45, 59]) (hs := H62) (mc := C62) (c := bodyOf Tryz.f62) (allS_get (⟨S102 N, ⟨S103 N, trivial⟩⟩ : AllS Tryz.prog [(102, E102 N), (103, E103 N)])) Tryz.func62 (by kernel_rfl) (by kernel_rfl) (by kernel_rfl) (Nat.le_of_ble_eq_true (by kernel_rfl)) (by kernel_rfl) (by kernel_rfl) (fun a => by kernel_rfl)
def H63 : List Hint := [.no]
def E63 (N : Nat) : Entry := entry [.c .ptr] [.s 2 (.c (.int .i64))] fun a => F_18 N a
noncomputable def C63 : MC := mcOf (comp Tryz.prog 12 [] [] (bodyOf Tryz.f63) none H63)
theorem S63 (N : Nat) : Sound Tryz.prog 63 (E63 N) :=
 sound_of (C := [(103, E103 N)]) (N := N) (ntmps := 12) (priv := []) (pu := []) (hs := H63) (mc := C63) (c := bodyOf Tryz.f63) (allS_get (⟨S103 N, trivial⟩ : AllS Tryz.prog [(103, E103 N)])) Tryz.func63 (by kernel_rfl) (by kernel_rfl) (by kernel_rfl) (Nat.le_of_ble_eq_true (by kernel_rfl)) (by kernel_rfl) (by kernel_rfl) (fun a => by kernel_rfl)
def H29 : List Hint := [.no, .no, .draw true [], .no, .join [(.normal, ⟨[], []⟩), (.ret, ⟨[.s 4 (.c (.int .i64))], []⟩)], .loop ⟨[.s 7 (.c (.sl 1)), .s 41 (.c (.int .i64))], []⟩, .no, .no, .no]
def E29 (N : Nat) : Entry := entry [.c .ptr, .st [.int .i64, .int .i64, .int .i64, .int .i64]] [.s 4 (.c (.int .i64))] fun a => F_19 N a.1 a.2
noncomputable def C29 : MC := mcOf (comp Tryz.prog 56 [3, 5] [3, 5, 25, 39] (bodyOf Tryz.f29) none H29)
theorem S29 (N : Nat) : Sound Tryz.prog 29 (E29 N) :=
 sound_of (C := [(27, E27 N), (59, E59 N), (60, E60 N), (61, E61 N), (62, E62 N), (63, E63 N)]) (N := N) (ntmps := 56) (priv := [3, 5]) (pu := [3, 5, 25, 39]) (hs := H29) (mc := C29) (c := bodyOf Tryz.f29) (allS_get (⟨S27 N, ⟨S59 N, ⟨S60 N, ⟨S61 N, ⟨S62 N, ⟨S63 N, trivial⟩⟩⟩⟩⟩⟩ : AllS Tryz.prog [(27, E27 N), (59, E59 N), (60, E60 N), (61, E61 N), (62, E62 N), (63, E63 N)])) Tryz.func29 (by kernel_rfl) (by kernel_rfl) (by kernel_rfl) (Nat.le_of_ble_eq_true (by kernel_rfl)) (by kernel_rfl) (by kernel_rfl) (fun a => by kernel_rfl)
def H104 : List Hint := [.no, .no, .no, .no]
def E104 (N : Nat) : Entry := entry [.c .ptr, .c (.int .i64)] [.m 4 (.agg 65), .s 5 (.c (.int .i64))] fun a => F_1z N a.1 a.2
noncomputable def C104 : MC := mcOf (comp Tryz.prog 29 [4] [] (bodyOf Tryz.f104) none H104)
theorem S104 (N : Nat) : Sound Tryz.prog 104 (E104 N) :=
 sound_of (C := [(102, E102 N)]) (N := N) (ntmps := 29) (priv := [4]) (pu := []) (hs := H104) (mc := C104) (c := bodyOf Tryz.f104) (allS_get (⟨S102 N, trivial⟩ : AllS Tryz.prog [(102, E102 N)])) Tryz.func104 (by kernel_rfl) (by kernel_rfl) (by kernel_rfl) (Nat.le_of_ble_eq_true (by kernel_rfl)) (by kernel_rfl) (by kernel_rfl) (fun a => by kernel_rfl)
def H77 : List Hint := [.no]
def E77 (N : Nat) : Entry := entry [.c (.sl 1)] [.s 2 (.c (.sl 1))] fun a => F_1a N a
noncomputable def C77 : MC := mcOf (comp Tryz.prog 8 [] [] (bodyOf Tryz.f77) none H77)
theorem S77 (N : Nat) : Sound Tryz.prog 77 (E77 N) :=
 sound_of (C := []) (N := N) (ntmps := 8) (priv := []) (pu := []) (hs := H77) (mc := C77) (c := bodyOf Tryz.f77) (allS_get (trivial : AllS Tryz.prog [])) Tryz.func77 (by kernel_rfl) (by kernel_rfl) (by kernel_rfl) (Nat.le_of_ble_eq_true (by kernel_rfl)) (by kernel_rfl) (by kernel_rfl) (fun a => by kernel_rfl)
def H64 : List Hint := [.no]
def E64 (N : Nat) : Entry := entry [.c .ptr, .c (.int .i64)] [.s 4 (.c (.sl 1)), .s 5 (.c (.int .i64))] fun a => F_05 N a.1 a.2
noncomputable def C64 : MC := mcOf (comp Tryz.prog 20 [] [] (bodyOf Tryz.f64) none H64)
theorem S64 (N : Nat) : Sound Tryz.prog 64 (E64 N) :=
 sound_of (C := [(104, E104 N), (77, E77 N)]) (N := N) (ntmps := 20) (priv := []) (pu := []) (hs := H64) (mc := C64) (c := bodyOf Tryz.f64) (allS_get (⟨S104 N, ⟨S77 N, trivial⟩⟩ : AllS Tryz.prog [(104, E104 N), (77, E77 N)])) Tryz.func64 (by kernel_rfl) (by kernel_rfl) (by kernel_rfl) (Nat.le_of_ble_eq_true (by kernel_rfl)) (by kernel_rfl) (by kernel_rfl) (fun a => by kernel_rfl)
def H137 : List Hint := []
def E137 (N : Nat) : Entry := entry [.c (.int .i64), .c (.int .i64), .c (.int .i64)] [.s 6 (.c .bool)] fun a => F_20 N a.1 a.2.1 a.2.2
noncomputable def C137 : MC := mcOf (comp Tryz.prog 29 [] [] (bodyOf Tryz.f137) none H137)
theorem S137 (N : Nat) : Sound Tryz.prog 137 (E137 N) :=
 sound_of (C := []) (N := N) (ntmps := 29) (priv := []) (pu := []) (hs := H137) (mc := C137) (c := bodyOf Tryz.f137) (allS_get (trivial : AllS Tryz.prog [])) Tryz.func137 (by kernel_rfl) (by kernel_rfl) (by kernel_rfl) (Nat.le_of_ble_eq_true (by kernel_rfl)) (by kernel_rfl) (by kernel_rfl) (fun a => by kernel_rfl)
def H138 : List Hint := [.join [(.normal, ⟨[.s 3 (.c (.int .u64))], []⟩)], .loop ⟨[.s 3 (.c (.int .u64)), .s 7 (.c (.int .i64))], []⟩, .no, .no]
def E138 (N : Nat) : Entry := entry [.c (.sl 1)] [.s 2 (.c (.int .u64))] fun a => F_1b N a
noncomputable def C138 : MC := mcOf (comp Tryz.prog 22 [] [] (bodyOf Tryz.f138) none H138)
theorem S138 (N : Nat) : Sound Tryz.prog 138 (E138 N) :=
 sound_of (C := []) (N := N) (ntmps := 22) (priv := []) (pu := []) (hs := H138) (mc := C138) (c := bodyOf Tryz.f138) (allS_get (trivial : AllS Tryz.prog [])) Tryz.func138 (by kernel_rfl) (by kernel_rfl) (by kernel_rfl) (Nat.le_of_ble_eq_true (by kernel_rfl)) (by kernel_rfl) (by kernel_rfl) (fun a => by kernel_rfl)
def H105 : List Hint := [.no]
def E105 (N : Nat) : Entry := entry [.c (.sl 1), .c (.int .i64), .c (.int .i64)] [.s 6 (.c (.int .u64)), .s 7 (.c (.int .i64))] fun a => F_0h N a.1 a.2.1 a.2.2
noncomputable def C105 : MC := mcOf (comp Tryz.prog 21 [] [] (bodyOf Tryz.f105) none H105)
theorem S105 (N : Nat) : Sound Tryz.prog 105 (E105 N) :=
 sound_of (C := [(137, E137 N), (138, E138 N)]) (N := N) (ntmps := 21) (priv := []) (pu := []) (hs := H105) (mc := C105) (c := bodyOf Tryz.f105) (allS_get (⟨S137 N, ⟨S138 N, trivial⟩⟩ : AllS Tryz.prog [(137, E137 N), (138, E138 N)])) Tryz.func105 (by kernel_rfl) (by kernel_rfl) (by kernel_rfl) (Nat.le_of_ble_eq_true (by kernel_rfl)) (by kernel_rfl) (by kernel_rfl) (fun a => by kernel_rfl)
def H65 : List Hint := [.no, .join [(.normal, ⟨[], []⟩)], .loop ⟨[.s 5 (.c (.int .i64)), .s 22 (.c (.int .i64))], []⟩, .no, .no, .no]
def E65 (N : Nat) : Entry := entry [.c (.sl 1)] [.m 2 (.st [.int .i64, .int .i64, .int .i64, .int .i64]), .s 3 (.c (.int .i64))] fun a => F_21 N a
noncomputable def C65 : MC := mcOf (comp Tryz.prog 55 [2] [2] (bodyOf Tryz.f65) none H65)
theorem S65 (N : Nat) : Sound Tryz.prog 65 (E65 N) :=
 sound_of (C := [(105, E105 N), (61, E61 N)]) (N := N) (ntmps := 55) (priv := [2]) (pu := [2]) (hs := H65) (mc := C65) (c := bodyOf Tryz.f65) (allS_get (⟨S105 N, ⟨S61 N, trivial⟩⟩ : AllS Tryz.prog [(105, E105 N), (61, E61 N)])) Tryz.func65 (by kernel_rfl) (by kernel_rfl) (by kernel_rfl) (Nat.le_of_ble_eq_true (by kernel_rfl)) (by kernel_rfl) (by kernel_rfl) (fun a => by kernel_rfl)
def H139 : List Hint := [.no, .no]
def E139 (N : Nat) : Entry := entry [.c (.sl 1)] [.s 2 (.c (.sl 1)), .s 3 (.c (.int .i64))] fun a => F_22 N a
noncomputable def C139 : MC := mcOf (comp Tryz.prog 36 [] [] (bodyOf Tryz.f139) none H139)
theorem S139 (N : Nat) : Sound Tryz.prog 139 (E139 N) :=
 sound_of (C := [(105, E105 N), (136, E136 N)]) (N := N) (ntmps := 36) (priv := []) (pu := []) (hs := H139) (mc := C139) (c := bodyOf Tryz.f139) (allS_get (⟨S105 N, ⟨S136 N, trivial⟩⟩ : AllS Tryz.prog [(105, E105 N), (136, E136 N)])) Tryz.func139 (by kernel_rfl) (by kernel_rfl) (by kernel_rfl) (Nat.le_of_ble_eq_true (by kernel_rfl)) (by kernel_rfl) (by kernel_rfl) (fun a => by kernel_rfl)
def H90 : List Hint := [.draw true []]
def E90 (N : Nat) : Entry := entry [.c .ptr, .c (.int .u64), .c (.int .i64)] [.m 6 (.st [.int .i64, .sl 1, .int .u16])] fun a => F_1c N a.1 a.2.1 a.2.2
noncomputable def C90 : MC := mcOf (comp Tryz.prog 40 [6] [6] (bodyOf Tryz.f90) none H90)
theorem S90 (N : Nat) : Sound Tryz.prog 90 (E90 N) :=
 sound_of (C := [(99, E99 N), (100, E100 N), (101, E101 N)]) (N := N) (ntmps := 40) (priv := [6]) (pu := [6]) (hs := H90) (mc := C90) (c := bodyOf Tryz.f90) (allS_get (⟨S99 N, ⟨S100 N, ⟨S101 N, trivial⟩⟩⟩ : AllS Tryz.prog [(99, E99 N), (100, E100 N), (101, E101 N)])) Tryz.func90 (by kernel_rfl) (by kernel_rfl) (by kernel_rfl) (Nat.le_of_ble_eq_true (by kernel_rfl)) (by kernel_rfl) (by kernel_rfl) (fun a => by kernel_rfl)
def H48 : List Hint := [.no]
def E48 (N : Nat) : Entry := entry [.c .ptr] [.s 2 (.c (.int .i64))] fun a => F_0q N a
noncomputable def C48 : MC := mcOf (comp Tryz.prog 16 [] [] (bodyOf Tryz.f48) none H48)
theorem S48 (N : Nat) : Sound Tryz.prog 48 (E48 N) :=
 sound_of (C := []) (N := N) (ntmps := 16) (priv := []) (pu := []) (hs := H48) (mc := C48) (c := bodyOf Tryz.f48) (allS_get (trivial : AllS Tryz.prog [])) Tryz.func48 (by kernel_rfl) (by kernel_rfl) (by kernel_rfl) (Nat.le_of_ble_eq_true (by kernel_rfl)) (by kernel_rfl) (by kernel_rfl) (fun a => by kernel_rfl)
def H106 : List Hint := [.draw false [], .no, .no, .draw true []]
def E106 (N : Nat) : Entry := entry [.c .ptr, .c (.sl 1)] [.s 4 (.c (.int .i64)), .s 5 (.c .bool)] fun a => F_23 N a.1 a.2
noncomputable def C106 : MC := mcOf (comp Tryz.prog 57 [] [] (bodyOf Tryz.f106) none H106)
theorem S106 (N : Nat) : Sound Tryz.prog 106 (E106 N) :=
 sound_of (C := [(139, E139 N), (105, E105 N), (90, E90 N), (48, E48 N)]) (N := N) (ntmps := 57) (priv := []) (pu := []) (hs := H106) (mc := C106) (c := bodyOf Tryz.f106) (allS_get (⟨S139 N, ⟨S105 N, ⟨S90 N, ⟨S48 N, trivial⟩⟩⟩⟩ : AllS Tryz.prog [(139, E139 N), (105, E105 N), (90, E90 N), (48, E48 N)])) Tryz.func106 (by kernel_rfl) (by kernel_rfl) (by kernel_rfl) (Nat.le_of_ble_eq_true (by kernel_rfl)) (by kernel_rfl) (by kernel_rfl) (fun a => by kernel_rfl)
def H140 : List Hint := []
def E140 (N : Nat) : Entry := entry [.c .ptr, .c (.int .i64)] [.s 4 (.c (.sl 1))] fun a => F_34 N a.1 a.2
noncomputable def C140 : MC := mcOf (comp Tryz.prog 17 [] [] (bodyOf Tryz.f140) none H140)
theorem S140 (N : Nat) : Sound Tryz.prog 140 (E140 N) :=
 sound_of (C := [(64, E64 N)]) (N := N) (ntmps := 17) (priv := []) (pu := []) (hs := H140) (mc := C140) (c := bodyOf Tryz.f140) (allS_get (⟨S64 N, trivial⟩ : AllS Tryz.prog [(64, E64 N)])) Tryz.func140 (by kernel_rfl) (by kernel_rfl) (by kernel_rfl) (Nat.le_of_ble_eq_true (by kernel_rfl)) (by kernel_rfl) (by kernel_rfl) (fun a => by kernel_rfl)
def H110 : List Hint := [.no, .no, .no, .join [(.normal, ⟨[.s 6 (.c (.sl 1))], []⟩)], .loop ⟨[.s 6 (.c (.sl 1)), .s 7 (.c (.sl 1))], []⟩, .no, .no]
def E110 (N : Nat) : Entry := entry [.c (.int .i64), .c (.sl 1)] [.s 4 (.c (.sl 1)), .s 5 (.c (.int .i64))] fun a => F_08 N a.1 a.2
noncomputable def C110 : MC := mcOf (comp Tryz.prog 41 [] [] (bodyOf Tryz.f110) none H110)
theorem S110 (N : Nat) : Sound Tryz.prog 110 (E110 N) :=
 sound_of (C := [(138, E138 N)]) (N := N) (ntmps := 41) (priv := []) (pu := []) (hs := H110) (mc := C110) (c := bodyOf Tryz.f110) (allS_get (⟨S138 N, trivial⟩ : AllS Tryz.prog [(138, E138 N)])) Tryz.func110 (by kernel_rfl) (by kernel_rfl) (by kernel_rfl) (Nat.le_of_ble_eq_true (by kernel_rfl)) (by kernel_rfl) (by kernel_rfl) (fun a => by kernel_rfl)
def H88 : List Hint := [.draw false []]
def E88 (N : Nat) : Entry := entry [.c .ptr, .c (.int .i64)] [.s 4 (.c .bool)] fun a => F_4b N a.1 a.2
noncomputable def C88 : MC := mcOf (comp Tryz.prog 37 [] [] (bodyOf Tryz.f88) none H88)
theorem S88 (N : Nat) : Sound Tryz.prog 88 (E88 N) :=
 sound_of (C := [(59, E59 N)]) (N := N) (ntmps := 37) (priv := []) (pu := []) (hs := H88) (mc := C88) (c := bodyOf Tryz.f88) (allS_get (⟨S59 N, trivial⟩ : AllS Tryz.prog [(59, E59 N)])) Tryz.func88 (by kernel_rfl) (by kernel_rfl) (by kernel_rfl) (Nat.le_of_ble_eq_true (by kernel_rfl)) (by kernel_rfl) (by kernel_rfl) (fun a => by kernel_rfl)
def H107 : List Hint := [.join [(.normal, ⟨[.s 6 (.c (.sl 3))], []⟩), (.ret, ⟨[.s 4 (.c (.sl 3)), .s 5 (.c .bool)], []⟩)], .loop ⟨[.s 6 (.c (.sl 3)), .s 7 (.c (.int .i64))], []⟩, .no, .no, .join [(.normal, ⟨[.s 6 (.c (.sl 3))], []⟩), (.ret, ⟨[.s 4 (.c (.sl 3)), .s 5 (.c .bool)], []⟩)], .loop ⟨[.s 6 (.c (.sl 3)), .s 35 (.c (.int .i64))], []⟩, .no, .no, .draw true [12], .no]
def E107 (N : Nat) : Entry := entry [.c .ptr, .c (.int .i64)] [.s 4 (.c (.sl 3)), .s 5 (.c .bool)] fun a => F_4c N a.1 a.2
noncomputable def C107 : MC := mcOf (comp Tryz.prog 73 [] [] (bodyOf Tryz.f107) none H107)
theorem S107 (N : Nat) : Sound Tryz.prog 107 (E107 N) :=
 sound_of (C := [(140, E140 N), (110, E110 N), (88, E88 N)]) (N := N) (ntmps := 73) (priv := []) (pu := []) (hs := H107) (mc := C107) (c := bodyOf Tryz.f107) (allS_get (⟨S140 N, ⟨S110 N, ⟨S88 N, trivial⟩⟩⟩ : AllS Tryz.prog [(140, E140 N), (110, E110 N), (88, E88 N)])) Tryz.func107 (by kernel_rfl) (by kernel_rfl) (by kernel_rfl) (Nat.le_of_ble_eq_true (by kernel_rfl)) (by kernel_rfl) (by kernel_rfl) (fun a => by kernel_rfl)
def H91 : List Hint := [.jump 0 ⟨[.s 4 (.c (.int .i64))], []⟩, .join [(.normal, ⟨[], []⟩), (.goto 0, ⟨[.s 4 (.c (.int .i64))], []⟩)], .loop ⟨[.s 9 (.c (.int .i64))], []⟩, .no, .no, .draw false [], .no, .no]
def E91 (N : Nat) : Entry := entry [.c .ptr, .c (.sl 3)] [.s 4 (.c (.int .i64))] fun a => F_4d N a.1 a.2
noncomputable def C91 : MC := mcOf (comp Tryz.prog 30 [6] [6] (bodyOf Tryz.f91) none H91)
theorem S91 (N : Nat) : Sound Tryz.prog 91 (E91 N) :=
 sound_of (C := [(62, E62 N), (63, E63 N)]) (N := N) (ntmps := 30) (priv := [6]) (pu := [6]) (hs := H91) (mc := C91) (c := bodyOf Tryz.f91) (allS_get (⟨S62 N, ⟨S63 N, trivial⟩⟩ : AllS Tryz.prog [(62, E62 N), (63, E63 N)])) Tryz.func91 (by kernel_rfl) (by kernel_rfl) (by kernel_rfl) (Nat.le_of_ble_eq_true (by kernel_rfl)) (by kernel_rfl) (by kernel_rfl) (fun a => by kernel_rfl)
def H66 : List Hint := [.no, .no, .no, .no, .no, .no, .no, .join [(.normal, ⟨[], []⟩), (.ret, ⟨[.s 6 (.c .ptr), .s 7 (.c (.int .i64)), .s 8 (.c (.int .i64))], []⟩)], .loop ⟨[.s 89 (.c (.int .i64))], []⟩, .no, .no, .no]
def E66 (N : Nat) : Entry := entry [.c .ptr, .c (.int .i64), .c (.int .i64)] [.s 6 (.c .ptr), .s 7 (.c (.int .i64)), .s 8 (.c (.int .i64))] fun a => F_24 N a.1 a.2.1 a.2.2
noncomputable def C66 : MC := mcOf (comp Tryz.prog 102 [] [] (bodyOf Tryz.f66) none H66)
theorem S66 (N : Nat) : Sound Tryz.prog 66 (E66 N) :=
 sound_of (C := [(59, E59 N), (64, E64 N), (106, E106 N), (107, E107 N), (90, E90 N), (91, E91 N)]) (N := N) (ntmps := 102) (priv := []) (pu := []) (hs := H66) (mc := C66) (c := bodyOf Tryz.f66) (allS_get (⟨S59 N, ⟨S64 N, ⟨S106 N, ⟨S107 N, ⟨S90 N, ⟨S91 N, trivial⟩⟩⟩⟩⟩⟩ : AllS Tryz.prog [(59, E59 N), (64, E64 N), (106, E106 N), (107, E107 N), (90, E90 N), (91, E91 N)])) Tryz.func66 (by kernel_rfl) (by kernel_rfl) (by kernel_rfl) (Nat.le_of_ble_eq_true (by kernel_rfl)) (by kernel_rfl) (by kernel_rfl) (fun a => by kernel_rfl)
def H113 : List Hint := [.no, .join [(.normal, ⟨[], []⟩), (.ret, ⟨[.s 2 (.c .bool)], []⟩)], .loop ⟨[.s 12 (.c (.int .i64))], []⟩, .no, .no, .no, .join [(.normal, ⟨[], []⟩), (.ret, ⟨[.s 2 (.c .bool)], []⟩)], .no, .no]
def E113 (N : Nat) : Entry := entry [.c (.sl 2)] [.s 2 (.c .bool)] fun a => F_09 N a
noncomputable def C113 : MC := mcOf (comp Tryz.prog 42 [5] [5, 17, 20, 23, 27, 31, 37] (bodyOf Tryz.f113) none H113)
theorem S113 (N : Nat) : Sound Tryz.prog 113 (E113 N) :=
 sound_of (C := []) (N := N) (ntmps := 42) (priv := [5]) (pu := [5, 17, 20, 23, 27, 31, 37]) (hs := H113) (mc := C113) (c := bodyOf Tryz.f113) (allS_get (trivial : AllS Tryz.prog [])) Tryz.func113 (by kernel_rfl) (by kernel_rfl) (by kernel_rfl) (Nat.le_of_ble_eq_true (by kernel_rfl)) (by kernel_rfl) (by kernel_rfl) (fun a => by kernel_rfl)
def H108 : List Hint := [.no, .join [(.normal, ⟨[.s 6 (.c (.sl 2))], []⟩)], .loop ⟨[.s 6 (.c (.sl 2)), .s 7 (.c (.int .i64))], []⟩, .no, .no, .draw false [], .no]
def E108 (N : Nat) : Entry := entry [.c (.sl 1)] [.s 2 (.c (.sl 2)), .s 3 (.c (.int .i64))] fun a => F_25 N a
noncomputable def C108 : MC := mcOf (comp Tryz.prog 45 [] [] (bodyOf Tryz.f108) none H108)
theorem S108 (N : Nat) : Sound Tryz.prog 108 (E108 N) :=
 sound_of (C := [(110, E110 N), (113, E113 N)]) (N := N) (ntmps := 45) (priv := []) (pu := []) (hs := H108) (mc := C108) (c := bodyOf Tryz.f108) (allS_get (⟨S110 N, ⟨S113 N, trivial⟩⟩ : AllS Tryz.prog [(110, E110 N), (113, E113 N)])) Tryz.func108 (by kernel_rfl) (by kernel_rfl) (by kernel_rfl) (Nat.le_of_ble_eq_true (by kernel_rfl)) (by kernel_rfl) (by kernel_rfl) (fun a => by kernel_rfl)
def H155 : List Hint := []
def E155 (N : Nat) : Entry := entry [.c (.int .u64)] [.s 2 (.c .bool)] fun a => F_35 N a
noncomputable def C155 : MC := mcOf (comp Tryz.prog 5 [] [] (bodyOf Tryz.f155) none H155)
theorem S155 (N : Nat) : Sound Tryz.prog 155 (E155 N) :=
 sound_of (C := []) (N := N) (ntmps := 5) (priv := []) (pu := []) (hs := H155) (mc := C155) (c := bodyOf Tryz.f155) (allS_get (trivial : AllS Tryz.prog [])) Tryz.func155 (by kernel_rfl) (by kernel_rfl) (by kernel_rfl) (Nat.le_of_ble_eq_true (by kernel_rfl)) (by kernel_rfl) (by kernel_rfl) (fun a => by kernel_rfl)
def H168_155 : List Hint := [.join [(.normal, ⟨[], []⟩), (.ret, ⟨[.s 4 (.c (.int .i64))], []⟩)], .loop ⟨[.s 8 (.c (.int .i64))], []⟩, .no, .no, .no]
def E168_155 (N : Nat) : Entry := entry [.c (.sl 1), .fnc 155 []] [.s 4 (.c (.int .i64))] fun a => F_36 N a.1 a.2
noncomputable def C168_155 : MC := mcOf (comp Tryz.prog 19 [] [] (bodyOf Tryz.f168) none H168_155)
theorem S168_155 (N : Nat) : Sound Tryz.prog 168 (E168_155 N) :=
 sound_of (C := [(155, E155 N)]) (N := N) (ntmps := 19) (priv := []) (pu := []) (hs := H168_155) (mc := C168_155) (c := bodyOf Tryz.f168) (allS_get (⟨S155 N, trivial⟩ : AllS Tryz.prog [(155, E155 N)])) Tryz.func168 (by kernel_rfl) (by kernel_rfl) (by kernel_rfl) (Nat.le_of_ble_eq_true (by kernel_rfl)) (by kernel_rfl) (by kernel_rfl) (fun a => by kernel_rfl)
def H154_155 : List Hint := []
def E154_155 (N : Nat) : Entry := entry [.c (.sl 1), .fnc 155 []] [.s 4 (.c .bool)] fun a => F_26 N a.1 a.2
noncomputable def C154_155 : MC := mcOf (comp Tryz.prog 9 [] [] (bodyOf Tryz.f154) none H154_155)
theorem S154_155 (N : Nat) : Sound Tryz.prog 154 (E154_155 N) :=
 sound_of (C := [(168, E168_155 N)]) (N := N) (ntmps := 9) (priv := []) (pu := []) (hs := H154_155) (mc := C154_155) (c := bodyOf Tryz.f154) (allS_get (⟨S168_155 N, trivial⟩ : AllS Tryz.prog [(168, E168_155 N)])) Tryz.func154 (by kernel_rfl) (by kernel_rfl) (by kernel_rfl) (Nat.le_of_ble_eq_true (by kernel_rfl)) (by kernel_rfl) (by kernel_rfl) (fun a => by kernel_rfl)
def H120 : List Hint := []
def E120 (N : Nat) : Entry := entry [.c (.int .i64)] [.s 2 (.c .bool)] fun a => F_0a N a
noncomputable def C120 : MC := mcOf (comp Tryz.prog 9 [] [] (bodyOf Tryz.f120) none H120)
theorem S120 (N : Nat) : Sound Tryz.prog 120 (E120 N) :=
 sound_of (C := []) (N := N) (ntmps := 9) (priv := []) (pu := []) (hs := H120) (mc := C120) (c := bodyOf Tryz.f120) (allS_get (trivial : AllS Tryz.prog [])) Tryz.func120 (by kernel_rfl) (by kernel_rfl) (by kernel_rfl) (Nat.le_of_ble_eq_true (by kernel_rfl)) (by kernel_rfl) (by kernel_rfl) (fun a => by kernel_rfl)
def H123 : List Hint := [.no, .join [(.normal, ⟨[.s 5 (.c .bool)], []⟩)], .join [(.normal, ⟨[.s 5 (.c .bool)], []⟩)], .no, .no, .join [(.normal, ⟨[], []⟩), (.ret, ⟨[.s 2 (.c .bool)], []⟩)], .loop ⟨[.s 41 (.c (.int .i64))], []⟩, .no, .no, .no]
def E123 (N : Nat) : Entry := entry [.agg 14] [.s 2 (.c .bool)] fun a => F_0r N a
noncomputable def C123 : MC := mcOf (comp Tryz.prog 56 [1] [] (bodyOf Tryz.f123) none H123)
theorem S123 (N : Nat) : Sound Tryz.prog 123 (E123 N) :=
 sound_of (C := [(120, E120 N)]) (N := N) (ntmps := 56) (priv := [1]) (pu := []) (hs := H123) (mc := C123) (c := bodyOf Tryz.f123) (allS_get (⟨S120 N, trivial⟩ : AllS Tryz.prog [(120, E120 N)])) Tryz.func123 (by kernel_rfl) (by kernel_rfl) (by kernel_rfl) (Nat.le_of_ble_eq_true (by kernel_rfl)) (by kernel_rfl) (by kernel_rfl) (fun a => by kernel_rfl)
def H141 : List Hint := [.no, .draw false [], .join [(.normal, ⟨[], []⟩)], .loop ⟨[.s 42 (.c (.int .i64))], []⟩, .no, .no, .draw false [], .no]
def E141 (N : Nat) : Entry := entry [.c (.sl 1)] [.m 2 (.agg 14), .s 3 (.c (.int .i64))] fun a => F_27 N a
noncomputable def C141 : MC := mcOf (comp Tryz.prog 74 [2] [] (bodyOf Tryz.f141) none H141)
theorem S141 (N : Nat) : Sound Tryz.prog 141 (E141 N) :=
 sound_of (C := [(110, E110 N), (154, E154_155 N), (123, E123 N)]) (N := N) (ntmps := 74) (priv := [2]) (pu := []) (hs := H141) (mc := C141) (c := bodyOf Tryz.f141) (allS_get (⟨S110 N, ⟨S154_155 N, ⟨S123 N, trivial⟩⟩⟩ : AllS Tryz.prog [(110, E110 N), (154, E154_155 N), (123, E123 N)])) Tryz.func141 (by kernel_rfl) (by kernel_rfl) (by kernel_rfl) (Nat.le_of_ble_eq_true (by kernel_rfl)) (by kernel_rfl) (by kernel_rfl) (fun a => by kernel_rfl)
def H109 : List Hint := [.join [(.normal, ⟨[.s 4 (.c (.sl 14))], []⟩), (.ret, ⟨[.s 2 (.c (.sl 14)), .s 3 (.c .bool)], []⟩)], .loop ⟨[.s 4 (.c (.sl 14)), .s 12 (.c (.int .i64))], []⟩, .no, .no, .join [(.normal, ⟨[.s 4 (.c (.sl 14))], []⟩), (.ret, ⟨[.s 2 (.c (.sl 14)), .s 3 (.c .bool)], []⟩)], .loop ⟨[.s 4 (.c (.sl 14)), .s 7 (.c (.int .i64))], []⟩, .no, .no, .no]
def E109 (N : Nat) : Entry := entry [.c (.sl 1)] [.s 2 (.c (.sl 14)), .s 3 (.c .bool)] fun a => F_28 N a
noncomputable def C109 : MC := mcOf (comp Tryz.prog 39 [8] [] (bodyOf Tryz.f109) none H109)
theorem S109 (N : Nat) : Sound Tryz.prog 109 (E109 N) :=
 sound_of (C := [(141, E141 N)]) (N := N) (ntmps := 39) (priv := [8]) (pu := []) (hs := H109) (mc := C109) (c := bodyOf Tryz.f109) (allS_get (⟨S141 N, trivial⟩ : AllS Tryz.prog [(141, E141 N)])) Tryz.func109 (by kernel_rfl) (by kernel_rfl) (by kernel_rfl) (Nat.le_of_ble_eq_true (by kernel_rfl)) (by kernel_rfl) (by kernel_rfl) (fun a => by kernel_rfl)
def H149 : List Hint := []
def E149 (N : Nat) : Entry := entry [.c (.sl 1), .c (.int .i64), .c (.int .i64)] [.s 6 (.c (.int .i64)), .s 7 (.c (.int .i64))] fun a => F_1d N a.1 a.2.1 a.2.2
noncomputable def C149 : MC := mcOf (comp Tryz.prog 15 [] [] (bodyOf Tryz.f149) none H149)
theorem S149 (N : Nat) : Sound Tryz.prog 149 (E149 N) :=
 sound_of (C := []) (N := N) (ntmps := 15) (priv := []) (pu := []) (hs := H149) (mc := C149) (c := bodyOf Tryz.f149) (allS_get (trivial : AllS Tryz.prog [])) Tryz.func149 (by kernel_rfl) (by kernel_rfl) (by kernel_rfl) (Nat.le_of_ble_eq_true (by kernel_rfl)) (by kernel_rfl) (by kernel_rfl) (fun a => by kernel_rfl)
def H121 : List Hint := []
def E121 (N : Nat) : Entry := entry [.c (.sl 1), .c (.int .i64)] [.s 4 (.c .bool)] fun a => F_0i N a.1 a.2
noncomputable def C121 : MC := mcOf (comp Tryz.prog 26 [] [] (bodyOf Tryz.f121) none H121)
theorem S121 (N : Nat) : Sound Tryz.prog 121 (E121 N) :=
 sound_of (C := []) (N := N) (ntmps := 26) (priv := []) (pu := []) (hs := H121) (mc := C121) (c := bodyOf Tryz.f121) (allS_get (trivial : AllS Tryz.prog [])) Tryz.func121 (by kernel_rfl) (by kernel_rfl) (by kernel_rfl) (Nat.le_of_ble_eq_true (by kernel_rfl)) (by kernel_rfl) (by kernel_rfl) (fun a => by kernel_rfl)
def H130 : List Hint := [.join [(.normal, ⟨[.s 7 (.c (.int .i64))], []⟩)], .loop ⟨[.s 7 (.c (.int .i64)), .s 10 (.c (.int .i64))], []⟩, .no, .no, .join [(.normal, ⟨[.s 7 (.c (.int .i64))], []⟩)]]
def E130 (N : Nat) : Entry := entry [.c (.sl 1), .c (.int .i64), .c (.int .i64)] [.s 6 (.c (.int .i64))] fun a => F_1e N a.1 a.2.1 a.2.2
noncomputable def C130 : MC := mcOf (comp Tryz.prog 30 [] [] (bodyOf Tryz.f130) none H130)
theorem S130 (N : Nat) : Sound Tryz.prog 130 (E130 N) :=
 sound_of (C := [(149, E149 N), (121, E121 N)]) (N := N) (ntmps := 30) (priv := []) (pu := []) (hs := H130) (mc := C130) (c := bodyOf Tryz.f130) (allS_get (⟨S149 N, ⟨S121 N, trivial⟩⟩ : AllS Tryz.prog [(149, E149 N), (121, E121 N)])) Tryz.func130 (by kernel_rfl) (by kernel_rfl) (by kernel_rfl) (Nat.le_of_ble_eq_true (by kernel_rfl)) (by kernel_rfl) (by kernel_rfl) (fun a => by kernel_rfl)
def H85 : List Hint := [.no, .join [(.normal, ⟨[], []⟩), (.ret, ⟨[.s 4 (.c .bool)], []⟩)], .loop ⟨[.s 43 (.c (.int .i64))], []⟩, .no, .no, .no, .join [(.normal, ⟨[], []⟩), (.ret, ⟨[.s 4 (.c .bool)], []⟩)], .loop ⟨[.s 57 (.c (.int .i64))], []⟩, .no, .no, .no]
def E85 (N : Nat) : Entry := entry [.st [.int .i64, .int .i64, .int .i64, .int .i64], .st [.sl 2, .sl 1, .sl 1, .sl 14]] [.s 4 (.c .bool)] fun a => F_29 N a.1 a.2
noncomputable def C85 : MC := mcOf (comp Tryz.prog 78 [2, 3, 8] [2, 3, 13, 19, 22, 27, 33, 36, 40, 54, 65, 67, 69, 72] (bodyOf Tryz.f85) none H85)
theorem S85 (N : Nat) : Sound Tryz.prog 85 (E85 N) :=
 sound_of (C := [(57, E57 N), (113, E113 N), (123, E123 N), (130, E130 N)]) (N := N) (ntmps := 78) (priv := [2, 3, 8]) (pu := [2, 3, 13, 19, 22, 27, 33, 36, 40, 54, 65, 67, 69, 72]) (hs := H85) (mc := C85) (c := bodyOf Tryz.f85) (allS_get (⟨S57 N, ⟨S113 N, ⟨S123 N, ⟨S130 N, trivial⟩⟩⟩⟩ : AllS Tryz.prog [(57, E57 N), (113, E113 N), (123, E123 N), (130, E130 N)])) Tryz.func85 (by kernel_rfl) (by kernel_rfl) (by kernel_rfl) (Nat.le_of_ble_eq_true (by kernel_rfl)) (by kernel_rfl) (by kernel_rfl) (fun a => by kernel_rfl)
def H67 : List Hint := [.no, .join [(.normal, ⟨[.p 4 (.st [.sl 2, .sl 1, .sl 1, .sl 14])], [(4, 4, 0)]⟩), (.ret, ⟨[.s 5 (.c (.int .i64)), .p 4 (.st [.sl 2, .sl 1, .sl 1, .sl 14])], [(4, 4, 0)]⟩)], .loop ⟨[.s 30 (.c (.int .i64)), .p 4 (.st [.sl 2, .sl 1, .sl 1, .sl 14])], [(4, 4, 0)]⟩, .no, .no, .no, .no, .join [(.normal, ⟨[.p 4 (.st [.sl 2, .sl 1, .sl 1, .sl 14]), .p 14 (.st [.sl 2, .sl 1, .sl 1, .sl 14])], [(4, 4, 0), (14, 14, 0)]⟩), (.ret, ⟨[.s 5 (.c (.int .i64)), .p 4 (.st [.sl 2, .sl 1, .sl 1, .sl 14])], [(4, 4, 0)]⟩)], .loop ⟨[.s 75 (.c (.int .i64)), .p 4 (.st [.sl 2, .sl 1, .sl 1, .sl 14]), .p 14 (.st [.sl 2, .sl 1, .sl 1, .sl 14])], [(4, 4, 0), (14, 14, 0)]⟩, .no, .no, .no, .join [(.normal, ⟨[.p 4 (.st [.sl 2, .sl 1, .sl 1, .sl 14]), .p 14 (.st [.sl 2, .sl 1, .sl 1, .sl 14])], [(4, 4, 0), (14, 14, 0)]⟩), (.ret, ⟨[.s 5 (.c (.int .i64)), .p 4 (.st [.sl 2, .sl 1, .sl 1, .sl 14])], [(4, 4, 0)]⟩)], .no, .no]
def E67 (N : Nat) : Entry := entry [.st [.int .i64, .int .i64, .int .i64, .int .i64], .c (.sl 1)] [.m 4 (.st [.sl 2, .sl 1, .sl 1, .sl 14]), .s 5 (.c (.int .i64))] fun a => F_2a N a.1 a.2
noncomputable def C67 : MC := mcOf (comp Tryz.prog 103 [2, 4, 14] [2, 4, 14, 82, 85, 91] (bodyOf Tryz.f67) none H67)
theorem S67 (N : Nat) : Sound Tryz.prog 67 (E67 N) :=
 sound_of (C := [(57, E57 N), (49, E49 N), (108, E108 N), (109, E109 N), (110, E110 N), (77, E77 N), (85, E85 N)]) (N := N) (ntmps := 103) (priv := [2, 4, 14]) (pu := [2, 4, 14, 82, 85, 91]) (hs := H67) (mc := C67) (c := bodyOf Tryz.f67) (allS_get (⟨S57 N, ⟨S49 N, ⟨S108 N, ⟨S109 N, ⟨S110 N, ⟨S77 N, ⟨S85 N, trivial⟩⟩⟩⟩⟩⟩⟩ : AllS Tryz.prog [(57, E57 N), (49, E49 N), (108, E108 N), (109, E109 N), (110, E110 N), (77, E77 N), (85, E85 N)])) Tryz.func67 (by kernel_rfl) (by kernel_rfl) (by kernel_rfl) (Nat.le_of_ble_eq_true (by kernel_rfl)) (by kernel_rfl) (by kernel_rfl) (fun a => by kernel_rfl)
def H111 : List Hint := []
def E111 (N : Nat) : Entry := entry [.c .ptr, .c (.int .i64)] [.s 4 (.c .bool)] fun a => F_1f N a.1 a.2
noncomputable def C111 : MC := mcOf (comp Tryz.prog 16 [] [] (bodyOf Tryz.f111) none H111)
theorem S111 (N : Nat) : Sound Tryz.prog 111 (E111 N) :=
 sound_of (C := []) (N := N) (ntmps := 16) (priv := []) (pu := []) (hs := H111) (mc := C111) (c := bodyOf Tryz.f111) (allS_get (trivial : AllS Tryz.prog [])) Tryz.func111 (by kernel_rfl) (by kernel_rfl) (by kernel_rfl) (Nat.le_of_ble_eq_true (by kernel_rfl)) (by kernel_rfl) (by kernel_rfl) (fun a => by kernel_rfl)
def H112 : List Hint := [.draw false []]
def E112 (N : Nat) : Entry := entry [.c .ptr, .c (.int .i64)] [.s 4 (.c (.int .i64))] fun a => F_0s N a.1 a.2
noncomputable def C112 : MC := mcOf (comp Tryz.prog 27 [] [] (bodyOf Tryz.f112) none H112)
theorem S112 (N : Nat) : Sound Tryz.prog 112 (E112 N) :=
 sound_of (C := [(130, E130 N)]) (N := N) (ntmps := 27) (priv := []) (pu := []) (hs := H112) (mc := C112) (c := bodyOf Tryz.f112) (allS_get (⟨S130 N, trivial⟩ : AllS Tryz.prog [(130, E130 N)])) Tryz.func112 (by kernel_rfl) (by kernel_rfl) (by kernel_rfl) (Nat.le_of_ble_eq_true (by kernel_rfl)) (by kernel_rfl) (by kernel_rfl) (fun a => by kernel_rfl)
def H68 : List Hint := [.join [(.normal, ⟨[], []⟩), (.ret, ⟨[.s 2 (.c .bool)], []⟩)], .loop ⟨[.s 14 (.c (.int .i64))], []⟩, .no, .no, .no, .join [(.normal, ⟨[], []⟩), (.ret, ⟨[.s 2 (.c .bool)], []⟩)], .loop ⟨[.s 46 (.c (.int .i64))], []⟩, .no, .no, .no]
def E68 (N : Nat) : Entry := entry [.c .ptr] [.s 2 (.c .bool)] fun a => F_2b N a
noncomputable def C68 : MC := mcOf (comp Tryz.prog 62 [6] [] (bodyOf Tryz.f68) none H68)
theorem S68 (N : Nat) : Sound Tryz.prog 68 (E68 N) :=
 sound_of (C := [(111, E111 N), (112, E112 N)]) (N := N) (ntmps := 62) (priv := [6]) (pu := []) (hs := H68) (mc := C68) (c := bodyOf Tryz.f68) (allS_get (⟨S111 N, ⟨S112 N, trivial⟩⟩ : AllS Tryz.prog [(111, E111 N), (112, E112 N)])) Tryz.func68 (by kernel_rfl) (by kernel_rfl) (by kernel_rfl) (Nat.le_of_ble_eq_true (by kernel_rfl)) (by kernel_rfl) (by kernel_rfl) (fun a => by kernel_rfl)
def H30 : List Hint := [.no, .no, .no, .draw true [], .no, .no, .join [(.normal, ⟨[], []⟩)], .loop ⟨[.s 72 (.c (.int .i64))], []⟩, .no, .no, .draw false [], .no]
def E30 (N : Nat) : Entry := entry [.c .ptr] [.s 2 (.c .ptr), .s 3 (.c (.int .i64))] fun a => F_2c N a
noncomputable def C30 : MC := mcOf (comp Tryz.prog 121 [6, 7] [6, 7, 42, 53, 55, 77] (bodyOf Tryz.f30) none H30)
theorem S30 (N : Nat) : Sound Tryz.prog 30 (E30 N) :=
 sound_of (C := [(64, E64 N), (65, E65 N), (27, E27 N), (59, E59 N), (60, E60 N), (66, E66 N), (49, E49 N), (67, E67 N), (68, E68 N)]) (N := N) (ntmps := 121) (priv := [6, 7]) (pu := [6, 7, 42, 53, 55, 77]) (hs := H30) (mc := C30) (c := bodyOf Tryz.f30) (allS_get (⟨S64 N, ⟨S65 N, ⟨S27 N, ⟨S59 N, ⟨S60 N, ⟨S66 N, ⟨S49 N, ⟨S67 N, ⟨S68 N, trivial⟩⟩⟩⟩⟩⟩⟩⟩⟩ : AllS Tryz.prog [(64, E64 N), (65, E65 N), (27, E27 N), (59, E59 N), (60, E60 N), (66, E66 N), (49, E49 N), (67, E67 N), (68, E68 N)])) Tryz.func30 (by kernel_rfl) (by kernel_rfl) (by kernel_rfl) (Nat.le_of_ble_eq_true (by kernel_rfl)) (by kernel_rfl) (by kernel_rfl) (fun a => by kernel_rfl)
def H70 : List Hint := []
def E70 (N : Nat) : Entry := entry [.agg 14] [.s 2 (.c .bool)] fun a => F_37 N a
noncomputable def C70 : MC := mcOf (comp Tryz.prog 6 [1] [] (bodyOf Tryz.f70) none H70)
theorem S70 (N : Nat) : Sound Tryz.prog 70 (E70 N) :=
 sound_of (C := []) (N := N) (ntmps := 6) (priv := [1]) (pu := []) (hs := H70) (mc := C70) (c := bodyOf Tryz.f70) (allS_get (trivial : AllS Tryz.prog [])) Tryz.func70 (by kernel_rfl) (by kernel_rfl) (by kernel_rfl) (Nat.le_of_ble_eq_true (by kernel_rfl)) (by kernel_rfl) (by kernel_rfl) (fun a => by kernel_rfl)
def H69_70 : List Hint := [.join [(.normal, ⟨[], []⟩), (.ret, ⟨[.s 4 (.c (.int .i64))], []⟩)], .loop ⟨[.s 8 (.c (.int .i64))], []⟩, .no, .no, .no]
def E69_70 (N : Nat) : Entry := entry [.c (.sl 14), .fnc 70 []] [.s 4 (.c (.int .i64))] fun a => F_2d N a.1 a.2
noncomputable def C69_70 : MC := mcOf (comp Tryz.prog 19 [] [] (bodyOf Tryz.f69) none H69_70)
theorem S69_70 (N : Nat) : Sound Tryz.prog 69 (E69_70 N) :=
 sound_of (C := [(70, E70 N)]) (N := N) (ntmps := 19) (priv := []) (pu := []) (hs := H69_70) (mc := C69_70) (c := bodyOf Tryz.f69) (allS_get (⟨S70 N, trivial⟩ : AllS Tryz.prog [(70, E70 N)])) Tryz.func69 (by kernel_rfl) (by kernel_rfl) (by kernel_rfl) (Nat.le_of_ble_eq_true (by kernel_rfl)) (by kernel_rfl) (by kernel_rfl) (fun a => by kernel_rfl)
def H142 : List Hint := []
def E142 (N : Nat) : Entry := entry [.st [.int .u16, .int .i64], .c .ptr] [.s 3 (.c .bool)] fun a => F_38 N a.1 a.2
noncomputable def C142 : MC := mcOf (comp Tryz.prog 13 [2] [2, 4, 8] (bodyOf Tryz.f142) none H142)
theorem S142 (N : Nat) : Sound Tryz.prog 142 (E142 N) :=
 sound_of (C := []) (N := N) (ntmps := 13) (priv := [2]) (pu := [2, 4, 8]) (hs := H142) (mc := C142) (c := bodyOf Tryz.f142) (allS_get (trivial : AllS Tryz.prog [])) Tryz.func142 (by kernel_rfl) (by kernel_rfl) (by kernel_rfl) (Nat.le_of_ble_eq_true (by kernel_rfl)) (by kernel_rfl) (by kernel_rfl) (fun a => by kernel_rfl)
def H143_142 : List Hint := [.join [(.normal, ⟨[], []⟩), (.ret, ⟨[.s 4 (.c (.int .i64))], []⟩)], .loop ⟨[.s 8 (.c (.int .i64))], []⟩, .no, .no, .no]
def E143_142 (N : Nat) : Entry := entry [.c (.sl 2), .fnc 142 [.ptr]] [.s 4 (.c (.int .i64))] fun a => F_39 N a.1 a.2
noncomputable def C143_142 : MC := mcOf (comp Tryz.prog 19 [] [] (bodyOf Tryz.f143) none H143_142)
theorem S143_142 (N : Nat) : Sound Tryz.prog 143 (E143_142 N) :=
 sound_of (C := [(142, E142 N)]) (N := N) (ntmps := 19) (priv := []) (pu := []) (hs := H143_142) (mc := C143_142) (c := bodyOf Tryz.f143) (allS_get (⟨S142 N, trivial⟩ : AllS Tryz.prog [(142, E142 N)])) Tryz.func143 (by kernel_rfl) (by kernel_rfl) (by kernel_rfl) (Nat.le_of_ble_eq_true (by kernel_rfl)) (by kernel_rfl) (by kernel_rfl) (fun a => by kernel_rfl)
def H115_142 : List Hint := []
def E115_142 (N : Nat) : Entry := entry [.c (.sl 2), .fnc 142 [.ptr]] [.s 4 (.c (.int .i64))] fun a => F_3a N a.1 a.2
noncomputable def C115_142 : MC := mcOf (comp Tryz.prog 8 [] [] (bodyOf Tryz.f115) none H115_142)
theorem S115_142 (N : Nat) : Sound Tryz.prog 115 (E115_142 N) :=
 sound_of (C := [(143, E143_142 N)]) (N := N) (ntmps := 8) (priv := []) (pu := []) (hs := H115_142) (mc := C115_142) (c := bodyOf Tryz.f115) (allS_get (⟨S143_142 N, trivial⟩ : AllS Tryz.prog [(143, E143_142 N)])) Tryz.func115 (by kernel_rfl) (by kernel_rfl) (by kernel_rfl) (Nat.le_of_ble_eq_true (by kernel_rfl)) (by kernel_rfl) (by kernel_rfl) (fun a => by kernel_rfl)
def H114 : List Hint := []
def E114 (N : Nat) : Entry := entry [.c (.sl 2), .c (.int .u16)] [.s 4 (.c (.int .i64))] fun a => F_1g N a.1 a.2
noncomputable def C114 : MC := mcOf (comp Tryz.prog 8 [] [] (bodyOf Tryz.f114) none H114)
theorem S114 (N : Nat) : Sound Tryz.prog 114 (E114 N) :=
 sound_of (C := [(115, E115_142 N)]) (N := N) (ntmps := 8) (priv := []) (pu := []) (hs := H114) (mc := C114) (c := bodyOf Tryz.f114) (allS_get (⟨S115_142 N, trivial⟩ : AllS Tryz.prog [(115, E115_142 N)])) Tryz.func114 (by kernel_rfl) (by kernel_rfl) (by kernel_rfl) (Nat.le_of_ble_eq_true (by kernel_rfl)) (by kernel_rfl) (by kernel_rfl) (fun a => by kernel_rfl)
def H116 : List Hint := []
def E116 (N : Nat) : Entry := entry [.st [.int .u16, .int .i64]] [.s 2 (.c .bool)] fun a => F_3b N a
noncomputable def C116 : MC := mcOf (comp Tryz.prog 6 [1] [1, 3] (bodyOf Tryz.f116) none H116)
theorem S116 (N : Nat) : Sound Tryz.prog 116 (E116 N) :=
 sound_of (C := []) (N := N) (ntmps := 6) (priv := [1]) (pu := [1, 3]) (hs := H116) (mc := C116) (c := bodyOf Tryz.f116) (allS_get (trivial : AllS Tryz.prog [])) Tryz.func116 (by kernel_rfl) (by kernel_rfl) (by kernel_rfl) (Nat.le_of_ble_eq_true (by kernel_rfl)) (by kernel_rfl) (by kernel_rfl) (fun a => by kernel_rfl)
def H143_116 : List Hint := [.join [(.normal, ⟨[], []⟩), (.ret, ⟨[.s 4 (.c (.int .i64))], []⟩)], .loop ⟨[.s 8 (.c (.int .i64))], []⟩, .no, .no, .no]
def E143_116 (N : Nat) : Entry := entry [.c (.sl 2), .fnc 116 []] [.s 4 (.c (.int .i64))] fun a => F_3c N a.1 a.2
noncomputable def C143_116 : MC := mcOf (comp Tryz.prog 19 [] [] (bodyOf Tryz.f143) none H143_116)
theorem S143_116 (N : Nat) : Sound Tryz.prog 143 (E143_116 N) :=
 sound_of (C := [(116, E116 N)]) (N := N) (ntmps := 19) (priv := []) (pu := []) (hs := H143_116) (mc := C143_116) (c := bodyOf Tryz.f143) (allS_get (⟨S116 N, trivial⟩ : AllS Tryz.prog [(116, E116 N)])) Tryz.func143 (by kernel_rfl) (by kernel_rfl) (by kernel_rfl) (Nat.le_of_ble_eq_true (by kernel_rfl)) (by kernel_rfl) (by kernel_rfl) (fun a => by kernel_rfl)
def H115_116 : List Hint := []
def E115_116 (N : Nat) : Entry := entry [.c (.sl 2), .fnc 116 []] [.s 4 (.c (.int .i64))] fun a => F_2e N a.1 a.2
noncomputable def C115_116 : MC := mcOf (comp Tryz.prog 8 [] [] (bodyOf Tryz.f115) none H115_116)
theorem S115_116 (N : Nat) : Sound Tryz.prog 115 (E115_116 N) :=
 sound_of (C := [(143, E143_116 N)]) (N := N) (ntmps := 8) (priv := []) (pu := []) (hs := H115_116) (mc := C115_116) (c := bodyOf Tryz.f115) (allS_get (⟨S143_116 N, trivial⟩ : AllS Tryz.prog [(143, E143_116 N)])) Tryz.func115 (by kernel_rfl) (by kernel_rfl) (by kernel_rfl) (Nat.le_of_ble_eq_true (by kernel_rfl)) (by kernel_rfl) (by kernel_rfl) (fun a => by kernel_rfl)
def H117 : List Hint := []
def E117 (N : Nat) : Entry := entry [.c (.sl 2), .c (.int .i64), .st [.int .u16, .int .i64]] [.s 6 (.c (.sl 2))] fun a => F_0t N a.1 a.2.1 a.2.2
noncomputable def C117 : MC := mcOf (comp Tryz.prog 19 [5] [5] (bodyOf Tryz.f117) none H117)
theorem S117 (N : Nat) : Sound Tryz.prog 117 (E117 N) :=
 sound_of (C := []) (N := N) (ntmps := 19) (priv := [5]) (pu := [5]) (hs := H117) (mc := C117) (c := bodyOf Tryz.f117) (allS_get (trivial : AllS Tryz.prog [])) Tryz.func117 (by kernel_rfl) (by kernel_rfl) (by kernel_rfl) (Nat.le_of_ble_eq_true (by kernel_rfl)) (by kernel_rfl) (by kernel_rfl) (fun a => by kernel_rfl)
def H71 : List Hint := [.no, .join [(.normal, ⟨[.s 7 (.c (.int .i64))], []⟩)], .no, .no, .no]
def E71 (N : Nat) : Entry := entry [.c (.sl 2), .c (.int .u16)] [.s 4 (.c (.sl 2)), .s 5 (.c (.int .i64)), .s 6 (.c (.int .i64))] fun a => F_1h N a.1 a.2
noncomputable def C71 : MC := mcOf (comp Tryz.prog 40 [] [] (bodyOf Tryz.f71) none H71)
theorem S71 (N : Nat) : Sound Tryz.prog 71 (E71 N) :=
 sound_of (C := [(113, E113 N), (114, E114 N), (115, E115_116 N), (117, E117 N)]) (N := N) (ntmps := 40) (priv := []) (pu := []) (hs := H71) (mc := C71) (c := bodyOf Tryz.f71) (allS_get (⟨S113 N, ⟨S114 N, ⟨S115_116 N, ⟨S117 N, trivial⟩⟩⟩⟩ : AllS Tryz.prog [(113, E113 N), (114, E114 N), (115, E115_116 N), (117, E117 N)])) Tryz.func71 (by kernel_rfl) (by kernel_rfl) (by kernel_rfl) (Nat.le_of_ble_eq_true (by kernel_rfl)) (by kernel_rfl) (by kernel_rfl) (fun a => by kernel_rfl)
def H31 : List Hint := [.no, .no, .no, .no, .no]
def E31 (N : Nat) : Entry := entry [.c .ptr, .c (.int .u8), .c (.int .u16)] [.s 6 (.c (.int .i64)), .s 7 (.c (.int .i64))] fun a => F_2f N a.1 a.2.1 a.2.2
noncomputable def C31 : MC := mcOf (comp Tryz.prog 65 [] [] (bodyOf Tryz.f31) none H31)
theorem S31 (N : Nat) : Sound Tryz.prog 31 (E31 N) :=
 sound_of (C := [(69, E69_70 N), (71, E71 N)]) (N := N) (ntmps := 65) (priv := []) (pu := []) (hs := H31) (mc := C31) (c := bodyOf Tryz.f31) (allS_get (⟨S69_70 N, ⟨S71 N, trivial⟩⟩ : AllS Tryz.prog [(69, E69_70 N), (71, E71 N)])) Tryz.func31 (by kernel_rfl) (by kernel_rfl) (by kernel_rfl) (Nat.le_of_ble_eq_true (by kernel_rfl)) (by kernel_rfl) (by kernel_rfl) (fun a => by kernel_rfl)
def H10 : List Hint := [.no, .no, .join [(.normal, ⟨[], []⟩), (.ret, ⟨[.s 2 (.c .ptr), .s 3 (.c .bool)], []⟩)], .loop ⟨[.s 42 (.c (.int .i64))], []⟩, .no, .no, .no]
def E10 (N : Nat) : Entry := entry [.c (.int .i64)] [.s 2 (.c .ptr), .s 3 (.c .bool)] fun a => F_1i N a
noncomputable def C10 : MC := mcOf (comp Tryz.prog 63 [4, 5] [4, 5, 22] (bodyOf Tryz.f10) none H10)
theorem S10 (N : Nat) : Sound Tryz.prog 10 (E10 N) :=
 sound_of (C := [(27, E27 N), (28, E28 N), (29, E29 N), (30, E30 N), (31, E31 N)]) (N := N) (ntmps := 63) (priv := [4, 5]) (pu := [4, 5, 22]) (hs := H10) (mc := C10) (c := bodyOf Tryz.f10) (allS_get (⟨S27 N, ⟨S28 N, ⟨S29 N, ⟨S30 N, ⟨S31 N, trivial⟩⟩⟩⟩⟩ : AllS Tryz.prog [(27, E27 N), (28, E28 N), (29, E29 N), (30, E30 N), (31, E31 N)])) Tryz.func10 (by kernel_rfl) (by kernel_rfl) (by kernel_rfl) (Nat.le_of_ble_eq_true (by kernel_rfl)) (by kernel_rfl) (by kernel_rfl) (fun a => by kernel_rfl)
def H43 : List Hint := [.no, .no, .no, .no]
def E43 (N : Nat) : Entry := entry [.c .ptr, .c (.int .i64)] [.s 4 (.c (.int .i64))] fun a => F_0j N a.1 a.2
noncomputable def C43 : MC := mcOf (comp Tryz.prog 34 [] [] (bodyOf Tryz.f43) none H43)
theorem S43 (N : Nat) : Sound Tryz.prog 43 (E43 N) :=
 sound_of (C := []) (N := N) (ntmps := 34) (priv := []) (pu := []) (hs := H43) (mc := C43) (c := bodyOf Tryz.f43) (allS_get (trivial : AllS Tryz.prog [])) Tryz.func43 (by kernel_rfl) (by kernel_rfl) (by kernel_rfl) (Nat.le_of_ble_eq_true (by kernel_rfl)) (by kernel_rfl) (by kernel_rfl) (fun a => by kernel_rfl)
def H15 : List Hint := [.no, .draw false []]
def E15 (N : Nat) : Entry := entry [.c .ptr, .c (.int .i64)] [.m 4 (.agg 14), .s 5 (.c (.int .u16)), .s 6 (.c (.int .i64))] fun a => F_0k N a.1 a.2
noncomputable def C15 : MC := mcOf (comp Tryz.prog 37 [4, 8] [] (bodyOf Tryz.f15) none H15)
theorem S15 (N : Nat) : Sound Tryz.prog 15 (E15 N) :=
 sound_of (C := [(43, E43 N)]) (N := N) (ntmps := 37) (priv := [4, 8]) (pu := []) (hs := H15) (mc := C15) (c := bodyOf Tryz.f15) (allS_get (⟨S43 N, trivial⟩ : AllS Tryz.prog [(43, E43 N)])) Tryz.func15 (by kernel_rfl) (by kernel_rfl) (by kernel_rfl) (Nat.le_of_ble_eq_true (by kernel_rfl)) (by kernel_rfl) (by kernel_rfl) (fun a => by kernel_rfl)
def H32 : List Hint := [.no]
def E32 (N : Nat) : Entry := entry [.c .ptr, .c (.int .i64)] [.s 4 (.c .ptr), .s 5 (.c (.int .i64))] fun a => F_0b N a.1 a.2
noncomputable def C32 : MC := mcOf (comp Tryz.prog 25 [6] [] (bodyOf Tryz.f32) none H32)
theorem S32 (N : Nat) : Sound Tryz.prog 32 (E32 N) :=
 sound_of (C := [(15, E15 N)]) (N := N) (ntmps := 25) (priv := [6]) (pu := []) (hs := H32) (mc := C32) (c := bodyOf Tryz.f32) (allS_get (⟨S15 N, trivial⟩ : AllS Tryz.prog [(15, E15 N)])) Tryz.func32 (by kernel_rfl) (by kernel_rfl) (by kernel_rfl) (Nat.le_of_ble_eq_true (by kernel_rfl)) (by kernel_rfl) (by kernel_rfl) (fun a => by kernel_rfl)
def H118 : List Hint := [.no, .no, .no, .no]
def E118 (N : Nat) : Entry := entry [.c (.int .i64)] [.s 2 (.c (.int .i64)), .s 3 (.c (.int .i64)), .s 4 (.c (.int .i64)), .s 5 (.c (.int .i64))] fun a => F_3d N a
noncomputable def C118 : MC := mcOf (comp Tryz.prog 28 [] [] (bodyOf Tryz.f118) none H118)
theorem S118 (N : Nat) : Sound Tryz.prog 118 (E118 N) :=
 sound_of (C := []) (N := N) (ntmps := 28) (priv := []) (pu := []) (hs := H118) (mc := C118) (c := bodyOf Tryz.f118) (allS_get (trivial : AllS Tryz.prog [])) Tryz.func118 (by kernel_rfl) (by kernel_rfl) (by kernel_rfl) (Nat.le_of_ble_eq_true (by kernel_rfl)) (by kernel_rfl) (by kernel_rfl) (fun a => by kernel_rfl)
def H72 : List Hint := [.no, .no, .no]
def E72 (N : Nat) : Entry := entry [.c .ptr, .c (.int .i64)] [.s 4 (.c .ptr), .s 5 (.c (.sl 1))] fun a => F_1j N a.1 a.2
noncomputable def C72 : MC := mcOf (comp Tryz.prog 41 [] [] (bodyOf Tryz.f72) none H72)
theorem S72 (N : Nat) : Sound Tryz.prog 72 (E72 N) :=
 sound_of (C := [(118, E118 N)]) (N := N) (ntmps := 41) (priv := []) (pu := []) (hs := H72) (mc := C72) (c := bodyOf Tryz.f72) (allS_get (⟨S118 N, trivial⟩ : AllS Tryz.prog [(118, E118 N)])) Tryz.func72 (by kernel_rfl) (by kernel_rfl) (by kernel_rfl) (Nat.le_of_ble_eq_true (by kernel_rfl)) (by kernel_rfl) (by kernel_rfl) (fun a => by kernel_rfl)
def H144 : List Hint := [.no]
def E144 (N : Nat) : Entry := entry [.c (.sl 2), .c (.int .u16)] [.s 4 (.c (.int .i64)), .s 5 (.c .bool)] fun a => F_2g N a.1 a.2
noncomputable def C144 : MC := mcOf (comp Tryz.prog 18 [] [] (bodyOf Tryz.f144) none H144)
theorem S144 (N : Nat) : Sound Tryz.prog 144 (E144 N) :=
 sound_of (C := [(114, E114 N), (113, E113 N)]) (N := N) (ntmps := 18) (priv := []) (pu := []) (hs := H144) (mc := C144) (c := bodyOf Tryz.f144) (allS_get (⟨S114 N, ⟨S113 N, trivial⟩⟩ : AllS Tryz.prog [(114, E114 N), (113, E113 N)])) Tryz.func144 (by kernel_rfl) (by kernel_rfl) (by kernel_rfl) (Nat.le_of_ble_eq_true (by kernel_rfl)) (by kernel_rfl) (by kernel_rfl) (fun a => by kernel_rfl)
def H145 : List Hint := [.join [(.normal, ⟨[], []⟩), (.ret, ⟨[.s 8 (.c (.int .i64)), .s 9 (.c .bool)], []⟩)], .loop ⟨[.s 12 (.c (.int .i64))], []⟩, .no, .no, .no]
def E145 (N : Nat) : Entry := entry [.c (.sl 1), .c (.int .i64), .c (.int .i64), .c .bool] [.s 8 (.c (.int .i64)), .s 9 (.c .bool)] fun a => F_2h N a.1 a.2.1 a.2.2.1 a.2.2.2
noncomputable def C145 : MC := mcOf (comp Tryz.prog 32 [] [] (bodyOf Tryz.f145) none H145)
theorem S145 (N : Nat) : Sound Tryz.prog 145 (E145 N) :=
 sound_of (C := [(149, E149 N), (121, E121 N)]) (N := N) (ntmps := 32) (priv := []) (pu := []) (hs := H145) (mc := C145) (c := bodyOf Tryz.f145) (allS_get (⟨S149 N, ⟨S121 N, trivial⟩⟩ : AllS Tryz.prog [(149, E149 N), (121, E121 N)])) Tryz.func145 (by kernel_rfl) (by kernel_rfl) (by kernel_rfl) (Nat.le_of_ble_eq_true (by kernel_rfl)) (by kernel_rfl) (by kernel_rfl) (fun a => by kernel_rfl)
def H156 : List Hint := [.no, .no, .no, .draw false [], .join [(.normal, ⟨[], []⟩)], .draw false []]
def E156 (N : Nat) : Entry := entry [.c (.sl 1), .c (.int .i64), .c .bool] [.s 6 (.c (.sl 1)), .s 7 (.c (.int .i64))] fun a => F_2i N a.1 a.2.1 a.2.2
noncomputable def C156 : MC := mcOf (comp Tryz.prog 48 [] [] (bodyOf Tryz.f156) none H156)
theorem S156 (N : Nat) : Sound Tryz.prog 156 (E156 N) :=
 sound_of (C := []) (N := N) (ntmps := 48) (priv := []) (pu := []) (hs := H156) (mc := C156) (c := bodyOf Tryz.f156) (allS_get (trivial : AllS Tryz.prog [])) Tryz.func156 (by kernel_rfl) (by kernel_rfl) (by kernel_rfl) (Nat.le_of_ble_eq_true (by kernel_rfl)) (by kernel_rfl) (by kernel_rfl) (fun a => by kernel_rfl)
def H146 : List Hint := []
def E146 (N : Nat) : Entry := entry [.c .ptr, .c (.int .i64), .c .bool] [] fun a => F_0u N a.1 a.2.1 a.2.2
noncomputable def C146 : MC := mcOf (comp Tryz.prog 23 [] [] (bodyOf Tryz.f146) none H146)
theorem S146 (N : Nat) : Sound Tryz.prog 146 (E146 N) :=
 sound_of (C := [(156, E156 N)]) (N := N) (ntmps := 23) (priv := []) (pu := []) (hs := H146) (mc := C146) (c := bodyOf Tryz.f146) (allS_get (⟨S156 N, trivial⟩ : AllS Tryz.prog [(156, E156 N)])) Tryz.func146 (by kernel_rfl) (by kernel_rfl) (by kernel_rfl) (Nat.le_of_ble_eq_true (by kernel_rfl)) (by kernel_rfl) (by kernel_rfl) (fun a => by kernel_rfl)
def H147 : List Hint := [.join [(.normal, ⟨[], []⟩), (.ret, ⟨[.s 4 (.c (.int .i64))], []⟩)], .loop ⟨[.s 8 (.c (.int .i64))], []⟩, .no, .no, .no]
def E147 (N : Nat) : Entry := entry [.c (.sl 1), .c (.int .i64)] [.s 4 (.c (.int .i64))] fun a => F_2j N a.1 a.2
noncomputable def C147 : MC := mcOf (comp Tryz.prog 19 [] [] (bodyOf Tryz.f147) none H147)
theorem S147 (N : Nat) : Sound Tryz.prog 147 (E147 N) :=
 sound_of (C := []) (N := N) (ntmps := 19) (priv := []) (pu := []) (hs := H147) (mc := C147) (c := bodyOf Tryz.f147) (allS_get (trivial : AllS Tryz.prog [])) Tryz.func147 (by kernel_rfl) (by kernel_rfl) (by kernel_rfl) (Nat.le_of_ble_eq_true (by kernel_rfl)) (by kernel_rfl) (by kernel_rfl) (fun a => by kernel_rfl)
def H119 : List Hint := [.no, .join [(.normal, ⟨[], []⟩), (.ret, ⟨[.s 4 (.c (.int .i64)), .s 5 (.c (.int .i64))], []⟩)], .loop ⟨[.s 35 (.c (.int .i64))], []⟩, .no, .join [(.normal, ⟨[], []⟩), (.ret, ⟨[.s 4 (.c (.int .i64)), .s 5 (.c (.int .i64))], []⟩)], .no, .draw false [], .no, .no, .no]
def E119 (N : Nat) : Entry := entry [.c .ptr, .c (.int .u16)] [.s 4 (.c (.int .i64)), .s 5 (.c (.int .i64))] fun a => F_2k N a.1 a.2
noncomputable def C119 : MC := mcOf (comp Tryz.prog 135 [] [] (bodyOf Tryz.f119) none H119)
theorem S119 (N : Nat) : Sound Tryz.prog 119 (E119 N) :=
 sound_of (C := [(144, E144 N), (145, E145 N), (146, E146 N), (147, E147 N), (71, E71 N)]) (N := N) (ntmps := 135) (priv := []) (pu := []) (hs := H119) (mc := C119) (c := bodyOf Tryz.f119) (allS_get (⟨S144 N, ⟨S145 N, ⟨S146 N, ⟨S147 N, ⟨S71 N, trivial⟩⟩⟩⟩⟩ : AllS Tryz.prog [(144, E144 N), (145, E145 N), (146, E146 N), (147, E147 N), (71, E71 N)])) Tryz.func119 (by kernel_rfl) (by kernel_rfl) (by kernel_rfl) (Nat.le_of_ble_eq_true (by kernel_rfl)) (by kernel_rfl) (by kernel_rfl) (fun a => by kernel_rfl)
def H74 : List Hint := [.no, .draw false []]
def E74 (N : Nat) : Entry := entry [.c .ptr, .c (.int .i64)] [.s 4 (.c (.int .i64)), .s 5 (.c (.int .i64))] fun a => F_0c N a.1 a.2
noncomputable def C74 : MC := mcOf (comp Tryz.prog 26 [] [] (bodyOf Tryz.f74) none H74)
theorem S74 (N : Nat) : Sound Tryz.prog 74 (E74 N) :=
 sound_of (C := [(119, E119 N)]) (N := N) (ntmps := 26) (priv := []) (pu := []) (hs := H74) (mc := C74) (c := bodyOf Tryz.f74) (allS_get (⟨S119 N, trivial⟩ : AllS Tryz.prog [(119, E119 N)])) Tryz.func74 (by kernel_rfl) (by kernel_rfl) (by kernel_rfl) (Nat.le_of_ble_eq_true (by kernel_rfl)) (by kernel_rfl) (by kernel_rfl) (fun a => by kernel_rfl)
def H76 : List Hint := [.draw false []]
def E76 (N : Nat) : Entry := entry [.c .ptr, .c (.int .i64)] [.s 4 (.c .bool)] fun a => F_1k N a.1 a.2
noncomputable def C76 : MC := mcOf (comp Tryz.prog 22 [] [] (bodyOf Tryz.f76) none H76)
theorem S76 (N : Nat) : Sound Tryz.prog 76 (E76 N) :=
 sound_of (C := []) (N := N) (ntmps := 22) (priv := []) (pu := []) (hs := H76) (mc := C76) (c := bodyOf Tryz.f76) (allS_get (trivial : AllS Tryz.prog [])) Tryz.func76 (by kernel_rfl) (by kernel_rfl) (by kernel_rfl) (Nat.le_of_ble_eq_true (by kernel_rfl)) (by kernel_rfl) (by kernel_rfl) (fun a => by kernel_rfl)
def H34 : List Hint := [.no, .no, .no, .no, .draw false []]
def E34 (N : Nat) : Entry := entry [.c .ptr, .c (.int .i64)] [.s 4 (.c (.sl 1)), .s 5 (.c (.int .i64))] fun a => F_0d N a.1 a.2
noncomputable def C34 : MC := mcOf (comp Tryz.prog 44 [6] [6, 27] (bodyOf Tryz.f34) none H34)
theorem S34 (N : Nat) : Sound Tryz.prog 34 (E34 N) :=
 sound_of (C := [(76, E76 N), (77, E77 N), (64, E64 N)]) (N := N) (ntmps := 44) (priv := [6]) (pu := [6, 27]) (hs := H34) (mc := C34) (c := bodyOf Tryz.f34) (allS_get (⟨S76 N, ⟨S77 N, ⟨S64 N, trivial⟩⟩⟩ : AllS Tryz.prog [(76, E76 N), (77, E77 N), (64, E64 N)])) Tryz.func34 (by kernel_rfl) (by kernel_rfl) (by kernel_rfl) (Nat.le_of_ble_eq_true (by kernel_rfl)) (by kernel_rfl) (by kernel_rfl) (fun a => by kernel_rfl)
def H82 : List Hint := [.no, .join [(.normal, ⟨[.s 6 (.c (.sl 1))], []⟩), (.ret, ⟨[.s 2 (.c (.sl 1)), .s 3 (.c (.int .i64))], []⟩)], .loop ⟨[.s 6 (.c (.sl 1)), .s 23 (.c (.int .i64))], []⟩, .no, .no, .no]
def E82 (N : Nat) : Entry := entry [.c (.sl 1)] [.s 2 (.c (.sl 1)), .s 3 (.c (.int .i64))] fun a => F_2l N a
noncomputable def C82 : MC := mcOf (comp Tryz.prog 38 [] [] (bodyOf Tryz.f82) none H82)
theorem S82 (N : Nat) : Sound Tryz.prog 82 (E82 N) :=
 sound_of (C := [(110, E110 N), (120, E120 N)]) (N := N) (ntmps := 38) (priv := []) (pu := []) (hs := H82) (mc := C82) (c := bodyOf Tryz.f82) (allS_get (⟨S110 N, ⟨S120 N, trivial⟩⟩ : AllS Tryz.prog [(110, E110 N), (120, E120 N)])) Tryz.func82 (by kernel_rfl) (by kernel_rfl) (by kernel_rfl) (Nat.le_of_ble_eq_true (by kernel_rfl)) (by kernel_rfl) (by kernel_rfl) (fun a => by kernel_rfl)
def H42 : List Hint := [.no, .no]
def E42 (N : Nat) : Entry := entry [.c .ptr, .c (.int .i64)] [.s 4 (.c (.sl 1)), .s 5 (.c (.int .i64))] fun a => F_0l N a.1 a.2
noncomputable def C42 : MC := mcOf (comp Tryz.prog 28 [] [] (bodyOf Tryz.f42) none H42)
theorem S42 (N : Nat) : Sound Tryz.prog 42 (E42 N) :=
 sound_of (C := [(34, E34 N), (82, E82 N)]) (N := N) (ntmps := 28) (priv := []) (pu := []) (hs := H42) (mc := C42) (c := bodyOf Tryz.f42) (allS_get (⟨S34 N, ⟨S82 N, trivial⟩⟩ : AllS Tryz.prog [(34, E34 N), (82, E82 N)])) Tryz.func42 (by kernel_rfl) (by kernel_rfl) (by kernel_rfl) (Nat.le_of_ble_eq_true (by kernel_rfl)) (by kernel_rfl) (by kernel_rfl) (fun a => by kernel_rfl)
def H75 : List Hint := [.no, .join [(.normal, ⟨[.s 4 (.c (.sl 1))], []⟩), (.ret, ⟨[.s 2 (.c (.sl 1)), .s 3 (.c (.int .i64))], []⟩)], .loop ⟨[.s 4 (.c (.sl 1)), .s 12 (.c (.int .i64))], []⟩, .no, .no, .no]
def E75 (N : Nat) : Entry := entry [.c (.sl 1)] [.s 2 (.c (.sl 1)), .s 3 (.c (.int .i64))] fun a => F_1l N a
noncomputable def C75 : MC := mcOf (comp Tryz.prog 29 [] [] (bodyOf Tryz.f75) none H75)
theorem S75 (N : Nat) : Sound Tryz.prog 75 (E75 N) :=
 sound_of (C := [(120, E120 N), (99, E99 N)]) (N := N) (ntmps := 29) (priv := []) (pu := []) (hs := H75) (mc := C75) (c := bodyOf Tryz.f75) (allS_get (⟨S120 N, ⟨S99 N, trivial⟩⟩ : AllS Tryz.prog [(120, E120 N), (99, E99 N)])) Tryz.func75 (by kernel_rfl) (by kernel_rfl) (by kernel_rfl) (Nat.le_of_ble_eq_true (by kernel_rfl)) (by kernel_rfl) (by kernel_rfl) (fun a => by kernel_rfl)
def H78 : List Hint := [.no, .no, .no, .no]
def E78 (N : Nat) : Entry := entry [.c .ptr, .c (.int .i64)] [.s 4 (.c (.int .i64))] fun a => F_1m N a.1 a.2
noncomputable def C78 : MC := mcOf (comp Tryz.prog 23 [] [] (bodyOf Tryz.f78) none H78)
theorem S78 (N : Nat) : Sound Tryz.prog 78 (E78 N) :=
 sound_of (C := [(76, E76 N), (121, E121 N)]) (N := N) (ntmps := 23) (priv := []) (pu := []) (hs := H78) (mc := C78) (c := bodyOf Tryz.f78) (allS_get (⟨S76 N, ⟨S121 N, trivial⟩⟩ : AllS Tryz.prog [(76, E76 N), (121, E121 N)])) Tryz.func78 (by kernel_rfl) (by kernel_rfl) (by kernel_rfl) (Nat.le_of_ble_eq_true (by kernel_rfl)) (by kernel_rfl) (by kernel_rfl) (fun a => by kernel_rfl)
def H122 : List Hint := [.draw false [], .no]
def E122 (N : Nat) : Entry := entry [.c .ptr, .c (.int .i64)] [.s 4 (.c (.int .u16))] fun a => F_0v N a.1 a.2
noncomputable def C122 : MC := mcOf (comp Tryz.prog 34 [] [] (bodyOf Tryz.f122) none H122)
theorem S122 (N : Nat) : Sound Tryz.prog 122 (E122 N) :=
 sound_of (C := []) (N := N) (ntmps := 34) (priv := []) (pu := []) (hs := H122) (mc := C122) (c := bodyOf Tryz.f122) (allS_get (trivial : AllS Tryz.prog [])) Tryz.func122 (by kernel_rfl) (by kernel_rfl) (by kernel_rfl) (Nat.le_of_ble_eq_true (by kernel_rfl)) (by kernel_rfl) (by kernel_rfl) (fun a => by kernel_rfl)
def H79 : List Hint := [.draw true []]
def E79 (N : Nat) : Entry := entry [.c .ptr, .c (.int .i64), .c (.sl 1)] [] fun a => F_1n N a.1 a.2.1 a.2.2
noncomputable def C79 : MC := mcOf (comp Tryz.prog 24 [] [] (bodyOf Tryz.f79) none H79)
theorem S79 (N : Nat) : Sound Tryz.prog 79 (E79 N) :=
 sound_of (C := [(122, E122 N)]) (N := N) (ntmps := 24) (priv := []) (pu := []) (hs := H79) (mc := C79) (c := bodyOf Tryz.f79) (allS_get (⟨S122 N, trivial⟩ : AllS Tryz.prog [(122, E122 N)])) Tryz.func79 (by kernel_rfl) (by kernel_rfl) (by kernel_rfl) (Nat.le_of_ble_eq_true (by kernel_rfl)) (by kernel_rfl) (by kernel_rfl) (fun a => by kernel_rfl)
def H35 : List Hint := [.no, .no]
def E35 (N : Nat) : Entry := entry [.c .ptr, .c (.int .i64), .c (.sl 1)] [.s 6 (.c (.int .i64))] fun a => F_0e N a.1 a.2.1 a.2.2
noncomputable def C35 : MC := mcOf (comp Tryz.prog 26 [] [] (bodyOf Tryz.f35) none H35)
theorem S35 (N : Nat) : Sound Tryz.prog 35 (E35 N) :=
 sound_of (C := [(78, E78 N), (77, E77 N), (79, E79 N)]) (N := N) (ntmps := 26) (priv := []) (pu := []) (hs := H35) (mc := C35) (c := bodyOf Tryz.f35) (allS_get (⟨S78 N, ⟨S77 N, ⟨S79 N, trivial⟩⟩⟩ : AllS Tryz.prog [(78, E78 N), (77, E77 N), (79, E79 N)])) Tryz.func35 (by kernel_rfl) (by kernel_rfl) (by kernel_rfl) (Nat.le_of_ble_eq_true (by kernel_rfl)) (by kernel_rfl) (by kernel_rfl) (fun a => by kernel_rfl)
def H73 : List Hint := [.no, .no, .draw false [], .no, .no]
def E73 (N : Nat) : Entry := entry [.c (.int .i64), .c (.sl 1), .c .ptr, .c .ptr] [.s 6 (.c (.int .i64)), .s 7 (.c (.int .i64))] fun a => F_3e N a.1 a.2.1 a.2.2.1 a.2.2.2
noncomputable def C73 : MC := mcOf (comp Tryz.prog 83 [] [] (bodyOf Tryz.f73) none H73)
def ER73 (N R : Nat) : Entry := entry [.c (.int .i64), .c (.sl 1), .c .ptr, .c .ptr] [.s 6 (.c (.int .i64)), .s 7 (.c (.int .i64))] fun a => iter R (fun self v => F_1o N self v.1 v.2.1 v.2.2.1 v.2.2.2) (a.1, a.2.1, a.2.2.1, a.2.2.2)
theorem R73 (N R : Nat) : Sound Tryz.prog 73 (ER73 N R) := by
 induction R with
 | zero => exact sound_zero (c := bodyOf Tryz.f73) Tryz.func73 (by kernel_rfl) (by kernel_rfl) fun _ _ => rfl
 | succ R ih => exact sound_of (C := [(73, ER73 N R), (74, E74 N), (42, E42 N), (75, E75 N), (35, E35 N)]) (N := N) (ntmps := 83) (priv := []) (pu := []) (hs := H73) (mc := C73) (c := bodyOf Tryz.f73) (allS_get (⟨ih, ⟨S74 N, ⟨S42 N, ⟨S75 N, ⟨S35 N, trivial⟩⟩⟩⟩⟩ : AllS Tryz.prog [(73, ER73 N R), (74, E74 N), (42, E42 N), (75, E75 N), (35, E35 N)])) Tryz.func73 (by kernel_rfl) (by kernel_rfl) (by kernel_rfl) (Nat.le_of_ble_eq_true (by kernel_rfl)) (by kernel_rfl) (by kernel_rfl) (fun a => by kernel_rfl)
theorem S73 (N : Nat) : Sound Tryz.prog 73 (E73 N) := R73 N N
def H40 : List Hint := [.join [(.normal, ⟨[.s 8 (.c (.int .i64))], []⟩), (.ret, ⟨[.s 4 (.c (.int .i64)), .s 5 (.c (.int .i64))], []⟩)], .loop ⟨[.s 8 (.c (.int .i64)), .s 24 (.c (.int .i64))], []⟩, .no, .no, .no]
def E40 (N : Nat) : Entry := entry [.c .ptr, .c (.int .i64)] [.s 4 (.c (.int .i64)), .s 5 (.c (.int .i64))] fun a => F_0m N a.1 a.2
noncomputable def C40 : MC := mcOf (comp Tryz.prog 43 [] [] (bodyOf Tryz.f40) none H40)
theorem S40 (N : Nat) : Sound Tryz.prog 40 (E40 N) :=
 sound_of (C := [(72, E72 N), (42, E42 N)]) (N := N) (ntmps := 43) (priv := []) (pu := []) (hs := H40) (mc := C40) (c := bodyOf Tryz.f40) (allS_get (⟨S72 N, ⟨S42 N, trivial⟩⟩ : AllS Tryz.prog [(72, E72 N), (42, E42 N)])) Tryz.func40 (by kernel_rfl) (by kernel_rfl) (by kernel_rfl) (Nat.le_of_ble_eq_true (by kernel_rfl)) (by kernel_rfl) (by kernel_rfl) (fun a => by kernel_rfl)
def H33 : List Hint := [.draw false [], .no]
def E33 (N : Nat) : Entry := entry [.c .ptr, .c (.int .i64)] [.s 4 (.c (.int .i64)), .s 5 (.c (.int .i64))] fun a => F_2m N a.1 a.2
noncomputable def C33 : MC := mcOf (comp Tryz.prog 38 [] [] (bodyOf Tryz.f33) none H33)
theorem S33 (N : Nat) : Sound Tryz.prog 33 (E33 N) :=
 sound_of (C := [(72, E72 N), (73, E73 N), (40, E40 N)]) (N := N) (ntmps := 38) (priv := []) (pu := []) (hs := H33) (mc := C33) (c := bodyOf Tryz.f33) (allS_get (⟨S72 N, ⟨S73 N, ⟨S40 N, trivial⟩⟩⟩ : AllS Tryz.prog [(72, E72 N), (73, E73 N), (40, E40 N)])) Tryz.func33 (by kernel_rfl) (by kernel_rfl) (by kernel_rfl) (Nat.le_of_ble_eq_true (by kernel_rfl)) (by kernel_rfl) (by kernel_rfl) (fun a => by kernel_rfl)
def H80 : List Hint := [.no, .no, .no, .no, .draw false [], .no, .draw false []]
def E80 (N : Nat) : Entry := entry [.c .ptr, .c (.int .i64), .agg 14] [.s 6 (.c (.int .i64))] fun a => F_2n N a.1 a.2.1 a.2.2
noncomputable def C80 : MC := mcOf (comp Tryz.prog 70 [5] [] (bodyOf Tryz.f80) none H80)
theorem S80 (N : Nat) : Sound Tryz.prog 80 (E80 N) :=
 sound_of (C := [(43, E43 N), (123, E123 N)]) (N := N) (ntmps := 70) (priv := [5]) (pu := []) (hs := H80) (mc := C80) (c := bodyOf Tryz.f80) (allS_get (⟨S43 N, ⟨S123 N, trivial⟩⟩ : AllS Tryz.prog [(43, E43 N), (123, E123 N)])) Tryz.func80 (by kernel_rfl) (by kernel_rfl) (by kernel_rfl) (Nat.le_of_ble_eq_true (by kernel_rfl)) (by kernel_rfl) (by kernel_rfl) (fun a => by kernel_rfl)
def H36 : List Hint := [.draw false []]
def E36 (N : Nat) : Entry := entry [.c .ptr] [.s 2 (.c (.int .i64))] fun a => F_1p N a
noncomputable def C36 : MC := mcOf (comp Tryz.prog 16 [] [] (bodyOf Tryz.f36) none H36)
theorem S36 (N : Nat) : Sound Tryz.prog 36 (E36 N) :=
 sound_of (C := [(80, E80 N)]) (N := N) (ntmps := 16) (priv := []) (pu := []) (hs := H36) (mc := C36) (c := bodyOf Tryz.f36) (allS_get (⟨S80 N, trivial⟩ : AllS Tryz.prog [(80, E80 N)])) Tryz.func36 (by kernel_rfl) (by kernel_rfl) (by kernel_rfl) (Nat.le_of_ble_eq_true (by kernel_rfl)) (by kernel_rfl) (by kernel_rfl) (fun a => by kernel_rfl)
def H11 : List Hint := [.no, .no, .no, .no, .no, .join [(.normal, ⟨[.s 2 (.c (.int .i64))], []⟩), (.ret, ⟨[.s 8 (.c (.int .i64))], []⟩)], .loop ⟨[.s 2 (.c (.int .i64)), .s 11 (.c (.sl 1))], []⟩, .no, .no, .no, .no, .no, .draw false []]
def E11 (N : Nat) : Entry := entry [.c .ptr, .c (.int .i64), .c (.int .i64), .c (.sl 1)] [.s 8 (.c (.int .i64))] fun a => F_00 N a.1 a.2.1 a.2.2.1 a.2.2.2
noncomputable def C11 : MC := mcOf (comp Tryz.prog 105 [] [] (bodyOf Tryz.f11) none H11)
theorem S11 (N : Nat) : Sound Tryz.prog 11 (E11 N) :=
 sound_of (C := [(32, E32 N), (33, E33 N), (34, E34 N), (35, E35 N), (36, E36 N)]) (N := N) (ntmps := 105) (priv := []) (pu := []) (hs := H11) (mc := C11) (c := bodyOf Tryz.f11) (allS_get (⟨S32 N, ⟨S33 N, ⟨S34 N, ⟨S35 N, ⟨S36 N, trivial⟩⟩⟩⟩⟩ : AllS Tryz.prog [(32, E32 N), (33, E33 N), (34, E34 N), (35, E35 N), (36, E36 N)])) Tryz.func11 (by kernel_rfl) (by kernel_rfl) (by kernel_rfl) (Nat.le_of_ble_eq_true (by kernel_rfl)) (by kernel_rfl) (by kernel_rfl) (fun a => by kernel_rfl)
def H37 : List Hint := [.no]
def E37 (N : Nat) : Entry := entry [.c .ptr, .c (.int .i64)] [.s 4 (.c (.sl 1)), .s 5 (.c (.int .i64))] fun a => F_2o N a.1 a.2
noncomputable def C37 : MC := mcOf (comp Tryz.prog 31 [] [] (bodyOf Tryz.f37) none H37)
theorem S37 (N : Nat) : Sound Tryz.prog 37 (E37 N) :=
 sound_of (C := [(40, E40 N), (34, E34 N)]) (N := N) (ntmps := 31) (priv := []) (pu := []) (hs := H37) (mc := C37) (c := bodyOf Tryz.f37) (allS_get (⟨S40 N, ⟨S34 N, trivial⟩⟩ : AllS Tryz.prog [(40, E40 N), (34, E34 N)])) Tryz.func37 (by kernel_rfl) (by kernel_rfl) (by kernel_rfl) (Nat.le_of_ble_eq_true (by kernel_rfl)) (by kernel_rfl) (by kernel_rfl) (fun a => by kernel_rfl)
def H12 : List Hint := [.no, .no, .no, .join [(.normal, ⟨[.s 12 (.c (.sl 1))], []⟩), (.ret, ⟨[.s 8 (.c (.sl 1)), .s 9 (.c (.int .i64))], []⟩)], .loop ⟨[.s 2 (.c (.int .i64)), .s 12 (.c (.sl 1))], []⟩, .no, .no, .no]
def E12 (N : Nat) : Entry := entry [.c .ptr, .c (.int .i64), .c (.int .i64), .c (.int .i64)] [.s 8 (.c (.sl 1)), .s 9 (.c (.int .i64))] fun a => F_0n N a.1 a.2.1 a.2.2.1 a.2.2.2
noncomputable def C12 : MC := mcOf (comp Tryz.prog 82 [] [] (bodyOf Tryz.f12) none H12)
theorem S12 (N : Nat) : Sound Tryz.prog 12 (E12 N) :=
 sound_of (C := [(32, E32 N), (37, E37 N)]) (N := N) (ntmps := 82) (priv := []) (pu := []) (hs := H12) (mc := C12) (c := bodyOf Tryz.f12) (allS_get (⟨S32 N, ⟨S37 N, trivial⟩⟩ : AllS Tryz.prog [(32, E32 N), (37, E37 N)])) Tryz.func12 (by kernel_rfl) (by kernel_rfl) (by kernel_rfl) (Nat.le_of_ble_eq_true (by kernel_rfl)) (by kernel_rfl) (by kernel_rfl) (fun a => by kernel_rfl)
def H41 : List Hint := [.no, .no, .join [(.normal, ⟨[.s 9 (.c (.int .i64))], []⟩)], .loop ⟨[.s 9 (.c (.int .i64)), .s 29 (.c (.int .i64))], []⟩, .no, .no, .join [(.normal, ⟨[.s 9 (.c (.int .i64))], []⟩)]]
def E41 (N : Nat) : Entry := entry [.c (.int .i64), .c (.int .i64), .c .ptr, .c .ptr, .c .ptr] [.s 7 (.c (.int .i64))] fun a => F_0w N a.1 a.2.1 a.2.2.1 a.2.2.2.1 a.2.2.2.2
noncomputable def C41 : MC := mcOf (comp Tryz.prog 42 [] [] (bodyOf Tryz.f41) none H41)
def ER41 (N R : Nat) : Entry := entry [.c (.int .i64), .c (.int .i64), .c .ptr, .c .ptr, .c .ptr] [.s 7 (.c (.int .i64))] fun a => iter R (fun self v => F_0x N self v.1 v.2.1 v.2.2.1 v.2.2.2.1 v.2.2.2.2) (a.1, a.2.1, a.2.2.1, a.2.2.2.1, a.2.2.2.2)
theorem R41 (N R : Nat) : Sound Tryz.prog 41 (ER41 N R) := by
 induction R with
 | zero => exact sound_zero (c := bodyOf Tryz.f41) Tryz.func41 (by kernel_rfl) (by kernel_rfl) fun _ _ => rfl
 | succ R ih => exact sound_of (C := [(41, ER41 N R), (42, E42 N)]) (N := N) (ntmps := 42) (priv := []) (pu := []) (hs := H41) (mc := C41) (c := bodyOf Tryz.f41) (allS_get (⟨ih, ⟨S42 N, trivial⟩⟩ : AllS Tryz.prog [(41, ER41 N R), (42, E42 N)])) Tryz.func41 (by kernel_rfl) (by kernel_rfl) (by kernel_rfl) (Nat.le_of_ble_eq_true (by kernel_rfl)) (by kernel_rfl) (by kernel_rfl) (fun a => by kernel_rfl)
theorem S41 (N : Nat) : Sound Tryz.prog 41 (E41 N) := R41 N N
def H14 : List Hint := [.no, .join [(.normal, ⟨[], []⟩)], .loop ⟨[.s 27 (.c (.int .i64))], []⟩, .no, .no, .draw false [], .join [(.normal, ⟨[.s 7 (.c (.int .i64))], []⟩)], .draw false [], .no]
def E14 (N : Nat) : Entry := entry [.c .ptr, .c (.int .i64)] [.s 4 (.c (.sl 1)), .s 5 (.c (.int .i64))] fun a => F_1q N a.1 a.2
noncomputable def C14 : MC := mcOf (comp Tryz.prog 54 [] [] (bodyOf Tryz.f14) none H14)
theorem S14 (N : Nat) : Sound Tryz.prog 14 (E14 N) :=
 sound_of (C := [(32, E32 N), (41, E41 N)]) (N := N) (ntmps := 54) (priv := []) (pu := []) (hs := H14) (mc := C14) (c := bodyOf Tryz.f14) (allS_get (⟨S32 N, ⟨S41 N, trivial⟩⟩ : AllS Tryz.prog [(32, E32 N), (41, E41 N)])) Tryz.func14 (by kernel_rfl) (by kernel_rfl) (by kernel_rfl) (Nat.le_of_ble_eq_true (by kernel_rfl)) (by kernel_rfl) (by kernel_rfl) (fun a => by kernel_rfl)
def H39 : List Hint := [.no]
def E39 (N : Nat) : Entry := entry [.c (.int .i64)] [.s 2 (.c (.int .i64))] fun a => F_2p N a
noncomputable def C39 : MC := mcOf (comp Tryz.prog 9 [] [] (bodyOf Tryz.f39) none H39)
theorem S39 (N : Nat) : Sound Tryz.prog 39 (E39 N) :=
 sound_of (C := []) (N := N) (ntmps := 9) (priv := []) (pu := []) (hs := H39) (mc := C39) (c := bodyOf Tryz.f39) (allS_get (trivial : AllS Tryz.prog [])) Tryz.func39 (by kernel_rfl) (by kernel_rfl) (by kernel_rfl) (Nat.le_of_ble_eq_true (by kernel_rfl)) (by kernel_rfl) (by kernel_rfl) (fun a => by kernel_rfl)
def H128 : List Hint := [.no, .no, .no, .no, .draw false []]
def E128 (N : Nat) : Entry := entry [.c (.sl 2), .c (.int .i64)] [.s 4 (.c (.sl 2)), .s 5 (.c (.int .i64))] fun a => F_2q N a.1 a.2
noncomputable def C128 : MC := mcOf (comp Tryz.prog 53 [] [] (bodyOf Tryz.f128) none H128)
theorem S128 (N : Nat) : Sound Tryz.prog 128 (E128 N) :=
 sound_of (C := [(113, E113 N), (117, E117 N)]) (N := N) (ntmps := 53) (priv := []) (pu := []) (hs := H128) (mc := C128) (c := bodyOf Tryz.f128) (allS_get (⟨S113 N, ⟨S117 N, trivial⟩⟩ : AllS Tryz.prog [(113, E113 N), (117, E117 N)])) Tryz.func128 (by kernel_rfl) (by kernel_rfl) (by kernel_rfl) (Nat.le_of_ble_eq_true (by kernel_rfl)) (by kernel_rfl) (by kernel_rfl) (fun a => by kernel_rfl)
def H83 : List Hint := []
def E83 (N : Nat) : Entry := entry [.c .ptr, .c (.int .i64)] [] fun a => F_1r N a.1 a.2
noncomputable def C83 : MC := mcOf (comp Tryz.prog 20 [] [] (bodyOf Tryz.f83) none H83)
theorem S83 (N : Nat) : Sound Tryz.prog 83 (E83 N) :=
 sound_of (C := [(128, E128 N)]) (N := N) (ntmps := 20) (priv := []) (pu := []) (hs := H83) (mc := C83) (c := bodyOf Tryz.f83) (allS_get (⟨S128 N, trivial⟩ : AllS Tryz.prog [(128, E128 N)])) Tryz.func83 (by kernel_rfl) (by kernel_rfl) (by kernel_rfl) (Nat.le_of_ble_eq_true (by kernel_rfl)) (by kernel_rfl) (by kernel_rfl) (fun a => by kernel_rfl)
def H124 : List Hint := [.no, .join [(.normal, ⟨[], []⟩)]]
def E124 (N : Nat) : Entry := entry [.c .ptr, .c (.int .i64)] [.s 4 (.c (.int .i64))] fun a => F_1s N a.1 a.2
noncomputable def C124 : MC := mcOf (comp Tryz.prog 51 [] [] (bodyOf Tryz.f124) none H124)
theorem S124 (N : Nat) : Sound Tryz.prog 124 (E124 N) :=
 sound_of (C := [(78, E78 N), (79, E79 N), (146, E146 N), (112, E112 N), (83, E83 N)]) (N := N) (ntmps := 51) (priv := []) (pu := []) (hs := H124) (mc := C124) (c := bodyOf Tryz.f124) (allS_get (⟨S78 N, ⟨S79 N, ⟨S146 N, ⟨S112 N, ⟨S83 N, trivial⟩⟩⟩⟩⟩ : AllS Tryz.prog [(78, E78 N), (79, E79 N), (146, E146 N), (112, E112 N), (83, E83 N)])) Tryz.func124 (by kernel_rfl) (by kernel_rfl) (by kernel_rfl) (Nat.le_of_ble_eq_true (by kernel_rfl)) (by kernel_rfl) (by kernel_rfl) (fun a => by kernel_rfl)
def H95 : List Hint := [.no]
def E95 (N : Nat) : Entry := entry [.c (.sl 1)] [.s 2 (.c (.sl 1))] fun a => F_4e N a
noncomputable def C95 : MC := mcOf (comp Tryz.prog 8 [] [] (bodyOf Tryz.f95) none H95)
theorem S95 (N : Nat) : Sound Tryz.prog 95 (E95 N) :=
 sound_of (C := []) (N := N) (ntmps := 8) (priv := []) (pu := []) (hs := H95) (mc := C95) (c := bodyOf Tryz.f95) (allS_get (trivial : AllS Tryz.prog [])) Tryz.func95 (by kernel_rfl) (by kernel_rfl) (by kernel_rfl) (Nat.le_of_ble_eq_true (by kernel_rfl)) (by kernel_rfl) (by kernel_rfl) (fun a => by kernel_rfl)
def H126 : List Hint := []
def E126 (N : Nat) : Entry := entry [.c (.int .i64)] [.s 2 (.c .bool)] fun a => F_3f N a
noncomputable def C126 : MC := mcOf (comp Tryz.prog 5 [] [] (bodyOf Tryz.f126) none H126)
theorem S126 (N : Nat) : Sound Tryz.prog 126 (E126 N) :=
 sound_of (C := []) (N := N) (ntmps := 5) (priv := []) (pu := []) (hs := H126) (mc := C126) (c := bodyOf Tryz.f126) (allS_get (trivial : AllS Tryz.prog [])) Tryz.func126 (by kernel_rfl) (by kernel_rfl) (by kernel_rfl) (Nat.le_of_ble_eq_true (by kernel_rfl)) (by kernel_rfl) (by kernel_rfl) (fun a => by kernel_rfl)
def H148_126 : List Hint := [.join [(.normal, ⟨[], []⟩), (.ret, ⟨[.s 4 (.c (.int .i64))], []⟩)], .loop ⟨[.s 8 (.c (.int .i64))], []⟩, .no, .no, .no]
def E148_126 (N : Nat) : Entry := entry [.c (.sl 1), .fnc 126 []] [.s 4 (.c (.int .i64))] fun a => F_3g N a.1 a.2
noncomputable def C148_126 : MC := mcOf (comp Tryz.prog 19 [] [] (bodyOf Tryz.f148) none H148_126)
theorem S148_126 (N : Nat) : Sound Tryz.prog 148 (E148_126 N) :=
 sound_of (C := [(126, E126 N)]) (N := N) (ntmps := 19) (priv := []) (pu := []) (hs := H148_126) (mc := C148_126) (c := bodyOf Tryz.f148) (allS_get (⟨S126 N, trivial⟩ : AllS Tryz.prog [(126, E126 N)])) Tryz.func148 (by kernel_rfl) (by kernel_rfl) (by kernel_rfl) (Nat.le_of_ble_eq_true (by kernel_rfl)) (by kernel_rfl) (by kernel_rfl) (fun a => by kernel_rfl)
def H125_126 : List Hint := []
def E125_126 (N : Nat) : Entry := entry [.c (.sl 1), .fnc 126 []] [.s 4 (.c .bool)] fun a => F_2r N a.1 a.2
noncomputable def C125_126 : MC := mcOf (comp Tryz.prog 9 [] [] (bodyOf Tryz.f125) none H125_126)
theorem S125_126 (N : Nat) : Sound Tryz.prog 125 (E125_126 N) :=
 sound_of (C := [(148, E148_126 N)]) (N := N) (ntmps := 9) (priv := []) (pu := []) (hs := H125_126) (mc := C125_126) (c := bodyOf Tryz.f125) (allS_get (⟨S148_126 N, trivial⟩ : AllS Tryz.prog [(148, E148_126 N)])) Tryz.func125 (by kernel_rfl) (by kernel_rfl) (by kernel_rfl) (Nat.le_of_ble_eq_true (by kernel_rfl)) (by kernel_rfl) (by kernel_rfl) (fun a => by kernel_rfl)
def H127 : List Hint := [.no, .join [(.normal, ⟨[], []⟩), (.ret, ⟨[.s 4 (.c .bool)], []⟩)], .loop ⟨[.s 13 (.c (.int .i64))], []⟩, .no, .no, .draw false [], .no]
def E127 (N : Nat) : Entry := entry [.c (.sl 1), .c (.sl 1)] [.s 4 (.c .bool)] fun a => F_2s N a.1 a.2
noncomputable def C127 : MC := mcOf (comp Tryz.prog 26 [] [] (bodyOf Tryz.f127) none H127)
theorem S127 (N : Nat) : Sound Tryz.prog 127 (E127 N) :=
 sound_of (C := []) (N := N) (ntmps := 26) (priv := []) (pu := []) (hs := H127) (mc := C127) (c := bodyOf Tryz.f127) (allS_get (trivial : AllS Tryz.prog [])) Tryz.func127 (by kernel_rfl) (by kernel_rfl) (by kernel_rfl) (Nat.le_of_ble_eq_true (by kernel_rfl)) (by kernel_rfl) (by kernel_rfl) (fun a => by kernel_rfl)
def H81 : List Hint := [.no, .no, .no, .no, .join [(.normal, ⟨[.s 14 (.c (.int .i64))], []⟩)], .join [(.normal, ⟨[], []⟩), (.ret, ⟨[.s 10 (.c (.int .i64)), .s 11 (.c (.int .i64))], []⟩)], .loop ⟨[.s 49 (.c (.int .i64))], []⟩, .no, .no, .no, .no, .no]
def E81 (N : Nat) : Entry := entry [.c .ptr, .c (.int .i64), .c (.int .i64), .c (.int .i64), .c (.int .i64)] [.s 10 (.c (.int .i64)), .s 11 (.c (.int .i64))] fun a => F_0y N a.1 a.2.1 a.2.2.1 a.2.2.2.1 a.2.2.2.2
noncomputable def C81 : MC := mcOf (comp Tryz.prog 104 [] [] (bodyOf Tryz.f81) none H81)
def ER81 (N R : Nat) : Entry := entry [.c .ptr, .c (.int .i64), .c (.int .i64), .c (.int .i64), .c (.int .i64)] [.s 10 (.c (.int .i64)), .s 11 (.c (.int .i64))] fun a => iter R (fun self v => F_0z N self v.1 v.2.1 v.2.2.1 v.2.2.2.1 v.2.2.2.2) (a.1, a.2.1, a.2.2.1, a.2.2.2.1, a.2.2.2.2)
theorem R81 (N R : Nat) : Sound Tryz.prog 81 (ER81 N R) := by
 induction R with
 | zero => exact sound_zero (c := bodyOf Tryz.f81) Tryz.func81 (by kernel_rfl) (by kernel_rfl) fun _ _ => rfl
 | succ R ih => exact sound_of (C := [(81, ER81 N R), (124, E124 N), (42, E42 N), (95, E95 N), (125, E125_126 N), (127, E127 N), (75, E75 N), (35, E35 N)]) (N := N) (ntmps := 104) (priv := []) (pu := []) (hs := H81) (mc := C81) (c := bodyOf Tryz.f81) (allS_get (⟨ih, ⟨S124 N, ⟨S42 N, ⟨S95 N, ⟨S125_126 N, ⟨S127 N, ⟨S75 N, ⟨S35 N, trivial⟩⟩⟩⟩⟩⟩⟩⟩ : AllS Tryz.prog [(81, ER81 N R), (124, E124 N), (42, E42 N), (95, E95 N), (125, E125_126 N), (127, E127 N), (75, E75 N), (35, E35 N)])) Tryz.func81 (by kernel_rfl) (by kernel_rfl) (by kernel_rfl) (Nat.le_of_ble_eq_true (by kernel_rfl)) (by kernel_rfl) (by kernel_rfl) (fun a => by kernel_rfl)
theorem S81 (N : Nat) : Sound Tryz.prog 81 (E81 N) := R81 N N
def H38 : List Hint := [.join [(.normal, ⟨[], []⟩), (.ret, ⟨[.s 4 (.c (.int .i64))], []⟩)], .loop ⟨[.s 11 (.c (.int .i64))], []⟩, .no, .no, .draw false [], .no, .no]
def E38 (N : Nat) : Entry := entry [.c .ptr, .c (.int .i64)] [.s 4 (.c (.int .i64))] fun a => F_2t N a.1 a.2
noncomputable def C38 : MC := mcOf (comp Tryz.prog 69 [] [] (bodyOf Tryz.f38) none H38)
theorem S38 (N : Nat) : Sound Tryz.prog 38 (E38 N) :=
 sound_of (C := [(81, E81 N)]) (N := N) (ntmps := 69) (priv := []) (pu := []) (hs := H38) (mc := C38) (c := bodyOf Tryz.f38) (allS_get (⟨S81 N, trivial⟩ : AllS Tryz.prog [(81, E81 N)])) Tryz.func38 (by kernel_rfl) (by kernel_rfl) (by kernel_rfl) (Nat.le_of_ble_eq_true (by kernel_rfl)) (by kernel_rfl) (by kernel_rfl) (fun a => by kernel_rfl)
def H13 : List Hint := [.no, .no, .no, .no, .join [(.normal, ⟨[], []⟩), (.ret, ⟨[.s 6 (.c (.int .i64))], []⟩)], .no, .join [(.normal, ⟨[], []⟩), (.ret, ⟨[.s 6 (.c (.int .i64))], []⟩)], .no, .no]
def E13 (N : Nat) : Entry := entry [.c .ptr, .c (.int .i64), .c (.int .i64)] [.s 6 (.c (.int .i64))] fun a => F_01 N a.1 a.2.1 a.2.2
noncomputable def C13 : MC := mcOf (comp Tryz.prog 93 [] [] (bodyOf Tryz.f13) none H13)
theorem S13 (N : Nat) : Sound Tryz.prog 13 (E13 N) :=
 sound_of (C := [(32, E32 N), (39, E39 N), (38, E38 N), (40, E40 N), (34, E34 N), (35, E35 N), (36, E36 N)]) (N := N) (ntmps := 93) (priv := []) (pu := []) (hs := H13) (mc := C13) (c := bodyOf Tryz.f13) (allS_get (⟨S32 N, ⟨S39 N, ⟨S38 N, ⟨S40 N, ⟨S34 N, ⟨S35 N, ⟨S36 N, trivial⟩⟩⟩⟩⟩⟩⟩ : AllS Tryz.prog [(32, E32 N), (39, E39 N), (38, E38 N), (40, E40 N), (34, E34 N), (35, E35 N), (36, E36 N)])) Tryz.func13 (by kernel_rfl) (by kernel_rfl) (by kernel_rfl) (Nat.le_of_ble_eq_true (by kernel_rfl)) (by kernel_rfl) (by kernel_rfl) (fun a => by kernel_rfl)
def H9 : List Hint := [.no]
def E9 (N : Nat) : Entry := entry [] [.s 0 (.c .bool)] fun a => F_2u N
noncomputable def C9 : MC := mcOf (comp Tryz.prog 92 [4] [] (bodyOf Tryz.f9) none H9)
theorem S9 (N : Nat) : Sound Tryz.prog 9 (E9 N) :=
 sound_of (C := [(10, E10 N), (11, E11 N), (15, E15 N), (12, E12 N), (14, E14 N), (13, E13 N)]) (N := N) (ntmps := 92) (priv := [4]) (pu := []) (hs := H9) (mc := C9) (c := bodyOf Tryz.f9) (allS_get (⟨S10 N, ⟨S11 N, ⟨S15 N, ⟨S12 N, ⟨S14 N, ⟨S13 N, trivial⟩⟩⟩⟩⟩⟩ : AllS Tryz.prog [(10, E10 N), (11, E11 N), (15, E15 N), (12, E12 N), (14, E14 N), (13, E13 N)])) Tryz.func9 (by kernel_rfl) (by kernel_rfl) (by kernel_rfl) (Nat.le_of_ble_eq_true (by kernel_rfl)) (by kernel_rfl) (by kernel_rfl) (fun a => by kernel_rfl)
def H44 : List Hint := [.no]
def E44 (N : Nat) : Entry := entry [.c .ptr, .c (.int .i64)] [.s 4 (.c (.int .i64))] fun a => F_4f N a.1 a.2
noncomputable def C44 : MC := mcOf (comp Tryz.prog 34 [] [] (bodyOf Tryz.f44) none H44)
theorem S44 (N : Nat) : Sound Tryz.prog 44 (E44 N) :=
 sound_of (C := [(43, E43 N), (83, E83 N)]) (N := N) (ntmps := 34) (priv := []) (pu := []) (hs := H44) (mc := C44) (c := bodyOf Tryz.f44) (allS_get (⟨S43 N, ⟨S83 N, trivial⟩⟩ : AllS Tryz.prog [(43, E43 N), (83, E83 N)])) Tryz.func44 (by kernel_rfl) (by kernel_rfl) (by kernel_rfl) (Nat.le_of_ble_eq_true (by kernel_rfl)) (by kernel_rfl) (by kernel_rfl) (fun a => by kernel_rfl)
def H16 : List Hint := [.no]
def E16 (N : Nat) : Entry := entry [.c .ptr, .c (.int .i64)] [.s 4 (.c (.int .i64))] fun a => F_3h N a.1 a.2
noncomputable def C16 : MC := mcOf (comp Tryz.prog 15 [] [] (bodyOf Tryz.f16) none H16)
theorem S16 (N : Nat) : Sound Tryz.prog 16 (E16 N) :=
 sound_of (C := [(13, E13 N), (44, E44 N)]) (N := N) (ntmps := 15) (priv := []) (pu := []) (hs := H16) (mc := C16) (c := bodyOf Tryz.f16) (allS_get (⟨S13 N, ⟨S44 N, trivial⟩⟩ : AllS Tryz.prog [(13, E13 N), (44, E44 N)])) Tryz.func16 (by kernel_rfl) (by kernel_rfl) (by kernel_rfl) (Nat.le_of_ble_eq_true (by kernel_rfl)) (by kernel_rfl) (by kernel_rfl) (fun a => by kernel_rfl)
def H6 : List Hint := [.no, .no]
def E6 (N : Nat) : Entry := entry [.c (.int .i64), .c (.int .i64), .c (.int .i64), .c (.sl 1)] [.s 8 (.c .bool)] fun a => F_3i N a.1 a.2.1 a.2.2.1 a.2.2.2
noncomputable def C6 : MC := mcOf (comp Tryz.prog 163 [13] [] (bodyOf Tryz.f6) none H6)
theorem S6 (N : Nat) : Sound Tryz.prog 6 (E6 N) :=
 sound_of (C := [(9, E9 N), (10, E10 N), (15, E15 N), (12, E12 N), (14, E14 N), (11, E11 N), (13, E13 N), (16, E16 N)]) (N := N) (ntmps := 163) (priv := [13]) (pu := []) (hs := H6) (mc := C6) (c := bodyOf Tryz.f6) (allS_get (⟨S9 N, ⟨S10 N, ⟨S15 N, ⟨S12 N, ⟨S14 N, ⟨S11 N, ⟨S13 N, ⟨S16 N, trivial⟩⟩⟩⟩⟩⟩⟩⟩ : AllS Tryz.prog [(9, E9 N), (10, E10 N), (15, E15 N), (12, E12 N), (14, E14 N), (11, E11 N), (13, E13 N), (16, E16 N)])) Tryz.func6 (by kernel_rfl) (by kernel_rfl) (by kernel_rfl) (Nat.le_of_ble_eq_true (by kernel_rfl)) (by kernel_rfl) (by kernel_rfl) (fun a => by kernel_rfl)
end Go.Proofs.YtfieiaijdalkbaaGreat
