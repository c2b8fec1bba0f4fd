/- PRINTED by gen.py: that the code comes to what is printed. Not trusted: Lean checks it. -/
import Derived.Test.YtcaaljlhljemoaaGreatMU
import Derived.Test.YtcaaljlhljemoaaGreatD15
import Derived.Test.YtcaaljlhljemoaaGreatProg
import Derived.KernelRfl
namespace Go.Proofs.YtcaaljlhljemoaaGreat
open Go.Mini Go.Moat
set_option maxRecDepth 100000

/-- moat/super.within -/
def H141 : List Hint := []
def E141 (N : Nat) : Entry := entry [.c (.int .i64), .c (.int .i64), .c (.int .i64)] [.s 6 (.c .bool)] fun a => F_super_within N a.1 a.2.1 a.2.2
noncomputable def C141 : MC := mcOf (comp Tryz.prog 15 [] [] (bodyOf Tryz.f141) none H141)
theorem S141 (N : Nat) : Sound Tryz.prog 141 (E141 N) :=
  sound_of (C := []) (N := N) (ntmps := 15) (priv := []) (pu := []) (hs := H141) (mc := C141) (c := bodyOf Tryz.f141) (allS_get (trivial : AllS Tryz.prog [])) Tryz.func141 (by kernel_rfl) (by kernel_rfl) (by kernel_rfl) (Nat.le_of_ble_eq_true (by kernel_rfl)) (by kernel_rfl) (by kernel_rfl) (fun a => by kernel_rfl)

/-- moat/super.Right -/
def H92 : List Hint := [.no, .draw false []]
def E92 (N : Nat) : Entry := entry [.st [.int .i64, .int .i64, .int .i64, .int .i64]] [.s 2 (.c .bool)] fun a => F_super_Right N a
noncomputable def C92 : MC := mcOf (comp Tryz.prog 30 [1] [1, 3, 8, 14, 19, 23, 25] (bodyOf Tryz.f92) none H92)
theorem S92 (N : Nat) : Sound Tryz.prog 92 (E92 N) :=
  sound_of (C := [(141, E141 N)]) (N := N) (ntmps := 30) (priv := [1]) (pu := [1, 3, 8, 14, 19, 23, 25]) (hs := H92) (mc := C92) (c := bodyOf Tryz.f92) (allS_get (⟨S141 N, trivial⟩ : AllS Tryz.prog [(141, E141 N)])) Tryz.func92 (by kernel_rfl) (by kernel_rfl) (by kernel_rfl) (Nat.le_of_ble_eq_true (by kernel_rfl)) (by kernel_rfl) (by kernel_rfl) (fun a => by kernel_rfl)

/-- moat/super.Plan$1 -/
def H93 : List Hint := []
def E93 (N : Nat) : Entry := entry [.c (.int .i64), .c .ptr] [.s 3 (.c (.int .i64))] fun a => F_super_Plan_1 N a.1 a.2
noncomputable def C93 : MC := mcOf (comp Tryz.prog 8 [] [] (bodyOf Tryz.f93) none H93)
theorem S93 (N : Nat) : Sound Tryz.prog 93 (E93 N) :=
  sound_of (C := []) (N := N) (ntmps := 8) (priv := []) (pu := []) (hs := H93) (mc := C93) (c := bodyOf Tryz.f93) (allS_get (trivial : AllS Tryz.prog [])) Tryz.func93 (by kernel_rfl) (by kernel_rfl) (by kernel_rfl) (Nat.le_of_ble_eq_true (by kernel_rfl)) (by kernel_rfl) (by kernel_rfl) (fun a => by kernel_rfl)

/-- moat/super.Plan -/
def H46 : List Hint := [.no, .draw false []]
def E46 (N : Nat) : Entry := entry [.st [.int .i64, .int .i64, .int .i64, .int .i64]] [.m 2 (.st [.int .i64, .int .i64, .int .i64, .int .i64, .int .i64, .int .i64, .int .i64]), .s 3 (.c (.int .i64))] fun a => F_super_Plan N a
noncomputable def C46 : MC := mcOf (comp Tryz.prog 36 [1, 2] [1, 2, 14, 24, 29, 31] (bodyOf Tryz.f46) none H46)
theorem S46 (N : Nat) : Sound Tryz.prog 46 (E46 N) :=
  sound_of (C := [(92, E92 N), (93, E93 N)]) (N := N) (ntmps := 36) (priv := [1, 2]) (pu := [1, 2, 14, 24, 29, 31]) (hs := H46) (mc := C46) (c := bodyOf Tryz.f46) (allS_get (⟨S92 N, ⟨S93 N, trivial⟩⟩ : AllS Tryz.prog [(92, E92 N), (93, E93 N)])) Tryz.func46 (by kernel_rfl) (by kernel_rfl) (by kernel_rfl) (Nat.le_of_ble_eq_true (by kernel_rfl)) (by kernel_rfl) (by kernel_rfl) (fun a => by kernel_rfl)

/-- moat/disk.New -/
def H47 : List Hint := [.no]
def E47 (N : Nat) : Entry := entry [.c (.int .i64)] [.s 2 (.c .ptr), .s 3 (.c (.int .i64))] fun a => F_disk_New N a
noncomputable def C47 : MC := mcOf (comp Tryz.prog 14 [] [] (bodyOf Tryz.f47) none H47)
theorem S47 (N : Nat) : Sound Tryz.prog 47 (E47 N) :=
  sound_of (C := []) (N := N) (ntmps := 14) (priv := []) (pu := []) (hs := H47) (mc := C47) (c := bodyOf Tryz.f47) (allS_get (trivial : AllS Tryz.prog [])) Tryz.func47 (by kernel_rfl) (by kernel_rfl) (by kernel_rfl) (Nat.le_of_ble_eq_true (by kernel_rfl)) (by kernel_rfl) (by kernel_rfl) (fun a => by kernel_rfl)

/-- (*moat/disk.Disk).Len -/
def H25 : List Hint := [.no]
def E25 (N : Nat) : Entry := entry [.c .ptr] [.s 2 (.c (.int .i64))] fun a => F_disk_Disk_Len N a
noncomputable def C25 : MC := mcOf (comp Tryz.prog 10 [] [] (bodyOf Tryz.f25) none H25)
theorem S25 (N : Nat) : Sound Tryz.prog 25 (E25 N) :=
  sound_of (C := []) (N := N) (ntmps := 10) (priv := []) (pu := []) (hs := H25) (mc := C25) (c := bodyOf Tryz.f25) (allS_get (trivial : AllS Tryz.prog [])) Tryz.func25 (by kernel_rfl) (by kernel_rfl) (by kernel_rfl) (Nat.le_of_ble_eq_true (by kernel_rfl)) (by kernel_rfl) (by kernel_rfl) (fun a => by kernel_rfl)

/-- moat/super.Meta -/
def H65 : List Hint := [.no]
def E65 (N : Nat) : Entry := entry [.st [.int .i64, .int .i64, .int .i64, .int .i64]] [.s 2 (.c (.int .i64))] fun a => F_super_Meta N a
noncomputable def C65 : MC := mcOf (comp Tryz.prog 10 [1] [1, 6] (bodyOf Tryz.f65) none H65)
theorem S65 (N : Nat) : Sound Tryz.prog 65 (E65 N) :=
  sound_of (C := [(92, E92 N)]) (N := N) (ntmps := 10) (priv := [1]) (pu := [1, 6]) (hs := H65) (mc := C65) (c := bodyOf Tryz.f65) (allS_get (⟨S92 N, trivial⟩ : AllS Tryz.prog [(92, E92 N)])) Tryz.func65 (by kernel_rfl) (by kernel_rfl) (by kernel_rfl) (Nat.le_of_ble_eq_true (by kernel_rfl)) (by kernel_rfl) (by kernel_rfl) (fun a => by kernel_rfl)

/-- moat/journal.Need -/
def H126 : List Hint := [.no]
def E126 (N : Nat) : Entry := entry [.c (.int .i64)] [.s 2 (.c (.int .i64))] fun a => F_journal_Need N a
noncomputable def C126 : MC := mcOf (comp Tryz.prog 11 [] [] (bodyOf Tryz.f126) none H126)
theorem S126 (N : Nat) : Sound Tryz.prog 126 (E126 N) :=
  sound_of (C := []) (N := N) (ntmps := 11) (priv := []) (pu := []) (hs := H126) (mc := C126) (c := bodyOf Tryz.f126) (allS_get (trivial : AllS Tryz.prog [])) Tryz.func126 (by kernel_rfl) (by kernel_rfl) (by kernel_rfl) (Nat.le_of_ble_eq_true (by kernel_rfl)) (by kernel_rfl) (by kernel_rfl) (fun a => by kernel_rfl)

/-- moat/volume.roomy -/
def H76 : List Hint := [.draw false []]
def E76 (N : Nat) : Entry := entry [.st [.int .i64, .int .i64, .int .i64, .int .i64]] [.s 2 (.c .bool)] fun a => F_volume_roomy N a
noncomputable def C76 : MC := mcOf (comp Tryz.prog 11 [1] [1, 7] (bodyOf Tryz.f76) none H76)
theorem S76 (N : Nat) : Sound Tryz.prog 76 (E76 N) :=
  sound_of (C := [(65, E65 N), (126, E126 N)]) (N := N) (ntmps := 11) (priv := [1]) (pu := [1, 7]) (hs := H76) (mc := C76) (c := bodyOf Tryz.f76) (allS_get (⟨S65 N, ⟨S126 N, trivial⟩⟩ : AllS Tryz.prog [(65, E65 N), (126, E126 N)])) Tryz.func76 (by kernel_rfl) (by kernel_rfl) (by kernel_rfl) (Nat.le_of_ble_eq_true (by kernel_rfl)) (by kernel_rfl) (by kernel_rfl) (fun a => by kernel_rfl)

/-- moat/field.fits -/
def H156 : List Hint := []
def E156 (N : Nat) : Entry := entry [.c (.int .u64), .c (.int .i64)] [.s 4 (.c .bool)] fun a => F_field_fits N a.1 a.2
noncomputable def C156 : MC := mcOf (comp Tryz.prog 14 [] [] (bodyOf Tryz.f156) none H156)
theorem S156 (N : Nat) : Sound Tryz.prog 156 (E156 N) :=
  sound_of (C := []) (N := N) (ntmps := 14) (priv := []) (pu := []) (hs := H156) (mc := C156) (c := bodyOf Tryz.f156) (allS_get (trivial : AllS Tryz.prog [])) Tryz.func156 (by kernel_rfl) (by kernel_rfl) (by kernel_rfl) (Nat.le_of_ble_eq_true (by kernel_rfl)) (by kernel_rfl) (by kernel_rfl) (fun a => by kernel_rfl)

/-- moat/field.put -/
def H157 : List Hint := [.join [(.normal, ⟨[], []⟩)], .loop ⟨[.s 7 (.c (.int .i64))], []⟩, .no, .no]
def E157 (N : Nat) : Entry := entry [.c (.sl 1), .c (.int .u64)] [] fun a => F_field_put N a.1 a.2
noncomputable def C157 : MC := mcOf (comp Tryz.prog 19 [] [] (bodyOf Tryz.f157) none H157)
theorem S157 (N : Nat) : Sound Tryz.prog 157 (E157 N) :=
  sound_of (C := []) (N := N) (ntmps := 19) (priv := []) (pu := []) (hs := H157) (mc := C157) (c := bodyOf Tryz.f157) (allS_get (trivial : AllS Tryz.prog [])) Tryz.func157 (by kernel_rfl) (by kernel_rfl) (by kernel_rfl) (Nat.le_of_ble_eq_true (by kernel_rfl)) (by kernel_rfl) (by kernel_rfl) (fun a => by kernel_rfl)

/-- moat/field.Lay -/
def H137 : List Hint := [.no, .no, .no, .join [(.normal, ⟨[], []⟩), (.ret, ⟨[.s 4 (.c (.sl 1)), .s 5 (.c (.int .i64))], []⟩)], .loop ⟨[.s 29 (.c (.int .i64))], []⟩, .no, .no, .no]
def E137 (N : Nat) : Entry := entry [.c (.int .i64), .c (.sl 1)] [.s 4 (.c (.sl 1)), .s 5 (.c (.int .i64))] fun a => F_field_Lay N a.1 a.2
noncomputable def C137 : MC := mcOf (comp Tryz.prog 51 [] [] (bodyOf Tryz.f137) none H137)
theorem S137 (N : Nat) : Sound Tryz.prog 137 (E137 N) :=
  sound_of (C := [(156, E156 N), (157, E157 N)]) (N := N) (ntmps := 51) (priv := []) (pu := []) (hs := H137) (mc := C137) (c := bodyOf Tryz.f137) (allS_get (⟨S156 N, ⟨S157 N, trivial⟩⟩ : AllS Tryz.prog [(156, E156 N), (157, E157 N)])) Tryz.func137 (by kernel_rfl) (by kernel_rfl) (by kernel_rfl) (Nat.le_of_ble_eq_true (by kernel_rfl)) (by kernel_rfl) (by kernel_rfl) (fun a => by kernel_rfl)

/-- moat/field.Fill -/
def H138 : List Hint := [.no, .no, .no]
def E138 (N : Nat) : Entry := entry [.c (.sl 1), .c (.int .i64)] [.s 4 (.c (.sl 1)), .s 5 (.c (.int .i64))] fun a => F_field_Fill N a.1 a.2
noncomputable def C138 : MC := mcOf (comp Tryz.prog 25 [] [] (bodyOf Tryz.f138) none H138)
theorem S138 (N : Nat) : Sound Tryz.prog 138 (E138 N) :=
  sound_of (C := []) (N := N) (ntmps := 25) (priv := []) (pu := []) (hs := H138) (mc := C138) (c := bodyOf Tryz.f138) (allS_get (trivial : AllS Tryz.prog [])) Tryz.func138 (by kernel_rfl) (by kernel_rfl) (by kernel_rfl) (Nat.le_of_ble_eq_true (by kernel_rfl)) (by kernel_rfl) (by kernel_rfl) (fun a => by kernel_rfl)

/-- moat/sum.More -/
def H164 : List Hint := [.jump 0 ⟨[.s 5 (.c (.int .u32)), .s 6 (.c (.int .u32)), .s 7 (.c (.sl 1))], []⟩, .join [(.normal, ⟨[.s 5 (.c (.int .u32)), .s 6 (.c (.int .u32))], []⟩)], .loop ⟨[.s 5 (.c (.int .u32)), .s 6 (.c (.int .u32)), .s 25 (.c (.int .i64))], []⟩, .no, .no, .no, .join [(.normal, ⟨[.s 5 (.c (.int .u32)), .s 6 (.c (.int .u32))], []⟩)], .loop ⟨[.s 5 (.c (.int .u32)), .s 6 (.c (.int .u32)), .s 25 (.c (.int .i64))], []⟩, .no, .no, .no]
def E164 (N : Nat) : Entry := entry [.c (.int .u32), .c (.sl 1)] [.s 4 (.c (.int .u32))] fun a => F_sum_More N a.1 a.2
noncomputable def C164 : MC := mcOf (comp Tryz.prog 51 [] [] (bodyOf Tryz.f164) none H164)
theorem S164 (N : Nat) : Sound Tryz.prog 164 (E164 N) :=
  sound_of (C := []) (N := N) (ntmps := 51) (priv := []) (pu := []) (hs := H164) (mc := C164) (c := bodyOf Tryz.f164) (allS_get (trivial : AllS Tryz.prog [])) Tryz.func164 (by kernel_rfl) (by kernel_rfl) (by kernel_rfl) (Nat.le_of_ble_eq_true (by kernel_rfl)) (by kernel_rfl) (by kernel_rfl) (fun a => by kernel_rfl)

/-- moat/sum.Of -/
def H158 : List Hint := []
def E158 (N : Nat) : Entry := entry [.c (.sl 1)] [.s 2 (.c (.int .u32))] fun a => F_sum_Of N a
noncomputable def C158 : MC := mcOf (comp Tryz.prog 5 [] [] (bodyOf Tryz.f158) none H158)
theorem S158 (N : Nat) : Sound Tryz.prog 158 (E158 N) :=
  sound_of (C := [(164, E164 N)]) (N := N) (ntmps := 5) (priv := []) (pu := []) (hs := H158) (mc := C158) (c := bodyOf Tryz.f158) (allS_get (⟨S164 N, trivial⟩ : AllS Tryz.prog [(164, E164 N)])) Tryz.func158 (by kernel_rfl) (by kernel_rfl) (by kernel_rfl) (Nat.le_of_ble_eq_true (by kernel_rfl)) (by kernel_rfl) (by kernel_rfl) (fun a => by kernel_rfl)

/-- moat/sum.Seal -/
def H139 : List Hint := []
def E139 (N : Nat) : Entry := entry [.c (.sl 1)] [.s 2 (.c (.sl 1))] fun a => F_sum_Seal N a
noncomputable def C139 : MC := mcOf (comp Tryz.prog 28 [] [] (bodyOf Tryz.f139) none H139)
theorem S139 (N : Nat) : Sound Tryz.prog 139 (E139 N) :=
  sound_of (C := [(158, E158 N), (137, E137 N)]) (N := N) (ntmps := 28) (priv := []) (pu := []) (hs := H139) (mc := C139) (c := bodyOf Tryz.f139) (allS_get (⟨S158 N, ⟨S137 N, trivial⟩⟩ : AllS Tryz.prog [(158, E158 N), (137, E137 N)])) Tryz.func139 (by kernel_rfl) (by kernel_rfl) (by kernel_rfl) (Nat.le_of_ble_eq_true (by kernel_rfl)) (by kernel_rfl) (by kernel_rfl) (fun a => by kernel_rfl)

/-- moat/super.Lay -/
def H88 : List Hint := [.no]
def E88 (N : Nat) : Entry := entry [.st [.int .i64, .int .i64, .int .i64, .int .i64]] [.s 2 (.c (.sl 1)), .s 3 (.c (.int .i64))] fun a => F_super_Lay N a
noncomputable def C88 : MC := mcOf (comp Tryz.prog 38 [1] [1, 12, 15, 18, 21] (bodyOf Tryz.f88) none H88)
theorem S88 (N : Nat) : Sound Tryz.prog 88 (E88 N) :=
  sound_of (C := [(92, E92 N), (137, E137 N), (138, E138 N), (139, E139 N)]) (N := N) (ntmps := 38) (priv := [1]) (pu := [1, 12, 15, 18, 21]) (hs := H88) (mc := C88) (c := bodyOf Tryz.f88) (allS_get (⟨S92 N, ⟨S137 N, ⟨S138 N, ⟨S139 N, trivial⟩⟩⟩⟩ : AllS Tryz.prog [(92, E92 N), (137, E137 N), (138, E138 N), (139, E139 N)])) Tryz.func88 (by kernel_rfl) (by kernel_rfl) (by kernel_rfl) (Nat.le_of_ble_eq_true (by kernel_rfl)) (by kernel_rfl) (by kernel_rfl) (fun a => by kernel_rfl)

/-- (*moat/disk.Disk).there -/
def H123 : List Hint := []
def E123 (N : Nat) : Entry := entry [.c .ptr, .c (.int .i64)] [.s 4 (.c .bool)] fun a => F_disk_Disk_there N a.1 a.2
noncomputable def C123 : MC := mcOf (comp Tryz.prog 13 [] [] (bodyOf Tryz.f123) none H123)
theorem S123 (N : Nat) : Sound Tryz.prog 123 (E123 N) :=
  sound_of (C := [(25, E25 N)]) (N := N) (ntmps := 13) (priv := []) (pu := []) (hs := H123) (mc := C123) (c := bodyOf Tryz.f123) (allS_get (⟨S25 N, trivial⟩ : AllS Tryz.prog [(25, E25 N)])) Tryz.func123 (by kernel_rfl) (by kernel_rfl) (by kernel_rfl) (Nat.le_of_ble_eq_true (by kernel_rfl)) (by kernel_rfl) (by kernel_rfl) (fun a => by kernel_rfl)

/-- (*moat/disk.Disk).power -/
def H140 : List Hint := [.no, .no, .no, .no, .join [(.normal, ⟨[], []⟩)]]
def E140 (N : Nat) : Entry := entry [.c .ptr] [.s 2 (.c (.int .i64))] fun a => F_disk_Disk_power N a
noncomputable def C140 : MC := mcOf (comp Tryz.prog 40 [] [] (bodyOf Tryz.f140) none H140)
theorem S140 (N : Nat) : Sound Tryz.prog 140 (E140 N) :=
  sound_of (C := []) (N := N) (ntmps := 40) (priv := []) (pu := []) (hs := H140) (mc := C140) (c := bodyOf Tryz.f140) (allS_get (trivial : AllS Tryz.prog [])) Tryz.func140 (by kernel_rfl) (by kernel_rfl) (by kernel_rfl) (Nat.le_of_ble_eq_true (by kernel_rfl)) (by kernel_rfl) (by kernel_rfl) (fun a => by kernel_rfl)

/-- (*moat/disk.Disk).Write -/
def H89 : List Hint := [.no, .no, .no, .no, .draw false [], .draw false [], .draw false []]
def E89 (N : Nat) : Entry := entry [.c .ptr, .st [.int .i64, .sl 1, .int .u16]] [.s 4 (.c (.int .i64))] fun a => F_disk_Disk_Write N a.1 a.2
noncomputable def C89 : MC := mcOf (comp Tryz.prog 63 [3] [3, 12, 17, 27, 31, 39, 45, 59] (bodyOf Tryz.f89) none H89)
theorem S89 (N : Nat) : Sound Tryz.prog 89 (E89 N) :=
  sound_of (C := [(123, E123 N), (140, E140 N)]) (N := N) (ntmps := 63) (priv := [3]) (pu := [3, 12, 17, 27, 31, 39, 45, 59]) (hs := H89) (mc := C89) (c := bodyOf Tryz.f89) (allS_get (⟨S123 N, ⟨S140 N, trivial⟩⟩ : AllS Tryz.prog [(123, E123 N), (140, E140 N)])) Tryz.func89 (by kernel_rfl) (by kernel_rfl) (by kernel_rfl) (Nat.le_of_ble_eq_true (by kernel_rfl)) (by kernel_rfl) (by kernel_rfl) (fun a => by kernel_rfl)

/-- (*moat/disk.Disk).Flush -/
def H90 : List Hint := [.no]
def E90 (N : Nat) : Entry := entry [.c .ptr] [.s 2 (.c (.int .i64))] fun a => F_disk_Disk_Flush N a
noncomputable def C90 : MC := mcOf (comp Tryz.prog 12 [] [] (bodyOf Tryz.f90) none H90)
theorem S90 (N : Nat) : Sound Tryz.prog 90 (E90 N) :=
  sound_of (C := [(140, E140 N)]) (N := N) (ntmps := 12) (priv := []) (pu := []) (hs := H90) (mc := C90) (c := bodyOf Tryz.f90) (allS_get (⟨S140 N, trivial⟩ : AllS Tryz.prog [(140, E140 N)])) Tryz.func90 (by kernel_rfl) (by kernel_rfl) (by kernel_rfl) (Nat.le_of_ble_eq_true (by kernel_rfl)) (by kernel_rfl) (by kernel_rfl) (fun a => by kernel_rfl)

/-- moat/volume.Format -/
def H41 : List Hint := [.no, .no, .draw true [], .no, .join [(.normal, ⟨[], []⟩), (.ret, ⟨[.s 4 (.c (.int .i64))], []⟩)], .loop ⟨[.s 7 (.c (.sl 1)), .s 41 (.c (.int .i64))], []⟩, .no, .no, .no]
def E41 (N : Nat) : Entry := entry [.c .ptr, .st [.int .i64, .int .i64, .int .i64, .int .i64]] [.s 4 (.c (.int .i64))] fun a => F_volume_Format N a.1 a.2
noncomputable def C41 : MC := mcOf (comp Tryz.prog 56 [3, 5] [3, 5, 25, 39] (bodyOf Tryz.f41) none H41)
theorem S41 (N : Nat) : Sound Tryz.prog 41 (E41 N) :=
  sound_of (C := [(46, E46 N), (25, E25 N), (76, E76 N), (88, E88 N), (89, E89 N), (90, E90 N)]) (N := N) (ntmps := 56) (priv := [3, 5]) (pu := [3, 5, 25, 39]) (hs := H41) (mc := C41) (c := bodyOf Tryz.f41) (allS_get (⟨S46 N, ⟨S25 N, ⟨S76 N, ⟨S88 N, ⟨S89 N, ⟨S90 N, trivial⟩⟩⟩⟩⟩⟩ : AllS Tryz.prog [(46, E46 N), (25, E25 N), (76, E76 N), (88, E88 N), (89, E89 N), (90, E90 N)])) Tryz.func41 (by kernel_rfl) (by kernel_rfl) (by kernel_rfl) (Nat.le_of_ble_eq_true (by kernel_rfl)) (by kernel_rfl) (by kernel_rfl) (fun a => by kernel_rfl)

/-- (*moat/disk.Disk).get -/
def H71 : List Hint := [.no, .no, .no, .no]
def E71 (N : Nat) : Entry := entry [.c .ptr, .c (.int .i64)] [.m 4 (.agg 65), .s 5 (.c (.int .i64))] fun a => F_disk_Disk_get N a.1 a.2
noncomputable def C71 : MC := mcOf (comp Tryz.prog 29 [4] [] (bodyOf Tryz.f71) none H71)
theorem S71 (N : Nat) : Sound Tryz.prog 71 (E71 N) :=
  sound_of (C := [(123, E123 N)]) (N := N) (ntmps := 29) (priv := [4]) (pu := []) (hs := H71) (mc := C71) (c := bodyOf Tryz.f71) (allS_get (⟨S123 N, trivial⟩ : AllS Tryz.prog [(123, E123 N)])) Tryz.func71 (by kernel_rfl) (by kernel_rfl) (by kernel_rfl) (Nat.le_of_ble_eq_true (by kernel_rfl)) (by kernel_rfl) (by kernel_rfl) (fun a => by kernel_rfl)

/-- slices.Clone[[]byte,byte] -/
def H61 : List Hint := [.no]
def E61 (N : Nat) : Entry := entry [.c (.sl 1)] [.s 2 (.c (.sl 1))] fun a => F_slices_Clone_Lbyte_byte N a
noncomputable def C61 : MC := mcOf (comp Tryz.prog 8 [] [] (bodyOf Tryz.f61) none H61)
theorem S61 (N : Nat) : Sound Tryz.prog 61 (E61 N) :=
  sound_of (C := []) (N := N) (ntmps := 8) (priv := []) (pu := []) (hs := H61) (mc := C61) (c := bodyOf Tryz.f61) (allS_get (trivial : AllS Tryz.prog [])) Tryz.func61 (by kernel_rfl) (by kernel_rfl) (by kernel_rfl) (Nat.le_of_ble_eq_true (by kernel_rfl)) (by kernel_rfl) (by kernel_rfl) (fun a => by kernel_rfl)

/-- (*moat/disk.Disk).Read -/
def H26 : List Hint := [.no]
def E26 (N : Nat) : Entry := entry [.c .ptr, .c (.int .i64)] [.s 4 (.c (.sl 1)), .s 5 (.c (.int .i64))] fun a => F_disk_Disk_Read N a.1 a.2
noncomputable def C26 : MC := mcOf (comp Tryz.prog 20 [] [] (bodyOf Tryz.f26) none H26)
theorem S26 (N : Nat) : Sound Tryz.prog 26 (E26 N) :=
  sound_of (C := [(71, E71 N), (61, E61 N)]) (N := N) (ntmps := 20) (priv := []) (pu := []) (hs := H26) (mc := C26) (c := bodyOf Tryz.f26) (allS_get (⟨S71 N, ⟨S61 N, trivial⟩⟩ : AllS Tryz.prog [(71, E71 N), (61, E61 N)])) Tryz.func26 (by kernel_rfl) (by kernel_rfl) (by kernel_rfl) (Nat.le_of_ble_eq_true (by kernel_rfl)) (by kernel_rfl) (by kernel_rfl) (fun a => by kernel_rfl)

/-- moat/field.stands -/
def H151 : List Hint := []
def E151 (N : Nat) : Entry := entry [.c (.int .i64), .c (.int .i64), .c (.int .i64)] [.s 6 (.c .bool)] fun a => F_field_stands N a.1 a.2.1 a.2.2
noncomputable def C151 : MC := mcOf (comp Tryz.prog 29 [] [] (bodyOf Tryz.f151) none H151)
theorem S151 (N : Nat) : Sound Tryz.prog 151 (E151 N) :=
  sound_of (C := []) (N := N) (ntmps := 29) (priv := []) (pu := []) (hs := H151) (mc := C151) (c := bodyOf Tryz.f151) (allS_get (trivial : AllS Tryz.prog [])) Tryz.func151 (by kernel_rfl) (by kernel_rfl) (by kernel_rfl) (Nat.le_of_ble_eq_true (by kernel_rfl)) (by kernel_rfl) (by kernel_rfl) (fun a => by kernel_rfl)

/-- moat/field.get -/
def H152 : List Hint := [.join [(.normal, ⟨[.s 3 (.c (.int .u64))], []⟩)], .loop ⟨[.s 3 (.c (.int .u64)), .s 7 (.c (.int .i64))], []⟩, .no, .no]
def E152 (N : Nat) : Entry := entry [.c (.sl 1)] [.s 2 (.c (.int .u64))] fun a => F_field_get N a
noncomputable def C152 : MC := mcOf (comp Tryz.prog 22 [] [] (bodyOf Tryz.f152) none H152)
theorem S152 (N : Nat) : Sound Tryz.prog 152 (E152 N) :=
  sound_of (C := []) (N := N) (ntmps := 22) (priv := []) (pu := []) (hs := H152) (mc := C152) (c := bodyOf Tryz.f152) (allS_get (trivial : AllS Tryz.prog [])) Tryz.func152 (by kernel_rfl) (by kernel_rfl) (by kernel_rfl) (Nat.le_of_ble_eq_true (by kernel_rfl)) (by kernel_rfl) (by kernel_rfl) (fun a => by kernel_rfl)

/-- moat/field.Get -/
def H125 : List Hint := [.no]
def E125 (N : Nat) : Entry := entry [.c (.sl 1), .c (.int .i64), .c (.int .i64)] [.s 6 (.c (.int .u64)), .s 7 (.c (.int .i64))] fun a => F_field_Get N a.1 a.2.1 a.2.2
noncomputable def C125 : MC := mcOf (comp Tryz.prog 21 [] [] (bodyOf Tryz.f125) none H125)
theorem S125 (N : Nat) : Sound Tryz.prog 125 (E125 N) :=
  sound_of (C := [(151, E151 N), (152, E152 N)]) (N := N) (ntmps := 21) (priv := []) (pu := []) (hs := H125) (mc := C125) (c := bodyOf Tryz.f125) (allS_get (⟨S151 N, ⟨S152 N, trivial⟩⟩ : AllS Tryz.prog [(151, E151 N), (152, E152 N)])) Tryz.func125 (by kernel_rfl) (by kernel_rfl) (by kernel_rfl) (Nat.le_of_ble_eq_true (by kernel_rfl)) (by kernel_rfl) (by kernel_rfl) (fun a => by kernel_rfl)

/-- moat/super.Take -/
def H75 : List Hint := [.no, .join [(.normal, ⟨[], []⟩)], .loop ⟨[.s 5 (.c (.int .i64)), .s 22 (.c (.int .i64))], []⟩, .no, .no, .no]
def E75 (N : Nat) : Entry := entry [.c (.sl 1)] [.m 2 (.st [.int .i64, .int .i64, .int .i64, .int .i64]), .s 3 (.c (.int .i64))] fun a => F_super_Take N a
noncomputable def C75 : MC := mcOf (comp Tryz.prog 55 [2] [2] (bodyOf Tryz.f75) none H75)
theorem S75 (N : Nat) : Sound Tryz.prog 75 (E75 N) :=
  sound_of (C := [(125, E125 N), (88, E88 N)]) (N := N) (ntmps := 55) (priv := [2]) (pu := [2]) (hs := H75) (mc := C75) (c := bodyOf Tryz.f75) (allS_get (⟨S125 N, ⟨S88 N, trivial⟩⟩ : AllS Tryz.prog [(125, E125 N), (88, E88 N)])) Tryz.func75 (by kernel_rfl) (by kernel_rfl) (by kernel_rfl) (Nat.le_of_ble_eq_true (by kernel_rfl)) (by kernel_rfl) (by kernel_rfl) (fun a => by kernel_rfl)

/-- moat/sum.Open -/
def H153 : List Hint := [.no, .no]
def E153 (N : Nat) : Entry := entry [.c (.sl 1)] [.s 2 (.c (.sl 1)), .s 3 (.c (.int .i64))] fun a => F_sum_Open N a
noncomputable def C153 : MC := mcOf (comp Tryz.prog 36 [] [] (bodyOf Tryz.f153) none H153)
theorem S153 (N : Nat) : Sound Tryz.prog 153 (E153 N) :=
  sound_of (C := [(125, E125 N), (158, E158 N)]) (N := N) (ntmps := 36) (priv := []) (pu := []) (hs := H153) (mc := C153) (c := bodyOf Tryz.f153) (allS_get (⟨S125 N, ⟨S158 N, trivial⟩⟩ : AllS Tryz.prog [(125, E125 N), (158, E158 N)])) Tryz.func153 (by kernel_rfl) (by kernel_rfl) (by kernel_rfl) (Nat.le_of_ble_eq_true (by kernel_rfl)) (by kernel_rfl) (by kernel_rfl) (fun a => by kernel_rfl)

/-- (*moat/journal.Journal).head -/
def H116 : List Hint := [.draw true []]
def E116 (N : Nat) : Entry := entry [.c .ptr, .c (.int .u64), .c (.int .i64)] [.m 6 (.st [.int .i64, .sl 1, .int .u16])] fun a => F_journal_Journal_head N a.1 a.2.1 a.2.2
noncomputable def C116 : MC := mcOf (comp Tryz.prog 40 [6] [6] (bodyOf Tryz.f116) none H116)
theorem S116 (N : Nat) : Sound Tryz.prog 116 (E116 N) :=
  sound_of (C := [(137, E137 N), (138, E138 N), (139, E139 N)]) (N := N) (ntmps := 40) (priv := [6]) (pu := [6]) (hs := H116) (mc := C116) (c := bodyOf Tryz.f116) (allS_get (⟨S137 N, ⟨S138 N, ⟨S139 N, trivial⟩⟩⟩ : AllS Tryz.prog [(137, E137 N), (138, E138 N), (139, E139 N)])) Tryz.func116 (by kernel_rfl) (by kernel_rfl) (by kernel_rfl) (Nat.le_of_ble_eq_true (by kernel_rfl)) (by kernel_rfl) (by kernel_rfl) (fun a => by kernel_rfl)

/-- (*moat/journal.Journal).Room -/
def H64 : List Hint := [.no]
def E64 (N : Nat) : Entry := entry [.c .ptr] [.s 2 (.c (.int .i64))] fun a => F_journal_Journal_Room N a
noncomputable def C64 : MC := mcOf (comp Tryz.prog 16 [] [] (bodyOf Tryz.f64) none H64)
theorem S64 (N : Nat) : Sound Tryz.prog 64 (E64 N) :=
  sound_of (C := []) (N := N) (ntmps := 16) (priv := []) (pu := []) (hs := H64) (mc := C64) (c := bodyOf Tryz.f64) (allS_get (trivial : AllS Tryz.prog [])) Tryz.func64 (by kernel_rfl) (by kernel_rfl) (by kernel_rfl) (Nat.le_of_ble_eq_true (by kernel_rfl)) (by kernel_rfl) (by kernel_rfl) (fun a => by kernel_rfl)

/-- (*moat/journal.Journal).begin -/
def H127 : List Hint := [.draw false [], .no, .no, .draw true []]
def E127 (N : Nat) : Entry := entry [.c .ptr, .c (.sl 1)] [.s 4 (.c (.int .i64)), .s 5 (.c .bool)] fun a => F_journal_Journal_begin N a.1 a.2
noncomputable def C127 : MC := mcOf (comp Tryz.prog 57 [] [] (bodyOf Tryz.f127) none H127)
theorem S127 (N : Nat) : Sound Tryz.prog 127 (E127 N) :=
  sound_of (C := [(153, E153 N), (125, E125 N), (116, E116 N), (64, E64 N)]) (N := N) (ntmps := 57) (priv := []) (pu := []) (hs := H127) (mc := C127) (c := bodyOf Tryz.f127) (allS_get (⟨S153 N, ⟨S125 N, ⟨S116 N, ⟨S64 N, trivial⟩⟩⟩⟩ : AllS Tryz.prog [(153, E153 N), (125, E125 N), (116, E116 N), (64, E64 N)])) Tryz.func127 (by kernel_rfl) (by kernel_rfl) (by kernel_rfl) (Nat.le_of_ble_eq_true (by kernel_rfl)) (by kernel_rfl) (by kernel_rfl) (fun a => by kernel_rfl)

/-- (*moat/journal.Journal).read -/
def H154 : List Hint := []
def E154 (N : Nat) : Entry := entry [.c .ptr, .c (.int .i64)] [.s 4 (.c (.sl 1))] fun a => F_journal_Journal_read N a.1 a.2
noncomputable def C154 : MC := mcOf (comp Tryz.prog 17 [] [] (bodyOf Tryz.f154) none H154)
theorem S154 (N : Nat) : Sound Tryz.prog 154 (E154 N) :=
  sound_of (C := [(26, E26 N)]) (N := N) (ntmps := 17) (priv := []) (pu := []) (hs := H154) (mc := C154) (c := bodyOf Tryz.f154) (allS_get (⟨S26 N, trivial⟩ : AllS Tryz.prog [(26, E26 N)])) Tryz.func154 (by kernel_rfl) (by kernel_rfl) (by kernel_rfl) (Nat.le_of_ble_eq_true (by kernel_rfl)) (by kernel_rfl) (by kernel_rfl) (fun a => by kernel_rfl)

/-- moat/field.Take -/
def H131 : List Hint := [.no, .no, .no, .join [(.normal, ⟨[.s 6 (.c (.sl 1))], []⟩)], .loop ⟨[.s 6 (.c (.sl 1)), .s 7 (.c (.sl 1))], []⟩, .no, .no]
def E131 (N : Nat) : Entry := entry [.c (.int .i64), .c (.sl 1)] [.s 4 (.c (.sl 1)), .s 5 (.c (.int .i64))] fun a => F_field_Take N a.1 a.2
noncomputable def C131 : MC := mcOf (comp Tryz.prog 41 [] [] (bodyOf Tryz.f131) none H131)
theorem S131 (N : Nat) : Sound Tryz.prog 131 (E131 N) :=
  sound_of (C := [(152, E152 N)]) (N := N) (ntmps := 41) (priv := []) (pu := []) (hs := H131) (mc := C131) (c := bodyOf Tryz.f131) (allS_get (⟨S152 N, trivial⟩ : AllS Tryz.prog [(152, E152 N)])) Tryz.func131 (by kernel_rfl) (by kernel_rfl) (by kernel_rfl) (Nat.le_of_ble_eq_true (by kernel_rfl)) (by kernel_rfl) (by kernel_rfl) (fun a => by kernel_rfl)

/-- (*moat/journal.Journal).outside -/
def H114 : List Hint := [.draw false []]
def E114 (N : Nat) : Entry := entry [.c .ptr, .c (.int .i64)] [.s 4 (.c .bool)] fun a => F_journal_Journal_outside N a.1 a.2
noncomputable def C114 : MC := mcOf (comp Tryz.prog 37 [] [] (bodyOf Tryz.f114) none H114)
theorem S114 (N : Nat) : Sound Tryz.prog 114 (E114 N) :=
  sound_of (C := [(25, E25 N)]) (N := N) (ntmps := 37) (priv := []) (pu := []) (hs := H114) (mc := C114) (c := bodyOf Tryz.f114) (allS_get (⟨S25 N, trivial⟩ : AllS Tryz.prog [(25, E25 N)])) Tryz.func114 (by kernel_rfl) (by kernel_rfl) (by kernel_rfl) (Nat.le_of_ble_eq_true (by kernel_rfl)) (by kernel_rfl) (by kernel_rfl) (fun a => by kernel_rfl)

/-- (*moat/journal.Journal).laid -/
def H128 : List Hint := [.join [(.normal, ⟨[.s 6 (.c (.sl 3))], []⟩), (.ret, ⟨[.s 4 (.c (.sl 3)), .s 5 (.c .bool)], []⟩)], .loop ⟨[.s 6 (.c (.sl 3)), .s 7 (.c (.int .i64))], []⟩, .no, .no, .join [(.normal, ⟨[.s 6 (.c (.sl 3))], []⟩), (.ret, ⟨[.s 4 (.c (.sl 3)), .s 5 (.c .bool)], []⟩)], .loop ⟨[.s 6 (.c (.sl 3)), .s 35 (.c (.int .i64))], []⟩, .no, .no, .draw true [12], .no]
def E128 (N : Nat) : Entry := entry [.c .ptr, .c (.int .i64)] [.s 4 (.c (.sl 3)), .s 5 (.c .bool)] fun a => F_journal_Journal_laid N a.1 a.2
noncomputable def C128 : MC := mcOf (comp Tryz.prog 73 [] [] (bodyOf Tryz.f128) none H128)
theorem S128 (N : Nat) : Sound Tryz.prog 128 (E128 N) :=
  sound_of (C := [(154, E154 N), (131, E131 N), (114, E114 N)]) (N := N) (ntmps := 73) (priv := []) (pu := []) (hs := H128) (mc := C128) (c := bodyOf Tryz.f128) (allS_get (⟨S154 N, ⟨S131 N, ⟨S114 N, trivial⟩⟩⟩ : AllS Tryz.prog [(154, E154 N), (131, E131 N), (114, E114 N)])) Tryz.func128 (by kernel_rfl) (by kernel_rfl) (by kernel_rfl) (Nat.le_of_ble_eq_true (by kernel_rfl)) (by kernel_rfl) (by kernel_rfl) (fun a => by kernel_rfl)

/-- (*moat/journal.Journal).write -/
def H117 : List Hint := [.jump 0 ⟨[.s 4 (.c (.int .i64))], []⟩, .join [(.normal, ⟨[], []⟩), (.goto 0, ⟨[.s 4 (.c (.int .i64))], []⟩)], .loop ⟨[.s 9 (.c (.int .i64))], []⟩, .no, .no, .draw false [], .no, .no]
def E117 (N : Nat) : Entry := entry [.c .ptr, .c (.sl 3)] [.s 4 (.c (.int .i64))] fun a => F_journal_Journal_write N a.1 a.2
noncomputable def C117 : MC := mcOf (comp Tryz.prog 30 [6] [6] (bodyOf Tryz.f117) none H117)
theorem S117 (N : Nat) : Sound Tryz.prog 117 (E117 N) :=
  sound_of (C := [(89, E89 N), (90, E90 N)]) (N := N) (ntmps := 30) (priv := [6]) (pu := [6]) (hs := H117) (mc := C117) (c := bodyOf Tryz.f117) (allS_get (⟨S89 N, ⟨S90 N, trivial⟩⟩ : AllS Tryz.prog [(89, E89 N), (90, E90 N)])) Tryz.func117 (by kernel_rfl) (by kernel_rfl) (by kernel_rfl) (Nat.le_of_ble_eq_true (by kernel_rfl)) (by kernel_rfl) (by kernel_rfl) (fun a => by kernel_rfl)

/-- moat/journal.Open -/
def H77 : List Hint := [.no, .no, .no, .no, .no, .no, .no, .join [(.normal, ⟨[], []⟩), (.ret, ⟨[.s 6 (.c .ptr), .s 7 (.c (.int .i64)), .s 8 (.c (.int .i64))], []⟩)], .loop ⟨[.s 89 (.c (.int .i64))], []⟩, .no, .no, .no]
def E77 (N : Nat) : Entry := entry [.c .ptr, .c (.int .i64), .c (.int .i64)] [.s 6 (.c .ptr), .s 7 (.c (.int .i64)), .s 8 (.c (.int .i64))] fun a => F_journal_Open N a.1 a.2.1 a.2.2
noncomputable def C77 : MC := mcOf (comp Tryz.prog 102 [] [] (bodyOf Tryz.f77) none H77)
theorem S77 (N : Nat) : Sound Tryz.prog 77 (E77 N) :=
  sound_of (C := [(25, E25 N), (26, E26 N), (127, E127 N), (128, E128 N), (116, E116 N), (117, E117 N)]) (N := N) (ntmps := 102) (priv := []) (pu := []) (hs := H77) (mc := C77) (c := bodyOf Tryz.f77) (allS_get (⟨S25 N, ⟨S26 N, ⟨S127 N, ⟨S128 N, ⟨S116 N, ⟨S117 N, trivial⟩⟩⟩⟩⟩⟩ : AllS Tryz.prog [(25, E25 N), (26, E26 N), (127, E127 N), (128, E128 N), (116, E116 N), (117, E117 N)])) Tryz.func77 (by kernel_rfl) (by kernel_rfl) (by kernel_rfl) (Nat.le_of_ble_eq_true (by kernel_rfl)) (by kernel_rfl) (by kernel_rfl) (fun a => by kernel_rfl)

/-- moat/intern.Right -/
def H23 : List Hint := [.no, .join [(.normal, ⟨[], []⟩), (.ret, ⟨[.s 2 (.c .bool)], []⟩)], .loop ⟨[.s 12 (.c (.int .i64))], []⟩, .no, .no, .no, .join [(.normal, ⟨[], []⟩), (.ret, ⟨[.s 2 (.c .bool)], []⟩)], .no, .no]
def E23 (N : Nat) : Entry := entry [.c (.sl 2)] [.s 2 (.c .bool)] fun a => F_intern_Right N a
noncomputable def C23 : MC := mcOf (comp Tryz.prog 42 [5] [5, 17, 20, 23, 27, 31, 37] (bodyOf Tryz.f23) none H23)
theorem S23 (N : Nat) : Sound Tryz.prog 23 (E23 N) :=
  sound_of (C := []) (N := N) (ntmps := 42) (priv := [5]) (pu := [5, 17, 20, 23, 27, 31, 37]) (hs := H23) (mc := C23) (c := bodyOf Tryz.f23) (allS_get (trivial : AllS Tryz.prog [])) Tryz.func23 (by kernel_rfl) (by kernel_rfl) (by kernel_rfl) (Nat.le_of_ble_eq_true (by kernel_rfl)) (by kernel_rfl) (by kernel_rfl) (fun a => by kernel_rfl)

/-- moat/intern.Take -/
def H129 : List Hint := [.no, .join [(.normal, ⟨[.s 6 (.c (.sl 2))], []⟩)], .loop ⟨[.s 6 (.c (.sl 2)), .s 7 (.c (.int .i64))], []⟩, .no, .no, .draw false [], .no]
def E129 (N : Nat) : Entry := entry [.c (.sl 1)] [.s 2 (.c (.sl 2)), .s 3 (.c (.int .i64))] fun a => F_intern_Take N a
noncomputable def C129 : MC := mcOf (comp Tryz.prog 45 [] [] (bodyOf Tryz.f129) none H129)
theorem S129 (N : Nat) : Sound Tryz.prog 129 (E129 N) :=
  sound_of (C := [(131, E131 N), (23, E23 N)]) (N := N) (ntmps := 45) (priv := []) (pu := []) (hs := H129) (mc := C129) (c := bodyOf Tryz.f129) (allS_get (⟨S131 N, ⟨S23 N, trivial⟩⟩ : AllS Tryz.prog [(131, E131 N), (23, E23 N)])) Tryz.func129 (by kernel_rfl) (by kernel_rfl) (by kernel_rfl) (Nat.le_of_ble_eq_true (by kernel_rfl)) (by kernel_rfl) (by kernel_rfl) (fun a => by kernel_rfl)

/-- moat/inode.Take$1 -/
def H163 : List Hint := []
def E163 (N : Nat) : Entry := entry [.c (.int .u64)] [.s 2 (.c .bool)] fun a => F_inode_Take_1 N a
noncomputable def C163 : MC := mcOf (comp Tryz.prog 5 [] [] (bodyOf Tryz.f163) none H163)
theorem S163 (N : Nat) : Sound Tryz.prog 163 (E163 N) :=
  sound_of (C := []) (N := N) (ntmps := 5) (priv := []) (pu := []) (hs := H163) (mc := C163) (c := bodyOf Tryz.f163) (allS_get (trivial : AllS Tryz.prog [])) Tryz.func163 (by kernel_rfl) (by kernel_rfl) (by kernel_rfl) (Nat.le_of_ble_eq_true (by kernel_rfl)) (by kernel_rfl) (by kernel_rfl) (fun a => by kernel_rfl)

/-- slices.IndexFunc[[]uint64,uint64] -/
def H176_163 : List Hint := [.join [(.normal, ⟨[], []⟩), (.ret, ⟨[.s 4 (.c (.int .i64))], []⟩)], .loop ⟨[.s 8 (.c (.int .i64))], []⟩, .no, .no, .no]
def E176_163 (N : Nat) : Entry := entry [.c (.sl 1), .fnc 163 []] [.s 4 (.c (.int .i64))] fun a => F_slices_IndexFunc_Luint64_uint64__inode_Take_1 N a.1 a.2
noncomputable def C176_163 : MC := mcOf (comp Tryz.prog 19 [] [] (bodyOf Tryz.f176) none H176_163)
theorem S176_163 (N : Nat) : Sound Tryz.prog 176 (E176_163 N) :=
  sound_of (C := [(163, E163 N)]) (N := N) (ntmps := 19) (priv := []) (pu := []) (hs := H176_163) (mc := C176_163) (c := bodyOf Tryz.f176) (allS_get (⟨S163 N, trivial⟩ : AllS Tryz.prog [(163, E163 N)])) Tryz.func176 (by kernel_rfl) (by kernel_rfl) (by kernel_rfl) (Nat.le_of_ble_eq_true (by kernel_rfl)) (by kernel_rfl) (by kernel_rfl) (fun a => by kernel_rfl)

/-- slices.ContainsFunc[[]uint64,uint64] -/
def H162_163 : List Hint := []
def E162_163 (N : Nat) : Entry := entry [.c (.sl 1), .fnc 163 []] [.s 4 (.c .bool)] fun a => F_slices_ContainsFunc_Luint64_uint64__inode_Take_1 N a.1 a.2
noncomputable def C162_163 : MC := mcOf (comp Tryz.prog 9 [] [] (bodyOf Tryz.f162) none H162_163)
theorem S162_163 (N : Nat) : Sound Tryz.prog 162 (E162_163 N) :=
  sound_of (C := [(176, E176_163 N)]) (N := N) (ntmps := 9) (priv := []) (pu := []) (hs := H162_163) (mc := C162_163) (c := bodyOf Tryz.f162) (allS_get (⟨S176_163 N, trivial⟩ : AllS Tryz.prog [(176, E176_163 N)])) Tryz.func162 (by kernel_rfl) (by kernel_rfl) (by kernel_rfl) (Nat.le_of_ble_eq_true (by kernel_rfl)) (by kernel_rfl) (by kernel_rfl) (fun a => by kernel_rfl)

/-- moat/inode.pointer -/
def H136 : List Hint := []
def E136 (N : Nat) : Entry := entry [.c (.int .i64)] [.s 2 (.c .bool)] fun a => F_inode_pointer N a
noncomputable def C136 : MC := mcOf (comp Tryz.prog 9 [] [] (bodyOf Tryz.f136) none H136)
theorem S136 (N : Nat) : Sound Tryz.prog 136 (E136 N) :=
  sound_of (C := []) (N := N) (ntmps := 9) (priv := []) (pu := []) (hs := H136) (mc := C136) (c := bodyOf Tryz.f136) (allS_get (trivial : AllS Tryz.prog [])) Tryz.func136 (by kernel_rfl) (by kernel_rfl) (by kernel_rfl) (Nat.le_of_ble_eq_true (by kernel_rfl)) (by kernel_rfl) (by kernel_rfl) (fun a => by kernel_rfl)

/-- moat/inode.Right -/
def H87 : List Hint := [.no, .join [(.normal, ⟨[.s 5 (.c .bool)], []⟩)], .join [(.normal, ⟨[.s 5 (.c .bool)], []⟩)], .no, .no, .join [(.normal, ⟨[], []⟩), (.ret, ⟨[.s 2 (.c .bool)], []⟩)], .loop ⟨[.s 41 (.c (.int .i64))], []⟩, .no, .no, .no]
def E87 (N : Nat) : Entry := entry [.agg 14] [.s 2 (.c .bool)] fun a => F_inode_Right N a
noncomputable def C87 : MC := mcOf (comp Tryz.prog 56 [1] [] (bodyOf Tryz.f87) none H87)
theorem S87 (N : Nat) : Sound Tryz.prog 87 (E87 N) :=
  sound_of (C := [(136, E136 N)]) (N := N) (ntmps := 56) (priv := [1]) (pu := []) (hs := H87) (mc := C87) (c := bodyOf Tryz.f87) (allS_get (⟨S136 N, trivial⟩ : AllS Tryz.prog [(136, E136 N)])) Tryz.func87 (by kernel_rfl) (by kernel_rfl) (by kernel_rfl) (Nat.le_of_ble_eq_true (by kernel_rfl)) (by kernel_rfl) (by kernel_rfl) (fun a => by kernel_rfl)

/-- moat/inode.Take -/
def H155 : List Hint := [.no, .draw false [], .join [(.normal, ⟨[], []⟩)], .loop ⟨[.s 42 (.c (.int .i64))], []⟩, .no, .no, .draw false [], .no]
def E155 (N : Nat) : Entry := entry [.c (.sl 1)] [.m 2 (.agg 14), .s 3 (.c (.int .i64))] fun a => F_inode_Take N a
noncomputable def C155 : MC := mcOf (comp Tryz.prog 74 [2] [] (bodyOf Tryz.f155) none H155)
theorem S155 (N : Nat) : Sound Tryz.prog 155 (E155 N) :=
  sound_of (C := [(131, E131 N), (162, E162_163 N), (87, E87 N)]) (N := N) (ntmps := 74) (priv := [2]) (pu := []) (hs := H155) (mc := C155) (c := bodyOf Tryz.f155) (allS_get (⟨S131 N, ⟨S162_163 N, ⟨S87 N, trivial⟩⟩⟩ : AllS Tryz.prog [(131, E131 N), (162, E162_163 N), (87, E87 N)])) Tryz.func155 (by kernel_rfl) (by kernel_rfl) (by kernel_rfl) (Nat.le_of_ble_eq_true (by kernel_rfl)) (by kernel_rfl) (by kernel_rfl) (fun a => by kernel_rfl)

/-- moat/meta.inodes -/
def H130 : List Hint := [.join [(.normal, ⟨[.s 4 (.c (.sl 14))], []⟩), (.ret, ⟨[.s 2 (.c (.sl 14)), .s 3 (.c .bool)], []⟩)], .loop ⟨[.s 4 (.c (.sl 14)), .s 12 (.c (.int .i64))], []⟩, .no, .no, .join [(.normal, ⟨[.s 4 (.c (.sl 14))], []⟩), (.ret, ⟨[.s 2 (.c (.sl 14)), .s 3 (.c .bool)], []⟩)], .loop ⟨[.s 4 (.c (.sl 14)), .s 7 (.c (.int .i64))], []⟩, .no, .no, .no]
def E130 (N : Nat) : Entry := entry [.c (.sl 1)] [.s 2 (.c (.sl 14)), .s 3 (.c .bool)] fun a => F_meta_inodes N a
noncomputable def C130 : MC := mcOf (comp Tryz.prog 39 [8] [] (bodyOf Tryz.f130) none H130)
theorem S130 (N : Nat) : Sound Tryz.prog 130 (E130 N) :=
  sound_of (C := [(155, E155 N)]) (N := N) (ntmps := 39) (priv := [8]) (pu := []) (hs := H130) (mc := C130) (c := bodyOf Tryz.f130) (allS_get (⟨S155 N, trivial⟩ : AllS Tryz.prog [(155, E155 N)])) Tryz.func130 (by kernel_rfl) (by kernel_rfl) (by kernel_rfl) (Nat.le_of_ble_eq_true (by kernel_rfl)) (by kernel_rfl) (by kernel_rfl) (fun a => by kernel_rfl)

/-- moat/bits.within -/
def H103 : List Hint := []
def E103 (N : Nat) : Entry := entry [.c (.sl 1), .c (.int .i64), .c (.int .i64)] [.s 6 (.c (.int .i64)), .s 7 (.c (.int .i64))] fun a => F_bits_within N a.1 a.2.1 a.2.2
noncomputable def C103 : MC := mcOf (comp Tryz.prog 15 [] [] (bodyOf Tryz.f103) none H103)
theorem S103 (N : Nat) : Sound Tryz.prog 103 (E103 N) :=
  sound_of (C := []) (N := N) (ntmps := 15) (priv := []) (pu := []) (hs := H103) (mc := C103) (c := bodyOf Tryz.f103) (allS_get (trivial : AllS Tryz.prog [])) Tryz.func103 (by kernel_rfl) (by kernel_rfl) (by kernel_rfl) (Nat.le_of_ble_eq_true (by kernel_rfl)) (by kernel_rfl) (by kernel_rfl) (fun a => by kernel_rfl)

/-- moat/bits.Has -/
def H104 : List Hint := []
def E104 (N : Nat) : Entry := entry [.c (.sl 1), .c (.int .i64)] [.s 4 (.c .bool)] fun a => F_bits_Has N a.1 a.2
noncomputable def C104 : MC := mcOf (comp Tryz.prog 26 [] [] (bodyOf Tryz.f104) none H104)
theorem S104 (N : Nat) : Sound Tryz.prog 104 (E104 N) :=
  sound_of (C := []) (N := N) (ntmps := 26) (priv := []) (pu := []) (hs := H104) (mc := C104) (c := bodyOf Tryz.f104) (allS_get (trivial : AllS Tryz.prog [])) Tryz.func104 (by kernel_rfl) (by kernel_rfl) (by kernel_rfl) (Nat.le_of_ble_eq_true (by kernel_rfl)) (by kernel_rfl) (by kernel_rfl) (fun a => by kernel_rfl)

/-- moat/bits.Count -/
def H134 : List Hint := [.join [(.normal, ⟨[.s 7 (.c (.int .i64))], []⟩)], .loop ⟨[.s 7 (.c (.int .i64)), .s 10 (.c (.int .i64))], []⟩, .no, .no, .join [(.normal, ⟨[.s 7 (.c (.int .i64))], []⟩)]]
def E134 (N : Nat) : Entry := entry [.c (.sl 1), .c (.int .i64), .c (.int .i64)] [.s 6 (.c (.int .i64))] fun a => F_bits_Count N a.1 a.2.1 a.2.2
noncomputable def C134 : MC := mcOf (comp Tryz.prog 30 [] [] (bodyOf Tryz.f134) none H134)
theorem S134 (N : Nat) : Sound Tryz.prog 134 (E134 N) :=
  sound_of (C := [(103, E103 N), (104, E104 N)]) (N := N) (ntmps := 30) (priv := []) (pu := []) (hs := H134) (mc := C134) (c := bodyOf Tryz.f134) (allS_get (⟨S103 N, ⟨S104 N, trivial⟩⟩ : AllS Tryz.prog [(103, E103 N), (104, E104 N)])) Tryz.func134 (by kernel_rfl) (by kernel_rfl) (by kernel_rfl) (Nat.le_of_ble_eq_true (by kernel_rfl)) (by kernel_rfl) (by kernel_rfl) (fun a => by kernel_rfl)

/-- moat/meta.Right -/
def H111 : List Hint := [.no, .join [(.normal, ⟨[], []⟩), (.ret, ⟨[.s 4 (.c .bool)], []⟩)], .loop ⟨[.s 43 (.c (.int .i64))], []⟩, .no, .no, .no, .join [(.normal, ⟨[], []⟩), (.ret, ⟨[.s 4 (.c .bool)], []⟩)], .loop ⟨[.s 57 (.c (.int .i64))], []⟩, .no, .no, .no]
def E111 (N : Nat) : Entry := entry [.st [.int .i64, .int .i64, .int .i64, .int .i64], .st [.sl 2, .sl 1, .sl 1, .sl 14]] [.s 4 (.c .bool)] fun a => F_meta_Right N a.1 a.2
noncomputable def C111 : MC := mcOf (comp Tryz.prog 78 [2, 3, 8] [2, 3, 13, 19, 22, 27, 33, 36, 40, 54, 65, 67, 69, 72] (bodyOf Tryz.f111) none H111)
theorem S111 (N : Nat) : Sound Tryz.prog 111 (E111 N) :=
  sound_of (C := [(92, E92 N), (23, E23 N), (87, E87 N), (134, E134 N)]) (N := N) (ntmps := 78) (priv := [2, 3, 8]) (pu := [2, 3, 13, 19, 22, 27, 33, 36, 40, 54, 65, 67, 69, 72]) (hs := H111) (mc := C111) (c := bodyOf Tryz.f111) (allS_get (⟨S92 N, ⟨S23 N, ⟨S87 N, ⟨S134 N, trivial⟩⟩⟩⟩ : AllS Tryz.prog [(92, E92 N), (23, E23 N), (87, E87 N), (134, E134 N)])) Tryz.func111 (by kernel_rfl) (by kernel_rfl) (by kernel_rfl) (Nat.le_of_ble_eq_true (by kernel_rfl)) (by kernel_rfl) (by kernel_rfl) (fun a => by kernel_rfl)

/-- moat/meta.Take -/
def H78 : List Hint := [.no, .join [(.normal, ⟨[.p 4 (.st [.sl 2, .sl 1, .sl 1, .sl 14])], [(4, 4, 0)]⟩), (.ret, ⟨[.s 5 (.c (.int .i64)), .p 4 (.st [.sl 2, .sl 1, .sl 1, .sl 14])], [(4, 4, 0)]⟩)], .loop ⟨[.s 30 (.c (.int .i64)), .p 4 (.st [.sl 2, .sl 1, .sl 1, .sl 14])], [(4, 4, 0)]⟩, .no, .no, .no, .no, .join [(.normal, ⟨[.p 4 (.st [.sl 2, .sl 1, .sl 1, .sl 14]), .p 14 (.st [.sl 2, .sl 1, .sl 1, .sl 14])], [(4, 4, 0), (14, 14, 0)]⟩), (.ret, ⟨[.s 5 (.c (.int .i64)), .p 4 (.st [.sl 2, .sl 1, .sl 1, .sl 14])], [(4, 4, 0)]⟩)], .loop ⟨[.s 75 (.c (.int .i64)), .p 4 (.st [.sl 2, .sl 1, .sl 1, .sl 14]), .p 14 (.st [.sl 2, .sl 1, .sl 1, .sl 14])], [(4, 4, 0), (14, 14, 0)]⟩, .no, .no, .no, .join [(.normal, ⟨[.p 4 (.st [.sl 2, .sl 1, .sl 1, .sl 14]), .p 14 (.st [.sl 2, .sl 1, .sl 1, .sl 14])], [(4, 4, 0), (14, 14, 0)]⟩), (.ret, ⟨[.s 5 (.c (.int .i64)), .p 4 (.st [.sl 2, .sl 1, .sl 1, .sl 14])], [(4, 4, 0)]⟩)], .no, .no]
def E78 (N : Nat) : Entry := entry [.st [.int .i64, .int .i64, .int .i64, .int .i64], .c (.sl 1)] [.m 4 (.st [.sl 2, .sl 1, .sl 1, .sl 14]), .s 5 (.c (.int .i64))] fun a => F_meta_Take N a.1 a.2
noncomputable def C78 : MC := mcOf (comp Tryz.prog 103 [2, 4, 14] [2, 4, 14, 82, 85, 91] (bodyOf Tryz.f78) none H78)
theorem S78 (N : Nat) : Sound Tryz.prog 78 (E78 N) :=
  sound_of (C := [(92, E92 N), (65, E65 N), (129, E129 N), (130, E130 N), (131, E131 N), (61, E61 N), (111, E111 N)]) (N := N) (ntmps := 103) (priv := [2, 4, 14]) (pu := [2, 4, 14, 82, 85, 91]) (hs := H78) (mc := C78) (c := bodyOf Tryz.f78) (allS_get (⟨S92 N, ⟨S65 N, ⟨S129 N, ⟨S130 N, ⟨S131 N, ⟨S61 N, ⟨S111 N, trivial⟩⟩⟩⟩⟩⟩⟩ : AllS Tryz.prog [(92, E92 N), (65, E65 N), (129, E129 N), (130, E130 N), (131, E131 N), (61, E61 N), (111, E111 N)])) Tryz.func78 (by kernel_rfl) (by kernel_rfl) (by kernel_rfl) (Nat.le_of_ble_eq_true (by kernel_rfl)) (by kernel_rfl) (by kernel_rfl) (fun a => by kernel_rfl)

/-- (*moat/volume.Volume).taken -/
def H132 : List Hint := []
def E132 (N : Nat) : Entry := entry [.c .ptr, .c (.int .i64)] [.s 4 (.c .bool)] fun a => F_volume_Volume_taken N a.1 a.2
noncomputable def C132 : MC := mcOf (comp Tryz.prog 16 [] [] (bodyOf Tryz.f132) none H132)
theorem S132 (N : Nat) : Sound Tryz.prog 132 (E132 N) :=
  sound_of (C := []) (N := N) (ntmps := 16) (priv := []) (pu := []) (hs := H132) (mc := C132) (c := bodyOf Tryz.f132) (allS_get (trivial : AllS Tryz.prog [])) Tryz.func132 (by kernel_rfl) (by kernel_rfl) (by kernel_rfl) (Nat.le_of_ble_eq_true (by kernel_rfl)) (by kernel_rfl) (by kernel_rfl) (fun a => by kernel_rfl)

/-- (*moat/volume.Volume).count -/
def H85 : List Hint := [.draw false []]
def E85 (N : Nat) : Entry := entry [.c .ptr, .c (.int .i64)] [.s 4 (.c (.int .i64))] fun a => F_volume_Volume_count N a.1 a.2
noncomputable def C85 : MC := mcOf (comp Tryz.prog 27 [] [] (bodyOf Tryz.f85) none H85)
theorem S85 (N : Nat) : Sound Tryz.prog 85 (E85 N) :=
  sound_of (C := [(134, E134 N)]) (N := N) (ntmps := 27) (priv := []) (pu := []) (hs := H85) (mc := C85) (c := bodyOf Tryz.f85) (allS_get (⟨S134 N, trivial⟩ : AllS Tryz.prog [(134, E134 N)])) Tryz.func85 (by kernel_rfl) (by kernel_rfl) (by kernel_rfl) (Nat.le_of_ble_eq_true (by kernel_rfl)) (by kernel_rfl) (by kernel_rfl) (fun a => by kernel_rfl)

/-- (*moat/volume.Volume).inOrder -/
def H79 : List Hint := [.join [(.normal, ⟨[], []⟩), (.ret, ⟨[.s 2 (.c .bool)], []⟩)], .loop ⟨[.s 14 (.c (.int .i64))], []⟩, .no, .no, .no, .join [(.normal, ⟨[], []⟩), (.ret, ⟨[.s 2 (.c .bool)], []⟩)], .loop ⟨[.s 46 (.c (.int .i64))], []⟩, .no, .no, .no]
def E79 (N : Nat) : Entry := entry [.c .ptr] [.s 2 (.c .bool)] fun a => F_volume_Volume_inOrder N a
noncomputable def C79 : MC := mcOf (comp Tryz.prog 62 [6] [] (bodyOf Tryz.f79) none H79)
theorem S79 (N : Nat) : Sound Tryz.prog 79 (E79 N) :=
  sound_of (C := [(132, E132 N), (85, E85 N)]) (N := N) (ntmps := 62) (priv := [6]) (pu := []) (hs := H79) (mc := C79) (c := bodyOf Tryz.f79) (allS_get (⟨S132 N, ⟨S85 N, trivial⟩⟩ : AllS Tryz.prog [(132, E132 N), (85, E85 N)])) Tryz.func79 (by kernel_rfl) (by kernel_rfl) (by kernel_rfl) (Nat.le_of_ble_eq_true (by kernel_rfl)) (by kernel_rfl) (by kernel_rfl) (fun a => by kernel_rfl)

/-- moat/volume.Mount -/
def H31 : List Hint := [.no, .no, .no, .draw true [], .no, .no, .join [(.normal, ⟨[], []⟩)], .loop ⟨[.s 72 (.c (.int .i64))], []⟩, .no, .no, .draw false [], .no]
def E31 (N : Nat) : Entry := entry [.c .ptr] [.s 2 (.c .ptr), .s 3 (.c (.int .i64))] fun a => F_volume_Mount N a
noncomputable def C31 : MC := mcOf (comp Tryz.prog 121 [6, 7] [6, 7, 42, 53, 55, 77] (bodyOf Tryz.f31) none H31)
theorem S31 (N : Nat) : Sound Tryz.prog 31 (E31 N) :=
  sound_of (C := [(26, E26 N), (75, E75 N), (46, E46 N), (25, E25 N), (76, E76 N), (77, E77 N), (65, E65 N), (78, E78 N), (79, E79 N)]) (N := N) (ntmps := 121) (priv := [6, 7]) (pu := [6, 7, 42, 53, 55, 77]) (hs := H31) (mc := C31) (c := bodyOf Tryz.f31) (allS_get (⟨S26 N, ⟨S75 N, ⟨S46 N, ⟨S25 N, ⟨S76 N, ⟨S77 N, ⟨S65 N, ⟨S78 N, ⟨S79 N, trivial⟩⟩⟩⟩⟩⟩⟩⟩⟩ : AllS Tryz.prog [(26, E26 N), (75, E75 N), (46, E46 N), (25, E25 N), (76, E76 N), (77, E77 N), (65, E65 N), (78, E78 N), (79, E79 N)])) Tryz.func31 (by kernel_rfl) (by kernel_rfl) (by kernel_rfl) (Nat.le_of_ble_eq_true (by kernel_rfl)) (by kernel_rfl) (by kernel_rfl) (fun a => by kernel_rfl)

/-- moat/moatlaw15.built -/
def H10 : List Hint := [.no]
def E10 (N : Nat) : Entry := entry [.st [.int .i64, .int .i64, .int .i64, .int .i64]] [.s 2 (.c .ptr), .s 3 (.c .ptr), .s 4 (.c .bool)] fun a => F_moatlaw15_built N a
noncomputable def C10 : MC := mcOf (comp Tryz.prog 39 [1, 5] [1, 5, 17] (bodyOf Tryz.f10) none H10)
theorem S10 (N : Nat) : Sound Tryz.prog 10 (E10 N) :=
  sound_of (C := [(46, E46 N), (47, E47 N), (41, E41 N), (31, E31 N)]) (N := N) (ntmps := 39) (priv := [1, 5]) (pu := [1, 5, 17]) (hs := H10) (mc := C10) (c := bodyOf Tryz.f10) (allS_get (⟨S46 N, ⟨S47 N, ⟨S41 N, ⟨S31 N, trivial⟩⟩⟩⟩ : AllS Tryz.prog [(46, E46 N), (47, E47 N), (41, E41 N), (31, E31 N)])) Tryz.func10 (by kernel_rfl) (by kernel_rfl) (by kernel_rfl) (Nat.le_of_ble_eq_true (by kernel_rfl)) (by kernel_rfl) (by kernel_rfl) (fun a => by kernel_rfl)

/-- moat/intern.of$1 -/
def H145 : List Hint := []
def E145 (N : Nat) : Entry := entry [.st [.int .u16, .int .i64], .c .ptr] [.s 3 (.c .bool)] fun a => F_intern_of_1 N a.1 a.2
noncomputable def C145 : MC := mcOf (comp Tryz.prog 13 [2] [2, 4, 8] (bodyOf Tryz.f145) none H145)
theorem S145 (N : Nat) : Sound Tryz.prog 145 (E145 N) :=
  sound_of (C := []) (N := N) (ntmps := 13) (priv := [2]) (pu := [2, 4, 8]) (hs := H145) (mc := C145) (c := bodyOf Tryz.f145) (allS_get (trivial : AllS Tryz.prog [])) Tryz.func145 (by kernel_rfl) (by kernel_rfl) (by kernel_rfl) (Nat.le_of_ble_eq_true (by kernel_rfl)) (by kernel_rfl) (by kernel_rfl) (fun a => by kernel_rfl)

/-- slices.IndexFunc[[]moat/api.Row,moat/api.Row] -/
def H146_145 : List Hint := [.join [(.normal, ⟨[], []⟩), (.ret, ⟨[.s 4 (.c (.int .i64))], []⟩)], .loop ⟨[.s 8 (.c (.int .i64))], []⟩, .no, .no, .no]
def E146_145 (N : Nat) : Entry := entry [.c (.sl 2), .fnc 145 [.ptr]] [.s 4 (.c (.int .i64))] fun a => F_slices_IndexFunc_Lapi_Row_api_Row__intern_of_1 N a.1 a.2
noncomputable def C146_145 : MC := mcOf (comp Tryz.prog 19 [] [] (bodyOf Tryz.f146) none H146_145)
theorem S146_145 (N : Nat) : Sound Tryz.prog 146 (E146_145 N) :=
  sound_of (C := [(145, E145 N)]) (N := N) (ntmps := 19) (priv := []) (pu := []) (hs := H146_145) (mc := C146_145) (c := bodyOf Tryz.f146) (allS_get (⟨S145 N, trivial⟩ : AllS Tryz.prog [(145, E145 N)])) Tryz.func146 (by kernel_rfl) (by kernel_rfl) (by kernel_rfl) (Nat.le_of_ble_eq_true (by kernel_rfl)) (by kernel_rfl) (by kernel_rfl) (fun a => by kernel_rfl)

/-- moat/intern.row -/
def H106_145 : List Hint := []
def E106_145 (N : Nat) : Entry := entry [.c (.sl 2), .fnc 145 [.ptr]] [.s 4 (.c (.int .i64))] fun a => F_intern_row__intern_of_1 N a.1 a.2
noncomputable def C106_145 : MC := mcOf (comp Tryz.prog 8 [] [] (bodyOf Tryz.f106) none H106_145)
theorem S106_145 (N : Nat) : Sound Tryz.prog 106 (E106_145 N) :=
  sound_of (C := [(146, E146_145 N)]) (N := N) (ntmps := 8) (priv := []) (pu := []) (hs := H106_145) (mc := C106_145) (c := bodyOf Tryz.f106) (allS_get (⟨S146_145 N, trivial⟩ : AllS Tryz.prog [(146, E146_145 N)])) Tryz.func106 (by kernel_rfl) (by kernel_rfl) (by kernel_rfl) (Nat.le_of_ble_eq_true (by kernel_rfl)) (by kernel_rfl) (by kernel_rfl) (fun a => by kernel_rfl)

/-- moat/intern.of -/
def H102 : List Hint := []
def E102 (N : Nat) : Entry := entry [.c (.sl 2), .c (.int .u16)] [.s 4 (.c (.int .i64))] fun a => F_intern_of N a.1 a.2
noncomputable def C102 : MC := mcOf (comp Tryz.prog 8 [] [] (bodyOf Tryz.f102) none H102)
theorem S102 (N : Nat) : Sound Tryz.prog 102 (E102 N) :=
  sound_of (C := [(106, E106_145 N)]) (N := N) (ntmps := 8) (priv := []) (pu := []) (hs := H102) (mc := C102) (c := bodyOf Tryz.f102) (allS_get (⟨S106_145 N, trivial⟩ : AllS Tryz.prog [(106, E106_145 N)])) Tryz.func102 (by kernel_rfl) (by kernel_rfl) (by kernel_rfl) (Nat.le_of_ble_eq_true (by kernel_rfl)) (by kernel_rfl) (by kernel_rfl) (fun a => by kernel_rfl)

/-- moat/intern.Find -/
def H55 : List Hint := [.no]
def E55 (N : Nat) : Entry := entry [.c (.sl 2), .c (.int .u16)] [.s 4 (.c (.int .i64)), .s 5 (.c .bool)] fun a => F_intern_Find N a.1 a.2
noncomputable def C55 : MC := mcOf (comp Tryz.prog 18 [] [] (bodyOf Tryz.f55) none H55)
theorem S55 (N : Nat) : Sound Tryz.prog 55 (E55 N) :=
  sound_of (C := [(102, E102 N), (23, E23 N)]) (N := N) (ntmps := 18) (priv := []) (pu := []) (hs := H55) (mc := C55) (c := bodyOf Tryz.f55) (allS_get (⟨S102 N, ⟨S23 N, trivial⟩⟩ : AllS Tryz.prog [(102, E102 N), (23, E23 N)])) Tryz.func55 (by kernel_rfl) (by kernel_rfl) (by kernel_rfl) (Nat.le_of_ble_eq_true (by kernel_rfl)) (by kernel_rfl) (by kernel_rfl) (fun a => by kernel_rfl)

/-- moat/bits.First -/
def H56 : List Hint := [.join [(.normal, ⟨[], []⟩), (.ret, ⟨[.s 8 (.c (.int .i64)), .s 9 (.c .bool)], []⟩)], .loop ⟨[.s 12 (.c (.int .i64))], []⟩, .no, .no, .no]
def E56 (N : Nat) : Entry := entry [.c (.sl 1), .c (.int .i64), .c (.int .i64), .c .bool] [.s 8 (.c (.int .i64)), .s 9 (.c .bool)] fun a => F_bits_First N a.1 a.2.1 a.2.2.1 a.2.2.2
noncomputable def C56 : MC := mcOf (comp Tryz.prog 32 [] [] (bodyOf Tryz.f56) none H56)
theorem S56 (N : Nat) : Sound Tryz.prog 56 (E56 N) :=
  sound_of (C := [(103, E103 N), (104, E104 N)]) (N := N) (ntmps := 32) (priv := []) (pu := []) (hs := H56) (mc := C56) (c := bodyOf Tryz.f56) (allS_get (⟨S103 N, ⟨S104 N, trivial⟩⟩ : AllS Tryz.prog [(103, E103 N), (104, E104 N)])) Tryz.func56 (by kernel_rfl) (by kernel_rfl) (by kernel_rfl) (Nat.le_of_ble_eq_true (by kernel_rfl)) (by kernel_rfl) (by kernel_rfl) (fun a => by kernel_rfl)

/-- moat/bits.With -/
def H105 : List Hint := [.no, .no, .no, .draw false [], .join [(.normal, ⟨[], []⟩)], .draw false []]
def E105 (N : Nat) : Entry := entry [.c (.sl 1), .c (.int .i64), .c .bool] [.s 6 (.c (.sl 1)), .s 7 (.c (.int .i64))] fun a => F_bits_With N a.1 a.2.1 a.2.2
noncomputable def C105 : MC := mcOf (comp Tryz.prog 48 [] [] (bodyOf Tryz.f105) none H105)
theorem S105 (N : Nat) : Sound Tryz.prog 105 (E105 N) :=
  sound_of (C := []) (N := N) (ntmps := 48) (priv := []) (pu := []) (hs := H105) (mc := C105) (c := bodyOf Tryz.f105) (allS_get (trivial : AllS Tryz.prog [])) Tryz.func105 (by kernel_rfl) (by kernel_rfl) (by kernel_rfl) (Nat.le_of_ble_eq_true (by kernel_rfl)) (by kernel_rfl) (by kernel_rfl) (fun a => by kernel_rfl)

/-- (*moat/volume.Volume).use -/
def H57 : List Hint := []
def E57 (N : Nat) : Entry := entry [.c .ptr, .c (.int .i64), .c .bool] [] fun a => F_volume_Volume_use N a.1 a.2.1 a.2.2
noncomputable def C57 : MC := mcOf (comp Tryz.prog 23 [] [] (bodyOf Tryz.f57) none H57)
theorem S57 (N : Nat) : Sound Tryz.prog 57 (E57 N) :=
  sound_of (C := [(105, E105 N)]) (N := N) (ntmps := 23) (priv := []) (pu := []) (hs := H57) (mc := C57) (c := bodyOf Tryz.f57) (allS_get (⟨S105 N, trivial⟩ : AllS Tryz.prog [(105, E105 N)])) Tryz.func57 (by kernel_rfl) (by kernel_rfl) (by kernel_rfl) (Nat.le_of_ble_eq_true (by kernel_rfl)) (by kernel_rfl) (by kernel_rfl) (fun a => by kernel_rfl)

/-- slices.Index[[]int,int] -/
def H58 : List Hint := [.join [(.normal, ⟨[], []⟩), (.ret, ⟨[.s 4 (.c (.int .i64))], []⟩)], .loop ⟨[.s 8 (.c (.int .i64))], []⟩, .no, .no, .no]
def E58 (N : Nat) : Entry := entry [.c (.sl 1), .c (.int .i64)] [.s 4 (.c (.int .i64))] fun a => F_slices_Index_Lint_int N a.1 a.2
noncomputable def C58 : MC := mcOf (comp Tryz.prog 19 [] [] (bodyOf Tryz.f58) none H58)
theorem S58 (N : Nat) : Sound Tryz.prog 58 (E58 N) :=
  sound_of (C := []) (N := N) (ntmps := 19) (priv := []) (pu := []) (hs := H58) (mc := C58) (c := bodyOf Tryz.f58) (allS_get (trivial : AllS Tryz.prog [])) Tryz.func58 (by kernel_rfl) (by kernel_rfl) (by kernel_rfl) (Nat.le_of_ble_eq_true (by kernel_rfl)) (by kernel_rfl) (by kernel_rfl) (fun a => by kernel_rfl)

/-- moat/intern.Retain$1 -/
def H107 : List Hint := []
def E107 (N : Nat) : Entry := entry [.st [.int .u16, .int .i64]] [.s 2 (.c .bool)] fun a => F_intern_Retain_1 N a
noncomputable def C107 : MC := mcOf (comp Tryz.prog 6 [1] [1, 3] (bodyOf Tryz.f107) none H107)
theorem S107 (N : Nat) : Sound Tryz.prog 107 (E107 N) :=
  sound_of (C := []) (N := N) (ntmps := 6) (priv := [1]) (pu := [1, 3]) (hs := H107) (mc := C107) (c := bodyOf Tryz.f107) (allS_get (trivial : AllS Tryz.prog [])) Tryz.func107 (by kernel_rfl) (by kernel_rfl) (by kernel_rfl) (Nat.le_of_ble_eq_true (by kernel_rfl)) (by kernel_rfl) (by kernel_rfl) (fun a => by kernel_rfl)

/-- slices.IndexFunc[[]moat/api.Row,moat/api.Row] -/
def H146_107 : List Hint := [.join [(.normal, ⟨[], []⟩), (.ret, ⟨[.s 4 (.c (.int .i64))], []⟩)], .loop ⟨[.s 8 (.c (.int .i64))], []⟩, .no, .no, .no]
def E146_107 (N : Nat) : Entry := entry [.c (.sl 2), .fnc 107 []] [.s 4 (.c (.int .i64))] fun a => F_slices_IndexFunc_Lapi_Row_api_Row__intern_Retain_1 N a.1 a.2
noncomputable def C146_107 : MC := mcOf (comp Tryz.prog 19 [] [] (bodyOf Tryz.f146) none H146_107)
theorem S146_107 (N : Nat) : Sound Tryz.prog 146 (E146_107 N) :=
  sound_of (C := [(107, E107 N)]) (N := N) (ntmps := 19) (priv := []) (pu := []) (hs := H146_107) (mc := C146_107) (c := bodyOf Tryz.f146) (allS_get (⟨S107 N, trivial⟩ : AllS Tryz.prog [(107, E107 N)])) Tryz.func146 (by kernel_rfl) (by kernel_rfl) (by kernel_rfl) (Nat.le_of_ble_eq_true (by kernel_rfl)) (by kernel_rfl) (by kernel_rfl) (fun a => by kernel_rfl)

/-- moat/intern.row -/
def H106_107 : List Hint := []
def E106_107 (N : Nat) : Entry := entry [.c (.sl 2), .fnc 107 []] [.s 4 (.c (.int .i64))] fun a => F_intern_row__intern_Retain_1 N a.1 a.2
noncomputable def C106_107 : MC := mcOf (comp Tryz.prog 8 [] [] (bodyOf Tryz.f106) none H106_107)
theorem S106_107 (N : Nat) : Sound Tryz.prog 106 (E106_107 N) :=
  sound_of (C := [(146, E146_107 N)]) (N := N) (ntmps := 8) (priv := []) (pu := []) (hs := H106_107) (mc := C106_107) (c := bodyOf Tryz.f106) (allS_get (⟨S146_107 N, trivial⟩ : AllS Tryz.prog [(146, E146_107 N)])) Tryz.func106 (by kernel_rfl) (by kernel_rfl) (by kernel_rfl) (Nat.le_of_ble_eq_true (by kernel_rfl)) (by kernel_rfl) (by kernel_rfl) (fun a => by kernel_rfl)

/-- moat/intern.with -/
def H108 : List Hint := []
def E108 (N : Nat) : Entry := entry [.c (.sl 2), .c (.int .i64), .st [.int .u16, .int .i64]] [.s 6 (.c (.sl 2))] fun a => F_intern_with N a.1 a.2.1 a.2.2
noncomputable def C108 : MC := mcOf (comp Tryz.prog 19 [5] [5] (bodyOf Tryz.f108) none H108)
theorem S108 (N : Nat) : Sound Tryz.prog 108 (E108 N) :=
  sound_of (C := []) (N := N) (ntmps := 19) (priv := [5]) (pu := [5]) (hs := H108) (mc := C108) (c := bodyOf Tryz.f108) (allS_get (trivial : AllS Tryz.prog [])) Tryz.func108 (by kernel_rfl) (by kernel_rfl) (by kernel_rfl) (Nat.le_of_ble_eq_true (by kernel_rfl)) (by kernel_rfl) (by kernel_rfl) (fun a => by kernel_rfl)

/-- moat/intern.Retain -/
def H59 : List Hint := [.no, .join [(.normal, ⟨[.s 7 (.c (.int .i64))], []⟩)], .no, .no, .no]
def E59 (N : Nat) : Entry := entry [.c (.sl 2), .c (.int .u16)] [.s 4 (.c (.sl 2)), .s 5 (.c (.int .i64)), .s 6 (.c (.int .i64))] fun a => F_intern_Retain N a.1 a.2
noncomputable def C59 : MC := mcOf (comp Tryz.prog 40 [] [] (bodyOf Tryz.f59) none H59)
theorem S59 (N : Nat) : Sound Tryz.prog 59 (E59 N) :=
  sound_of (C := [(23, E23 N), (102, E102 N), (106, E106_107 N), (108, E108 N)]) (N := N) (ntmps := 40) (priv := []) (pu := []) (hs := H59) (mc := C59) (c := bodyOf Tryz.f59) (allS_get (⟨S23 N, ⟨S102 N, ⟨S106_107 N, ⟨S108 N, trivial⟩⟩⟩⟩ : AllS Tryz.prog [(23, E23 N), (102, E102 N), (106, E106_107 N), (108, E108 N)])) Tryz.func59 (by kernel_rfl) (by kernel_rfl) (by kernel_rfl) (Nat.le_of_ble_eq_true (by kernel_rfl)) (by kernel_rfl) (by kernel_rfl) (fun a => by kernel_rfl)

/-- (*moat/volume.Volume).Alloc -/
def H15 : List Hint := [.no, .join [(.normal, ⟨[], []⟩), (.ret, ⟨[.s 4 (.c (.int .i64)), .s 5 (.c (.int .i64))], []⟩)], .loop ⟨[.s 35 (.c (.int .i64))], []⟩, .no, .join [(.normal, ⟨[], []⟩), (.ret, ⟨[.s 4 (.c (.int .i64)), .s 5 (.c (.int .i64))], []⟩)], .no, .draw false [], .no, .no, .no]
def E15 (N : Nat) : Entry := entry [.c .ptr, .c (.int .u16)] [.s 4 (.c (.int .i64)), .s 5 (.c (.int .i64))] fun a => F_volume_Volume_Alloc N a.1 a.2
noncomputable def C15 : MC := mcOf (comp Tryz.prog 135 [] [] (bodyOf Tryz.f15) none H15)
theorem S15 (N : Nat) : Sound Tryz.prog 15 (E15 N) :=
  sound_of (C := [(55, E55 N), (56, E56 N), (57, E57 N), (58, E58 N), (59, E59 N)]) (N := N) (ntmps := 135) (priv := []) (pu := []) (hs := H15) (mc := C15) (c := bodyOf Tryz.f15) (allS_get (⟨S55 N, ⟨S56 N, ⟨S57 N, ⟨S58 N, ⟨S59 N, trivial⟩⟩⟩⟩⟩ : AllS Tryz.prog [(55, E55 N), (56, E56 N), (57, E57 N), (58, E58 N), (59, E59 N)])) Tryz.func15 (by kernel_rfl) (by kernel_rfl) (by kernel_rfl) (Nat.le_of_ble_eq_true (by kernel_rfl)) (by kernel_rfl) (by kernel_rfl) (fun a => by kernel_rfl)

/-- (*moat/volume.Volume).there -/
def H60 : List Hint := [.draw false []]
def E60 (N : Nat) : Entry := entry [.c .ptr, .c (.int .i64)] [.s 4 (.c .bool)] fun a => F_volume_Volume_there N a.1 a.2
noncomputable def C60 : MC := mcOf (comp Tryz.prog 22 [] [] (bodyOf Tryz.f60) none H60)
theorem S60 (N : Nat) : Sound Tryz.prog 60 (E60 N) :=
  sound_of (C := []) (N := N) (ntmps := 22) (priv := []) (pu := []) (hs := H60) (mc := C60) (c := bodyOf Tryz.f60) (allS_get (trivial : AllS Tryz.prog [])) Tryz.func60 (by kernel_rfl) (by kernel_rfl) (by kernel_rfl) (Nat.le_of_ble_eq_true (by kernel_rfl)) (by kernel_rfl) (by kernel_rfl) (fun a => by kernel_rfl)

/-- (*moat/volume.Volume).used -/
def H62 : List Hint := [.no, .no, .no, .no]
def E62 (N : Nat) : Entry := entry [.c .ptr, .c (.int .i64)] [.s 4 (.c (.int .i64))] fun a => F_volume_Volume_used N a.1 a.2
noncomputable def C62 : MC := mcOf (comp Tryz.prog 23 [] [] (bodyOf Tryz.f62) none H62)
theorem S62 (N : Nat) : Sound Tryz.prog 62 (E62 N) :=
  sound_of (C := [(60, E60 N), (104, E104 N)]) (N := N) (ntmps := 23) (priv := []) (pu := []) (hs := H62) (mc := C62) (c := bodyOf Tryz.f62) (allS_get (⟨S60 N, ⟨S104 N, trivial⟩⟩ : AllS Tryz.prog [(60, E60 N), (104, E104 N)])) Tryz.func62 (by kernel_rfl) (by kernel_rfl) (by kernel_rfl) (Nat.le_of_ble_eq_true (by kernel_rfl)) (by kernel_rfl) (by kernel_rfl) (fun a => by kernel_rfl)

/-- (*moat/volume.Volume).owner -/
def H109 : List Hint := [.draw false [], .no]
def E109 (N : Nat) : Entry := entry [.c .ptr, .c (.int .i64)] [.s 4 (.c (.int .u16))] fun a => F_volume_Volume_owner N a.1 a.2
noncomputable def C109 : MC := mcOf (comp Tryz.prog 34 [] [] (bodyOf Tryz.f109) none H109)
theorem S109 (N : Nat) : Sound Tryz.prog 109 (E109 N) :=
  sound_of (C := []) (N := N) (ntmps := 34) (priv := []) (pu := []) (hs := H109) (mc := C109) (c := bodyOf Tryz.f109) (allS_get (trivial : AllS Tryz.prog [])) Tryz.func109 (by kernel_rfl) (by kernel_rfl) (by kernel_rfl) (Nat.le_of_ble_eq_true (by kernel_rfl)) (by kernel_rfl) (by kernel_rfl) (fun a => by kernel_rfl)

/-- (*moat/volume.Volume).write -/
def H63 : List Hint := [.draw true []]
def E63 (N : Nat) : Entry := entry [.c .ptr, .c (.int .i64), .c (.sl 1)] [] fun a => F_volume_Volume_write N a.1 a.2.1 a.2.2
noncomputable def C63 : MC := mcOf (comp Tryz.prog 24 [] [] (bodyOf Tryz.f63) none H63)
theorem S63 (N : Nat) : Sound Tryz.prog 63 (E63 N) :=
  sound_of (C := [(109, E109 N)]) (N := N) (ntmps := 24) (priv := []) (pu := []) (hs := H63) (mc := C63) (c := bodyOf Tryz.f63) (allS_get (⟨S109 N, trivial⟩ : AllS Tryz.prog [(109, E109 N)])) Tryz.func63 (by kernel_rfl) (by kernel_rfl) (by kernel_rfl) (Nat.le_of_ble_eq_true (by kernel_rfl)) (by kernel_rfl) (by kernel_rfl) (fun a => by kernel_rfl)

/-- moat/intern.Release -/
def H135 : List Hint := [.no, .no, .no, .no, .draw false []]
def E135 (N : Nat) : Entry := entry [.c (.sl 2), .c (.int .i64)] [.s 4 (.c (.sl 2)), .s 5 (.c (.int .i64))] fun a => F_intern_Release N a.1 a.2
noncomputable def C135 : MC := mcOf (comp Tryz.prog 53 [] [] (bodyOf Tryz.f135) none H135)
theorem S135 (N : Nat) : Sound Tryz.prog 135 (E135 N) :=
  sound_of (C := [(23, E23 N), (108, E108 N)]) (N := N) (ntmps := 53) (priv := []) (pu := []) (hs := H135) (mc := C135) (c := bodyOf Tryz.f135) (allS_get (⟨S23 N, ⟨S108 N, trivial⟩⟩ : AllS Tryz.prog [(23, E23 N), (108, E108 N)])) Tryz.func135 (by kernel_rfl) (by kernel_rfl) (by kernel_rfl) (Nat.le_of_ble_eq_true (by kernel_rfl)) (by kernel_rfl) (by kernel_rfl) (fun a => by kernel_rfl)

/-- (*moat/volume.Volume).release -/
def H86 : List Hint := []
def E86 (N : Nat) : Entry := entry [.c .ptr, .c (.int .i64)] [] fun a => F_volume_Volume_release N a.1 a.2
noncomputable def C86 : MC := mcOf (comp Tryz.prog 20 [] [] (bodyOf Tryz.f86) none H86)
theorem S86 (N : Nat) : Sound Tryz.prog 86 (E86 N) :=
  sound_of (C := [(135, E135 N)]) (N := N) (ntmps := 20) (priv := []) (pu := []) (hs := H86) (mc := C86) (c := bodyOf Tryz.f86) (allS_get (⟨S135 N, trivial⟩ : AllS Tryz.prog [(135, E135 N)])) Tryz.func86 (by kernel_rfl) (by kernel_rfl) (by kernel_rfl) (Nat.le_of_ble_eq_true (by kernel_rfl)) (by kernel_rfl) (by kernel_rfl) (fun a => by kernel_rfl)

/-- (*moat/volume.Volume).Free -/
def H37 : List Hint := [.no, .join [(.normal, ⟨[], []⟩)]]
def E37 (N : Nat) : Entry := entry [.c .ptr, .c (.int .i64)] [.s 4 (.c (.int .i64))] fun a => F_volume_Volume_Free N a.1 a.2
noncomputable def C37 : MC := mcOf (comp Tryz.prog 51 [] [] (bodyOf Tryz.f37) none H37)
theorem S37 (N : Nat) : Sound Tryz.prog 37 (E37 N) :=
  sound_of (C := [(62, E62 N), (63, E63 N), (57, E57 N), (85, E85 N), (86, E86 N)]) (N := N) (ntmps := 51) (priv := []) (pu := []) (hs := H37) (mc := C37) (c := bodyOf Tryz.f37) (allS_get (⟨S62 N, ⟨S63 N, ⟨S57 N, ⟨S85 N, ⟨S86 N, trivial⟩⟩⟩⟩⟩ : AllS Tryz.prog [(62, E62 N), (63, E63 N), (57, E57 N), (85, E85 N), (86, E86 N)])) Tryz.func37 (by kernel_rfl) (by kernel_rfl) (by kernel_rfl) (Nat.le_of_ble_eq_true (by kernel_rfl)) (by kernel_rfl) (by kernel_rfl) (fun a => by kernel_rfl)

/-- moat/moatlaw15.shown -/
def H9 : List Hint := [.no]
def E9 (N : Nat) : Entry := entry [] [.s 0 (.c .bool)] fun a => F_moatlaw15_shown N
noncomputable def C9 : MC := mcOf (comp Tryz.prog 76 [] [] (bodyOf Tryz.f9) none H9)
theorem S9 (N : Nat) : Sound Tryz.prog 9 (E9 N) :=
  sound_of (C := [(10, E10 N), (15, E15 N), (37, E37 N)]) (N := N) (ntmps := 76) (priv := []) (pu := []) (hs := H9) (mc := C9) (c := bodyOf Tryz.f9) (allS_get (⟨S10 N, ⟨S15 N, ⟨S37 N, trivial⟩⟩⟩ : AllS Tryz.prog [(10, E10 N), (15, E15 N), (37, E37 N)])) Tryz.func9 (by kernel_rfl) (by kernel_rfl) (by kernel_rfl) (Nat.le_of_ble_eq_true (by kernel_rfl)) (by kernel_rfl) (by kernel_rfl) (fun a => by kernel_rfl)

/-- (*moat/volume.Volume).Read -/
def H16 : List Hint := [.no, .no, .no, .no, .draw false []]
def E16 (N : Nat) : Entry := entry [.c .ptr, .c (.int .i64)] [.s 4 (.c (.sl 1)), .s 5 (.c (.int .i64))] fun a => F_volume_Volume_Read N a.1 a.2
noncomputable def C16 : MC := mcOf (comp Tryz.prog 44 [6] [6, 27] (bodyOf Tryz.f16) none H16)
theorem S16 (N : Nat) : Sound Tryz.prog 16 (E16 N) :=
  sound_of (C := [(60, E60 N), (61, E61 N), (26, E26 N)]) (N := N) (ntmps := 44) (priv := [6]) (pu := [6, 27]) (hs := H16) (mc := C16) (c := bodyOf Tryz.f16) (allS_get (⟨S60 N, ⟨S61 N, ⟨S26 N, trivial⟩⟩⟩ : AllS Tryz.prog [(60, E60 N), (61, E61 N), (26, E26 N)])) Tryz.func16 (by kernel_rfl) (by kernel_rfl) (by kernel_rfl) (Nat.le_of_ble_eq_true (by kernel_rfl)) (by kernel_rfl) (by kernel_rfl) (fun a => by kernel_rfl)

/-- (*moat/volume.Volume).Make$1 -/
def H84 : List Hint := []
def E84 (N : Nat) : Entry := entry [.agg 14] [.s 2 (.c .bool)] fun a => F_volume_Volume_Make_1 N a
noncomputable def C84 : MC := mcOf (comp Tryz.prog 6 [1] [] (bodyOf Tryz.f84) none H84)
theorem S84 (N : Nat) : Sound Tryz.prog 84 (E84 N) :=
  sound_of (C := []) (N := N) (ntmps := 6) (priv := [1]) (pu := []) (hs := H84) (mc := C84) (c := bodyOf Tryz.f84) (allS_get (trivial : AllS Tryz.prog [])) Tryz.func84 (by kernel_rfl) (by kernel_rfl) (by kernel_rfl) (Nat.le_of_ble_eq_true (by kernel_rfl)) (by kernel_rfl) (by kernel_rfl) (fun a => by kernel_rfl)

/-- slices.IndexFunc[[]moat/api.Inode,moat/api.Inode] -/
def H83_84 : List Hint := [.join [(.normal, ⟨[], []⟩), (.ret, ⟨[.s 4 (.c (.int .i64))], []⟩)], .loop ⟨[.s 8 (.c (.int .i64))], []⟩, .no, .no, .no]
def E83_84 (N : Nat) : Entry := entry [.c (.sl 14), .fnc 84 []] [.s 4 (.c (.int .i64))] fun a => F_slices_IndexFunc_Lapi_Inode_api_Inode__volume_Volume_Make_1 N a.1 a.2
noncomputable def C83_84 : MC := mcOf (comp Tryz.prog 19 [] [] (bodyOf Tryz.f83) none H83_84)
theorem S83_84 (N : Nat) : Sound Tryz.prog 83 (E83_84 N) :=
  sound_of (C := [(84, E84 N)]) (N := N) (ntmps := 19) (priv := []) (pu := []) (hs := H83_84) (mc := C83_84) (c := bodyOf Tryz.f83) (allS_get (⟨S84 N, trivial⟩ : AllS Tryz.prog [(84, E84 N)])) Tryz.func83 (by kernel_rfl) (by kernel_rfl) (by kernel_rfl) (Nat.le_of_ble_eq_true (by kernel_rfl)) (by kernel_rfl) (by kernel_rfl) (fun a => by kernel_rfl)

/-- (*moat/volume.Volume).Make -/
def H35 : List Hint := [.no, .no, .no, .no, .no]
def E35 (N : Nat) : Entry := entry [.c .ptr, .c (.int .u8), .c (.int .u16)] [.s 6 (.c (.int .i64)), .s 7 (.c (.int .i64))] fun a => F_volume_Volume_Make N a.1 a.2.1 a.2.2
noncomputable def C35 : MC := mcOf (comp Tryz.prog 65 [] [] (bodyOf Tryz.f35) none H35)
theorem S35 (N : Nat) : Sound Tryz.prog 35 (E35 N) :=
  sound_of (C := [(83, E83_84 N), (59, E59 N)]) (N := N) (ntmps := 65) (priv := []) (pu := []) (hs := H35) (mc := C35) (c := bodyOf Tryz.f35) (allS_get (⟨S83_84 N, ⟨S59 N, trivial⟩⟩ : AllS Tryz.prog [(83, E83_84 N), (59, E59 N)])) Tryz.func35 (by kernel_rfl) (by kernel_rfl) (by kernel_rfl) (Nat.le_of_ble_eq_true (by kernel_rfl)) (by kernel_rfl) (by kernel_rfl) (fun a => by kernel_rfl)

/-- (*moat/volume.Volume).has -/
def H80 : List Hint := [.no, .no, .no, .no]
def E80 (N : Nat) : Entry := entry [.c .ptr, .c (.int .i64)] [.s 4 (.c (.int .i64))] fun a => F_volume_Volume_has N a.1 a.2
noncomputable def C80 : MC := mcOf (comp Tryz.prog 34 [] [] (bodyOf Tryz.f80) none H80)
theorem S80 (N : Nat) : Sound Tryz.prog 80 (E80 N) :=
  sound_of (C := []) (N := N) (ntmps := 34) (priv := []) (pu := []) (hs := H80) (mc := C80) (c := bodyOf Tryz.f80) (allS_get (trivial : AllS Tryz.prog [])) Tryz.func80 (by kernel_rfl) (by kernel_rfl) (by kernel_rfl) (Nat.le_of_ble_eq_true (by kernel_rfl)) (by kernel_rfl) (by kernel_rfl) (fun a => by kernel_rfl)

/-- (*moat/volume.Volume).Inode -/
def H32 : List Hint := [.no, .draw false []]
def E32 (N : Nat) : Entry := entry [.c .ptr, .c (.int .i64)] [.m 4 (.agg 14), .s 5 (.c (.int .u16)), .s 6 (.c (.int .i64))] fun a => F_volume_Volume_Inode N a.1 a.2
noncomputable def C32 : MC := mcOf (comp Tryz.prog 37 [4, 8] [] (bodyOf Tryz.f32) none H32)
theorem S32 (N : Nat) : Sound Tryz.prog 32 (E32 N) :=
  sound_of (C := [(80, E80 N)]) (N := N) (ntmps := 37) (priv := [4, 8]) (pu := []) (hs := H32) (mc := C32) (c := bodyOf Tryz.f32) (allS_get (⟨S80 N, trivial⟩ : AllS Tryz.prog [(80, E80 N)])) Tryz.func32 (by kernel_rfl) (by kernel_rfl) (by kernel_rfl) (Nat.le_of_ble_eq_true (by kernel_rfl)) (by kernel_rfl) (by kernel_rfl) (fun a => by kernel_rfl)

/-- slices.Clone[[]moat/api.Row,moat/api.Row] -/
def H120 : List Hint := [.no]
def E120 (N : Nat) : Entry := entry [.c (.sl 2)] [.s 2 (.c (.sl 2))] fun a => F_slices_Clone_Lapi_Row_api_Row N a
noncomputable def C120 : MC := mcOf (comp Tryz.prog 8 [] [] (bodyOf Tryz.f120) none H120)
theorem S120 (N : Nat) : Sound Tryz.prog 120 (E120 N) :=
  sound_of (C := []) (N := N) (ntmps := 8) (priv := []) (pu := []) (hs := H120) (mc := C120) (c := bodyOf Tryz.f120) (allS_get (trivial : AllS Tryz.prog [])) Tryz.func120 (by kernel_rfl) (by kernel_rfl) (by kernel_rfl) (Nat.le_of_ble_eq_true (by kernel_rfl)) (by kernel_rfl) (by kernel_rfl) (fun a => by kernel_rfl)

/-- slices.Clone[[]int,int] -/
def H121 : List Hint := [.no]
def E121 (N : Nat) : Entry := entry [.c (.sl 1)] [.s 2 (.c (.sl 1))] fun a => F_slices_Clone_Lint_int N a
noncomputable def C121 : MC := mcOf (comp Tryz.prog 8 [] [] (bodyOf Tryz.f121) none H121)
theorem S121 (N : Nat) : Sound Tryz.prog 121 (E121 N) :=
  sound_of (C := []) (N := N) (ntmps := 8) (priv := []) (pu := []) (hs := H121) (mc := C121) (c := bodyOf Tryz.f121) (allS_get (trivial : AllS Tryz.prog [])) Tryz.func121 (by kernel_rfl) (by kernel_rfl) (by kernel_rfl) (Nat.le_of_ble_eq_true (by kernel_rfl)) (by kernel_rfl) (by kernel_rfl) (fun a => by kernel_rfl)

/-- slices.Clone[[]moat/api.Inode,moat/api.Inode] -/
def H122 : List Hint := [.no]
def E122 (N : Nat) : Entry := entry [.c (.sl 14)] [.s 2 (.c (.sl 14))] fun a => F_slices_Clone_Lapi_Inode_api_Inode N a
noncomputable def C122 : MC := mcOf (comp Tryz.prog 8 [] [] (bodyOf Tryz.f122) none H122)
theorem S122 (N : Nat) : Sound Tryz.prog 122 (E122 N) :=
  sound_of (C := []) (N := N) (ntmps := 8) (priv := []) (pu := []) (hs := H122) (mc := C122) (c := bodyOf Tryz.f122) (allS_get (trivial : AllS Tryz.prog [])) Tryz.func122 (by kernel_rfl) (by kernel_rfl) (by kernel_rfl) (Nat.le_of_ble_eq_true (by kernel_rfl)) (by kernel_rfl) (by kernel_rfl) (fun a => by kernel_rfl)

/-- moat/meta.Copy -/
def H70 : List Hint := [.draw false []]
def E70 (N : Nat) : Entry := entry [.st [.sl 2, .sl 1, .sl 1, .sl 14]] [.m 2 (.st [.sl 2, .sl 1, .sl 1, .sl 14])] fun a => F_meta_Copy N a
noncomputable def C70 : MC := mcOf (comp Tryz.prog 16 [1, 2] [1, 2, 3, 6, 9, 12] (bodyOf Tryz.f70) none H70)
theorem S70 (N : Nat) : Sound Tryz.prog 70 (E70 N) :=
  sound_of (C := [(120, E120 N), (121, E121 N), (61, E61 N), (122, E122 N)]) (N := N) (ntmps := 16) (priv := [1, 2]) (pu := [1, 2, 3, 6, 9, 12]) (hs := H70) (mc := C70) (c := bodyOf Tryz.f70) (allS_get (⟨S120 N, ⟨S121 N, ⟨S61 N, ⟨S122 N, trivial⟩⟩⟩⟩ : AllS Tryz.prog [(120, E120 N), (121, E121 N), (61, E61 N), (122, E122 N)])) Tryz.func70 (by kernel_rfl) (by kernel_rfl) (by kernel_rfl) (Nat.le_of_ble_eq_true (by kernel_rfl)) (by kernel_rfl) (by kernel_rfl) (fun a => by kernel_rfl)

/-- maps.Clone[map[int]moat/api.Patch,int,moat/api.Patch] -/
def H110 : List Hint := [.no, .cut 3]
def E110 (N : Nat) : Entry := entry [.c .map] [.s 2 (.c .map)] fun a => F_maps_Clone_map_int_api_Patch_int_api_Patch N a
noncomputable def C110 : MC := mcOf (comp Tryz.prog 9 [] [] (bodyOf Tryz.f110) none H110)
theorem S110 (N : Nat) : Sound Tryz.prog 110 (E110 N) :=
  sound_of (C := []) (N := N) (ntmps := 9) (priv := []) (pu := []) (hs := H110) (mc := C110) (c := bodyOf Tryz.f110) (allS_get (trivial : AllS Tryz.prog [])) Tryz.func110 (by kernel_rfl) (by kernel_rfl) (by kernel_rfl) (Nat.le_of_ble_eq_true (by kernel_rfl)) (by kernel_rfl) (by kernel_rfl) (fun a => by kernel_rfl)

/-- (moat/volume.now).copy -/
def H66 : List Hint := [.draw false []]
def E66 (N : Nat) : Entry := entry [.st [.sl 2, .sl 1, .sl 1, .sl 14, .map]] [.m 2 (.st [.sl 2, .sl 1, .sl 1, .sl 14, .map])] fun a => F_volume_now_copy N a
noncomputable def C66 : MC := mcOf (comp Tryz.prog 10 [1, 2] [1, 2, 3, 6] (bodyOf Tryz.f66) none H66)
theorem S66 (N : Nat) : Sound Tryz.prog 66 (E66 N) :=
  sound_of (C := [(70, E70 N), (110, E110 N)]) (N := N) (ntmps := 10) (priv := [1, 2]) (pu := [1, 2, 3, 6]) (hs := H66) (mc := C66) (c := bodyOf Tryz.f66) (allS_get (⟨S70 N, ⟨S110 N, trivial⟩⟩ : AllS Tryz.prog [(70, E70 N), (110, E110 N)])) Tryz.func66 (by kernel_rfl) (by kernel_rfl) (by kernel_rfl) (Nat.le_of_ble_eq_true (by kernel_rfl)) (by kernel_rfl) (by kernel_rfl) (fun a => by kernel_rfl)

/-- (*moat/volume.Volume).Abort -/
def H20 : List Hint := [.join [(.normal, ⟨[], []⟩)]]
def E20 (N : Nat) : Entry := entry [.c .ptr] [] fun a => F_volume_Volume_Abort N a
noncomputable def C20 : MC := mcOf (comp Tryz.prog 21 [] [] (bodyOf Tryz.f20) none H20)
theorem S20 (N : Nat) : Sound Tryz.prog 20 (E20 N) :=
  sound_of (C := [(66, E66 N)]) (N := N) (ntmps := 21) (priv := []) (pu := []) (hs := H20) (mc := C20) (c := bodyOf Tryz.f20) (allS_get (⟨S66 N, trivial⟩ : AllS Tryz.prog [(66, E66 N)])) Tryz.func20 (by kernel_rfl) (by kernel_rfl) (by kernel_rfl) (Nat.le_of_ble_eq_true (by kernel_rfl)) (by kernel_rfl) (by kernel_rfl) (fun a => by kernel_rfl)

/-- (*moat/volume.Volume).Dirty -/
def H40 : List Hint := [.no]
def E40 (N : Nat) : Entry := entry [.c .ptr] [.s 2 (.c (.int .i64))] fun a => F_volume_Volume_Dirty N a
noncomputable def C40 : MC := mcOf (comp Tryz.prog 11 [] [] (bodyOf Tryz.f40) none H40)
theorem S40 (N : Nat) : Sound Tryz.prog 40 (E40 N) :=
  sound_of (C := []) (N := N) (ntmps := 11) (priv := []) (pu := []) (hs := H40) (mc := C40) (c := bodyOf Tryz.f40) (allS_get (trivial : AllS Tryz.prog [])) Tryz.func40 (by kernel_rfl) (by kernel_rfl) (by kernel_rfl) (Nat.le_of_ble_eq_true (by kernel_rfl)) (by kernel_rfl) (by kernel_rfl) (fun a => by kernel_rfl)

/-- moat/intern.Lay -/
def H112 : List Hint := [.no, .join [(.normal, ⟨[.s 4 (.c (.sl 1))], []⟩)], .loop ⟨[.s 4 (.c (.sl 1)), .s 12 (.c (.int .i64))], []⟩, .no, .no]
def E112 (N : Nat) : Entry := entry [.c (.sl 2)] [.s 2 (.c (.sl 1)), .s 3 (.c (.int .i64))] fun a => F_intern_Lay N a
noncomputable def C112 : MC := mcOf (comp Tryz.prog 30 [6] [6, 17, 20] (bodyOf Tryz.f112) none H112)
theorem S112 (N : Nat) : Sound Tryz.prog 112 (E112 N) :=
  sound_of (C := [(23, E23 N), (137, E137 N)]) (N := N) (ntmps := 30) (priv := [6]) (pu := [6, 17, 20]) (hs := H112) (mc := C112) (c := bodyOf Tryz.f112) (allS_get (⟨S23 N, ⟨S137 N, trivial⟩⟩ : AllS Tryz.prog [(23, E23 N), (137, E137 N)])) Tryz.func112 (by kernel_rfl) (by kernel_rfl) (by kernel_rfl) (Nat.le_of_ble_eq_true (by kernel_rfl)) (by kernel_rfl) (by kernel_rfl) (fun a => by kernel_rfl)

/-- moat/inode.Lay -/
def H113 : List Hint := [.no, .join [(.normal, ⟨[.s 4 (.c (.sl 1))], []⟩)], .loop ⟨[.s 4 (.c (.sl 1)), .s 29 (.c (.int .i64))], []⟩, .no, .no]
def E113 (N : Nat) : Entry := entry [.agg 14] [.s 2 (.c (.sl 1)), .s 3 (.c (.int .i64))] fun a => F_inode_Lay N a
noncomputable def C113 : MC := mcOf (comp Tryz.prog 55 [1] [] (bodyOf Tryz.f113) none H113)
theorem S113 (N : Nat) : Sound Tryz.prog 113 (E113 N) :=
  sound_of (C := [(87, E87 N), (137, E137 N), (138, E138 N)]) (N := N) (ntmps := 55) (priv := [1]) (pu := []) (hs := H113) (mc := C113) (c := bodyOf Tryz.f113) (allS_get (⟨S87 N, ⟨S137 N, ⟨S138 N, trivial⟩⟩⟩ : AllS Tryz.prog [(87, E87 N), (137, E137 N), (138, E138 N)])) Tryz.func113 (by kernel_rfl) (by kernel_rfl) (by kernel_rfl) (Nat.le_of_ble_eq_true (by kernel_rfl)) (by kernel_rfl) (by kernel_rfl) (fun a => by kernel_rfl)

/-- moat/meta.Lay -/
def H67 : List Hint := [.no, .join [(.normal, ⟨[], []⟩)], .loop ⟨[.s 31 (.c (.int .i64))], []⟩, .no, .no, .join [(.normal, ⟨[.s 11 (.c (.sl 1))], []⟩)], .loop ⟨[.s 11 (.c (.sl 1)), .s 12 (.c (.int .i64))], []⟩, .no, .no]
def E67 (N : Nat) : Entry := entry [.st [.int .i64, .int .i64, .int .i64, .int .i64], .st [.sl 2, .sl 1, .sl 1, .sl 14]] [.s 4 (.c (.sl 1)), .s 5 (.c (.int .i64))] fun a => F_meta_Lay N a.1 a.2
noncomputable def C67 : MC := mcOf (comp Tryz.prog 81 [2, 3] [2, 3, 22, 28, 44, 49, 56, 65] (bodyOf Tryz.f67) none H67)
theorem S67 (N : Nat) : Sound Tryz.prog 67 (E67 N) :=
  sound_of (C := [(111, E111 N), (112, E112 N), (61, E61 N), (113, E113 N)]) (N := N) (ntmps := 81) (priv := [2, 3]) (pu := [2, 3, 22, 28, 44, 49, 56, 65]) (hs := H67) (mc := C67) (c := bodyOf Tryz.f67) (allS_get (⟨S111 N, ⟨S112 N, ⟨S61 N, ⟨S113 N, trivial⟩⟩⟩⟩ : AllS Tryz.prog [(111, E111 N), (112, E112 N), (61, E61 N), (113, E113 N)])) Tryz.func67 (by kernel_rfl) (by kernel_rfl) (by kernel_rfl) (Nat.le_of_ble_eq_true (by kernel_rfl)) (by kernel_rfl) (by kernel_rfl) (fun a => by kernel_rfl)

/-- maps.Keys[map[int]moat/api.Patch,int,moat/api.Patch] -/
def H119 : List Hint := []
def E119 (N : Nat) : Entry := entry [.c .map] [.s 2 (.c .any)] fun a => F_maps_Keys_map_int_api_Patch_int_api_Patch N a
noncomputable def C119 : MC := mcOf (comp Tryz.prog 4 [] [] (bodyOf Tryz.f119) none H119)
theorem S119 (N : Nat) : Sound Tryz.prog 119 (E119 N) :=
  sound_of (C := []) (N := N) (ntmps := 4) (priv := []) (pu := []) (hs := H119) (mc := C119) (c := bodyOf Tryz.f119) (allS_get (trivial : AllS Tryz.prog [])) Tryz.func119 (by kernel_rfl) (by kernel_rfl) (by kernel_rfl) (Nat.le_of_ble_eq_true (by kernel_rfl)) (by kernel_rfl) (by kernel_rfl) (fun a => by kernel_rfl)

/-- slices.AppendSeq[[]int,int] -/
def H159 : List Hint := [.no, .cut 0]
def E159 (N : Nat) : Entry := entry [.c (.sl 1), .c .any] [.s 4 (.c (.sl 1))] fun a => F_slices_AppendSeq_Lint_int N a.1 a.2
noncomputable def C159 : MC := mcOf (comp Tryz.prog 13 [2] [2] (bodyOf Tryz.f159) none H159)
theorem S159 (N : Nat) : Sound Tryz.prog 159 (E159 N) :=
  sound_of (C := []) (N := N) (ntmps := 13) (priv := [2]) (pu := [2]) (hs := H159) (mc := C159) (c := bodyOf Tryz.f159) (allS_get (trivial : AllS Tryz.prog [])) Tryz.func159 (by kernel_rfl) (by kernel_rfl) (by kernel_rfl) (Nat.le_of_ble_eq_true (by kernel_rfl)) (by kernel_rfl) (by kernel_rfl) (fun a => by kernel_rfl)

/-- slices.Collect[int] -/
def H148 : List Hint := []
def E148 (N : Nat) : Entry := entry [.c .any] [.s 2 (.c (.sl 1))] fun a => F_slices_Collect_int N a
noncomputable def C148 : MC := mcOf (comp Tryz.prog 5 [] [] (bodyOf Tryz.f148) none H148)
theorem S148 (N : Nat) : Sound Tryz.prog 148 (E148 N) :=
  sound_of (C := [(159, E159 N)]) (N := N) (ntmps := 5) (priv := []) (pu := []) (hs := H148) (mc := C148) (c := bodyOf Tryz.f148) (allS_get (⟨S159 N, trivial⟩ : AllS Tryz.prog [(159, E159 N)])) Tryz.func148 (by kernel_rfl) (by kernel_rfl) (by kernel_rfl) (Nat.le_of_ble_eq_true (by kernel_rfl)) (by kernel_rfl) (by kernel_rfl) (fun a => by kernel_rfl)

/-- math/bits.Len32 -/
def H174 : List Hint := [.join [(.normal, ⟨[.s 0 (.c (.int .u32)), .s 2 (.c (.int .i64))], []⟩)], .join [(.normal, ⟨[.s 0 (.c (.int .u32)), .s 2 (.c (.int .i64))], []⟩)]]
def E174 (N : Nat) : Entry := entry [.c (.int .u32)] [.s 2 (.c (.int .i64))] fun a => F_math_bits_Len32 N a
noncomputable def C174 : MC := mcOf (comp Tryz.prog 19 [] [] (bodyOf Tryz.f174) none H174)
theorem S174 (N : Nat) : Sound Tryz.prog 174 (E174 N) :=
  sound_of (C := []) (N := N) (ntmps := 19) (priv := []) (pu := []) (hs := H174) (mc := C174) (c := bodyOf Tryz.f174) (allS_get (trivial : AllS Tryz.prog [])) Tryz.func174 (by kernel_rfl) (by kernel_rfl) (by kernel_rfl) (Nat.le_of_ble_eq_true (by kernel_rfl)) (by kernel_rfl) (by kernel_rfl) (fun a => by kernel_rfl)

/-- math/bits.Len64 -/
def H175 : List Hint := [.join [(.normal, ⟨[.s 0 (.c (.int .u64)), .s 2 (.c (.int .i64))], []⟩)], .join [(.normal, ⟨[.s 0 (.c (.int .u64)), .s 2 (.c (.int .i64))], []⟩)], .join [(.normal, ⟨[.s 0 (.c (.int .u64)), .s 2 (.c (.int .i64))], []⟩)]]
def E175 (N : Nat) : Entry := entry [.c (.int .u64)] [.s 2 (.c (.int .i64))] fun a => F_math_bits_Len64 N a
noncomputable def C175 : MC := mcOf (comp Tryz.prog 25 [] [] (bodyOf Tryz.f175) none H175)
theorem S175 (N : Nat) : Sound Tryz.prog 175 (E175 N) :=
  sound_of (C := []) (N := N) (ntmps := 25) (priv := []) (pu := []) (hs := H175) (mc := C175) (c := bodyOf Tryz.f175) (allS_get (trivial : AllS Tryz.prog [])) Tryz.func175 (by kernel_rfl) (by kernel_rfl) (by kernel_rfl) (Nat.le_of_ble_eq_true (by kernel_rfl)) (by kernel_rfl) (by kernel_rfl) (fun a => by kernel_rfl)

/-- math/bits.Len -/
def H161 : List Hint := [.no]
def E161 (N : Nat) : Entry := entry [.c (.int .u64)] [.s 2 (.c (.int .i64))] fun a => F_math_bits_Len N a
noncomputable def C161 : MC := mcOf (comp Tryz.prog 8 [] [] (bodyOf Tryz.f161) none H161)
theorem S161 (N : Nat) : Sound Tryz.prog 161 (E161 N) :=
  sound_of (C := [(174, E174 N), (175, E175 N)]) (N := N) (ntmps := 8) (priv := []) (pu := []) (hs := H161) (mc := C161) (c := bodyOf Tryz.f161) (allS_get (⟨S174 N, ⟨S175 N, trivial⟩⟩ : AllS Tryz.prog [(174, E174 N), (175, E175 N)])) Tryz.func161 (by kernel_rfl) (by kernel_rfl) (by kernel_rfl) (Nat.le_of_ble_eq_true (by kernel_rfl)) (by kernel_rfl) (by kernel_rfl) (fun a => by kernel_rfl)

/-- cmp.isNaN[int] -/
def H182 : List Hint := []
def E182 (N : Nat) : Entry := entry [.c (.int .i64)] [.s 2 (.c .bool)] fun a => F_cmp_isNaN_int N a
noncomputable def C182 : MC := mcOf (comp Tryz.prog 6 [] [] (bodyOf Tryz.f182) none H182)
theorem S182 (N : Nat) : Sound Tryz.prog 182 (E182 N) :=
  sound_of (C := []) (N := N) (ntmps := 6) (priv := []) (pu := []) (hs := H182) (mc := C182) (c := bodyOf Tryz.f182) (allS_get (trivial : AllS Tryz.prog [])) Tryz.func182 (by kernel_rfl) (by kernel_rfl) (by kernel_rfl) (Nat.le_of_ble_eq_true (by kernel_rfl)) (by kernel_rfl) (by kernel_rfl) (fun a => by kernel_rfl)

/-- cmp.Less[int] -/
def H171 : List Hint := []
def E171 (N : Nat) : Entry := entry [.c (.int .i64), .c (.int .i64)] [.s 4 (.c .bool)] fun a => F_cmp_Less_int N a.1 a.2
noncomputable def C171 : MC := mcOf (comp Tryz.prog 17 [] [] (bodyOf Tryz.f171) none H171)
theorem S171 (N : Nat) : Sound Tryz.prog 171 (E171 N) :=
  sound_of (C := [(182, E182 N)]) (N := N) (ntmps := 17) (priv := []) (pu := []) (hs := H171) (mc := C171) (c := bodyOf Tryz.f171) (allS_get (⟨S182 N, trivial⟩ : AllS Tryz.prog [(182, E182 N)])) Tryz.func171 (by kernel_rfl) (by kernel_rfl) (by kernel_rfl) (Nat.le_of_ble_eq_true (by kernel_rfl)) (by kernel_rfl) (by kernel_rfl) (fun a => by kernel_rfl)

/-- slices.insertionSortOrdered[int] -/
def H165 : List Hint := [.join [(.normal, ⟨[], []⟩)], .loop ⟨[.s 6 (.c (.int .i64))], []⟩, .no, .no, .join [(.normal, ⟨[], []⟩)], .loop ⟨[.s 7 (.c (.int .i64))], []⟩, .draw false [], .no, .no, .draw false []]
def E165 (N : Nat) : Entry := entry [.c (.sl 1), .c (.int .i64), .c (.int .i64)] [] fun a => F_slices_insertionSortOrdered_int N a.1 a.2.1 a.2.2
noncomputable def C165 : MC := mcOf (comp Tryz.prog 49 [] [] (bodyOf Tryz.f165) none H165)
theorem S165 (N : Nat) : Sound Tryz.prog 165 (E165 N) :=
  sound_of (C := [(171, E171 N)]) (N := N) (ntmps := 49) (priv := []) (pu := []) (hs := H165) (mc := C165) (c := bodyOf Tryz.f165) (allS_get (⟨S171 N, trivial⟩ : AllS Tryz.prog [(171, E171 N)])) Tryz.func165 (by kernel_rfl) (by kernel_rfl) (by kernel_rfl) (Nat.le_of_ble_eq_true (by kernel_rfl)) (by kernel_rfl) (by kernel_rfl) (fun a => by kernel_rfl)

/-- slices.siftDownOrdered[int] -/
def H177 : List Hint := [.join [(.normal, ⟨[], []⟩), (.ret, ⟨[], []⟩)], .loop ⟨[.s 8 (.c (.int .i64))], []⟩, .no, .no, .draw false [], .join [(.normal, ⟨[.s 9 (.c (.int .i64))], []⟩)], .draw false [], .no, .draw false []]
def E177 (N : Nat) : Entry := entry [.c (.sl 1), .c (.int .i64), .c (.int .i64), .c (.int .i64)] [] fun a => F_slices_siftDownOrdered_int N a.1 a.2.1 a.2.2.1 a.2.2.2
noncomputable def C177 : MC := mcOf (comp Tryz.prog 76 [] [] (bodyOf Tryz.f177) none H177)
theorem S177 (N : Nat) : Sound Tryz.prog 177 (E177 N) :=
  sound_of (C := [(171, E171 N)]) (N := N) (ntmps := 76) (priv := []) (pu := []) (hs := H177) (mc := C177) (c := bodyOf Tryz.f177) (allS_get (⟨S171 N, trivial⟩ : AllS Tryz.prog [(171, E171 N)])) Tryz.func177 (by kernel_rfl) (by kernel_rfl) (by kernel_rfl) (Nat.le_of_ble_eq_true (by kernel_rfl)) (by kernel_rfl) (by kernel_rfl) (fun a => by kernel_rfl)

/-- slices.heapSortOrdered[int] -/
def H166 : List Hint := [.join [(.normal, ⟨[], []⟩)], .loop ⟨[.s 9 (.c (.int .i64))], []⟩, .no, .no, .join [(.normal, ⟨[], []⟩)], .loop ⟨[.s 10 (.c (.int .i64))], []⟩, .no, .no, .draw false []]
def E166 (N : Nat) : Entry := entry [.c (.sl 1), .c (.int .i64), .c (.int .i64)] [] fun a => F_slices_heapSortOrdered_int N a.1 a.2.1 a.2.2
noncomputable def C166 : MC := mcOf (comp Tryz.prog 56 [] [] (bodyOf Tryz.f166) none H166)
theorem S166 (N : Nat) : Sound Tryz.prog 166 (E166 N) :=
  sound_of (C := [(177, E177 N)]) (N := N) (ntmps := 56) (priv := []) (pu := []) (hs := H166) (mc := C166) (c := bodyOf Tryz.f166) (allS_get (⟨S177 N, trivial⟩ : AllS Tryz.prog [(177, E177 N)])) Tryz.func166 (by kernel_rfl) (by kernel_rfl) (by kernel_rfl) (Nat.le_of_ble_eq_true (by kernel_rfl)) (by kernel_rfl) (by kernel_rfl) (fun a => by kernel_rfl)

/-- slices.nextPowerOfTwo -/
def H178 : List Hint := []
def E178 (N : Nat) : Entry := entry [.c (.int .i64)] [.s 2 (.c (.int .u64))] fun a => F_slices_nextPowerOfTwo N a
noncomputable def C178 : MC := mcOf (comp Tryz.prog 7 [] [] (bodyOf Tryz.f178) none H178)
theorem S178 (N : Nat) : Sound Tryz.prog 178 (E178 N) :=
  sound_of (C := [(161, E161 N)]) (N := N) (ntmps := 7) (priv := []) (pu := []) (hs := H178) (mc := C178) (c := bodyOf Tryz.f178) (allS_get (⟨S161 N, trivial⟩ : AllS Tryz.prog [(161, E161 N)])) Tryz.func178 (by kernel_rfl) (by kernel_rfl) (by kernel_rfl) (Nat.le_of_ble_eq_true (by kernel_rfl)) (by kernel_rfl) (by kernel_rfl) (fun a => by kernel_rfl)

/-- (*slices.xorshift).Next -/
def H179 : List Hint := [.draw false [], .draw false [], .draw false []]
def E179 (N : Nat) : Entry := entry [.c .ptr] [.s 2 (.c (.int .u64))] fun a => F_slices_xorshift_Next N a
noncomputable def C179 : MC := mcOf (comp Tryz.prog 33 [] [] (bodyOf Tryz.f179) none H179)
theorem S179 (N : Nat) : Sound Tryz.prog 179 (E179 N) :=
  sound_of (C := []) (N := N) (ntmps := 33) (priv := []) (pu := []) (hs := H179) (mc := C179) (c := bodyOf Tryz.f179) (allS_get (trivial : AllS Tryz.prog [])) Tryz.func179 (by kernel_rfl) (by kernel_rfl) (by kernel_rfl) (Nat.le_of_ble_eq_true (by kernel_rfl)) (by kernel_rfl) (by kernel_rfl) (fun a => by kernel_rfl)

/-- slices.breakPatternsOrdered[int] -/
def H167 : List Hint := [.join [(.normal, ⟨[], []⟩)], .join [(.normal, ⟨[], []⟩)], .loop ⟨[.s 9 (.c (.int .i64))], []⟩, .no, .no, .join [(.normal, ⟨[.s 10 (.c (.int .i64))], []⟩)], .draw false []]
def E167 (N : Nat) : Entry := entry [.c (.sl 1), .c (.int .i64), .c (.int .i64)] [] fun a => F_slices_breakPatternsOrdered_int N a.1 a.2.1 a.2.2
noncomputable def C167 : MC := mcOf (comp Tryz.prog 65 [] [] (bodyOf Tryz.f167) none H167)
theorem S167 (N : Nat) : Sound Tryz.prog 167 (E167 N) :=
  sound_of (C := [(178, E178 N), (179, E179 N)]) (N := N) (ntmps := 65) (priv := []) (pu := []) (hs := H167) (mc := C167) (c := bodyOf Tryz.f167) (allS_get (⟨S178 N, ⟨S179 N, trivial⟩⟩ : AllS Tryz.prog [(178, E178 N), (179, E179 N)])) Tryz.func167 (by kernel_rfl) (by kernel_rfl) (by kernel_rfl) (Nat.le_of_ble_eq_true (by kernel_rfl)) (by kernel_rfl) (by kernel_rfl) (fun a => by kernel_rfl)

/-- slices.order2Ordered[int] -/
def H183 : List Hint := [.draw false [], .no]
def E183 (N : Nat) : Entry := entry [.c (.sl 1), .c (.int .i64), .c (.int .i64), .c .ptr] [.s 8 (.c (.int .i64)), .s 9 (.c (.int .i64))] fun a => F_slices_order2Ordered_int N a.1 a.2.1 a.2.2.1 a.2.2.2
noncomputable def C183 : MC := mcOf (comp Tryz.prog 28 [] [] (bodyOf Tryz.f183) none H183)
theorem S183 (N : Nat) : Sound Tryz.prog 183 (E183 N) :=
  sound_of (C := [(171, E171 N)]) (N := N) (ntmps := 28) (priv := []) (pu := []) (hs := H183) (mc := C183) (c := bodyOf Tryz.f183) (allS_get (⟨S171 N, trivial⟩ : AllS Tryz.prog [(171, E171 N)])) Tryz.func183 (by kernel_rfl) (by kernel_rfl) (by kernel_rfl) (Nat.le_of_ble_eq_true (by kernel_rfl)) (by kernel_rfl) (by kernel_rfl) (fun a => by kernel_rfl)

/-- slices.medianOrdered[int] -/
def H181 : List Hint := []
def E181 (N : Nat) : Entry := entry [.c (.sl 1), .c (.int .i64), .c (.int .i64), .c (.int .i64), .c .ptr] [.s 10 (.c (.int .i64))] fun a => F_slices_medianOrdered_int N a.1 a.2.1 a.2.2.1 a.2.2.2.1 a.2.2.2.2
noncomputable def C181 : MC := mcOf (comp Tryz.prog 36 [] [] (bodyOf Tryz.f181) none H181)
theorem S181 (N : Nat) : Sound Tryz.prog 181 (E181 N) :=
  sound_of (C := [(183, E183 N)]) (N := N) (ntmps := 36) (priv := []) (pu := []) (hs := H181) (mc := C181) (c := bodyOf Tryz.f181) (allS_get (⟨S183 N, trivial⟩ : AllS Tryz.prog [(183, E183 N)])) Tryz.func181 (by kernel_rfl) (by kernel_rfl) (by kernel_rfl) (Nat.le_of_ble_eq_true (by kernel_rfl)) (by kernel_rfl) (by kernel_rfl) (fun a => by kernel_rfl)

/-- slices.medianAdjacentOrdered[int] -/
def H180 : List Hint := []
def E180 (N : Nat) : Entry := entry [.c (.sl 1), .c (.int .i64), .c .ptr] [.s 6 (.c (.int .i64))] fun a => F_slices_medianAdjacentOrdered_int N a.1 a.2.1 a.2.2
noncomputable def C180 : MC := mcOf (comp Tryz.prog 15 [] [] (bodyOf Tryz.f180) none H180)
theorem S180 (N : Nat) : Sound Tryz.prog 180 (E180 N) :=
  sound_of (C := [(181, E181 N)]) (N := N) (ntmps := 15) (priv := []) (pu := []) (hs := H180) (mc := C180) (c := bodyOf Tryz.f180) (allS_get (⟨S181 N, trivial⟩ : AllS Tryz.prog [(181, E181 N)])) Tryz.func180 (by kernel_rfl) (by kernel_rfl) (by kernel_rfl) (Nat.le_of_ble_eq_true (by kernel_rfl)) (by kernel_rfl) (by kernel_rfl) (fun a => by kernel_rfl)

/-- slices.choosePivotOrdered[int] -/
def H168 : List Hint := [.join [(.normal, ⟨[.s 11 (.c (.int .i64))], []⟩)], .join [(.normal, ⟨[.s 10 (.c (.int .i64)), .s 11 (.c (.int .i64)), .s 12 (.c (.int .i64))], []⟩)], .no, .no, .no]
def E168 (N : Nat) : Entry := entry [.c (.sl 1), .c (.int .i64), .c (.int .i64)] [.s 6 (.c (.int .i64)), .s 7 (.c (.int .i64))] fun a => F_slices_choosePivotOrdered_int N a.1 a.2.1 a.2.2
noncomputable def C168 : MC := mcOf (comp Tryz.prog 57 [] [] (bodyOf Tryz.f168) none H168)
theorem S168 (N : Nat) : Sound Tryz.prog 168 (E168 N) :=
  sound_of (C := [(180, E180 N), (181, E181 N)]) (N := N) (ntmps := 57) (priv := []) (pu := []) (hs := H168) (mc := C168) (c := bodyOf Tryz.f168) (allS_get (⟨S180 N, ⟨S181 N, trivial⟩⟩ : AllS Tryz.prog [(180, E180 N), (181, E181 N)])) Tryz.func168 (by kernel_rfl) (by kernel_rfl) (by kernel_rfl) (Nat.le_of_ble_eq_true (by kernel_rfl)) (by kernel_rfl) (by kernel_rfl) (fun a => by kernel_rfl)

/-- slices.reverseRangeOrdered[int] -/
def H169 : List Hint := [.join [(.normal, ⟨[], []⟩)], .loop ⟨[.s 6 (.c (.int .i64)), .s 7 (.c (.int .i64))], []⟩, .no, .no, .draw false []]
def E169 (N : Nat) : Entry := entry [.c (.sl 1), .c (.int .i64), .c (.int .i64)] [] fun a => F_slices_reverseRangeOrdered_int N a.1 a.2.1 a.2.2
noncomputable def C169 : MC := mcOf (comp Tryz.prog 32 [] [] (bodyOf Tryz.f169) none H169)
theorem S169 (N : Nat) : Sound Tryz.prog 169 (E169 N) :=
  sound_of (C := []) (N := N) (ntmps := 32) (priv := []) (pu := []) (hs := H169) (mc := C169) (c := bodyOf Tryz.f169) (allS_get (trivial : AllS Tryz.prog [])) Tryz.func169 (by kernel_rfl) (by kernel_rfl) (by kernel_rfl) (Nat.le_of_ble_eq_true (by kernel_rfl)) (by kernel_rfl) (by kernel_rfl) (fun a => by kernel_rfl)

/-- slices.partialInsertionSortOrdered[int] -/
def H170 : List Hint := [.join [(.normal, ⟨[], []⟩), (.ret, ⟨[.s 6 (.c .bool)], []⟩)], .loop ⟨[.s 7 (.c (.int .i64)), .s 8 (.c (.int .i64))], []⟩, .no, .no, .join [(.normal, ⟨[.s 7 (.c (.int .i64))], []⟩)], .loop ⟨[.s 7 (.c (.int .i64))], []⟩, .draw false [], .no, .no, .no, .no, .draw false [], .join [(.normal, ⟨[], []⟩)], .join [(.normal, ⟨[], []⟩)], .loop ⟨[.s 9 (.c (.int .i64))], []⟩, .no, .no, .draw false [], .no, .draw false [], .join [(.normal, ⟨[], []⟩)], .join [(.normal, ⟨[], []⟩)], .loop ⟨[.s 10 (.c (.int .i64))], []⟩, .no, .no, .draw false [], .no, .draw false []]
def E170 (N : Nat) : Entry := entry [.c (.sl 1), .c (.int .i64), .c (.int .i64)] [.s 6 (.c .bool)] fun a => F_slices_partialInsertionSortOrdered_int N a.1 a.2.1 a.2.2
noncomputable def C170 : MC := mcOf (comp Tryz.prog 133 [] [] (bodyOf Tryz.f170) none H170)
theorem S170 (N : Nat) : Sound Tryz.prog 170 (E170 N) :=
  sound_of (C := [(171, E171 N)]) (N := N) (ntmps := 133) (priv := []) (pu := []) (hs := H170) (mc := C170) (c := bodyOf Tryz.f170) (allS_get (⟨S171 N, trivial⟩ : AllS Tryz.prog [(171, E171 N)])) Tryz.func170 (by kernel_rfl) (by kernel_rfl) (by kernel_rfl) (Nat.le_of_ble_eq_true (by kernel_rfl)) (by kernel_rfl) (by kernel_rfl) (fun a => by kernel_rfl)

/-- slices.partitionEqualOrdered[int] -/
def H172 : List Hint := [.draw false [], .join [(.normal, ⟨[.s 9 (.c (.int .i64))], []⟩)], .loop ⟨[.s 9 (.c (.int .i64)), .s 10 (.c (.int .i64))], []⟩, .no, .join [(.normal, ⟨[.s 9 (.c (.int .i64))], []⟩)], .loop ⟨[.s 9 (.c (.int .i64))], []⟩, .draw false [], .no, .no, .join [(.normal, ⟨[.s 10 (.c (.int .i64))], []⟩)], .loop ⟨[.s 10 (.c (.int .i64))], []⟩, .draw false [], .no, .no, .no, .draw false []]
def E172 (N : Nat) : Entry := entry [.c (.sl 1), .c (.int .i64), .c (.int .i64), .c (.int .i64)] [.s 8 (.c (.int .i64))] fun a => F_slices_partitionEqualOrdered_int N a.1 a.2.1 a.2.2.1 a.2.2.2
noncomputable def C172 : MC := mcOf (comp Tryz.prog 84 [] [] (bodyOf Tryz.f172) none H172)
theorem S172 (N : Nat) : Sound Tryz.prog 172 (E172 N) :=
  sound_of (C := [(171, E171 N)]) (N := N) (ntmps := 84) (priv := []) (pu := []) (hs := H172) (mc := C172) (c := bodyOf Tryz.f172) (allS_get (⟨S171 N, trivial⟩ : AllS Tryz.prog [(171, E171 N)])) Tryz.func172 (by kernel_rfl) (by kernel_rfl) (by kernel_rfl) (Nat.le_of_ble_eq_true (by kernel_rfl)) (by kernel_rfl) (by kernel_rfl) (fun a => by kernel_rfl)

/-- slices.partitionOrdered[int] -/
def H173 : List Hint := [.draw false [], .join [(.normal, ⟨[.s 10 (.c (.int .i64))], []⟩)], .loop ⟨[.s 10 (.c (.int .i64))], []⟩, .draw false [], .no, .no, .join [(.normal, ⟨[.s 11 (.c (.int .i64))], []⟩)], .loop ⟨[.s 11 (.c (.int .i64))], []⟩, .draw false [], .no, .no, .no, .draw false [], .draw false [], .join [(.normal, ⟨[.s 11 (.c (.int .i64))], []⟩)], .loop ⟨[.s 10 (.c (.int .i64)), .s 11 (.c (.int .i64))], []⟩, .no, .join [(.normal, ⟨[.s 10 (.c (.int .i64))], []⟩)], .loop ⟨[.s 10 (.c (.int .i64))], []⟩, .draw false [], .no, .no, .join [(.normal, ⟨[.s 11 (.c (.int .i64))], []⟩)], .loop ⟨[.s 11 (.c (.int .i64))], []⟩, .draw false [], .no, .no, .no, .draw false [], .draw false []]
def E173 (N : Nat) : Entry := entry [.c (.sl 1), .c (.int .i64), .c (.int .i64), .c (.int .i64)] [.s 8 (.c (.int .i64)), .s 9 (.c .bool)] fun a => F_slices_partitionOrdered_int N a.1 a.2.1 a.2.2.1 a.2.2.2
noncomputable def C173 : MC := mcOf (comp Tryz.prog 168 [] [] (bodyOf Tryz.f173) none H173)
theorem S173 (N : Nat) : Sound Tryz.prog 173 (E173 N) :=
  sound_of (C := [(171, E171 N)]) (N := N) (ntmps := 168) (priv := []) (pu := []) (hs := H173) (mc := C173) (c := bodyOf Tryz.f173) (allS_get (⟨S171 N, trivial⟩ : AllS Tryz.prog [(171, E171 N)])) Tryz.func173 (by kernel_rfl) (by kernel_rfl) (by kernel_rfl) (Nat.le_of_ble_eq_true (by kernel_rfl)) (by kernel_rfl) (by kernel_rfl) (fun a => by kernel_rfl)

/-- slices.pdqsortOrdered[int] -/
def H160 : List Hint := [.join [(.ret, ⟨[], []⟩)], .loop ⟨[.s 1 (.c (.int .i64)), .s 2 (.c (.int .i64)), .s 3 (.c (.int .i64)), .s 8 (.c .bool), .s 9 (.c .bool)], []⟩, .no, .no, .no, .join [(.normal, ⟨[.s 3 (.c (.int .i64))], []⟩)], .join [(.normal, ⟨[.s 11 (.c (.int .i64)), .s 12 (.c (.int .i64))], []⟩)], .join [(.normal, ⟨[], []⟩), (.ret, ⟨[], []⟩)], .no, .draw false [], .no, .no, .cut 26, .cut 29]
def E160 (N : Nat) : Entry := entry [.c (.sl 1), .c (.int .i64), .c (.int .i64), .c (.int .i64)] [] fun a => F_slices_pdqsortOrdered_int N a.1 a.2.1 a.2.2.1 a.2.2.2
noncomputable def C160 : MC := mcOf (comp Tryz.prog 134 [] [] (bodyOf Tryz.f160) none H160)
theorem S160 (N : Nat) : Sound Tryz.prog 160 (E160 N) :=
  sound_of (C := [(165, E165 N), (166, E166 N), (167, E167 N), (168, E168 N), (169, E169 N), (170, E170 N), (171, E171 N), (172, E172 N), (173, E173 N)]) (N := N) (ntmps := 134) (priv := []) (pu := []) (hs := H160) (mc := C160) (c := bodyOf Tryz.f160) (allS_get (⟨S165 N, ⟨S166 N, ⟨S167 N, ⟨S168 N, ⟨S169 N, ⟨S170 N, ⟨S171 N, ⟨S172 N, ⟨S173 N, trivial⟩⟩⟩⟩⟩⟩⟩⟩⟩ : AllS Tryz.prog [(165, E165 N), (166, E166 N), (167, E167 N), (168, E168 N), (169, E169 N), (170, E170 N), (171, E171 N), (172, E172 N), (173, E173 N)])) Tryz.func160 (by kernel_rfl) (by kernel_rfl) (by kernel_rfl) (Nat.le_of_ble_eq_true (by kernel_rfl)) (by kernel_rfl) (by kernel_rfl) (fun a => by kernel_rfl)

/-- slices.Sort[[]int,int] -/
def H149 : List Hint := []
def E149 (N : Nat) : Entry := entry [.c (.sl 1)] [] fun a => F_slices_Sort_Lint_int N a
noncomputable def C149 : MC := mcOf (comp Tryz.prog 11 [] [] (bodyOf Tryz.f149) none H149)
theorem S149 (N : Nat) : Sound Tryz.prog 149 (E149 N) :=
  sound_of (C := [(161, E161 N), (160, E160 N)]) (N := N) (ntmps := 11) (priv := []) (pu := []) (hs := H149) (mc := C149) (c := bodyOf Tryz.f149) (allS_get (⟨S161 N, ⟨S160 N, trivial⟩⟩ : AllS Tryz.prog [(161, E161 N), (160, E160 N)])) Tryz.func149 (by kernel_rfl) (by kernel_rfl) (by kernel_rfl) (Nat.le_of_ble_eq_true (by kernel_rfl)) (by kernel_rfl) (by kernel_rfl) (fun a => by kernel_rfl)

/-- slices.Sorted[int] -/
def H118 : List Hint := []
def E118 (N : Nat) : Entry := entry [.c .any] [.s 2 (.c (.sl 1))] fun a => F_slices_Sorted_int N a
noncomputable def C118 : MC := mcOf (comp Tryz.prog 9 [] [] (bodyOf Tryz.f118) none H118)
theorem S118 (N : Nat) : Sound Tryz.prog 118 (E118 N) :=
  sound_of (C := [(148, E148 N), (149, E149 N)]) (N := N) (ntmps := 9) (priv := []) (pu := []) (hs := H118) (mc := C118) (c := bodyOf Tryz.f118) (allS_get (⟨S148 N, ⟨S149 N, trivial⟩⟩ : AllS Tryz.prog [(148, E148 N), (149, E149 N)])) Tryz.func118 (by kernel_rfl) (by kernel_rfl) (by kernel_rfl) (Nat.le_of_ble_eq_true (by kernel_rfl)) (by kernel_rfl) (by kernel_rfl) (fun a => by kernel_rfl)

/-- (*moat/volume.Volume).patches -/
def H69 : List Hint := [.join [(.normal, ⟨[.s 5 (.c (.sl 3))], []⟩)], .loop ⟨[.s 5 (.c (.sl 3)), .s 12 (.c (.int .i64))], []⟩, .no, .no, .draw false [], .join [(.normal, ⟨[.s 5 (.c (.sl 3))], []⟩)], .join [(.normal, ⟨[.s 5 (.c (.sl 3))], []⟩)], .loop ⟨[.s 5 (.c (.sl 3)), .s 49 (.c (.int .i64))], []⟩, .no, .no]
def E69 (N : Nat) : Entry := entry [.c .ptr, .c (.sl 1)] [.s 4 (.c (.sl 3))] fun a => F_volume_Volume_patches N a.1 a.2
noncomputable def C69 : MC := mcOf (comp Tryz.prog 65 [] [] (bodyOf Tryz.f69) none H69)
theorem S69 (N : Nat) : Sound Tryz.prog 69 (E69 N) :=
  sound_of (C := [(119, E119 N), (118, E118 N)]) (N := N) (ntmps := 65) (priv := []) (pu := []) (hs := H69) (mc := C69) (c := bodyOf Tryz.f69) (allS_get (⟨S119 N, ⟨S118 N, trivial⟩⟩ : AllS Tryz.prog [(119, E119 N), (118, E118 N)])) Tryz.func69 (by kernel_rfl) (by kernel_rfl) (by kernel_rfl) (Nat.le_of_ble_eq_true (by kernel_rfl)) (by kernel_rfl) (by kernel_rfl) (fun a => by kernel_rfl)

/-- (*moat/journal.Journal).lay -/
def H115 : List Hint := [.join [(.normal, ⟨[.s 5 (.c (.sl 3))], []⟩)], .loop ⟨[.s 5 (.c (.sl 3)), .s 6 (.c (.int .i64))], []⟩, .no, .no, .join [(.normal, ⟨[.s 8 (.c (.sl 1))], []⟩)], .loop ⟨[.s 8 (.c (.sl 1)), .s 32 (.c (.int .i64))], []⟩, .no, .no, .join [(.normal, ⟨[], []⟩)], .loop ⟨[.s 65 (.c (.int .i64))], []⟩, .no, .no]
def E115 (N : Nat) : Entry := entry [.c .ptr, .c (.sl 3)] [.s 4 (.c (.sl 3))] fun a => F_journal_Journal_lay N a.1 a.2
noncomputable def C115 : MC := mcOf (comp Tryz.prog 81 [10] [10, 37, 40] (bodyOf Tryz.f115) none H115)
theorem S115 (N : Nat) : Sound Tryz.prog 115 (E115 N) :=
  sound_of (C := [(137, E137 N), (138, E138 N)]) (N := N) (ntmps := 81) (priv := [10]) (pu := [10, 37, 40]) (hs := H115) (mc := C115) (c := bodyOf Tryz.f115) (allS_get (⟨S137 N, ⟨S138 N, trivial⟩⟩ : AllS Tryz.prog [(137, E137 N), (138, E138 N)])) Tryz.func115 (by kernel_rfl) (by kernel_rfl) (by kernel_rfl) (Nat.le_of_ble_eq_true (by kernel_rfl)) (by kernel_rfl) (by kernel_rfl) (fun a => by kernel_rfl)

/-- (*moat/journal.Journal).Commit -/
def H68 : List Hint := [.no, .no, .no, .no, .join [(.normal, ⟨[], []⟩), (.ret, ⟨[.s 4 (.c (.int .i64))], []⟩)], .loop ⟨[.s 26 (.c (.int .i64))], []⟩, .no, .no, .no, .no, .join [(.normal, ⟨[], []⟩), (.ret, ⟨[.s 4 (.c (.int .i64))], []⟩)], .loop ⟨[.s 65 (.c (.int .i64))], []⟩, .no, .no, .no]
def E68 (N : Nat) : Entry := entry [.c .ptr, .c (.sl 3)] [.s 4 (.c (.int .i64))] fun a => F_journal_Journal_Commit N a.1 a.2
noncomputable def C68 : MC := mcOf (comp Tryz.prog 80 [6] [6, 31, 36] (bodyOf Tryz.f68) none H68)
theorem S68 (N : Nat) : Sound Tryz.prog 68 (E68 N) :=
  sound_of (C := [(64, E64 N), (114, E114 N), (115, E115 N), (116, E116 N), (117, E117 N)]) (N := N) (ntmps := 80) (priv := [6]) (pu := [6, 31, 36]) (hs := H68) (mc := C68) (c := bodyOf Tryz.f68) (allS_get (⟨S64 N, ⟨S114 N, ⟨S115 N, ⟨S116 N, ⟨S117 N, trivial⟩⟩⟩⟩⟩ : AllS Tryz.prog [(64, E64 N), (114, E114 N), (115, E115 N), (116, E116 N), (117, E117 N)])) Tryz.func68 (by kernel_rfl) (by kernel_rfl) (by kernel_rfl) (Nat.le_of_ble_eq_true (by kernel_rfl)) (by kernel_rfl) (by kernel_rfl) (fun a => by kernel_rfl)

/-- (*moat/volume.Volume).Sync -/
def H21 : List Hint := [.no, .no, .no, .draw false [], .draw true [], .no]
def E21 (N : Nat) : Entry := entry [.c .ptr] [.s 2 (.c (.int .i64))] fun a => F_volume_Volume_Sync N a
noncomputable def C21 : MC := mcOf (comp Tryz.prog 55 [] [] (bodyOf Tryz.f21) none H21)
theorem S21 (N : Nat) : Sound Tryz.prog 21 (E21 N) :=
  sound_of (C := [(67, E67 N), (69, E69 N), (68, E68 N)]) (N := N) (ntmps := 55) (priv := []) (pu := []) (hs := H21) (mc := C21) (c := bodyOf Tryz.f21) (allS_get (⟨S67 N, ⟨S69 N, ⟨S68 N, trivial⟩⟩⟩ : AllS Tryz.prog [(67, E67 N), (69, E69 N), (68, E68 N)])) Tryz.func21 (by kernel_rfl) (by kernel_rfl) (by kernel_rfl) (Nat.le_of_ble_eq_true (by kernel_rfl)) (by kernel_rfl) (by kernel_rfl) (fun a => by kernel_rfl)

/-- (*moat/volume.Volume).Begin -/
def H19 : List Hint := [.no, .draw true [], .join [(.normal, ⟨[], []⟩), (.ret, ⟨[.s 2 (.c (.int .i64))], []⟩)], .no]
def E19 (N : Nat) : Entry := entry [.c .ptr] [.s 2 (.c (.int .i64))] fun a => F_volume_Volume_Begin N a
noncomputable def C19 : MC := mcOf (comp Tryz.prog 35 [] [] (bodyOf Tryz.f19) none H19)
theorem S19 (N : Nat) : Sound Tryz.prog 19 (E19 N) :=
  sound_of (C := [(40, E40 N), (64, E64 N), (65, E65 N), (21, E21 N), (66, E66 N)]) (N := N) (ntmps := 35) (priv := []) (pu := []) (hs := H19) (mc := C19) (c := bodyOf Tryz.f19) (allS_get (⟨S40 N, ⟨S64 N, ⟨S65 N, ⟨S21 N, ⟨S66 N, trivial⟩⟩⟩⟩⟩ : AllS Tryz.prog [(40, E40 N), (64, E64 N), (65, E65 N), (21, E21 N), (66, E66 N)])) Tryz.func19 (by kernel_rfl) (by kernel_rfl) (by kernel_rfl) (Nat.le_of_ble_eq_true (by kernel_rfl)) (by kernel_rfl) (by kernel_rfl) (fun a => by kernel_rfl)

/-- (*moat/volume.Volume).Geo -/
def H36 : List Hint := [.no]
def E36 (N : Nat) : Entry := entry [.c .ptr] [.m 2 (.st [.int .i64, .int .i64, .int .i64, .int .i64])] fun a => F_volume_Volume_Geo N a
noncomputable def C36 : MC := mcOf (comp Tryz.prog 10 [2] [2] (bodyOf Tryz.f36) none H36)
theorem S36 (N : Nat) : Sound Tryz.prog 36 (E36 N) :=
  sound_of (C := []) (N := N) (ntmps := 10) (priv := [2]) (pu := [2]) (hs := H36) (mc := C36) (c := bodyOf Tryz.f36) (allS_get (trivial : AllS Tryz.prog [])) Tryz.func36 (by kernel_rfl) (by kernel_rfl) (by kernel_rfl) (Nat.le_of_ble_eq_true (by kernel_rfl)) (by kernel_rfl) (by kernel_rfl) (fun a => by kernel_rfl)

/-- (*moat/volume.Volume).Meta -/
def H22 : List Hint := [.no]
def E22 (N : Nat) : Entry := entry [.c .ptr] [.m 2 (.st [.sl 2, .sl 1, .sl 1, .sl 14])] fun a => F_volume_Volume_Meta N a
noncomputable def C22 : MC := mcOf (comp Tryz.prog 12 [2] [2] (bodyOf Tryz.f22) none H22)
theorem S22 (N : Nat) : Sound Tryz.prog 22 (E22 N) :=
  sound_of (C := [(70, E70 N)]) (N := N) (ntmps := 12) (priv := [2]) (pu := [2]) (hs := H22) (mc := C22) (c := bodyOf Tryz.f22) (allS_get (⟨S70 N, trivial⟩ : AllS Tryz.prog [(70, E70 N)])) Tryz.func22 (by kernel_rfl) (by kernel_rfl) (by kernel_rfl) (Nat.le_of_ble_eq_true (by kernel_rfl)) (by kernel_rfl) (by kernel_rfl) (fun a => by kernel_rfl)

/-- (*moat/volume.Volume).Write -/
def H18 : List Hint := [.no, .no]
def E18 (N : Nat) : Entry := entry [.c .ptr, .c (.int .i64), .c (.sl 1)] [.s 6 (.c (.int .i64))] fun a => F_volume_Volume_Write N a.1 a.2.1 a.2.2
noncomputable def C18 : MC := mcOf (comp Tryz.prog 26 [] [] (bodyOf Tryz.f18) none H18)
theorem S18 (N : Nat) : Sound Tryz.prog 18 (E18 N) :=
  sound_of (C := [(62, E62 N), (61, E61 N), (63, E63 N)]) (N := N) (ntmps := 26) (priv := []) (pu := []) (hs := H18) (mc := C18) (c := bodyOf Tryz.f18) (allS_get (⟨S62 N, ⟨S61 N, ⟨S63 N, trivial⟩⟩⟩ : AllS Tryz.prog [(62, E62 N), (61, E61 N), (63, E63 N)])) Tryz.func18 (by kernel_rfl) (by kernel_rfl) (by kernel_rfl) (Nat.le_of_ble_eq_true (by kernel_rfl)) (by kernel_rfl) (by kernel_rfl) (fun a => by kernel_rfl)

/-- (*moat/volume.Volume).Unmake -/
def H38 : List Hint := [.no]
def E38 (N : Nat) : Entry := entry [.c .ptr, .c (.int .i64)] [.s 4 (.c (.int .i64))] fun a => F_volume_Volume_Unmake N a.1 a.2
noncomputable def C38 : MC := mcOf (comp Tryz.prog 34 [] [] (bodyOf Tryz.f38) none H38)
theorem S38 (N : Nat) : Sound Tryz.prog 38 (E38 N) :=
  sound_of (C := [(80, E80 N), (86, E86 N)]) (N := N) (ntmps := 34) (priv := []) (pu := []) (hs := H38) (mc := C38) (c := bodyOf Tryz.f38) (allS_get (⟨S80 N, ⟨S86 N, trivial⟩⟩ : AllS Tryz.prog [(80, E80 N), (86, E86 N)])) Tryz.func38 (by kernel_rfl) (by kernel_rfl) (by kernel_rfl) (Nat.le_of_ble_eq_true (by kernel_rfl)) (by kernel_rfl) (by kernel_rfl) (fun a => by kernel_rfl)

/-- (*moat/volume.Volume).Set -/
def H39 : List Hint := [.no, .no, .no, .no, .draw false [], .no, .draw false []]
def E39 (N : Nat) : Entry := entry [.c .ptr, .c (.int .i64), .agg 14] [.s 6 (.c (.int .i64))] fun a => F_volume_Volume_Set N a.1 a.2.1 a.2.2
noncomputable def C39 : MC := mcOf (comp Tryz.prog 70 [5] [] (bodyOf Tryz.f39) none H39)
theorem S39 (N : Nat) : Sound Tryz.prog 39 (E39 N) :=
  sound_of (C := [(80, E80 N), (87, E87 N)]) (N := N) (ntmps := 70) (priv := [5]) (pu := []) (hs := H39) (mc := C39) (c := bodyOf Tryz.f39) (allS_get (⟨S80 N, ⟨S87 N, trivial⟩⟩ : AllS Tryz.prog [(80, E80 N), (87, E87 N)])) Tryz.func39 (by kernel_rfl) (by kernel_rfl) (by kernel_rfl) (Nat.le_of_ble_eq_true (by kernel_rfl)) (by kernel_rfl) (by kernel_rfl) (fun a => by kernel_rfl)

/-- moat/moatlaw15.parted -/
def H11 : List Hint := []
def E11 (N : Nat) : Entry := entry [] [.m 0 (.st [.int .i64, .int .i64, .int .i64, .int .i64])] fun a => F_moatlaw15_parted N
noncomputable def C11 : MC := mcOf (comp Tryz.prog 2 [0] [0] (bodyOf Tryz.f11) none H11)
theorem S11 (N : Nat) : Sound Tryz.prog 11 (E11 N) :=
  sound_of (C := []) (N := N) (ntmps := 2) (priv := [0]) (pu := [0]) (hs := H11) (mc := C11) (c := bodyOf Tryz.f11) (allS_get (trivial : AllS Tryz.prog [])) Tryz.func11 (by kernel_rfl) (by kernel_rfl) (by kernel_rfl) (Nat.le_of_ble_eq_true (by kernel_rfl)) (by kernel_rfl) (by kernel_rfl) (fun a => by kernel_rfl)

/-- moat/moatlaw15.VolumeNil -/
def H7 : List Hint := []
def E7 (N : Nat) : Entry := entry [.agg 20] [.s 2 (.c .bool)] fun a => F_moatlaw15_VolumeNil N a
noncomputable def C7 : MC := mcOf (comp Tryz.prog 162 [1, 11] [] (bodyOf Tryz.f7) none H7)
theorem S7 (N : Nat) : Sound Tryz.prog 7 (E7 N) :=
  sound_of (C := [(9, E9 N), (15, E15 N), (16, E16 N), (35, E35 N), (32, E32 N), (31, E31 N), (20, E20 N), (19, E19 N), (21, E21 N), (36, E36 N), (22, E22 N), (37, E37 N), (18, E18 N), (38, E38 N), (39, E39 N), (40, E40 N), (11, E11 N), (41, E41 N)]) (N := N) (ntmps := 162) (priv := [1, 11]) (pu := []) (hs := H7) (mc := C7) (c := bodyOf Tryz.f7) (allS_get (⟨S9 N, ⟨S15 N, ⟨S16 N, ⟨S35 N, ⟨S32 N, ⟨S31 N, ⟨S20 N, ⟨S19 N, ⟨S21 N, ⟨S36 N, ⟨S22 N, ⟨S37 N, ⟨S18 N, ⟨S38 N, ⟨S39 N, ⟨S40 N, ⟨S11 N, ⟨S41 N, trivial⟩⟩⟩⟩⟩⟩⟩⟩⟩⟩⟩⟩⟩⟩⟩⟩⟩⟩ : AllS Tryz.prog [(9, E9 N), (15, E15 N), (16, E16 N), (35, E35 N), (32, E32 N), (31, E31 N), (20, E20 N), (19, E19 N), (21, E21 N), (36, E36 N), (22, E22 N), (37, E37 N), (18, E18 N), (38, E38 N), (39, E39 N), (40, E40 N), (11, E11 N), (41, E41 N)])) Tryz.func7 (by kernel_rfl) (by kernel_rfl) (by kernel_rfl) (Nat.le_of_ble_eq_true (by kernel_rfl)) (by kernel_rfl) (by kernel_rfl) (fun a => by kernel_rfl)

/-- (*moat/disk.Disk).Done -/
def H24 : List Hint := [.no]
def E24 (N : Nat) : Entry := entry [.c .ptr] [.s 2 (.c (.int .i64))] fun a => F_disk_Disk_Done N a
noncomputable def C24 : MC := mcOf (comp Tryz.prog 9 [] [] (bodyOf Tryz.f24) none H24)
theorem S24 (N : Nat) : Sound Tryz.prog 24 (E24 N) :=
  sound_of (C := []) (N := N) (ntmps := 9) (priv := []) (pu := []) (hs := H24) (mc := C24) (c := bodyOf Tryz.f24) (allS_get (trivial : AllS Tryz.prog [])) Tryz.func24 (by kernel_rfl) (by kernel_rfl) (by kernel_rfl) (Nat.le_of_ble_eq_true (by kernel_rfl)) (by kernel_rfl) (by kernel_rfl) (fun a => by kernel_rfl)

/-- (*moat/disk.Disk).Tag -/
def H27 : List Hint := []
def E27 (N : Nat) : Entry := entry [.c .ptr, .c (.int .i64)] [.s 4 (.c (.int .u16)), .s 5 (.c (.int .i64))] fun a => F_disk_Disk_Tag N a.1 a.2
noncomputable def C27 : MC := mcOf (comp Tryz.prog 17 [6] [] (bodyOf Tryz.f27) none H27)
theorem S27 (N : Nat) : Sound Tryz.prog 27 (E27 N) :=
  sound_of (C := [(71, E71 N)]) (N := N) (ntmps := 17) (priv := [6]) (pu := []) (hs := H27) (mc := C27) (c := bodyOf Tryz.f27) (allS_get (⟨S71 N, trivial⟩ : AllS Tryz.prog [(71, E71 N)])) Tryz.func27 (by kernel_rfl) (by kernel_rfl) (by kernel_rfl) (Nat.le_of_ble_eq_true (by kernel_rfl)) (by kernel_rfl) (by kernel_rfl) (fun a => by kernel_rfl)

end Go.Proofs.YtcaaljlhljemoaaGreat
