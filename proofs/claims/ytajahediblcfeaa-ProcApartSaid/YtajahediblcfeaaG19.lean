/- PRINTED by gen.py: that the code comes to what is printed. Not trusted: Lean checks it. -/
import Derived.Test.YtajahediblcfeaaMU
import Derived.Test.YtajahediblcfeaaD19
import Derived.Test.YtajahediblcfeaaProg
import Derived.KernelRfl
namespace Go.Proofs.Ytajahediblcfeaa
open Go.Mini Go.Moat
set_option maxRecDepth 100000

/-- moat/proc.New -/
def H9 : List Hint := [.no]
def E9 (N : Nat) : Entry := entry [.c (.int .i64)] [.s 2 (.c .ptr), .s 3 (.c (.int .i64))] fun a => F_proc_New N a
noncomputable def C9 : MC := mcOf (comp Try.prog 14 [] [] (bodyOf Try.f9) H9)
theorem S9 (N : Nat) : Sound Try.prog 9 (E9 N) :=
  sound_of (C := []) (N := N) (ntmps := 14) (priv := []) (pu := []) (hs := H9) (mc := C9) (c := bodyOf Try.f9) (allS_get (trivial : AllS Try.prog [])) Try.func9 (by kernel_rfl) (by kernel_rfl) (by kernel_rfl) (Nat.le_of_ble_eq_true (by kernel_rfl)) (by kernel_rfl) (by kernel_rfl) (fun a => by kernel_rfl)

/-- (*moat/proc.Table).one -/
def H23 : List Hint := [.no, .no, .no]
def E23 (N : Nat) : Entry := entry [.c .ptr, .c (.int .i64)] [.s 4 (.c .ptr), .s 5 (.c (.int .i64))] fun a => F_proc_Table_one N a.1 a.2
noncomputable def C23 : MC := mcOf (comp Try.prog 27 [] [] (bodyOf Try.f23) H23)
theorem S23 (N : Nat) : Sound Try.prog 23 (E23 N) :=
  sound_of (C := []) (N := N) (ntmps := 27) (priv := []) (pu := []) (hs := H23) (mc := C23) (c := bodyOf Try.f23) (allS_get (trivial : AllS Try.prog [])) Try.func23 (by kernel_rfl) (by kernel_rfl) (by kernel_rfl) (Nat.le_of_ble_eq_true (by kernel_rfl)) (by kernel_rfl) (by kernel_rfl) (fun a => by kernel_rfl)

/-- slices.Index[[]*moat/api.Fd,*moat/api.Fd] -/
def H24 : List Hint := [.join [(.normal, ⟨[], []⟩), (.ret, ⟨[.s 4 (.c (.int .i64))], []⟩)], .loop ⟨[.s 8 (.c (.int .i64))], []⟩, .no, .no, .no]
def E24 (N : Nat) : Entry := entry [.c (.sl 1), .c .ptr] [.s 4 (.c (.int .i64))] fun a => F_slices_Index_LPapi_Fd_Papi_Fd N a.1 a.2
noncomputable def C24 : MC := mcOf (comp Try.prog 19 [] [] (bodyOf Try.f24) H24)
theorem S24 (N : Nat) : Sound Try.prog 24 (E24 N) :=
  sound_of (C := []) (N := N) (ntmps := 19) (priv := []) (pu := []) (hs := H24) (mc := C24) (c := bodyOf Try.f24) (allS_get (trivial : AllS Try.prog [])) Try.func24 (by kernel_rfl) (by kernel_rfl) (by kernel_rfl) (Nat.le_of_ble_eq_true (by kernel_rfl)) (by kernel_rfl) (by kernel_rfl) (fun a => by kernel_rfl)

/-- (*moat/proc.Table).Open -/
def H10 : List Hint := [.no, .no, .no, .no]
def E10 (N : Nat) : Entry := entry [.c .ptr, .c (.int .i64), .c (.int .i64)] [.s 6 (.c (.int .i64)), .s 7 (.c (.int .i64))] fun a => F_proc_Table_Open N a.1 a.2.1 a.2.2
noncomputable def C10 : MC := mcOf (comp Try.prog 44 [] [] (bodyOf Try.f10) H10)
theorem S10 (N : Nat) : Sound Try.prog 10 (E10 N) :=
  sound_of (C := [(23, E23 N), (24, E24 N)]) (N := N) (ntmps := 44) (priv := []) (pu := []) (hs := H10) (mc := C10) (c := bodyOf Try.f10) (allS_get (⟨S23 N, ⟨S24 N, trivial⟩⟩ : AllS Try.prog [(23, E23 N), (24, E24 N)])) Try.func10 (by kernel_rfl) (by kernel_rfl) (by kernel_rfl) (Nat.le_of_ble_eq_true (by kernel_rfl)) (by kernel_rfl) (by kernel_rfl) (fun a => by kernel_rfl)

/-- (*moat/proc.Table).has -/
def H25 : List Hint := [.no, .no, .no]
def E25 (N : Nat) : Entry := entry [.c .ptr, .c (.int .i64), .c (.int .i64)] [.s 6 (.c .ptr), .s 7 (.c (.int .i64))] fun a => F_proc_Table_has N a.1 a.2.1 a.2.2
noncomputable def C25 : MC := mcOf (comp Try.prog 42 [] [] (bodyOf Try.f25) H25)
theorem S25 (N : Nat) : Sound Try.prog 25 (E25 N) :=
  sound_of (C := [(23, E23 N)]) (N := N) (ntmps := 42) (priv := []) (pu := []) (hs := H25) (mc := C25) (c := bodyOf Try.f25) (allS_get (⟨S23 N, trivial⟩ : AllS Try.prog [(23, E23 N)])) Try.func25 (by kernel_rfl) (by kernel_rfl) (by kernel_rfl) (Nat.le_of_ble_eq_true (by kernel_rfl)) (by kernel_rfl) (by kernel_rfl) (fun a => by kernel_rfl)

/-- (*moat/proc.Table).Close -/
def H12 : List Hint := [.no]
def E12 (N : Nat) : Entry := entry [.c .ptr, .c (.int .i64), .c (.int .i64)] [.s 6 (.c (.int .i64)), .s 7 (.c (.int .i64))] fun a => F_proc_Table_Close N a.1 a.2.1 a.2.2
noncomputable def C12 : MC := mcOf (comp Try.prog 33 [] [] (bodyOf Try.f12) H12)
theorem S12 (N : Nat) : Sound Try.prog 12 (E12 N) :=
  sound_of (C := [(25, E25 N)]) (N := N) (ntmps := 33) (priv := []) (pu := []) (hs := H12) (mc := C12) (c := bodyOf Try.f12) (allS_get (⟨S25 N, trivial⟩ : AllS Try.prog [(25, E25 N)])) Try.func12 (by kernel_rfl) (by kernel_rfl) (by kernel_rfl) (Nat.le_of_ble_eq_true (by kernel_rfl)) (by kernel_rfl) (by kernel_rfl) (fun a => by kernel_rfl)

/-- (*moat/proc.Table).Holds -/
def H11 : List Hint := [.no, .join [(.normal, ⟨[.s 5 (.c (.int .i64))], []⟩)], .loop ⟨[.s 5 (.c (.int .i64)), .s 18 (.c (.int .i64))], []⟩, .no, .no, .join [(.normal, ⟨[.s 5 (.c (.int .i64))], []⟩)], .loop ⟨[.s 5 (.c (.int .i64)), .s 24 (.c (.int .i64))], []⟩, .no, .no, .join [(.normal, ⟨[.s 5 (.c (.int .i64))], []⟩)]]
def E11 (N : Nat) : Entry := entry [.c .ptr, .c (.int .i64)] [.s 4 (.c (.int .i64))] fun a => F_proc_Table_Holds N a.1 a.2
noncomputable def C11 : MC := mcOf (comp Try.prog 42 [7] [] (bodyOf Try.f11) H11)
theorem S11 (N : Nat) : Sound Try.prog 11 (E11 N) :=
  sound_of (C := []) (N := N) (ntmps := 42) (priv := [7]) (pu := []) (hs := H11) (mc := C11) (c := bodyOf Try.f11) (allS_get (trivial : AllS Try.prog [])) Try.func11 (by kernel_rfl) (by kernel_rfl) (by kernel_rfl) (Nat.le_of_ble_eq_true (by kernel_rfl)) (by kernel_rfl) (by kernel_rfl) (fun a => by kernel_rfl)

/-- moat/moatlaw19.shown -/
def H8 : List Hint := [.no]
def E8 (N : Nat) : Entry := entry [] [.s 0 (.c .bool)] fun a => F_moatlaw19_shown N
noncomputable def C8 : MC := mcOf (comp Try.prog 60 [] [] (bodyOf Try.f8) H8)
theorem S8 (N : Nat) : Sound Try.prog 8 (E8 N) :=
  sound_of (C := [(9, E9 N), (10, E10 N), (12, E12 N), (11, E11 N)]) (N := N) (ntmps := 60) (priv := []) (pu := []) (hs := H8) (mc := C8) (c := bodyOf Try.f8) (allS_get (⟨S9 N, ⟨S10 N, ⟨S12 N, ⟨S11 N, trivial⟩⟩⟩⟩ : AllS Try.prog [(9, E9 N), (10, E10 N), (12, E12 N), (11, E11 N)])) Try.func8 (by kernel_rfl) (by kernel_rfl) (by kernel_rfl) (Nat.le_of_ble_eq_true (by kernel_rfl)) (by kernel_rfl) (by kernel_rfl) (fun a => by kernel_rfl)

/-- moat/moatlaw19.ProcLeast -/
def H3 : List Hint := [.no, .join [(.normal, ⟨[.s 8 (.c (.int .i64))], []⟩), (.ret, ⟨[.s 4 (.c .bool)], []⟩)], .loop ⟨[.s 8 (.c (.int .i64)), .s 36 (.c (.int .i64))], []⟩, .no, .join [(.normal, ⟨[.s 8 (.c (.int .i64))], []⟩), (.ret, ⟨[.s 4 (.c .bool)], []⟩)], .no, .no, .no, .draw true, .no, .no]
def E3 (N : Nat) : Entry := entry [.c (.sl 1), .c (.int .u8)] [.s 4 (.c .bool)] fun a => F_moatlaw19_ProcLeast N a.1 a.2
noncomputable def C3 : MC := mcOf (comp Try.prog 128 [] [] (bodyOf Try.f3) H3)
theorem S3 (N : Nat) : Sound Try.prog 3 (E3 N) :=
  sound_of (C := [(8, E8 N), (9, E9 N), (10, E10 N), (11, E11 N), (12, E12 N)]) (N := N) (ntmps := 128) (priv := []) (pu := []) (hs := H3) (mc := C3) (c := bodyOf Try.f3) (allS_get (⟨S8 N, ⟨S9 N, ⟨S10 N, ⟨S11 N, ⟨S12 N, trivial⟩⟩⟩⟩⟩ : AllS Try.prog [(8, E8 N), (9, E9 N), (10, E10 N), (11, E11 N), (12, E12 N)])) Try.func3 (by kernel_rfl) (by kernel_rfl) (by kernel_rfl) (Nat.le_of_ble_eq_true (by kernel_rfl)) (by kernel_rfl) (by kernel_rfl) (fun a => by kernel_rfl)

/-- moat/moatlaw19.few -/
def H13 : List Hint := []
def E13 (N : Nat) : Entry := entry [.c (.sl 5)] [.s 2 (.c (.sl 5))] fun a => F_moatlaw19_few N a
noncomputable def C13 : MC := mcOf (comp Try.prog 8 [] [] (bodyOf Try.f13) H13)
theorem S13 (N : Nat) : Sound Try.prog 13 (E13 N) :=
  sound_of (C := []) (N := N) (ntmps := 8) (priv := []) (pu := []) (hs := H13) (mc := C13) (c := bodyOf Try.f13) (allS_get (trivial : AllS Try.prog [])) Try.func13 (by kernel_rfl) (by kernel_rfl) (by kernel_rfl) (Nat.le_of_ble_eq_true (by kernel_rfl)) (by kernel_rfl) (by kernel_rfl) (fun a => by kernel_rfl)

/-- moat/label.Flows -/
def H22 : List Hint := []
def E22 (N : Nat) : Entry := entry [.c (.int .u16), .c (.int .u16)] [.s 4 (.c .bool)] fun a => F_label_Flows N a.1 a.2
noncomputable def C22 : MC := mcOf (comp Try.prog 9 [] [] (bodyOf Try.f22) H22)
theorem S22 (N : Nat) : Sound Try.prog 22 (E22 N) :=
  sound_of (C := []) (N := N) (ntmps := 9) (priv := []) (pu := []) (hs := H22) (mc := C22) (c := bodyOf Try.f22) (allS_get (trivial : AllS Try.prog [])) Try.func22 (by kernel_rfl) (by kernel_rfl) (by kernel_rfl) (Nat.le_of_ble_eq_true (by kernel_rfl)) (by kernel_rfl) (by kernel_rfl) (fun a => by kernel_rfl)

/-- (*moat/proc.Table).Raise -/
def H26 : List Hint := [.no, .no, .no]
def E26 (N : Nat) : Entry := entry [.c .ptr, .c (.int .i64), .c (.int .u16)] [.s 6 (.c (.int .i64))] fun a => F_proc_Table_Raise N a.1 a.2.1 a.2.2
noncomputable def C26 : MC := mcOf (comp Try.prog 31 [] [] (bodyOf Try.f26) H26)
theorem S26 (N : Nat) : Sound Try.prog 26 (E26 N) :=
  sound_of (C := [(23, E23 N), (22, E22 N)]) (N := N) (ntmps := 31) (priv := []) (pu := []) (hs := H26) (mc := C26) (c := bodyOf Try.f26) (allS_get (⟨S23 N, ⟨S22 N, trivial⟩⟩ : AllS Try.prog [(23, E23 N), (22, E22 N)])) Try.func26 (by kernel_rfl) (by kernel_rfl) (by kernel_rfl) (Nat.le_of_ble_eq_true (by kernel_rfl)) (by kernel_rfl) (by kernel_rfl) (fun a => by kernel_rfl)

/-- (*moat/proc.Table).Move -/
def H27 : List Hint := [.no, .no, .no]
def E27 (N : Nat) : Entry := entry [.c .ptr, .c (.int .i64), .c (.int .i64), .c (.int .i64)] [.s 8 (.c (.int .i64))] fun a => F_proc_Table_Move N a.1 a.2.1 a.2.2.1 a.2.2.2
noncomputable def C27 : MC := mcOf (comp Try.prog 33 [] [] (bodyOf Try.f27) H27)
theorem S27 (N : Nat) : Sound Try.prog 27 (E27 N) :=
  sound_of (C := [(25, E25 N)]) (N := N) (ntmps := 33) (priv := []) (pu := []) (hs := H27) (mc := C27) (c := bodyOf Try.f27) (allS_get (⟨S25 N, trivial⟩ : AllS Try.prog [(25, E25 N)])) Try.func27 (by kernel_rfl) (by kernel_rfl) (by kernel_rfl) (Nat.le_of_ble_eq_true (by kernel_rfl)) (by kernel_rfl) (by kernel_rfl) (fun a => by kernel_rfl)

/-- moat/moatlaw19.does -/
def H14 : List Hint := [.no, .no, .no, .no]
def E14 (N : Nat) : Entry := entry [.c .ptr, .st [.int .u8, .int .i64, .int .i64, .int .i64, .int .u16]] [.s 4 (.c (.int .i64)), .s 5 (.c (.int .i64))] fun a => F_moatlaw19_does N a.1 a.2
noncomputable def C14 : MC := mcOf (comp Try.prog 45 [3] [3, 6, 12, 14, 20, 22, 30, 32, 38, 40, 42] (bodyOf Try.f14) H14)
theorem S14 (N : Nat) : Sound Try.prog 14 (E14 N) :=
  sound_of (C := [(26, E26 N), (10, E10 N), (12, E12 N), (27, E27 N)]) (N := N) (ntmps := 45) (priv := [3]) (pu := [3, 6, 12, 14, 20, 22, 30, 32, 38, 40, 42]) (hs := H14) (mc := C14) (c := bodyOf Try.f14) (allS_get (⟨S26 N, ⟨S10 N, ⟨S12 N, ⟨S27 N, trivial⟩⟩⟩⟩ : AllS Try.prog [(26, E26 N), (10, E10 N), (12, E12 N), (27, E27 N)])) Try.func14 (by kernel_rfl) (by kernel_rfl) (by kernel_rfl) (Nat.le_of_ble_eq_true (by kernel_rfl)) (by kernel_rfl) (by kernel_rfl) (fun a => by kernel_rfl)

/-- (*moat/proc.Table).Fd -/
def H15 : List Hint := [.no]
def E15 (N : Nat) : Entry := entry [.c .ptr, .c (.int .i64), .c (.int .i64)] [.m 6 (.st [.int .i64, .int .i64]), .s 7 (.c (.int .i64))] fun a => F_proc_Table_Fd N a.1 a.2.1 a.2.2
noncomputable def C15 : MC := mcOf (comp Try.prog 24 [6] [6] (bodyOf Try.f15) H15)
theorem S15 (N : Nat) : Sound Try.prog 15 (E15 N) :=
  sound_of (C := [(25, E25 N)]) (N := N) (ntmps := 24) (priv := [6]) (pu := [6]) (hs := H15) (mc := C15) (c := bodyOf Try.f15) (allS_get (⟨S25 N, trivial⟩ : AllS Try.prog [(25, E25 N)])) Try.func15 (by kernel_rfl) (by kernel_rfl) (by kernel_rfl) (Nat.le_of_ble_eq_true (by kernel_rfl)) (by kernel_rfl) (by kernel_rfl) (fun a => by kernel_rfl)

/-- moat/moatlaw19.ProcShut -/
def H4 : List Hint := [.no, .join [(.normal, ⟨[], []⟩)], .loop ⟨[.s 32 (.c (.int .i64))], []⟩, .no, .no, .join [(.normal, ⟨[.p 8 (.arr .i64)], [(8, 8, 0)]⟩)], .loop ⟨[.s 40 (.c (.int .i64)), .p 8 (.arr .i64)], [(8, 8, 0)]⟩, .no, .no, .join [(.normal, ⟨[.p 9 (.arr .i64)], [(9, 9, 0)]⟩), (.ret, ⟨[.s 2 (.c .bool)], []⟩)], .loop ⟨[.s 49 (.c (.int .i64)), .p 9 (.arr .i64)], [(9, 9, 0)]⟩, .no, .no, .join [(.normal, ⟨[.p 9 (.arr .i64)], [(9, 9, 0)]⟩), (.ret, ⟨[.s 2 (.c .bool)], []⟩)], .loop ⟨[.s 52 (.c (.int .i64)), .p 9 (.arr .i64)], [(9, 9, 0)]⟩, .no, .no, .no, .join [(.normal, ⟨[.p 9 (.arr .i64)], [(9, 9, 0)]⟩), (.ret, ⟨[.s 2 (.c .bool)], []⟩)], .no, .join [(.normal, ⟨[], []⟩), (.ret, ⟨[.s 2 (.c .bool)], []⟩)], .loop ⟨[.s 105 (.c (.int .i64))], []⟩, .no, .no, .draw false, .no]
def E4 (N : Nat) : Entry := entry [.c (.sl 5)] [.s 2 (.c .bool)] fun a => F_moatlaw19_ProcShut N a
noncomputable def C4 : MC := mcOf (comp Try.prog 123 [7, 8, 9, 13] [7, 13, 85] (bodyOf Try.f4) H4)
theorem S4 (N : Nat) : Sound Try.prog 4 (E4 N) :=
  sound_of (C := [(8, E8 N), (9, E9 N), (13, E13 N), (14, E14 N), (11, E11 N), (15, E15 N), (12, E12 N)]) (N := N) (ntmps := 123) (priv := [7, 8, 9, 13]) (pu := [7, 13, 85]) (hs := H4) (mc := C4) (c := bodyOf Try.f4) (allS_get (⟨S8 N, ⟨S9 N, ⟨S13 N, ⟨S14 N, ⟨S11 N, ⟨S15 N, ⟨S12 N, trivial⟩⟩⟩⟩⟩⟩⟩ : AllS Try.prog [(8, E8 N), (9, E9 N), (13, E13 N), (14, E14 N), (11, E11 N), (15, E15 N), (12, E12 N)])) Try.func4 (by kernel_rfl) (by kernel_rfl) (by kernel_rfl) (Nat.le_of_ble_eq_true (by kernel_rfl)) (by kernel_rfl) (by kernel_rfl) (fun a => by kernel_rfl)

/-- moat/moatref19.New -/
def H16 : List Hint := [.no]
def E16 (N : Nat) : Entry := entry [.c (.int .i64)] [.s 2 (.c .ptr), .s 3 (.c (.int .i64))] fun a => F_moatref19_New N a
noncomputable def C16 : MC := mcOf (comp Try.prog 14 [] [] (bodyOf Try.f16) H16)
theorem S16 (N : Nat) : Sound Try.prog 16 (E16 N) :=
  sound_of (C := []) (N := N) (ntmps := 14) (priv := []) (pu := []) (hs := H16) (mc := C16) (c := bodyOf Try.f16) (allS_get (trivial : AllS Try.prog [])) Try.func16 (by kernel_rfl) (by kernel_rfl) (by kernel_rfl) (Nat.le_of_ble_eq_true (by kernel_rfl)) (by kernel_rfl) (by kernel_rfl) (fun a => by kernel_rfl)

/-- (*moat/moatref19.Table).Has -/
def H21 : List Hint := []
def E21 (N : Nat) : Entry := entry [.c .ptr, .c (.int .i64)] [.s 4 (.c .bool)] fun a => F_moatref19_Table_Has N a.1 a.2
noncomputable def C21 : MC := mcOf (comp Try.prog 16 [] [] (bodyOf Try.f21) H21)
theorem S21 (N : Nat) : Sound Try.prog 21 (E21 N) :=
  sound_of (C := []) (N := N) (ntmps := 16) (priv := []) (pu := []) (hs := H21) (mc := C21) (c := bodyOf Try.f21) (allS_get (trivial : AllS Try.prog [])) Try.func21 (by kernel_rfl) (by kernel_rfl) (by kernel_rfl) (Nat.le_of_ble_eq_true (by kernel_rfl)) (by kernel_rfl) (by kernel_rfl) (fun a => by kernel_rfl)

/-- moat/moatref04.Has -/
def H34 : List Hint := [.join [(.normal, ⟨[.s 5 (.c (.int .i64))], []⟩)], .loop ⟨[.s 5 (.c (.int .i64)), .s 6 (.c (.int .i64))], []⟩, .no, .no]
def E34 (N : Nat) : Entry := entry [.c (.int .u16), .c (.int .i64)] [.s 4 (.c .bool)] fun a => F_moatref04_Has N a.1 a.2
noncomputable def C34 : MC := mcOf (comp Try.prog 19 [] [] (bodyOf Try.f34) H34)
theorem S34 (N : Nat) : Sound Try.prog 34 (E34 N) :=
  sound_of (C := []) (N := N) (ntmps := 19) (priv := []) (pu := []) (hs := H34) (mc := C34) (c := bodyOf Try.f34) (allS_get (trivial : AllS Try.prog [])) Try.func34 (by kernel_rfl) (by kernel_rfl) (by kernel_rfl) (Nat.le_of_ble_eq_true (by kernel_rfl)) (by kernel_rfl) (by kernel_rfl) (fun a => by kernel_rfl)

/-- moat/moatref04.Flows -/
def H33 : List Hint := [.join [(.normal, ⟨[], []⟩), (.ret, ⟨[.s 4 (.c .bool)], []⟩)], .loop ⟨[.s 5 (.c (.int .i64))], []⟩, .no, .no, .no]
def E33 (N : Nat) : Entry := entry [.c (.int .u16), .c (.int .u16)] [.s 4 (.c .bool)] fun a => F_moatref04_Flows N a.1 a.2
noncomputable def C33 : MC := mcOf (comp Try.prog 19 [] [] (bodyOf Try.f33) H33)
theorem S33 (N : Nat) : Sound Try.prog 33 (E33 N) :=
  sound_of (C := [(34, E34 N)]) (N := N) (ntmps := 19) (priv := []) (pu := []) (hs := H33) (mc := C33) (c := bodyOf Try.f33) (allS_get (⟨S34 N, trivial⟩ : AllS Try.prog [(34, E34 N)])) Try.func33 (by kernel_rfl) (by kernel_rfl) (by kernel_rfl) (Nat.le_of_ble_eq_true (by kernel_rfl)) (by kernel_rfl) (by kernel_rfl) (fun a => by kernel_rfl)

/-- (*moat/moatref19.Table).Raise -/
def H28 : List Hint := [.no, .no]
def E28 (N : Nat) : Entry := entry [.c .ptr, .c (.int .i64), .c (.int .u16)] [.s 6 (.c (.int .i64))] fun a => F_moatref19_Table_Raise N a.1 a.2.1 a.2.2
noncomputable def C28 : MC := mcOf (comp Try.prog 30 [] [] (bodyOf Try.f28) H28)
theorem S28 (N : Nat) : Sound Try.prog 28 (E28 N) :=
  sound_of (C := [(21, E21 N), (33, E33 N)]) (N := N) (ntmps := 30) (priv := []) (pu := []) (hs := H28) (mc := C28) (c := bodyOf Try.f28) (allS_get (⟨S21 N, ⟨S33 N, trivial⟩⟩ : AllS Try.prog [(21, E21 N), (33, E33 N)])) Try.func28 (by kernel_rfl) (by kernel_rfl) (by kernel_rfl) (Nat.le_of_ble_eq_true (by kernel_rfl)) (by kernel_rfl) (by kernel_rfl) (fun a => by kernel_rfl)

/-- (*moat/moatref19.Table).Open -/
def H29 : List Hint := [.no, .join [(.normal, ⟨[], []⟩), (.ret, ⟨[.s 6 (.c (.int .i64)), .s 7 (.c (.int .i64))], []⟩)], .loop ⟨[.s 8 (.c (.int .i64))], []⟩, .no, .no, .no]
def E29 (N : Nat) : Entry := entry [.c .ptr, .c (.int .i64), .c (.int .i64)] [.s 6 (.c (.int .i64)), .s 7 (.c (.int .i64))] fun a => F_moatref19_Table_Open N a.1 a.2.1 a.2.2
noncomputable def C29 : MC := mcOf (comp Try.prog 50 [] [] (bodyOf Try.f29) H29)
theorem S29 (N : Nat) : Sound Try.prog 29 (E29 N) :=
  sound_of (C := [(21, E21 N)]) (N := N) (ntmps := 50) (priv := []) (pu := []) (hs := H29) (mc := C29) (c := bodyOf Try.f29) (allS_get (⟨S21 N, trivial⟩ : AllS Try.prog [(21, E21 N)])) Try.func29 (by kernel_rfl) (by kernel_rfl) (by kernel_rfl) (Nat.le_of_ble_eq_true (by kernel_rfl)) (by kernel_rfl) (by kernel_rfl) (fun a => by kernel_rfl)

/-- (*moat/moatref19.Table).why -/
def H32 : List Hint := [.no, .no]
def E32 (N : Nat) : Entry := entry [.c .ptr, .c (.int .i64), .c (.int .i64)] [.s 6 (.c (.int .i64))] fun a => F_moatref19_Table_why N a.1 a.2.1 a.2.2
noncomputable def C32 : MC := mcOf (comp Try.prog 31 [] [] (bodyOf Try.f32) H32)
theorem S32 (N : Nat) : Sound Try.prog 32 (E32 N) :=
  sound_of (C := [(21, E21 N)]) (N := N) (ntmps := 31) (priv := []) (pu := []) (hs := H32) (mc := C32) (c := bodyOf Try.f32) (allS_get (⟨S21 N, trivial⟩ : AllS Try.prog [(21, E21 N)])) Try.func32 (by kernel_rfl) (by kernel_rfl) (by kernel_rfl) (Nat.le_of_ble_eq_true (by kernel_rfl)) (by kernel_rfl) (by kernel_rfl) (fun a => by kernel_rfl)

/-- (*moat/moatref19.Table).Close -/
def H30 : List Hint := [.no]
def E30 (N : Nat) : Entry := entry [.c .ptr, .c (.int .i64), .c (.int .i64)] [.s 6 (.c (.int .i64)), .s 7 (.c (.int .i64))] fun a => F_moatref19_Table_Close N a.1 a.2.1 a.2.2
noncomputable def C30 : MC := mcOf (comp Try.prog 40 [] [] (bodyOf Try.f30) H30)
theorem S30 (N : Nat) : Sound Try.prog 30 (E30 N) :=
  sound_of (C := [(32, E32 N)]) (N := N) (ntmps := 40) (priv := []) (pu := []) (hs := H30) (mc := C30) (c := bodyOf Try.f30) (allS_get (⟨S32 N, trivial⟩ : AllS Try.prog [(32, E32 N)])) Try.func30 (by kernel_rfl) (by kernel_rfl) (by kernel_rfl) (Nat.le_of_ble_eq_true (by kernel_rfl)) (by kernel_rfl) (by kernel_rfl) (fun a => by kernel_rfl)

/-- (*moat/moatref19.Table).Move -/
def H31 : List Hint := [.no, .no]
def E31 (N : Nat) : Entry := entry [.c .ptr, .c (.int .i64), .c (.int .i64), .c (.int .i64)] [.s 8 (.c (.int .i64))] fun a => F_moatref19_Table_Move N a.1 a.2.1 a.2.2.1 a.2.2.2
noncomputable def C31 : MC := mcOf (comp Try.prog 35 [] [] (bodyOf Try.f31) H31)
theorem S31 (N : Nat) : Sound Try.prog 31 (E31 N) :=
  sound_of (C := [(32, E32 N)]) (N := N) (ntmps := 35) (priv := []) (pu := []) (hs := H31) (mc := C31) (c := bodyOf Try.f31) (allS_get (⟨S32 N, trivial⟩ : AllS Try.prog [(32, E32 N)])) Try.func31 (by kernel_rfl) (by kernel_rfl) (by kernel_rfl) (Nat.le_of_ble_eq_true (by kernel_rfl)) (by kernel_rfl) (by kernel_rfl) (fun a => by kernel_rfl)

/-- moat/moatlaw19.model -/
def H17 : List Hint := [.no, .no, .no, .no]
def E17 (N : Nat) : Entry := entry [.c .ptr, .st [.int .u8, .int .i64, .int .i64, .int .i64, .int .u16]] [.s 4 (.c (.int .i64)), .s 5 (.c (.int .i64))] fun a => F_moatlaw19_model N a.1 a.2
noncomputable def C17 : MC := mcOf (comp Try.prog 45 [3] [3, 6, 12, 14, 20, 22, 30, 32, 38, 40, 42] (bodyOf Try.f17) H17)
theorem S17 (N : Nat) : Sound Try.prog 17 (E17 N) :=
  sound_of (C := [(28, E28 N), (29, E29 N), (30, E30 N), (31, E31 N)]) (N := N) (ntmps := 45) (priv := [3]) (pu := [3, 6, 12, 14, 20, 22, 30, 32, 38, 40, 42]) (hs := H17) (mc := C17) (c := bodyOf Try.f17) (allS_get (⟨S28 N, ⟨S29 N, ⟨S30 N, ⟨S31 N, trivial⟩⟩⟩⟩ : AllS Try.prog [(28, E28 N), (29, E29 N), (30, E30 N), (31, E31 N)])) Try.func17 (by kernel_rfl) (by kernel_rfl) (by kernel_rfl) (Nat.le_of_ble_eq_true (by kernel_rfl)) (by kernel_rfl) (by kernel_rfl) (fun a => by kernel_rfl)

/-- (*moat/moatref19.Table).Fd -/
def H18 : List Hint := [.no]
def E18 (N : Nat) : Entry := entry [.c .ptr, .c (.int .i64), .c (.int .i64)] [.m 6 (.st [.int .i64, .int .i64]), .s 7 (.c (.int .i64))] fun a => F_moatref19_Table_Fd N a.1 a.2.1 a.2.2
noncomputable def C18 : MC := mcOf (comp Try.prog 28 [6] [6] (bodyOf Try.f18) H18)
theorem S18 (N : Nat) : Sound Try.prog 18 (E18 N) :=
  sound_of (C := [(32, E32 N)]) (N := N) (ntmps := 28) (priv := [6]) (pu := [6]) (hs := H18) (mc := C18) (c := bodyOf Try.f18) (allS_get (⟨S32 N, trivial⟩ : AllS Try.prog [(32, E32 N)])) Try.func18 (by kernel_rfl) (by kernel_rfl) (by kernel_rfl) (Nat.le_of_ble_eq_true (by kernel_rfl)) (by kernel_rfl) (by kernel_rfl) (fun a => by kernel_rfl)

/-- (*moat/proc.Table).Label -/
def H19 : List Hint := [.no]
def E19 (N : Nat) : Entry := entry [.c .ptr, .c (.int .i64)] [.s 4 (.c (.int .u16)), .s 5 (.c (.int .i64))] fun a => F_proc_Table_Label N a.1 a.2
noncomputable def C19 : MC := mcOf (comp Try.prog 21 [] [] (bodyOf Try.f19) H19)
theorem S19 (N : Nat) : Sound Try.prog 19 (E19 N) :=
  sound_of (C := [(23, E23 N)]) (N := N) (ntmps := 21) (priv := []) (pu := []) (hs := H19) (mc := C19) (c := bodyOf Try.f19) (allS_get (⟨S23 N, trivial⟩ : AllS Try.prog [(23, E23 N)])) Try.func19 (by kernel_rfl) (by kernel_rfl) (by kernel_rfl) (Nat.le_of_ble_eq_true (by kernel_rfl)) (by kernel_rfl) (by kernel_rfl) (fun a => by kernel_rfl)

/-- (*moat/moatref19.Table).Holds -/
def H20 : List Hint := [.join [(.normal, ⟨[.s 5 (.c (.int .i64))], []⟩)], .loop ⟨[.s 5 (.c (.int .i64)), .s 6 (.c (.int .i64))], []⟩, .no, .no, .join [(.normal, ⟨[.s 5 (.c (.int .i64))], []⟩)], .loop ⟨[.s 5 (.c (.int .i64)), .s 7 (.c (.int .i64))], []⟩, .no, .no, .join [(.normal, ⟨[.s 5 (.c (.int .i64))], []⟩)]]
def E20 (N : Nat) : Entry := entry [.c .ptr, .c (.int .i64)] [.s 4 (.c (.int .i64))] fun a => F_moatref19_Table_Holds N a.1 a.2
noncomputable def C20 : MC := mcOf (comp Try.prog 51 [] [] (bodyOf Try.f20) H20)
theorem S20 (N : Nat) : Sound Try.prog 20 (E20 N) :=
  sound_of (C := []) (N := N) (ntmps := 51) (priv := []) (pu := []) (hs := H20) (mc := C20) (c := bodyOf Try.f20) (allS_get (trivial : AllS Try.prog [])) Try.func20 (by kernel_rfl) (by kernel_rfl) (by kernel_rfl) (Nat.le_of_ble_eq_true (by kernel_rfl)) (by kernel_rfl) (by kernel_rfl) (fun a => by kernel_rfl)

/-- moat/moatlaw19.ProcPlays -/
def H5 : List Hint := [.no, .no, .join [(.normal, ⟨[], []⟩), (.ret, ⟨[.s 4 (.c .bool)], []⟩)], .loop ⟨[.s 55 (.c (.int .i64))], []⟩, .no, .no, .draw true, .no]
def E5 (N : Nat) : Entry := entry [.c (.int .i64), .c (.sl 5)] [.s 4 (.c .bool)] fun a => F_moatlaw19_ProcPlays N a.1 a.2
noncomputable def C5 : MC := mcOf (comp Try.prog 165 [11, 16, 18] [11, 16, 18, 73, 75, 82, 84, 91, 116, 120, 129, 143] (bodyOf Try.f5) H5)
theorem S5 (N : Nat) : Sound Try.prog 5 (E5 N) :=
  sound_of (C := [(8, E8 N), (9, E9 N), (16, E16 N), (13, E13 N), (14, E14 N), (17, E17 N), (15, E15 N), (18, E18 N), (19, E19 N), (11, E11 N), (20, E20 N), (21, E21 N)]) (N := N) (ntmps := 165) (priv := [11, 16, 18]) (pu := [11, 16, 18, 73, 75, 82, 84, 91, 116, 120, 129, 143]) (hs := H5) (mc := C5) (c := bodyOf Try.f5) (allS_get (⟨S8 N, ⟨S9 N, ⟨S16 N, ⟨S13 N, ⟨S14 N, ⟨S17 N, ⟨S15 N, ⟨S18 N, ⟨S19 N, ⟨S11 N, ⟨S20 N, ⟨S21 N, trivial⟩⟩⟩⟩⟩⟩⟩⟩⟩⟩⟩⟩ : AllS Try.prog [(8, E8 N), (9, E9 N), (16, E16 N), (13, E13 N), (14, E14 N), (17, E17 N), (15, E15 N), (18, E18 N), (19, E19 N), (11, E11 N), (20, E20 N), (21, E21 N)])) Try.func5 (by kernel_rfl) (by kernel_rfl) (by kernel_rfl) (Nat.le_of_ble_eq_true (by kernel_rfl)) (by kernel_rfl) (by kernel_rfl) (fun a => by kernel_rfl)

/-- moat/moatlaw19.ProcApart -/
def H6 : List Hint := [.no, .join [(.normal, ⟨[], []⟩), (.ret, ⟨[.s 4 (.c .bool)], []⟩)], .loop ⟨[.s 38 (.c (.int .i64))], []⟩, .no, .no, .join [(.normal, ⟨[.p 13 (.agg 16), .p 14 (.arr .i64)], [(13, 13, 0), (14, 14, 0)]⟩)], .loop ⟨[.s 48 (.c (.int .i64)), .p 13 (.agg 16), .p 14 (.arr .i64)], [(13, 13, 0), (14, 14, 0)]⟩, .no, .no, .no, .join [(.normal, ⟨[], []⟩), (.ret, ⟨[.s 4 (.c .bool)], []⟩)], .loop ⟨[.s 91 (.c (.int .i64))], []⟩, .no, .no, .draw false, .no]
def E6 (N : Nat) : Entry := entry [.c (.sl 5), .c (.int .u8)] [.s 4 (.c .bool)] fun a => F_moatlaw19_ProcApart N a.1 a.2
noncomputable def C6 : MC := mcOf (comp Try.prog 122 [10, 13, 14, 19] [10, 19, 81, 101] (bodyOf Try.f6) H6)
theorem S6 (N : Nat) : Sound Try.prog 6 (E6 N) :=
  sound_of (C := [(8, E8 N), (9, E9 N), (13, E13 N), (19, E19 N), (15, E15 N), (14, E14 N), (22, E22 N)]) (N := N) (ntmps := 122) (priv := [10, 13, 14, 19]) (pu := [10, 19, 81, 101]) (hs := H6) (mc := C6) (c := bodyOf Try.f6) (allS_get (⟨S8 N, ⟨S9 N, ⟨S13 N, ⟨S19 N, ⟨S15 N, ⟨S14 N, ⟨S22 N, trivial⟩⟩⟩⟩⟩⟩⟩ : AllS Try.prog [(8, E8 N), (9, E9 N), (13, E13 N), (19, E19 N), (15, E15 N), (14, E14 N), (22, E22 N)])) Try.func6 (by kernel_rfl) (by kernel_rfl) (by kernel_rfl) (Nat.le_of_ble_eq_true (by kernel_rfl)) (by kernel_rfl) (by kernel_rfl) (fun a => by kernel_rfl)

/-- moat/moatlaw19.ProcNil -/
def H7 : List Hint := []
def E7 (N : Nat) : Entry := entry [.st [.int .u8, .int .i64, .int .i64, .int .i64, .int .u16]] [.s 2 (.c .bool)] fun a => F_moatlaw19_ProcNil N a
noncomputable def C7 : MC := mcOf (comp Try.prog 54 [1, 9] [1, 9, 20, 27, 29, 49] (bodyOf Try.f7) H7)
theorem S7 (N : Nat) : Sound Try.prog 7 (E7 N) :=
  sound_of (C := [(8, E8 N), (14, E14 N), (19, E19 N), (15, E15 N), (11, E11 N)]) (N := N) (ntmps := 54) (priv := [1, 9]) (pu := [1, 9, 20, 27, 29, 49]) (hs := H7) (mc := C7) (c := bodyOf Try.f7) (allS_get (⟨S8 N, ⟨S14 N, ⟨S19 N, ⟨S15 N, ⟨S11 N, trivial⟩⟩⟩⟩⟩ : AllS Try.prog [(8, E8 N), (14, E14 N), (19, E19 N), (15, E15 N), (11, E11 N)])) Try.func7 (by kernel_rfl) (by kernel_rfl) (by kernel_rfl) (Nat.le_of_ble_eq_true (by kernel_rfl)) (by kernel_rfl) (by kernel_rfl) (fun a => by kernel_rfl)

end Go.Proofs.Ytajahediblcfeaa
