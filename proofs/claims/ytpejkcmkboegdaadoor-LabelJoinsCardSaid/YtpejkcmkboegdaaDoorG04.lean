/- PRINTED by gen.py: that the code comes to what is printed. Not trusted: Lean checks it. -/
import Derived.Test.YtpejkcmkboegdaaDoorMU
import Derived.Test.YtpejkcmkboegdaaDoorMDSTR
import Derived.Test.YtpejkcmkboegdaaDoorD04
import Derived.Test.YtpejkcmkboegdaaDoorI04
import Derived.Test.YtpejkcmkboegdaaDoorProg
import Derived.KernelRfl
namespace Go.Proofs.YtpejkcmkboegdaaDoor
open Go.Mini Go.Moat
set_option maxRecDepth 100000

/-- moat/label.Of -/
def H15 : List Hint := [.join [(.normal, ⟨[.s 4 (.c (.int .u16))], []⟩), (.ret, ⟨[.s 2 (.c (.int .u16)), .s 3 (.c (.int .i64))], []⟩)], .loop ⟨[.s 4 (.c (.int .u16)), .s 9 (.c (.int .i64))], []⟩, .no, .no, .no]
def E15 (N : Nat) : Entry := entry [.c (.sl 1)] [.s 2 (.c (.int .u16)), .s 3 (.c (.int .i64))] fun a => F_label_Of N a
noncomputable def C15 : MC := mcOf (comp Tryd.prog 25 [] [] (bodyOf Tryd.f15) H15)
theorem S15 (N : Nat) : Sound Tryd.prog 15 (E15 N) :=
  sound_of (C := []) (N := N) (ntmps := 25) (priv := []) (pu := []) (hs := H15) (mc := C15) (c := bodyOf Tryd.f15) (allS_get (trivial : AllS Tryd.prog [])) Tryd.func15 (by kernel_rfl) (by kernel_rfl) (by kernel_rfl) (Nat.le_of_ble_eq_true (by kernel_rfl)) (by kernel_rfl) (by kernel_rfl) (fun a => by kernel_rfl)

/-- moat/label.List -/
def H16 : List Hint := [.join [(.normal, ⟨[.s 3 (.c (.sl 1))], []⟩)], .loop ⟨[.s 3 (.c (.sl 1)), .s 5 (.c (.int .i64))], []⟩, .no, .no, .join [(.normal, ⟨[.s 3 (.c (.sl 1))], []⟩)]]
def E16 (N : Nat) : Entry := entry [.c (.int .u16)] [.s 2 (.c (.sl 1))] fun a => F_label_List N a
noncomputable def C16 : MC := mcOf (comp Tryd.prog 19 [] [] (bodyOf Tryd.f16) H16)
theorem S16 (N : Nat) : Sound Tryd.prog 16 (E16 N) :=
  sound_of (C := []) (N := N) (ntmps := 19) (priv := []) (pu := []) (hs := H16) (mc := C16) (c := bodyOf Tryd.f16) (allS_get (trivial : AllS Tryd.prog [])) Tryd.func16 (by kernel_rfl) (by kernel_rfl) (by kernel_rfl) (Nat.le_of_ble_eq_true (by kernel_rfl)) (by kernel_rfl) (by kernel_rfl) (fun a => by kernel_rfl)

/-- moat/label.Text -/
def H13 : List Hint := [.join [(.normal, ⟨[.s 3 (.c (.sl 1))], []⟩)], .loop ⟨[.s 3 (.c (.sl 1)), .s 9 (.c (.int .i64))], []⟩, .no, .no]
def E13 (N : Nat) : Entry := entry [.c (.int .u16)] [.s 2 (.c .str)] fun a => F_label_Text N a
noncomputable def C13 : MC := mcOf (comp Tryd.prog 23 [] [] (bodyOf Tryd.f13) H13)
theorem S13 (N : Nat) : Sound Tryd.prog 13 (E13 N) :=
  sound_of (C := [(16, E16 N), (32, E32 N), (33, E33 N)]) (N := N) (ntmps := 23) (priv := []) (pu := []) (hs := H13) (mc := C13) (c := bodyOf Tryd.f13) (allS_get (⟨S16 N, ⟨S32 N, ⟨S33 N, trivial⟩⟩⟩ : AllS Tryd.prog [(16, E16 N), (32, E32 N), (33, E33 N)])) Tryd.func13 (by kernel_rfl) (by kernel_rfl) (by kernel_rfl) (Nat.le_of_ble_eq_true (by kernel_rfl)) (by kernel_rfl) (by kernel_rfl) (fun a => by kernel_rfl)

/-- moat/label.Parse -/
def H10 : List Hint := [.no, .join [(.normal, ⟨[.s 4 (.c (.sl 1))], []⟩), (.ret, ⟨[.s 2 (.c (.int .u16)), .s 3 (.c (.int .i64))], []⟩)], .join [(.normal, ⟨[.s 4 (.c (.sl 1))], []⟩), (.ret, ⟨[.s 2 (.c (.int .u16)), .s 3 (.c (.int .i64))], []⟩)], .loop ⟨[.s 4 (.c (.sl 1)), .s 38 (.c (.int .i64))], []⟩, .no, .no, .no, .no]
def E10 (N : Nat) : Entry := entry [.c .str] [.s 2 (.c (.int .u16)), .s 3 (.c (.int .i64))] fun a => F_label_Parse N a
noncomputable def C10 : MC := mcOf (comp Tryd.prog 68 [] [] (bodyOf Tryd.f10) H10)
theorem S10 (N : Nat) : Sound Tryd.prog 10 (E10 N) :=
  sound_of (C := [(28, E28 N), (29, E29 N), (15, E15 N), (13, E13 N)]) (N := N) (ntmps := 68) (priv := []) (pu := []) (hs := H10) (mc := C10) (c := bodyOf Tryd.f10) (allS_get (⟨S28 N, ⟨S29 N, ⟨S15 N, ⟨S13 N, trivial⟩⟩⟩⟩ : AllS Tryd.prog [(28, E28 N), (29, E29 N), (15, E15 N), (13, E13 N)])) Tryd.func10 (by kernel_rfl) (by kernel_rfl) (by kernel_rfl) (Nat.le_of_ble_eq_true (by kernel_rfl)) (by kernel_rfl) (by kernel_rfl) (fun a => by kernel_rfl)

/-- moat/moatref04.Digits -/
def H34 : List Hint := [.join [(.normal, ⟨[.s 3 (.c .str)], []⟩)]]
def E34 (N : Nat) : Entry := entry [.c (.int .i64)] [.s 2 (.c .str)] fun a => F_moatref04_Digits N a
noncomputable def C34 : MC := mcOf (comp Tryd.prog 22 [] [] (bodyOf Tryd.f34) H34)
theorem S34 (N : Nat) : Sound Tryd.prog 34 (E34 N) :=
  sound_of (C := []) (N := N) (ntmps := 22) (priv := []) (pu := []) (hs := H34) (mc := C34) (c := bodyOf Tryd.f34) (allS_get (trivial : AllS Tryd.prog [])) Tryd.func34 (by kernel_rfl) (by kernel_rfl) (by kernel_rfl) (Nat.le_of_ble_eq_true (by kernel_rfl)) (by kernel_rfl) (by kernel_rfl) (fun a => by kernel_rfl)

/-- moat/moatref04.digit -/
def H41 : List Hint := []
def E41 (N : Nat) : Entry := entry [.c (.int .u8)] [.s 2 (.c .bool)] fun a => F_moatref04_digit N a
noncomputable def C41 : MC := mcOf (comp Tryd.prog 9 [] [] (bodyOf Tryd.f41) H41)
theorem S41 (N : Nat) : Sound Tryd.prog 41 (E41 N) :=
  sound_of (C := []) (N := N) (ntmps := 9) (priv := []) (pu := []) (hs := H41) (mc := C41) (c := bodyOf Tryd.f41) (allS_get (trivial : AllS Tryd.prog [])) Tryd.func41 (by kernel_rfl) (by kernel_rfl) (by kernel_rfl) (Nat.le_of_ble_eq_true (by kernel_rfl)) (by kernel_rfl) (by kernel_rfl) (fun a => by kernel_rfl)

/-- moat/moatref04.named -/
def H30 : List Hint := [.join [(.normal, ⟨[], []⟩), (.ret, ⟨[.s 4 (.c .bool)], []⟩)], .loop ⟨[.s 6 (.c (.int .i64))], []⟩, .no, .no, .no]
def E30 (N : Nat) : Entry := entry [.c .str, .c (.int .i64)] [.s 4 (.c .bool)] fun a => F_moatref04_named N a.1 a.2
noncomputable def C30 : MC := mcOf (comp Tryd.prog 45 [] [] (bodyOf Tryd.f30) H30)
theorem S30 (N : Nat) : Sound Tryd.prog 30 (E30 N) :=
  sound_of (C := [(34, E34 N), (41, E41 N)]) (N := N) (ntmps := 45) (priv := []) (pu := []) (hs := H30) (mc := C30) (c := bodyOf Tryd.f30) (allS_get (⟨S34 N, ⟨S41 N, trivial⟩⟩ : AllS Tryd.prog [(34, E34 N), (41, E41 N)])) Tryd.func30 (by kernel_rfl) (by kernel_rfl) (by kernel_rfl) (Nat.le_of_ble_eq_true (by kernel_rfl)) (by kernel_rfl) (by kernel_rfl) (fun a => by kernel_rfl)

/-- moat/moatref04.with -/
def H31 : List Hint := [.join [(.normal, ⟨[.s 5 (.c (.int .u16))], []⟩)], .loop ⟨[.s 5 (.c (.int .u16)), .s 6 (.c (.int .i64))], []⟩, .no, .no]
def E31 (N : Nat) : Entry := entry [.c (.int .u16), .c (.int .i64)] [.s 4 (.c (.int .u16))] fun a => F_moatref04_with N a.1 a.2
noncomputable def C31 : MC := mcOf (comp Tryd.prog 17 [] [] (bodyOf Tryd.f31) H31)
theorem S31 (N : Nat) : Sound Tryd.prog 31 (E31 N) :=
  sound_of (C := []) (N := N) (ntmps := 17) (priv := []) (pu := []) (hs := H31) (mc := C31) (c := bodyOf Tryd.f31) (allS_get (trivial : AllS Tryd.prog [])) Tryd.func31 (by kernel_rfl) (by kernel_rfl) (by kernel_rfl) (Nat.le_of_ble_eq_true (by kernel_rfl)) (by kernel_rfl) (by kernel_rfl) (fun a => by kernel_rfl)

/-- moat/moatref04.Has -/
def H37 : List Hint := [.join [(.normal, ⟨[.s 5 (.c (.int .i64))], []⟩)], .loop ⟨[.s 5 (.c (.int .i64)), .s 6 (.c (.int .i64))], []⟩, .no, .no]
def E37 (N : Nat) : Entry := entry [.c (.int .u16), .c (.int .i64)] [.s 4 (.c .bool)] fun a => F_moatref04_Has N a.1 a.2
noncomputable def C37 : MC := mcOf (comp Tryd.prog 19 [] [] (bodyOf Tryd.f37) H37)
theorem S37 (N : Nat) : Sound Tryd.prog 37 (E37 N) :=
  sound_of (C := []) (N := N) (ntmps := 19) (priv := []) (pu := []) (hs := H37) (mc := C37) (c := bodyOf Tryd.f37) (allS_get (trivial : AllS Tryd.prog [])) Tryd.func37 (by kernel_rfl) (by kernel_rfl) (by kernel_rfl) (Nat.le_of_ble_eq_true (by kernel_rfl)) (by kernel_rfl) (by kernel_rfl) (fun a => by kernel_rfl)

/-- moat/moatref04.List -/
def H23 : List Hint := [.join [(.normal, ⟨[.s 3 (.c (.sl 1))], []⟩)], .loop ⟨[.s 3 (.c (.sl 1)), .s 4 (.c (.int .i64))], []⟩, .no, .no, .join [(.normal, ⟨[.s 3 (.c (.sl 1))], []⟩)]]
def E23 (N : Nat) : Entry := entry [.c (.int .u16)] [.s 2 (.c (.sl 1))] fun a => F_moatref04_List N a
noncomputable def C23 : MC := mcOf (comp Tryd.prog 17 [] [] (bodyOf Tryd.f23) H23)
theorem S23 (N : Nat) : Sound Tryd.prog 23 (E23 N) :=
  sound_of (C := [(37, E37 N)]) (N := N) (ntmps := 17) (priv := []) (pu := []) (hs := H23) (mc := C23) (c := bodyOf Tryd.f23) (allS_get (⟨S37 N, trivial⟩ : AllS Tryd.prog [(37, E37 N)])) Tryd.func23 (by kernel_rfl) (by kernel_rfl) (by kernel_rfl) (Nat.le_of_ble_eq_true (by kernel_rfl)) (by kernel_rfl) (by kernel_rfl) (fun a => by kernel_rfl)

/-- moat/moatref04.Text -/
def H14 : List Hint := [.join [(.normal, ⟨[.s 3 (.c .str)], []⟩)], .loop ⟨[.s 3 (.c .str), .s 5 (.c (.int .i64))], []⟩, .no, .no, .join [(.normal, ⟨[.s 3 (.c .str)], []⟩)]]
def E14 (N : Nat) : Entry := entry [.c (.int .u16)] [.s 2 (.c .str)] fun a => F_moatref04_Text N a
noncomputable def C14 : MC := mcOf (comp Tryd.prog 27 [] [] (bodyOf Tryd.f14) H14)
theorem S14 (N : Nat) : Sound Tryd.prog 14 (E14 N) :=
  sound_of (C := [(23, E23 N), (34, E34 N)]) (N := N) (ntmps := 27) (priv := []) (pu := []) (hs := H14) (mc := C14) (c := bodyOf Tryd.f14) (allS_get (⟨S23 N, ⟨S34 N, trivial⟩⟩ : AllS Tryd.prog [(23, E23 N), (34, E34 N)])) Tryd.func14 (by kernel_rfl) (by kernel_rfl) (by kernel_rfl) (Nat.le_of_ble_eq_true (by kernel_rfl)) (by kernel_rfl) (by kernel_rfl) (fun a => by kernel_rfl)

/-- moat/moatref04.Parse -/
def H11 : List Hint := [.join [(.normal, ⟨[.s 4 (.c (.int .u16))], []⟩)], .loop ⟨[.s 4 (.c (.int .u16)), .s 5 (.c (.int .i64))], []⟩, .no, .no, .join [(.normal, ⟨[.s 4 (.c (.int .u16))], []⟩)], .no]
def E11 (N : Nat) : Entry := entry [.c .str] [.s 2 (.c (.int .u16)), .s 3 (.c (.int .i64))] fun a => F_moatref04_Parse N a
noncomputable def C11 : MC := mcOf (comp Tryd.prog 21 [] [] (bodyOf Tryd.f11) H11)
theorem S11 (N : Nat) : Sound Tryd.prog 11 (E11 N) :=
  sound_of (C := [(30, E30 N), (31, E31 N), (14, E14 N)]) (N := N) (ntmps := 21) (priv := []) (pu := []) (hs := H11) (mc := C11) (c := bodyOf Tryd.f11) (allS_get (⟨S30 N, ⟨S31 N, ⟨S14 N, trivial⟩⟩⟩ : AllS Tryd.prog [(30, E30 N), (31, E31 N), (14, E14 N)])) Tryd.func11 (by kernel_rfl) (by kernel_rfl) (by kernel_rfl) (Nat.le_of_ble_eq_true (by kernel_rfl)) (by kernel_rfl) (by kernel_rfl) (fun a => by kernel_rfl)

/-- moat/label.Flows -/
def H17 : List Hint := []
def E17 (N : Nat) : Entry := entry [.c (.int .u16), .c (.int .u16)] [.s 4 (.c .bool)] fun a => F_label_Flows N a.1 a.2
noncomputable def C17 : MC := mcOf (comp Tryd.prog 9 [] [] (bodyOf Tryd.f17) H17)
theorem S17 (N : Nat) : Sound Tryd.prog 17 (E17 N) :=
  sound_of (C := []) (N := N) (ntmps := 9) (priv := []) (pu := []) (hs := H17) (mc := C17) (c := bodyOf Tryd.f17) (allS_get (trivial : AllS Tryd.prog [])) Tryd.func17 (by kernel_rfl) (by kernel_rfl) (by kernel_rfl) (Nat.le_of_ble_eq_true (by kernel_rfl)) (by kernel_rfl) (by kernel_rfl) (fun a => by kernel_rfl)

/-- moat/label.Join -/
def H18 : List Hint := []
def E18 (N : Nat) : Entry := entry [.c (.int .u16), .c (.int .u16)] [.s 4 (.c (.int .u16))] fun a => F_label_Join N a.1 a.2
noncomputable def C18 : MC := mcOf (comp Tryd.prog 8 [] [] (bodyOf Tryd.f18) H18)
theorem S18 (N : Nat) : Sound Tryd.prog 18 (E18 N) :=
  sound_of (C := []) (N := N) (ntmps := 8) (priv := []) (pu := []) (hs := H18) (mc := C18) (c := bodyOf Tryd.f18) (allS_get (trivial : AllS Tryd.prog [])) Tryd.func18 (by kernel_rfl) (by kernel_rfl) (by kernel_rfl) (Nat.le_of_ble_eq_true (by kernel_rfl)) (by kernel_rfl) (by kernel_rfl) (fun a => by kernel_rfl)

/-- moat/moatlaw04.shown -/
def H12 : List Hint := []
def E12 (N : Nat) : Entry := entry [] [.s 0 (.c .bool)] fun a => F_moatlaw04_shown N
noncomputable def C12 : MC := mcOf (comp Tryd.prog 46 [] [] (bodyOf Tryd.f12) H12)
theorem S12 (N : Nat) : Sound Tryd.prog 12 (E12 N) :=
  sound_of (C := [(15, E15 N), (10, E10 N), (13, E13 N), (17, E17 N), (18, E18 N)]) (N := N) (ntmps := 46) (priv := []) (pu := []) (hs := H12) (mc := C12) (c := bodyOf Tryd.f12) (allS_get (⟨S15 N, ⟨S10 N, ⟨S13 N, ⟨S17 N, ⟨S18 N, trivial⟩⟩⟩⟩⟩ : AllS Tryd.prog [(15, E15 N), (10, E10 N), (13, E13 N), (17, E17 N), (18, E18 N)])) Tryd.func12 (by kernel_rfl) (by kernel_rfl) (by kernel_rfl) (Nat.le_of_ble_eq_true (by kernel_rfl)) (by kernel_rfl) (by kernel_rfl) (fun a => by kernel_rfl)

/-- moat/moatlaw04.LabelTexts -/
def H3 : List Hint := []
def E3 (N : Nat) : Entry := entry [.c (.int .u16), .c .str] [.s 4 (.c .bool)] fun a => F_moatlaw04_LabelTexts N a.1 a.2
noncomputable def C3 : MC := mcOf (comp Tryd.prog 43 [] [] (bodyOf Tryd.f3) H3)
theorem S3 (N : Nat) : Sound Tryd.prog 3 (E3 N) :=
  sound_of (C := [(10, E10 N), (11, E11 N), (12, E12 N), (13, E13 N), (14, E14 N)]) (N := N) (ntmps := 43) (priv := []) (pu := []) (hs := H3) (mc := C3) (c := bodyOf Tryd.f3) (allS_get (⟨S10 N, ⟨S11 N, ⟨S12 N, ⟨S13 N, ⟨S14 N, trivial⟩⟩⟩⟩⟩ : AllS Tryd.prog [(10, E10 N), (11, E11 N), (12, E12 N), (13, E13 N), (14, E14 N)])) Tryd.func3 (by kernel_rfl) (by kernel_rfl) (by kernel_rfl) (Nat.le_of_ble_eq_true (by kernel_rfl)) (by kernel_rfl) (by kernel_rfl) (fun a => by kernel_rfl)

/-- moat/moatlaw04.LabelBack -/
def H4 : List Hint := []
def E4 (N : Nat) : Entry := entry [.c (.int .u16), .c .str] [.s 4 (.c .bool)] fun a => F_moatlaw04_LabelBack N a.1 a.2
noncomputable def C4 : MC := mcOf (comp Tryd.prog 73 [] [] (bodyOf Tryd.f4) H4)
theorem S4 (N : Nat) : Sound Tryd.prog 4 (E4 N) :=
  sound_of (C := [(12, E12 N), (16, E16 N), (15, E15 N), (13, E13 N), (10, E10 N)]) (N := N) (ntmps := 73) (priv := []) (pu := []) (hs := H4) (mc := C4) (c := bodyOf Tryd.f4) (allS_get (⟨S12 N, ⟨S16 N, ⟨S15 N, ⟨S13 N, ⟨S10 N, trivial⟩⟩⟩⟩⟩ : AllS Tryd.prog [(12, E12 N), (16, E16 N), (15, E15 N), (13, E13 N), (10, E10 N)])) Tryd.func4 (by kernel_rfl) (by kernel_rfl) (by kernel_rfl) (Nat.le_of_ble_eq_true (by kernel_rfl)) (by kernel_rfl) (by kernel_rfl) (fun a => by kernel_rfl)

/-- moat/moatlaw04.LabelOrder -/
def H5 : List Hint := []
def E5 (N : Nat) : Entry := entry [.c (.int .u16), .c (.int .u16), .c (.int .u16)] [.s 6 (.c .bool)] fun a => F_moatlaw04_LabelOrder N a.1 a.2.1 a.2.2
noncomputable def C5 : MC := mcOf (comp Tryd.prog 52 [] [] (bodyOf Tryd.f5) H5)
theorem S5 (N : Nat) : Sound Tryd.prog 5 (E5 N) :=
  sound_of (C := [(12, E12 N), (17, E17 N)]) (N := N) (ntmps := 52) (priv := []) (pu := []) (hs := H5) (mc := C5) (c := bodyOf Tryd.f5) (allS_get (⟨S12 N, ⟨S17 N, trivial⟩⟩ : AllS Tryd.prog [(12, E12 N), (17, E17 N)])) Tryd.func5 (by kernel_rfl) (by kernel_rfl) (by kernel_rfl) (Nat.le_of_ble_eq_true (by kernel_rfl)) (by kernel_rfl) (by kernel_rfl) (fun a => by kernel_rfl)

/-- moat/moatlaw04.LabelJoins -/
def H6 : List Hint := [.join [(.normal, ⟨[.s 6 (.c (.int .u16)), .s 7 (.c (.sl 1))], []⟩)], .loop ⟨[.s 6 (.c (.int .u16)), .s 7 (.c (.sl 1)), .s 22 (.c (.int .i64))], []⟩, .no, .join [(.normal, ⟨[.s 6 (.c (.int .u16)), .s 7 (.c (.sl 1))], []⟩), (.exit 0, ⟨[.s 6 (.c (.int .u16)), .s 7 (.c (.sl 1))], []⟩)], .no, .no, .no, .join [(.normal, ⟨[.s 14 (.c .bool)], []⟩)], .loop ⟨[.s 14 (.c .bool), .s 60 (.c (.int .i64))], []⟩, .no, .no]
def E6 (N : Nat) : Entry := entry [.c (.sl 1), .c (.int .u16)] [.s 4 (.c .bool)] fun a => F_moatlaw04_LabelJoins N a.1 a.2
noncomputable def C6 : MC := mcOf (comp Tryd.prog 89 [] [] (bodyOf Tryd.f6) H6)
theorem S6 (N : Nat) : Sound Tryd.prog 6 (E6 N) :=
  sound_of (C := [(12, E12 N), (15, E15 N), (18, E18 N), (16, E16 N), (17, E17 N)]) (N := N) (ntmps := 89) (priv := []) (pu := []) (hs := H6) (mc := C6) (c := bodyOf Tryd.f6) (allS_get (⟨S12 N, ⟨S15 N, ⟨S18 N, ⟨S16 N, ⟨S17 N, trivial⟩⟩⟩⟩⟩ : AllS Tryd.prog [(12, E12 N), (15, E15 N), (18, E18 N), (16, E16 N), (17, E17 N)])) Tryd.func6 (by kernel_rfl) (by kernel_rfl) (by kernel_rfl) (Nat.le_of_ble_eq_true (by kernel_rfl)) (by kernel_rfl) (by kernel_rfl) (fun a => by kernel_rfl)

/-- moat/label.Meet -/
def H19 : List Hint := []
def E19 (N : Nat) : Entry := entry [.c (.int .u16), .c (.int .u16)] [.s 4 (.c (.int .u16))] fun a => F_label_Meet N a.1 a.2
noncomputable def C19 : MC := mcOf (comp Tryd.prog 8 [] [] (bodyOf Tryd.f19) H19)
theorem S19 (N : Nat) : Sound Tryd.prog 19 (E19 N) :=
  sound_of (C := []) (N := N) (ntmps := 8) (priv := []) (pu := []) (hs := H19) (mc := C19) (c := bodyOf Tryd.f19) (allS_get (trivial : AllS Tryd.prog [])) Tryd.func19 (by kernel_rfl) (by kernel_rfl) (by kernel_rfl) (Nat.le_of_ble_eq_true (by kernel_rfl)) (by kernel_rfl) (by kernel_rfl) (fun a => by kernel_rfl)

/-- moat/moatlaw04.LabelBounds -/
def H7 : List Hint := [.no]
def E7 (N : Nat) : Entry := entry [.c (.int .u16), .c (.int .u16), .c (.int .u16)] [.s 6 (.c .bool)] fun a => F_moatlaw04_LabelBounds N a.1 a.2.1 a.2.2
noncomputable def C7 : MC := mcOf (comp Tryd.prog 81 [] [] (bodyOf Tryd.f7) H7)
theorem S7 (N : Nat) : Sound Tryd.prog 7 (E7 N) :=
  sound_of (C := [(18, E18 N), (19, E19 N), (12, E12 N), (17, E17 N)]) (N := N) (ntmps := 81) (priv := []) (pu := []) (hs := H7) (mc := C7) (c := bodyOf Tryd.f7) (allS_get (⟨S18 N, ⟨S19 N, ⟨S12 N, ⟨S17 N, trivial⟩⟩⟩⟩ : AllS Tryd.prog [(18, E18 N), (19, E19 N), (12, E12 N), (17, E17 N)])) Tryd.func7 (by kernel_rfl) (by kernel_rfl) (by kernel_rfl) (Nat.le_of_ble_eq_true (by kernel_rfl)) (by kernel_rfl) (by kernel_rfl) (fun a => by kernel_rfl)

/-- math/bits.OnesCount16 -/
def H35 : List Hint := [.draw false []]
def E35 (N : Nat) : Entry := entry [.c (.int .u16)] [.s 2 (.c (.int .i64))] fun a => F_math_bits_OnesCount16 N a
noncomputable def C35 : MC := mcOf (comp Tryd.prog 11 [] [] (bodyOf Tryd.f35) H35)
theorem S35 (N : Nat) : Sound Tryd.prog 35 (E35 N) :=
  sound_of (C := []) (N := N) (ntmps := 11) (priv := []) (pu := []) (hs := H35) (mc := C35) (c := bodyOf Tryd.f35) (allS_get (trivial : AllS Tryd.prog [])) Tryd.func35 (by kernel_rfl) (by kernel_rfl) (by kernel_rfl) (Nat.le_of_ble_eq_true (by kernel_rfl)) (by kernel_rfl) (by kernel_rfl) (fun a => by kernel_rfl)

/-- cmp.isNaN[int] -/
def H58 : List Hint := []
def E58 (N : Nat) : Entry := entry [.c (.int .i64)] [.s 2 (.c .bool)] fun a => F_cmp_isNaN_int N a
noncomputable def C58 : MC := mcOf (comp Tryd.prog 6 [] [] (bodyOf Tryd.f58) H58)
theorem S58 (N : Nat) : Sound Tryd.prog 58 (E58 N) :=
  sound_of (C := []) (N := N) (ntmps := 6) (priv := []) (pu := []) (hs := H58) (mc := C58) (c := bodyOf Tryd.f58) (allS_get (trivial : AllS Tryd.prog [])) Tryd.func58 (by kernel_rfl) (by kernel_rfl) (by kernel_rfl) (Nat.le_of_ble_eq_true (by kernel_rfl)) (by kernel_rfl) (by kernel_rfl) (fun a => by kernel_rfl)

/-- cmp.Compare[int] -/
def H46 : List Hint := [.no, .no, .no, .no, .no]
def E46 (N : Nat) : Entry := entry [.c (.int .i64), .c (.int .i64)] [.s 4 (.c (.int .i64))] fun a => F_cmp_Compare_int N a.1 a.2
noncomputable def C46 : MC := mcOf (comp Tryd.prog 20 [] [] (bodyOf Tryd.f46) H46)
theorem S46 (N : Nat) : Sound Tryd.prog 46 (E46 N) :=
  sound_of (C := [(58, E58 N)]) (N := N) (ntmps := 20) (priv := []) (pu := []) (hs := H46) (mc := C46) (c := bodyOf Tryd.f46) (allS_get (⟨S58 N, trivial⟩ : AllS Tryd.prog [(58, E58 N)])) Tryd.func46 (by kernel_rfl) (by kernel_rfl) (by kernel_rfl) (Nat.le_of_ble_eq_true (by kernel_rfl)) (by kernel_rfl) (by kernel_rfl) (fun a => by kernel_rfl)

/-- slices.Compare[[]int,int] -/
def H36 : List Hint := [.join [(.normal, ⟨[], []⟩), (.ret, ⟨[.s 4 (.c (.int .i64))], []⟩)], .loop ⟨[.s 11 (.c (.int .i64))], []⟩, .no, .no, .no, .no, .no]
def E36 (N : Nat) : Entry := entry [.c (.sl 1), .c (.sl 1)] [.s 4 (.c (.int .i64))] fun a => F_slices_Compare_Lint_int N a.1 a.2
noncomputable def C36 : MC := mcOf (comp Tryd.prog 36 [] [] (bodyOf Tryd.f36) H36)
theorem S36 (N : Nat) : Sound Tryd.prog 36 (E36 N) :=
  sound_of (C := [(46, E46 N)]) (N := N) (ntmps := 36) (priv := []) (pu := []) (hs := H36) (mc := C36) (c := bodyOf Tryd.f36) (allS_get (⟨S46 N, trivial⟩ : AllS Tryd.prog [(46, E46 N)])) Tryd.func36 (by kernel_rfl) (by kernel_rfl) (by kernel_rfl) (Nat.le_of_ble_eq_true (by kernel_rfl)) (by kernel_rfl) (by kernel_rfl) (fun a => by kernel_rfl)

/-- moat/label.Less -/
def H20 : List Hint := [.no]
def E20 (N : Nat) : Entry := entry [.c (.int .u16), .c (.int .u16)] [.s 4 (.c .bool)] fun a => F_label_Less N a.1 a.2
noncomputable def C20 : MC := mcOf (comp Tryd.prog 23 [] [] (bodyOf Tryd.f20) H20)
theorem S20 (N : Nat) : Sound Tryd.prog 20 (E20 N) :=
  sound_of (C := [(35, E35 N), (16, E16 N), (36, E36 N)]) (N := N) (ntmps := 23) (priv := []) (pu := []) (hs := H20) (mc := C20) (c := bodyOf Tryd.f20) (allS_get (⟨S35 N, ⟨S16 N, ⟨S36 N, trivial⟩⟩⟩ : AllS Tryd.prog [(35, E35 N), (16, E16 N), (36, E36 N)])) Tryd.func20 (by kernel_rfl) (by kernel_rfl) (by kernel_rfl) (Nat.le_of_ble_eq_true (by kernel_rfl)) (by kernel_rfl) (by kernel_rfl) (fun a => by kernel_rfl)

/-- moat/moatlaw04.LabelStands -/
def H8 : List Hint := [.no]
def E8 (N : Nat) : Entry := entry [.c (.int .u16), .c (.int .u16), .c (.int .u16)] [.s 6 (.c .bool)] fun a => F_moatlaw04_LabelStands N a.1 a.2.1 a.2.2
noncomputable def C8 : MC := mcOf (comp Tryd.prog 72 [] [] (bodyOf Tryd.f8) H8)
theorem S8 (N : Nat) : Sound Tryd.prog 8 (E8 N) :=
  sound_of (C := [(12, E12 N), (20, E20 N), (17, E17 N)]) (N := N) (ntmps := 72) (priv := []) (pu := []) (hs := H8) (mc := C8) (c := bodyOf Tryd.f8) (allS_get (⟨S12 N, ⟨S20 N, ⟨S17 N, trivial⟩⟩⟩ : AllS Tryd.prog [(12, E12 N), (20, E20 N), (17, E17 N)])) Tryd.func8 (by kernel_rfl) (by kernel_rfl) (by kernel_rfl) (Nat.le_of_ble_eq_true (by kernel_rfl)) (by kernel_rfl) (by kernel_rfl) (fun a => by kernel_rfl)

/-- moat/moatref04.Of -/
def H21 : List Hint := [.join [(.normal, ⟨[.s 4 (.c (.int .u16))], []⟩), (.ret, ⟨[.s 2 (.c (.int .u16)), .s 3 (.c (.int .i64))], []⟩)], .loop ⟨[.s 4 (.c (.int .u16)), .s 5 (.c (.int .i64))], []⟩, .no, .no, .no, .join [(.normal, ⟨[.s 4 (.c (.int .u16))], []⟩)]]
def E21 (N : Nat) : Entry := entry [.c (.sl 1)] [.s 2 (.c (.int .u16)), .s 3 (.c (.int .i64))] fun a => F_moatref04_Of N a
noncomputable def C21 : MC := mcOf (comp Tryd.prog 38 [] [] (bodyOf Tryd.f21) H21)
theorem S21 (N : Nat) : Sound Tryd.prog 21 (E21 N) :=
  sound_of (C := [(37, E37 N), (31, E31 N)]) (N := N) (ntmps := 38) (priv := []) (pu := []) (hs := H21) (mc := C21) (c := bodyOf Tryd.f21) (allS_get (⟨S37 N, ⟨S31 N, trivial⟩⟩ : AllS Tryd.prog [(37, E37 N), (31, E31 N)])) Tryd.func21 (by kernel_rfl) (by kernel_rfl) (by kernel_rfl) (Nat.le_of_ble_eq_true (by kernel_rfl)) (by kernel_rfl) (by kernel_rfl) (fun a => by kernel_rfl)

/-- moat/moatlaw04.same -/
def H22 : List Hint := [.no, .join [(.normal, ⟨[], []⟩), (.ret, ⟨[.s 4 (.c .bool)], []⟩)], .loop ⟨[.s 13 (.c (.int .i64))], []⟩, .no, .no, .draw false [], .no]
def E22 (N : Nat) : Entry := entry [.c (.sl 1), .c (.sl 1)] [.s 4 (.c .bool)] fun a => F_moatlaw04_same N a.1 a.2
noncomputable def C22 : MC := mcOf (comp Tryd.prog 26 [] [] (bodyOf Tryd.f22) H22)
theorem S22 (N : Nat) : Sound Tryd.prog 22 (E22 N) :=
  sound_of (C := []) (N := N) (ntmps := 26) (priv := []) (pu := []) (hs := H22) (mc := C22) (c := bodyOf Tryd.f22) (allS_get (trivial : AllS Tryd.prog [])) Tryd.func22 (by kernel_rfl) (by kernel_rfl) (by kernel_rfl) (Nat.le_of_ble_eq_true (by kernel_rfl)) (by kernel_rfl) (by kernel_rfl) (fun a => by kernel_rfl)

/-- moat/moatref04.Flows -/
def H24 : List Hint := [.join [(.normal, ⟨[], []⟩), (.ret, ⟨[.s 4 (.c .bool)], []⟩)], .loop ⟨[.s 5 (.c (.int .i64))], []⟩, .no, .no, .no]
def E24 (N : Nat) : Entry := entry [.c (.int .u16), .c (.int .u16)] [.s 4 (.c .bool)] fun a => F_moatref04_Flows N a.1 a.2
noncomputable def C24 : MC := mcOf (comp Tryd.prog 19 [] [] (bodyOf Tryd.f24) H24)
theorem S24 (N : Nat) : Sound Tryd.prog 24 (E24 N) :=
  sound_of (C := [(37, E37 N)]) (N := N) (ntmps := 19) (priv := []) (pu := []) (hs := H24) (mc := C24) (c := bodyOf Tryd.f24) (allS_get (⟨S37 N, trivial⟩ : AllS Tryd.prog [(37, E37 N)])) Tryd.func24 (by kernel_rfl) (by kernel_rfl) (by kernel_rfl) (Nat.le_of_ble_eq_true (by kernel_rfl)) (by kernel_rfl) (by kernel_rfl) (fun a => by kernel_rfl)

/-- moat/moatref04.Join -/
def H25 : List Hint := [.join [(.normal, ⟨[.s 5 (.c (.int .u16))], []⟩)], .loop ⟨[.s 5 (.c (.int .u16)), .s 6 (.c (.int .i64))], []⟩, .no, .no, .join [(.normal, ⟨[.s 5 (.c (.int .u16))], []⟩)]]
def E25 (N : Nat) : Entry := entry [.c (.int .u16), .c (.int .u16)] [.s 4 (.c (.int .u16))] fun a => F_moatref04_Join N a.1 a.2
noncomputable def C25 : MC := mcOf (comp Tryd.prog 23 [] [] (bodyOf Tryd.f25) H25)
theorem S25 (N : Nat) : Sound Tryd.prog 25 (E25 N) :=
  sound_of (C := [(37, E37 N), (31, E31 N)]) (N := N) (ntmps := 23) (priv := []) (pu := []) (hs := H25) (mc := C25) (c := bodyOf Tryd.f25) (allS_get (⟨S37 N, ⟨S31 N, trivial⟩⟩ : AllS Tryd.prog [(37, E37 N), (31, E31 N)])) Tryd.func25 (by kernel_rfl) (by kernel_rfl) (by kernel_rfl) (Nat.le_of_ble_eq_true (by kernel_rfl)) (by kernel_rfl) (by kernel_rfl) (fun a => by kernel_rfl)

/-- moat/moatref04.Meet -/
def H26 : List Hint := [.join [(.normal, ⟨[.s 5 (.c (.int .u16))], []⟩)], .loop ⟨[.s 5 (.c (.int .u16)), .s 6 (.c (.int .i64))], []⟩, .no, .no, .join [(.normal, ⟨[.s 5 (.c (.int .u16))], []⟩)]]
def E26 (N : Nat) : Entry := entry [.c (.int .u16), .c (.int .u16)] [.s 4 (.c (.int .u16))] fun a => F_moatref04_Meet N a.1 a.2
noncomputable def C26 : MC := mcOf (comp Tryd.prog 23 [] [] (bodyOf Tryd.f26) H26)
theorem S26 (N : Nat) : Sound Tryd.prog 26 (E26 N) :=
  sound_of (C := [(37, E37 N), (31, E31 N)]) (N := N) (ntmps := 23) (priv := []) (pu := []) (hs := H26) (mc := C26) (c := bodyOf Tryd.f26) (allS_get (⟨S37 N, ⟨S31 N, trivial⟩⟩ : AllS Tryd.prog [(37, E37 N), (31, E31 N)])) Tryd.func26 (by kernel_rfl) (by kernel_rfl) (by kernel_rfl) (Nat.le_of_ble_eq_true (by kernel_rfl)) (by kernel_rfl) (by kernel_rfl) (fun a => by kernel_rfl)

/-- moat/moatref04.Less -/
def H27 : List Hint := [.no, .join [(.normal, ⟨[], []⟩), (.ret, ⟨[.s 4 (.c .bool)], []⟩)], .loop ⟨[.s 7 (.c (.int .i64))], []⟩, .no, .no, .draw false [], .no, .draw false []]
def E27 (N : Nat) : Entry := entry [.c (.int .u16), .c (.int .u16)] [.s 4 (.c .bool)] fun a => F_moatref04_Less N a.1 a.2
noncomputable def C27 : MC := mcOf (comp Tryd.prog 46 [] [] (bodyOf Tryd.f27) H27)
theorem S27 (N : Nat) : Sound Tryd.prog 27 (E27 N) :=
  sound_of (C := [(23, E23 N)]) (N := N) (ntmps := 46) (priv := []) (pu := []) (hs := H27) (mc := C27) (c := bodyOf Tryd.f27) (allS_get (⟨S23 N, trivial⟩ : AllS Tryd.prog [(23, E23 N)])) Tryd.func27 (by kernel_rfl) (by kernel_rfl) (by kernel_rfl) (Nat.le_of_ble_eq_true (by kernel_rfl)) (by kernel_rfl) (by kernel_rfl) (fun a => by kernel_rfl)

/-- moat/moatlaw04.LabelSets -/
def H9 : List Hint := []
def E9 (N : Nat) : Entry := entry [.c (.sl 1), .c (.int .u16), .c (.int .u16)] [.s 6 (.c .bool)] fun a => F_moatlaw04_LabelSets N a.1 a.2.1 a.2.2
noncomputable def C9 : MC := mcOf (comp Tryd.prog 81 [] [] (bodyOf Tryd.f9) H9)
theorem S9 (N : Nat) : Sound Tryd.prog 9 (E9 N) :=
  sound_of (C := [(15, E15 N), (21, E21 N), (12, E12 N), (16, E16 N), (23, E23 N), (22, E22 N), (17, E17 N), (24, E24 N), (18, E18 N), (25, E25 N), (19, E19 N), (26, E26 N), (20, E20 N), (27, E27 N)]) (N := N) (ntmps := 81) (priv := []) (pu := []) (hs := H9) (mc := C9) (c := bodyOf Tryd.f9) (allS_get (⟨S15 N, ⟨S21 N, ⟨S12 N, ⟨S16 N, ⟨S23 N, ⟨S22 N, ⟨S17 N, ⟨S24 N, ⟨S18 N, ⟨S25 N, ⟨S19 N, ⟨S26 N, ⟨S20 N, ⟨S27 N, trivial⟩⟩⟩⟩⟩⟩⟩⟩⟩⟩⟩⟩⟩⟩ : AllS Tryd.prog [(15, E15 N), (21, E21 N), (12, E12 N), (16, E16 N), (23, E23 N), (22, E22 N), (17, E17 N), (24, E24 N), (18, E18 N), (25, E25 N), (19, E19 N), (26, E26 N), (20, E20 N), (27, E27 N)])) Tryd.func9 (by kernel_rfl) (by kernel_rfl) (by kernel_rfl) (Nat.le_of_ble_eq_true (by kernel_rfl)) (by kernel_rfl) (by kernel_rfl) (fun a => by kernel_rfl)

end Go.Proofs.YtpejkcmkboegdaaDoor
