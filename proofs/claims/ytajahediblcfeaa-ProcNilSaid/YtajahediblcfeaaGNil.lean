/- PRINTED by gen.py: what each function comes to, as a plain function over a small heap, and that the code comes to it. Not trusted: Lean checks it. -/
import Derived.Test.YtajahediblcfeaaMU
import Derived.Test.YtajahediblcfeaaProg
import Derived.KernelRfl
namespace Go.Proofs.Ytajahediblcfeaa
open Go.Mini
set_option maxRecDepth 100000

/-- moat/proc.New -/
def F9 (N : Nat) (n_1 : Int) : M (Option MA × Int) := if ((decide (n_1 < (1 : Int))) || (decide ((8 : Int) < n_1))) = true then (ret ((none : Option MA), (1 : Int))) else (bd (mkSl 9 72 [MV.int .u16 (0 : Int), MV.ptr (none : Option MA), MV.ptr (none : Option MA), MV.ptr (none : Option MA), MV.ptr (none : Option MA), MV.ptr (none : Option MA), MV.ptr (none : Option MA), MV.ptr (none : Option MA), MV.ptr (none : Option MA)] n_1 n_1) fun l_2 => bd (alloc [MV.sl l_2.p l_2.len 9]) fun q_3 => ret (q_3, (0 : Int)))
def H9 : List Hint := [.no]
def E9 (N : Nat) : Entry := entry [.c (.int .i64)] [.s 2 (.c .ptr), .s 3 (.c (.int .i64))] fun a => F9 N a
noncomputable def C9 : MC := mcOf (comp Try.prog 14 [] [] (bodyOf Try.f9) H9)
theorem S9 (N : Nat) : Sound Try.prog 9 (E9 N) :=
  sound_of (C := []) (N := N) (ntmps := 14) (priv := []) (pu := []) (hs := H9) (mc := C9) (c := bodyOf Try.f9) (allS_get (trivial : AllS Try.prog [])) Try.func9 (by kernel_rfl) (by kernel_rfl) (by kernel_rfl) (Nat.le_of_ble_eq_true (by kernel_rfl)) (by kernel_rfl) (by kernel_rfl) (fun a => by kernel_rfl)

/-- (*moat/proc.Table).one -/
def F23 (N : Nat) (vt_1 : Option MA) (vp_2 : Int) : M (Option MA × Int) := if (Option.isNone vt_1) = true then (ret ((none : Option MA), (2 : Int))) else (bd (if (decide (vp_2 < (0 : Int))) = false then (bd (nonNil vt_1) fun q_3 => bd (fld q_3 0) fun q_4 => bd (ldL 9 q_4) fun y_5 => ret ((decide ((y_5.len : Int) ≤ vp_2)))) else ret true) fun c_6 => if c_6 = true then (ret ((none : Option MA), (1 : Int))) else (bd (nonNil vt_1) fun q_7 => bd (fld q_7 0) fun q_8 => bd (ldL 9 q_8) fun y_9 => bd (idx 9 y_9 vp_2) fun q_10 => ret (q_10, (0 : Int))))
def H23 : List Hint := [.no, .no, .no]
def E23 (N : Nat) : Entry := entry [.c .ptr, .c (.int .i64)] [.s 4 (.c .ptr), .s 5 (.c (.int .i64))] fun a => F23 N a.1 a.2
noncomputable def C23 : MC := mcOf (comp Try.prog 27 [] [] (bodyOf Try.f23) H23)
theorem S23 (N : Nat) : Sound Try.prog 23 (E23 N) :=
  sound_of (C := []) (N := N) (ntmps := 27) (priv := []) (pu := []) (hs := H23) (mc := C23) (c := bodyOf Try.f23) (allS_get (trivial : AllS Try.prog [])) Try.func23 (by kernel_rfl) (by kernel_rfl) (by kernel_rfl) (Nat.le_of_ble_eq_true (by kernel_rfl)) (by kernel_rfl) (by kernel_rfl) (fun a => by kernel_rfl)

/-- slices.Index[[]*moat/api.Fd,*moat/api.Fd] -/
def F24 (N : Nat) (vs_1 : Sl) (v_2 : Option MA) : M (Int) := bd (show M (Unit ⊕ Int) from iter N (fun go_4 (v_3 : Int) => if (decide (v_3 < (vs_1.len : Int))) = true then (bd (idx 1 vs_1 v_3) fun q_5 => bd (ldP q_5) fun y_6 => evPtr v_2 y_6 fun z_7 => if z_7 = true then (ret (Sum.inr v_3)) else (go_4 (wr .i64 (v_3 + (1 : Int))))) else (ret ((Sum.inl ())))) (0 : Int)) fun j_8 => (match j_8 with | Sum.inl j_9 => ret (-1 : Int) | Sum.inr j_10 => ret j_10)
def H24 : List Hint := [.join [(.normal, ⟨[], []⟩), (.ret, ⟨[.s 4 (.c (.int .i64))], []⟩)], .loop ⟨[.s 8 (.c (.int .i64))], []⟩, .no, .no, .no]
def E24 (N : Nat) : Entry := entry [.c (.sl 1), .c .ptr] [.s 4 (.c (.int .i64))] fun a => F24 N a.1 a.2
noncomputable def C24 : MC := mcOf (comp Try.prog 19 [] [] (bodyOf Try.f24) H24)
theorem S24 (N : Nat) : Sound Try.prog 24 (E24 N) :=
  sound_of (C := []) (N := N) (ntmps := 19) (priv := []) (pu := []) (hs := H24) (mc := C24) (c := bodyOf Try.f24) (allS_get (trivial : AllS Try.prog [])) Try.func24 (by kernel_rfl) (by kernel_rfl) (by kernel_rfl) (Nat.le_of_ble_eq_true (by kernel_rfl)) (by kernel_rfl) (by kernel_rfl) (fun a => by kernel_rfl)

/-- (*moat/proc.Table).Open -/
def F10 (N : Nat) (vt_1 : Option MA) (vp_2 : Int) (inode_3 : Int) : M (Int × Int) := bd (F23 N vt_1 vp_2) fun r_4 => if (!decide (r_4.2 = (0 : Int))) = true then (ret ((0 : Int), r_4.2)) else (if ((decide (inode_3 < (0 : Int))) || (decide ((64 : Int) ≤ inode_3))) = true then (ret ((0 : Int), (1 : Int))) else (bd (nonNil r_4.1) fun q_5 => bd (fld q_5 1) fun q_6 => bd (slcA 8 1 q_6 (0 : Int) (8 : Int)) fun l_7 => bd (F24 N l_7 (none : Option MA)) fun r_8 => if (decide (r_8 < (0 : Int))) = true then (ret ((0 : Int), (5 : Int))) else (bd (alloc [MV.int .i64 inode_3, MV.int .i64 (0 : Int)]) fun q_9 => bd (nonNil r_4.1) fun q_10 => bd (fld q_10 1) fun q_11 => bd (idxA 8 1 q_11 r_8) fun q_12 => bd (stc q_12 (MV.ptr q_9)) fun _ => ret (r_8, (0 : Int)))))
def H10 : List Hint := [.no, .no, .no, .no]
def E10 (N : Nat) : Entry := entry [.c .ptr, .c (.int .i64), .c (.int .i64)] [.s 6 (.c (.int .i64)), .s 7 (.c (.int .i64))] fun a => F10 N a.1 a.2.1 a.2.2
noncomputable def C10 : MC := mcOf (comp Try.prog 44 [] [] (bodyOf Try.f10) H10)
theorem S10 (N : Nat) : Sound Try.prog 10 (E10 N) :=
  sound_of (C := [(23, E23 N), (24, E24 N)]) (N := N) (ntmps := 44) (priv := []) (pu := []) (hs := H10) (mc := C10) (c := bodyOf Try.f10) (allS_get (⟨S23 N, ⟨S24 N, trivial⟩⟩ : AllS Try.prog [(23, E23 N), (24, E24 N)])) Try.func10 (by kernel_rfl) (by kernel_rfl) (by kernel_rfl) (Nat.le_of_ble_eq_true (by kernel_rfl)) (by kernel_rfl) (by kernel_rfl) (fun a => by kernel_rfl)

/-- (*moat/proc.Table).has -/
def F25 (N : Nat) (vt_1 : Option MA) (vp_2 : Int) (fd_3 : Int) : M (Option MA × Int) := bd (F23 N vt_1 vp_2) fun r_4 => if (!decide (r_4.2 = (0 : Int))) = true then (ret ((none : Option MA), r_4.2)) else (bd (if ((decide (fd_3 < (0 : Int))) || (decide ((8 : Int) ≤ fd_3))) = false then (bd (nonNil r_4.1) fun q_5 => bd (fld q_5 1) fun q_6 => bd (idxA 8 1 q_6 fd_3) fun q_7 => bd (ldP q_7) fun y_8 => ret (Option.isNone y_8)) else ret true) fun c_9 => if c_9 = true then (ret ((none : Option MA), (2 : Int))) else (bd (nonNil r_4.1) fun q_10 => bd (fld q_10 1) fun q_11 => bd (idxA 8 1 q_11 fd_3) fun q_12 => bd (ldP q_12) fun y_13 => ret (y_13, (0 : Int))))
def H25 : List Hint := [.no, .no, .no]
def E25 (N : Nat) : Entry := entry [.c .ptr, .c (.int .i64), .c (.int .i64)] [.s 6 (.c .ptr), .s 7 (.c (.int .i64))] fun a => F25 N a.1 a.2.1 a.2.2
noncomputable def C25 : MC := mcOf (comp Try.prog 42 [] [] (bodyOf Try.f25) H25)
theorem S25 (N : Nat) : Sound Try.prog 25 (E25 N) :=
  sound_of (C := [(23, E23 N)]) (N := N) (ntmps := 42) (priv := []) (pu := []) (hs := H25) (mc := C25) (c := bodyOf Try.f25) (allS_get (⟨S23 N, trivial⟩ : AllS Try.prog [(23, E23 N)])) Try.func25 (by kernel_rfl) (by kernel_rfl) (by kernel_rfl) (Nat.le_of_ble_eq_true (by kernel_rfl)) (by kernel_rfl) (by kernel_rfl) (fun a => by kernel_rfl)

/-- (*moat/proc.Table).Close -/
def F12 (N : Nat) (vt_1 : Option MA) (vp_2 : Int) (fd_3 : Int) : M (Int × Int) := bd (F25 N vt_1 vp_2 fd_3) fun r_4 => if (!decide (r_4.2 = (0 : Int))) = true then (ret ((0 : Int), r_4.2)) else (bd (nonNil vt_1) fun q_5 => bd (fld q_5 0) fun q_6 => bd (ldL 9 q_6) fun y_7 => bd (idx 9 y_7 vp_2) fun q_8 => bd (fld q_8 1) fun q_9 => bd (idxA 8 1 q_9 fd_3) fun q_10 => bd (stc q_10 (MV.ptr (none : Option MA))) fun _ => bd (nonNil r_4.1) fun q_11 => bd (fld q_11 0) fun q_12 => bd (ldI .i64 q_12) fun y_13 => ret (y_13, (0 : Int)))
def H12 : List Hint := [.no]
def E12 (N : Nat) : Entry := entry [.c .ptr, .c (.int .i64), .c (.int .i64)] [.s 6 (.c (.int .i64)), .s 7 (.c (.int .i64))] fun a => F12 N a.1 a.2.1 a.2.2
noncomputable def C12 : MC := mcOf (comp Try.prog 33 [] [] (bodyOf Try.f12) H12)
theorem S12 (N : Nat) : Sound Try.prog 12 (E12 N) :=
  sound_of (C := [(25, E25 N)]) (N := N) (ntmps := 33) (priv := []) (pu := []) (hs := H12) (mc := C12) (c := bodyOf Try.f12) (allS_get (⟨S25 N, trivial⟩ : AllS Try.prog [(25, E25 N)])) Try.func12 (by kernel_rfl) (by kernel_rfl) (by kernel_rfl) (Nat.le_of_ble_eq_true (by kernel_rfl)) (by kernel_rfl) (by kernel_rfl) (fun a => by kernel_rfl)

/-- (*moat/proc.Table).Holds -/
def F11 (N : Nat) (vt_1 : Option MA) (inode_2 : Int) : M (Int) := if (Option.isNone vt_1) = true then (ret (0 : Int)) else (bd (nonNil vt_1) fun q_3 => bd (fld q_3 0) fun q_4 => bd (ldL 9 q_4) fun y_5 => bd (show M (Int) from iter N (fun go_7 (v_6 : Int × Int) => if (decide (v_6.2 < (y_5.len : Int))) = true then (bd (idx 9 y_5 v_6.2) fun q_8 => bd (ldn 9 q_8) fun y_9 => bd (if y_9.length = 9 ∧ 0 + 9 ≤ ([MV.int .u16 (0 : Int), MV.ptr (none : Option MA), MV.ptr (none : Option MA), MV.ptr (none : Option MA), MV.ptr (none : Option MA), MV.ptr (none : Option MA), MV.ptr (none : Option MA), MV.ptr (none : Option MA), MV.ptr (none : Option MA)]).length ∧ y_9.all isCell = true then ret () else fail) fun _ => bd (if 1 + 8 ≤ (over ([MV.int .u16 (0 : Int), MV.ptr (none : Option MA), MV.ptr (none : Option MA), MV.ptr (none : Option MA), MV.ptr (none : Option MA), MV.ptr (none : Option MA), MV.ptr (none : Option MA), MV.ptr (none : Option MA), MV.ptr (none : Option MA)]) 0 y_9).length then ret (((over ([MV.int .u16 (0 : Int), MV.ptr (none : Option MA), MV.ptr (none : Option MA), MV.ptr (none : Option MA), MV.ptr (none : Option MA), MV.ptr (none : Option MA), MV.ptr (none : Option MA), MV.ptr (none : Option MA), MV.ptr (none : Option MA)]) 0 y_9).drop 1).take 8) else fail) fun l_10 => bd (show M (Int) from iter N (fun go_12 (v_11 : Int × Int) => if (decide (v_11.2 < (8 : Int))) = true then (bd (idxV 8 l_10 v_11.2) fun v_13 => bd (someOr (CTy.dec (.ptr) v_13)) fun y_14 => bd (if (!(Option.isNone y_14)) = true then (bd (nonNil y_14) fun q_15 => bd (fld q_15 0) fun q_16 => bd (ldI .i64 q_16) fun y_17 => ret ((decide (y_17 = inode_2)))) else ret false) fun c_18 => bd (show M (Int) from if c_18 = true then (ret (wr .i64 (v_11.1 + (1 : Int)))) else (ret v_11.1)) fun j_19 => go_12 ((j_19, wr .i64 (v_11.2 + (1 : Int))))) else (ret v_11.1)) ((v_6.1, (0 : Int)))) fun j_20 => go_7 ((j_20, wr .i64 (v_6.2 + (1 : Int))))) else (ret v_6.1)) (((0 : Int), (0 : Int)))) fun j_21 => ret j_21)
def H11 : List Hint := [.no, .join [(.normal, ⟨[.s 5 (.c (.int .i64))], []⟩)], .loop ⟨[.s 5 (.c (.int .i64)), .s 18 (.c (.int .i64))], []⟩, .no, .no, .join [(.normal, ⟨[.s 5 (.c (.int .i64))], []⟩)], .loop ⟨[.s 5 (.c (.int .i64)), .s 24 (.c (.int .i64))], []⟩, .no, .no, .join [(.normal, ⟨[.s 5 (.c (.int .i64))], []⟩)]]
def E11 (N : Nat) : Entry := entry [.c .ptr, .c (.int .i64)] [.s 4 (.c (.int .i64))] fun a => F11 N a.1 a.2
noncomputable def C11 : MC := mcOf (comp Try.prog 42 [7] [] (bodyOf Try.f11) H11)
theorem S11 (N : Nat) : Sound Try.prog 11 (E11 N) :=
  sound_of (C := []) (N := N) (ntmps := 42) (priv := [7]) (pu := []) (hs := H11) (mc := C11) (c := bodyOf Try.f11) (allS_get (trivial : AllS Try.prog [])) Try.func11 (by kernel_rfl) (by kernel_rfl) (by kernel_rfl) (Nat.le_of_ble_eq_true (by kernel_rfl)) (by kernel_rfl) (by kernel_rfl) (fun a => by kernel_rfl)

/-- moat/moatlaw19.shown -/
def F8 (N : Nat) : M (Bool) := bd (F9 N (2 : Int)) fun r_1 => if ((Option.isNone r_1.1) || (!decide (r_1.2 = (0 : Int)))) = true then (ret false) else (bd (F10 N r_1.1 (0 : Int) (5 : Int)) fun r_2 => bd (F10 N r_1.1 (0 : Int) (6 : Int)) fun r_3 => bd (F12 N r_1.1 (0 : Int) (0 : Int)) fun r_4 => bd (F10 N r_1.1 (0 : Int) (7 : Int)) fun r_5 => bd (if ((((decide (r_2.1 = (0 : Int))) && (decide (r_3.1 = (1 : Int)))) && (decide (r_4.1 = (5 : Int)))) && (decide (r_5.1 = (0 : Int)))) = true then (bd (F11 N r_1.1 (6 : Int)) fun r_6 => ret ((decide (r_6 = (1 : Int))))) else ret false) fun c_7 => ret c_7)
def H8 : List Hint := [.no]
def E8 (N : Nat) : Entry := entry [] [.s 0 (.c .bool)] fun a => F8 N
noncomputable def C8 : MC := mcOf (comp Try.prog 60 [] [] (bodyOf Try.f8) H8)
theorem S8 (N : Nat) : Sound Try.prog 8 (E8 N) :=
  sound_of (C := [(9, E9 N), (10, E10 N), (12, E12 N), (11, E11 N)]) (N := N) (ntmps := 60) (priv := []) (pu := []) (hs := H8) (mc := C8) (c := bodyOf Try.f8) (allS_get (⟨S9 N, ⟨S10 N, ⟨S12 N, ⟨S11 N, trivial⟩⟩⟩⟩ : AllS Try.prog [(9, E9 N), (10, E10 N), (12, E12 N), (11, E11 N)])) Try.func8 (by kernel_rfl) (by kernel_rfl) (by kernel_rfl) (Nat.le_of_ble_eq_true (by kernel_rfl)) (by kernel_rfl) (by kernel_rfl) (fun a => by kernel_rfl)

/-- moat/label.Flows -/
def F22 (N : Nat) (a_1 : Int) (vb_2 : Int) : M (Bool) := ret (decide (bitI .andNot .u16 a_1 vb_2 = (0 : Int)))
def H22 : List Hint := []
def E22 (N : Nat) : Entry := entry [.c (.int .u16), .c (.int .u16)] [.s 4 (.c .bool)] fun a => F22 N a.1 a.2
noncomputable def C22 : MC := mcOf (comp Try.prog 9 [] [] (bodyOf Try.f22) H22)
theorem S22 (N : Nat) : Sound Try.prog 22 (E22 N) :=
  sound_of (C := []) (N := N) (ntmps := 9) (priv := []) (pu := []) (hs := H22) (mc := C22) (c := bodyOf Try.f22) (allS_get (trivial : AllS Try.prog [])) Try.func22 (by kernel_rfl) (by kernel_rfl) (by kernel_rfl) (Nat.le_of_ble_eq_true (by kernel_rfl)) (by kernel_rfl) (by kernel_rfl) (fun a => by kernel_rfl)

/-- (*moat/proc.Table).Raise -/
def F26 (N : Nat) (vt_1 : Option MA) (vp_2 : Int) (a_3 : Int) : M (Int) := bd (F23 N vt_1 vp_2) fun r_4 => if (!decide (r_4.2 = (0 : Int))) = true then (ret r_4.2) else (bd (nonNil r_4.1) fun q_5 => bd (fld q_5 0) fun q_6 => bd (ldI .u16 q_6) fun y_7 => bd (F22 N y_7 a_3) fun r_8 => if (!r_8) = true then (ret (7 : Int)) else (bd (nonNil r_4.1) fun q_9 => bd (fld q_9 0) fun q_10 => bd (stc q_10 (MV.int .u16 a_3)) fun _ => ret (0 : Int)))
def H26 : List Hint := [.no, .no, .no]
def E26 (N : Nat) : Entry := entry [.c .ptr, .c (.int .i64), .c (.int .u16)] [.s 6 (.c (.int .i64))] fun a => F26 N a.1 a.2.1 a.2.2
noncomputable def C26 : MC := mcOf (comp Try.prog 31 [] [] (bodyOf Try.f26) H26)
theorem S26 (N : Nat) : Sound Try.prog 26 (E26 N) :=
  sound_of (C := [(23, E23 N), (22, E22 N)]) (N := N) (ntmps := 31) (priv := []) (pu := []) (hs := H26) (mc := C26) (c := bodyOf Try.f26) (allS_get (⟨S23 N, ⟨S22 N, trivial⟩⟩ : AllS Try.prog [(23, E23 N), (22, E22 N)])) Try.func26 (by kernel_rfl) (by kernel_rfl) (by kernel_rfl) (Nat.le_of_ble_eq_true (by kernel_rfl)) (by kernel_rfl) (by kernel_rfl) (fun a => by kernel_rfl)

/-- (*moat/proc.Table).Move -/
def F27 (N : Nat) (vt_1 : Option MA) (vp_2 : Int) (fd_3 : Int) (vat_4 : Int) : M (Int) := bd (F25 N vt_1 vp_2 fd_3) fun r_5 => if (!decide (r_5.2 = (0 : Int))) = true then (ret r_5.2) else (if ((decide (vat_4 < (0 : Int))) || (decide ((3840 : Int) < vat_4))) = true then (ret (1 : Int)) else (bd (nonNil r_5.1) fun q_6 => bd (fld q_6 1) fun q_7 => bd (stc q_7 (MV.int .i64 vat_4)) fun _ => ret (0 : Int)))
def H27 : List Hint := [.no, .no, .no]
def E27 (N : Nat) : Entry := entry [.c .ptr, .c (.int .i64), .c (.int .i64), .c (.int .i64)] [.s 8 (.c (.int .i64))] fun a => F27 N a.1 a.2.1 a.2.2.1 a.2.2.2
noncomputable def C27 : MC := mcOf (comp Try.prog 33 [] [] (bodyOf Try.f27) H27)
theorem S27 (N : Nat) : Sound Try.prog 27 (E27 N) :=
  sound_of (C := [(25, E25 N)]) (N := N) (ntmps := 33) (priv := []) (pu := []) (hs := H27) (mc := C27) (c := bodyOf Try.f27) (allS_get (⟨S25 N, trivial⟩ : AllS Try.prog [(25, E25 N)])) Try.func27 (by kernel_rfl) (by kernel_rfl) (by kernel_rfl) (Nat.le_of_ble_eq_true (by kernel_rfl)) (by kernel_rfl) (by kernel_rfl) (fun a => by kernel_rfl)

/-- moat/moatlaw19.does -/
def F14 (N : Nat) (vt_1 : Option MA) (a_2 : Int × Int × Int × Int × Int) : M (Int × Int) := if (decide (a_2.1.tmod (4 : Int) = (0 : Int))) = true then (bd (F26 N vt_1 a_2.2.1 a_2.2.2.2.2) fun r_3 => ret ((0 : Int), r_3)) else (if (decide (a_2.1.tmod (4 : Int) = (1 : Int))) = true then (bd (F10 N vt_1 a_2.2.1 a_2.2.2.2.1) fun r_4 => ret (r_4.1, r_4.2)) else (if (decide (a_2.1.tmod (4 : Int) = (2 : Int))) = true then (bd (F12 N vt_1 a_2.2.1 a_2.2.2.1) fun r_5 => ret (r_5.1, r_5.2)) else (bd (F27 N vt_1 a_2.2.1 a_2.2.2.1 a_2.2.2.2.1) fun r_6 => ret ((0 : Int), r_6))))
def H14 : List Hint := [.no, .no, .no, .no]
def E14 (N : Nat) : Entry := entry [.c .ptr, .st [.int .u8, .int .i64, .int .i64, .int .i64, .int .u16]] [.s 4 (.c (.int .i64)), .s 5 (.c (.int .i64))] fun a => F14 N a.1 a.2
noncomputable def C14 : MC := mcOf (comp Try.prog 45 [3] [3, 6, 12, 14, 20, 22, 30, 32, 38, 40, 42] (bodyOf Try.f14) H14)
theorem S14 (N : Nat) : Sound Try.prog 14 (E14 N) :=
  sound_of (C := [(26, E26 N), (10, E10 N), (12, E12 N), (27, E27 N)]) (N := N) (ntmps := 45) (priv := [3]) (pu := [3, 6, 12, 14, 20, 22, 30, 32, 38, 40, 42]) (hs := H14) (mc := C14) (c := bodyOf Try.f14) (allS_get (⟨S26 N, ⟨S10 N, ⟨S12 N, ⟨S27 N, trivial⟩⟩⟩⟩ : AllS Try.prog [(26, E26 N), (10, E10 N), (12, E12 N), (27, E27 N)])) Try.func14 (by kernel_rfl) (by kernel_rfl) (by kernel_rfl) (Nat.le_of_ble_eq_true (by kernel_rfl)) (by kernel_rfl) (by kernel_rfl) (fun a => by kernel_rfl)

/-- (*moat/proc.Table).Label -/
def F19 (N : Nat) (vt_1 : Option MA) (vp_2 : Int) : M (Int × Int) := bd (F23 N vt_1 vp_2) fun r_3 => if (!decide (r_3.2 = (0 : Int))) = true then (ret ((0 : Int), r_3.2)) else (bd (nonNil r_3.1) fun q_4 => bd (fld q_4 0) fun q_5 => bd (ldI .u16 q_5) fun y_6 => ret (y_6, (0 : Int)))
def H19 : List Hint := [.no]
def E19 (N : Nat) : Entry := entry [.c .ptr, .c (.int .i64)] [.s 4 (.c (.int .u16)), .s 5 (.c (.int .i64))] fun a => F19 N a.1 a.2
noncomputable def C19 : MC := mcOf (comp Try.prog 21 [] [] (bodyOf Try.f19) H19)
theorem S19 (N : Nat) : Sound Try.prog 19 (E19 N) :=
  sound_of (C := [(23, E23 N)]) (N := N) (ntmps := 21) (priv := []) (pu := []) (hs := H19) (mc := C19) (c := bodyOf Try.f19) (allS_get (⟨S23 N, trivial⟩ : AllS Try.prog [(23, E23 N)])) Try.func19 (by kernel_rfl) (by kernel_rfl) (by kernel_rfl) (Nat.le_of_ble_eq_true (by kernel_rfl)) (by kernel_rfl) (by kernel_rfl) (fun a => by kernel_rfl)

/-- (*moat/proc.Table).Fd -/
def F15 (N : Nat) (vt_1 : Option MA) (vp_2 : Int) (fd_3 : Int) : M ((Int × Int) × Int) := bd (F25 N vt_1 vp_2 fd_3) fun r_4 => if (!decide (r_4.2 = (0 : Int))) = true then (ret (((0 : Int), (0 : Int)), r_4.2)) else (bd (nonNil r_4.1) fun q_5 => bd (ldSt [.int .i64, .int .i64] q_5) fun y_6 => ret ((y_6.1, y_6.2), (0 : Int)))
def H15 : List Hint := [.no]
def E15 (N : Nat) : Entry := entry [.c .ptr, .c (.int .i64), .c (.int .i64)] [.m 6 (.st [.int .i64, .int .i64]), .s 7 (.c (.int .i64))] fun a => F15 N a.1 a.2.1 a.2.2
noncomputable def C15 : MC := mcOf (comp Try.prog 24 [6] [6] (bodyOf Try.f15) H15)
theorem S15 (N : Nat) : Sound Try.prog 15 (E15 N) :=
  sound_of (C := [(25, E25 N)]) (N := N) (ntmps := 24) (priv := [6]) (pu := [6]) (hs := H15) (mc := C15) (c := bodyOf Try.f15) (allS_get (⟨S25 N, trivial⟩ : AllS Try.prog [(25, E25 N)])) Try.func15 (by kernel_rfl) (by kernel_rfl) (by kernel_rfl) (Nat.le_of_ble_eq_true (by kernel_rfl)) (by kernel_rfl) (by kernel_rfl) (fun a => by kernel_rfl)

/-- moat/moatlaw19.ProcNil -/
def F7 (N : Nat) (a_1 : Int × Int × Int × Int × Int) : M (Bool) := bd (F8 N) fun r_2 => bd (F14 N (none : Option MA) (a_1.1, a_1.2.1, a_1.2.2.1, a_1.2.2.2.1, a_1.2.2.2.2)) fun r_3 => bd (F19 N (none : Option MA) a_1.2.1) fun r_4 => bd (F15 N (none : Option MA) a_1.2.1 a_1.2.2.1) fun r_5 => bd (if (((r_2 && (decide (r_3.2 = (2 : Int)))) && (decide (r_4.2 = (2 : Int)))) && (decide (r_5.2 = (2 : Int)))) = true then (bd (F11 N (none : Option MA) a_1.2.2.2.1) fun r_6 => ret ((decide (r_6 = (0 : Int))))) else ret false) fun c_7 => ret c_7
def H7 : List Hint := []
def E7 (N : Nat) : Entry := entry [.st [.int .u8, .int .i64, .int .i64, .int .i64, .int .u16]] [.s 2 (.c .bool)] fun a => F7 N a
noncomputable def C7 : MC := mcOf (comp Try.prog 54 [1, 9] [1, 9, 20, 27, 29, 49] (bodyOf Try.f7) H7)
theorem S7 (N : Nat) : Sound Try.prog 7 (E7 N) :=
  sound_of (C := [(8, E8 N), (14, E14 N), (19, E19 N), (15, E15 N), (11, E11 N)]) (N := N) (ntmps := 54) (priv := [1, 9]) (pu := [1, 9, 20, 27, 29, 49]) (hs := H7) (mc := C7) (c := bodyOf Try.f7) (allS_get (⟨S8 N, ⟨S14 N, ⟨S19 N, ⟨S15 N, ⟨S11 N, trivial⟩⟩⟩⟩⟩ : AllS Try.prog [(8, E8 N), (14, E14 N), (19, E19 N), (15, E15 N), (11, E11 N)])) Try.func7 (by kernel_rfl) (by kernel_rfl) (by kernel_rfl) (Nat.le_of_ble_eq_true (by kernel_rfl)) (by kernel_rfl) (by kernel_rfl) (fun a => by kernel_rfl)

end Go.Proofs.Ytajahediblcfeaa
