/- PRINTED by gen.py: that the code comes to what is printed. Not trusted: Lean checks it. -/
import Derived.Test.YtcaaljlhljemoaaGreatMXR
import Derived.Test.YtcaaljlhljemoaaGreatDSRT15
import Derived.Test.YtcaaljlhljemoaaGreatD15
import Derived.Test.YtcaaljlhljemoaaGreatI15
import Derived.Test.YtcaaljlhljemoaaGreatProg
import Derived.KernelRfl
namespace Go.Proofs.YtcaaljlhljemoaaGreat
open Go.Mini Go.Moat
set_option maxRecDepth 100000
def H141:List Hint:=[]
def E141 (N:Nat):Entry:=entry [.c (.int .i64),.c (.int .i64),.c (.int .i64)] [.s 6 (.c .bool)] fun a=>F_0k N a.1 a.2.1 a.2.2
noncomputable def C141:MC:=mcOf (comp Tryz.prog 15 [] [] (bodyOf Tryz.f141) none H141)
theorem S141 (N:Nat):Sound Tryz.prog 141 (E141 N):=
 z07 (C:=[]) (N:=N) (ntmps:=15) (priv:=[]) (pu:=[]) (hs:=H141) (mc:=C141) (c:=bodyOf Tryz.f141) (z06 (trivial:AllS Tryz.prog [])) Tryz.func141 (by kernel_rfl) (by kernel_rfl) (by kernel_rfl) (Nat.le_of_ble_eq_true (by kernel_rfl)) (by kernel_rfl) (by kernel_rfl) (fun a=>by kernel_rfl)
def H92:List Hint:=[.no,.draw false []]
def E92 (N:Nat):Entry:=entry [.st [.int .i64,.int .i64,.int .i64,.int .i64]] [.s 2 (.c .bool)] fun a=>F_08 N a
noncomputable def C92:MC:=mcOf (comp Tryz.prog 30 [1] [1,3,8,14,19,23,25] (bodyOf Tryz.f92) none H92)
theorem S92 (N:Nat):Sound Tryz.prog 92 (E92 N):=
 z07 (C:=[(141,E141 N)]) (N:=N) (ntmps:=30) (priv:=[1]) (pu:=[1,3,8,14,19,23,25]) (hs:=H92) (mc:=C92) (c:=bodyOf Tryz.f92) (z06 (⟨S141 N,trivial⟩:AllS Tryz.prog [(141,E141 N)])) Tryz.func92 (by kernel_rfl) (by kernel_rfl) (by kernel_rfl) (Nat.le_of_ble_eq_true (by kernel_rfl)) (by kernel_rfl) (by kernel_rfl) (fun a=>by kernel_rfl)
def H93:List Hint:=[]
def E93 (N:Nat):Entry:=entry [.c (.int .i64),.c .ptr] [.s 3 (.c (.int .i64))] fun a=>F_02 N a.1 a.2
noncomputable def C93:MC:=mcOf (comp Tryz.prog 8 [] [] (bodyOf Tryz.f93) none H93)
theorem S93 (N:Nat):Sound Tryz.prog 93 (E93 N):=
 z07 (C:=[]) (N:=N) (ntmps:=8) (priv:=[]) (pu:=[]) (hs:=H93) (mc:=C93) (c:=bodyOf Tryz.f93) (z06 (trivial:AllS Tryz.prog [])) Tryz.func93 (by kernel_rfl) (by kernel_rfl) (by kernel_rfl) (Nat.le_of_ble_eq_true (by kernel_rfl)) (by kernel_rfl) (by kernel_rfl) (fun a=>by kernel_rfl)
def H46:List Hint:=[.no,.draw false []]
def E46 (N:Nat):Entry:=entry [.st [.int .i64,.int .i64,.int .i64,.int .i64]] [.m 2 (.st [.int .i64,.int .i64,.int .i64,.int .i64,.int .i64,.int .i64,.int .i64]),.s 3 (.c (.int .i64))] fun a=>F_0l N a
noncomputable def C46:MC:=mcOf (comp Tryz.prog 36 [1,2] [1,2,14,24,29,31] (bodyOf Tryz.f46) none H46)
theorem S46 (N:Nat):Sound Tryz.prog 46 (E46 N):=
 z07 (C:=[(92,E92 N),(93,E93 N)]) (N:=N) (ntmps:=36) (priv:=[1,2]) (pu:=[1,2,14,24,29,31]) (hs:=H46) (mc:=C46) (c:=bodyOf Tryz.f46) (z06 (⟨S92 N,⟨S93 N,trivial⟩⟩:AllS Tryz.prog [(92,E92 N),(93,E93 N)])) Tryz.func46 (by kernel_rfl) (by kernel_rfl) (by kernel_rfl) (Nat.le_of_ble_eq_true (by kernel_rfl)) (by kernel_rfl) (by kernel_rfl) (fun a=>by kernel_rfl)
def H47:List Hint:=[.no]
def E47 (N:Nat):Entry:=entry [.c (.int .i64)] [.s 2 (.c .ptr),.s 3 (.c (.int .i64))] fun a=>F_1v N a
noncomputable def C47:MC:=mcOf (comp Tryz.prog 14 [] [] (bodyOf Tryz.f47) none H47)
theorem S47 (N:Nat):Sound Tryz.prog 47 (E47 N):=
 z07 (C:=[]) (N:=N) (ntmps:=14) (priv:=[]) (pu:=[]) (hs:=H47) (mc:=C47) (c:=bodyOf Tryz.f47) (z06 (trivial:AllS Tryz.prog [])) Tryz.func47 (by kernel_rfl) (by kernel_rfl) (by kernel_rfl) (Nat.le_of_ble_eq_true (by kernel_rfl)) (by kernel_rfl) (by kernel_rfl) (fun a=>by kernel_rfl)
def H25:List Hint:=[.no]
def E25 (N:Nat):Entry:=entry [.c .ptr] [.s 2 (.c (.int .i64))] fun a=>F_00 N a
noncomputable def C25:MC:=mcOf (comp Tryz.prog 10 [] [] (bodyOf Tryz.f25) none H25)
theorem S25 (N:Nat):Sound Tryz.prog 25 (E25 N):=
 z07 (C:=[]) (N:=N) (ntmps:=10) (priv:=[]) (pu:=[]) (hs:=H25) (mc:=C25) (c:=bodyOf Tryz.f25) (z06 (trivial:AllS Tryz.prog [])) Tryz.func25 (by kernel_rfl) (by kernel_rfl) (by kernel_rfl) (Nat.le_of_ble_eq_true (by kernel_rfl)) (by kernel_rfl) (by kernel_rfl) (fun a=>by kernel_rfl)
def H65:List Hint:=[.no]
def E65 (N:Nat):Entry:=entry [.st [.int .i64,.int .i64,.int .i64,.int .i64]] [.s 2 (.c (.int .i64))] fun a=>F_03 N a
noncomputable def C65:MC:=mcOf (comp Tryz.prog 10 [1] [1,6] (bodyOf Tryz.f65) none H65)
theorem S65 (N:Nat):Sound Tryz.prog 65 (E65 N):=
 z07 (C:=[(92,E92 N)]) (N:=N) (ntmps:=10) (priv:=[1]) (pu:=[1,6]) (hs:=H65) (mc:=C65) (c:=bodyOf Tryz.f65) (z06 (⟨S92 N,trivial⟩:AllS Tryz.prog [(92,E92 N)])) Tryz.func65 (by kernel_rfl) (by kernel_rfl) (by kernel_rfl) (Nat.le_of_ble_eq_true (by kernel_rfl)) (by kernel_rfl) (by kernel_rfl) (fun a=>by kernel_rfl)
def H126:List Hint:=[.no]
def E126 (N:Nat):Entry:=entry [.c (.int .i64)] [.s 2 (.c (.int .i64))] fun a=>F_0m N a
noncomputable def C126:MC:=mcOf (comp Tryz.prog 11 [] [] (bodyOf Tryz.f126) none H126)
theorem S126 (N:Nat):Sound Tryz.prog 126 (E126 N):=
 z07 (C:=[]) (N:=N) (ntmps:=11) (priv:=[]) (pu:=[]) (hs:=H126) (mc:=C126) (c:=bodyOf Tryz.f126) (z06 (trivial:AllS Tryz.prog [])) Tryz.func126 (by kernel_rfl) (by kernel_rfl) (by kernel_rfl) (Nat.le_of_ble_eq_true (by kernel_rfl)) (by kernel_rfl) (by kernel_rfl) (fun a=>by kernel_rfl)
def H76:List Hint:=[.draw false []]
def E76 (N:Nat):Entry:=entry [.st [.int .i64,.int .i64,.int .i64,.int .i64]] [.s 2 (.c .bool)] fun a=>F_01 N a
noncomputable def C76:MC:=mcOf (comp Tryz.prog 11 [1] [1,7] (bodyOf Tryz.f76) none H76)
theorem S76 (N:Nat):Sound Tryz.prog 76 (E76 N):=
 z07 (C:=[(65,E65 N),(126,E126 N)]) (N:=N) (ntmps:=11) (priv:=[1]) (pu:=[1,7]) (hs:=H76) (mc:=C76) (c:=bodyOf Tryz.f76) (z06 (⟨S65 N,⟨S126 N,trivial⟩⟩:AllS Tryz.prog [(65,E65 N),(126,E126 N)])) Tryz.func76 (by kernel_rfl) (by kernel_rfl) (by kernel_rfl) (Nat.le_of_ble_eq_true (by kernel_rfl)) (by kernel_rfl) (by kernel_rfl) (fun a=>by kernel_rfl)
def H156:List Hint:=[]
def E156 (N:Nat):Entry:=entry [.c (.int .u64),.c (.int .i64)] [.s 4 (.c .bool)] fun a=>F_1w N a.1 a.2
noncomputable def C156:MC:=mcOf (comp Tryz.prog 14 [] [] (bodyOf Tryz.f156) none H156)
theorem S156 (N:Nat):Sound Tryz.prog 156 (E156 N):=
 z07 (C:=[]) (N:=N) (ntmps:=14) (priv:=[]) (pu:=[]) (hs:=H156) (mc:=C156) (c:=bodyOf Tryz.f156) (z06 (trivial:AllS Tryz.prog [])) Tryz.func156 (by kernel_rfl) (by kernel_rfl) (by kernel_rfl) (Nat.le_of_ble_eq_true (by kernel_rfl)) (by kernel_rfl) (by kernel_rfl) (fun a=>by kernel_rfl)
def H157:List Hint:=[.join [(.normal,⟨[],[]⟩)],.loop ⟨[.s 7 (.c (.int .i64))],[]⟩,.no,.no]
def E157 (N:Nat):Entry:=entry [.c (.sl 1),.c (.int .u64)] [] fun a=>F_1x N a.1 a.2
noncomputable def C157:MC:=mcOf (comp Tryz.prog 19 [] [] (bodyOf Tryz.f157) none H157)
theorem S157 (N:Nat):Sound Tryz.prog 157 (E157 N):=
 z07 (C:=[]) (N:=N) (ntmps:=19) (priv:=[]) (pu:=[]) (hs:=H157) (mc:=C157) (c:=bodyOf Tryz.f157) (z06 (trivial:AllS Tryz.prog [])) Tryz.func157 (by kernel_rfl) (by kernel_rfl) (by kernel_rfl) (Nat.le_of_ble_eq_true (by kernel_rfl)) (by kernel_rfl) (by kernel_rfl) (fun a=>by kernel_rfl)
def H137:List Hint:=[.no,.no,.no,.join [(.normal,⟨[],[]⟩),(.ret,⟨[.s 4 (.c (.sl 1)),.s 5 (.c (.int .i64))],[]⟩)],.loop ⟨[.s 29 (.c (.int .i64))],[]⟩,.no,.no,.no]
def E137 (N:Nat):Entry:=entry [.c (.int .i64),.c (.sl 1)] [.s 4 (.c (.sl 1)),.s 5 (.c (.int .i64))] fun a=>F_04 N a.1 a.2
noncomputable def C137:MC:=mcOf (comp Tryz.prog 51 [] [] (bodyOf Tryz.f137) none H137)
theorem S137 (N:Nat):Sound Tryz.prog 137 (E137 N):=
 z07 (C:=[(156,E156 N),(157,E157 N)]) (N:=N) (ntmps:=51) (priv:=[]) (pu:=[]) (hs:=H137) (mc:=C137) (c:=bodyOf Tryz.f137) (z06 (⟨S156 N,⟨S157 N,trivial⟩⟩:AllS Tryz.prog [(156,E156 N),(157,E157 N)])) Tryz.func137 (by kernel_rfl) (by kernel_rfl) (by kernel_rfl) (Nat.le_of_ble_eq_true (by kernel_rfl)) (by kernel_rfl) (by kernel_rfl) (fun a=>by kernel_rfl)
def H138:List Hint:=[.no,.no,.no]
def E138 (N:Nat):Entry:=entry [.c (.sl 1),.c (.int .i64)] [.s 4 (.c (.sl 1)),.s 5 (.c (.int .i64))] fun a=>F_0b N a.1 a.2
noncomputable def C138:MC:=mcOf (comp Tryz.prog 25 [] [] (bodyOf Tryz.f138) none H138)
theorem S138 (N:Nat):Sound Tryz.prog 138 (E138 N):=
 z07 (C:=[]) (N:=N) (ntmps:=25) (priv:=[]) (pu:=[]) (hs:=H138) (mc:=C138) (c:=bodyOf Tryz.f138) (z06 (trivial:AllS Tryz.prog [])) Tryz.func138 (by kernel_rfl) (by kernel_rfl) (by kernel_rfl) (Nat.le_of_ble_eq_true (by kernel_rfl)) (by kernel_rfl) (by kernel_rfl) (fun a=>by kernel_rfl)
def H164:List Hint:=[.jump 0 ⟨[.s 5 (.c (.int .u32)),.s 6 (.c (.int .u32)),.s 7 (.c (.sl 1))],[]⟩,.join [(.normal,⟨[.s 5 (.c (.int .u32)),.s 6 (.c (.int .u32))],[]⟩)],.loop ⟨[.s 5 (.c (.int .u32)),.s 6 (.c (.int .u32)),.s 25 (.c (.int .i64))],[]⟩,.no,.no,.no,.join [(.normal,⟨[.s 5 (.c (.int .u32)),.s 6 (.c (.int .u32))],[]⟩)],.loop ⟨[.s 5 (.c (.int .u32)),.s 6 (.c (.int .u32)),.s 25 (.c (.int .i64))],[]⟩,.no,.no,.no]
def E164 (N:Nat):Entry:=entry [.c (.int .u32),.c (.sl 1)] [.s 4 (.c (.int .u32))] fun a=>F_1y N a.1 a.2
noncomputable def C164:MC:=mcOf (comp Tryz.prog 51 [] [] (bodyOf Tryz.f164) none H164)
theorem S164 (N:Nat):Sound Tryz.prog 164 (E164 N):=
 z07 (C:=[]) (N:=N) (ntmps:=51) (priv:=[]) (pu:=[]) (hs:=H164) (mc:=C164) (c:=bodyOf Tryz.f164) (z06 (trivial:AllS Tryz.prog [])) Tryz.func164 (by kernel_rfl) (by kernel_rfl) (by kernel_rfl) (Nat.le_of_ble_eq_true (by kernel_rfl)) (by kernel_rfl) (by kernel_rfl) (fun a=>by kernel_rfl)
def H158:List Hint:=[]
def E158 (N:Nat):Entry:=entry [.c (.sl 1)] [.s 2 (.c (.int .u32))] fun a=>F_0x N a
noncomputable def C158:MC:=mcOf (comp Tryz.prog 5 [] [] (bodyOf Tryz.f158) none H158)
theorem S158 (N:Nat):Sound Tryz.prog 158 (E158 N):=
 z07 (C:=[(164,E164 N)]) (N:=N) (ntmps:=5) (priv:=[]) (pu:=[]) (hs:=H158) (mc:=C158) (c:=bodyOf Tryz.f158) (z06 (⟨S164 N,trivial⟩:AllS Tryz.prog [(164,E164 N)])) Tryz.func158 (by kernel_rfl) (by kernel_rfl) (by kernel_rfl) (Nat.le_of_ble_eq_true (by kernel_rfl)) (by kernel_rfl) (by kernel_rfl) (fun a=>by kernel_rfl)
def H139:List Hint:=[]
def E139 (N:Nat):Entry:=entry [.c (.sl 1)] [.s 2 (.c (.sl 1))] fun a=>F_0y N a
noncomputable def C139:MC:=mcOf (comp Tryz.prog 28 [] [] (bodyOf Tryz.f139) none H139)
theorem S139 (N:Nat):Sound Tryz.prog 139 (E139 N):=
 z07 (C:=[(158,E158 N),(137,E137 N)]) (N:=N) (ntmps:=28) (priv:=[]) (pu:=[]) (hs:=H139) (mc:=C139) (c:=bodyOf Tryz.f139) (z06 (⟨S158 N,⟨S137 N,trivial⟩⟩:AllS Tryz.prog [(158,E158 N),(137,E137 N)])) Tryz.func139 (by kernel_rfl) (by kernel_rfl) (by kernel_rfl) (Nat.le_of_ble_eq_true (by kernel_rfl)) (by kernel_rfl) (by kernel_rfl) (fun a=>by kernel_rfl)
def H88:List Hint:=[.no]
def E88 (N:Nat):Entry:=entry [.st [.int .i64,.int .i64,.int .i64,.int .i64]] [.s 2 (.c (.sl 1)),.s 3 (.c (.int .i64))] fun a=>F_0z N a
noncomputable def C88:MC:=mcOf (comp Tryz.prog 38 [1] [1,12,15,18,21] (bodyOf Tryz.f88) none H88)
theorem S88 (N:Nat):Sound Tryz.prog 88 (E88 N):=
 z07 (C:=[(92,E92 N),(137,E137 N),(138,E138 N),(139,E139 N)]) (N:=N) (ntmps:=38) (priv:=[1]) (pu:=[1,12,15,18,21]) (hs:=H88) (mc:=C88) (c:=bodyOf Tryz.f88) (z06 (⟨S92 N,⟨S137 N,⟨S138 N,⟨S139 N,trivial⟩⟩⟩⟩:AllS Tryz.prog [(92,E92 N),(137,E137 N),(138,E138 N),(139,E139 N)])) Tryz.func88 (by kernel_rfl) (by kernel_rfl) (by kernel_rfl) (Nat.le_of_ble_eq_true (by kernel_rfl)) (by kernel_rfl) (by kernel_rfl) (fun a=>by kernel_rfl)
def H123:List Hint:=[]
def E123 (N:Nat):Entry:=entry [.c .ptr,.c (.int .i64)] [.s 4 (.c .bool)] fun a=>F_10 N a.1 a.2
noncomputable def C123:MC:=mcOf (comp Tryz.prog 13 [] [] (bodyOf Tryz.f123) none H123)
theorem S123 (N:Nat):Sound Tryz.prog 123 (E123 N):=
 z07 (C:=[(25,E25 N)]) (N:=N) (ntmps:=13) (priv:=[]) (pu:=[]) (hs:=H123) (mc:=C123) (c:=bodyOf Tryz.f123) (z06 (⟨S25 N,trivial⟩:AllS Tryz.prog [(25,E25 N)])) Tryz.func123 (by kernel_rfl) (by kernel_rfl) (by kernel_rfl) (Nat.le_of_ble_eq_true (by kernel_rfl)) (by kernel_rfl) (by kernel_rfl) (fun a=>by kernel_rfl)
def H140:List Hint:=[.no,.no,.no,.no,.join [(.normal,⟨[],[]⟩)]]
def E140 (N:Nat):Entry:=entry [.c .ptr] [.s 2 (.c (.int .i64))] fun a=>F_11 N a
noncomputable def C140:MC:=mcOf (comp Tryz.prog 40 [] [] (bodyOf Tryz.f140) none H140)
theorem S140 (N:Nat):Sound Tryz.prog 140 (E140 N):=
 z07 (C:=[]) (N:=N) (ntmps:=40) (priv:=[]) (pu:=[]) (hs:=H140) (mc:=C140) (c:=bodyOf Tryz.f140) (z06 (trivial:AllS Tryz.prog [])) Tryz.func140 (by kernel_rfl) (by kernel_rfl) (by kernel_rfl) (Nat.le_of_ble_eq_true (by kernel_rfl)) (by kernel_rfl) (by kernel_rfl) (fun a=>by kernel_rfl)
def H89:List Hint:=[.no,.no,.no,.no,.draw false [],.draw false [],.draw false []]
def E89 (N:Nat):Entry:=entry [.c .ptr,.st [.int .i64,.sl 1,.int .u16]] [.s 4 (.c (.int .i64))] fun a=>F_0c N a.1 a.2
noncomputable def C89:MC:=mcOf (comp Tryz.prog 63 [3] [3,12,17,27,31,39,45,59] (bodyOf Tryz.f89) none H89)
theorem S89 (N:Nat):Sound Tryz.prog 89 (E89 N):=
 z07 (C:=[(123,E123 N),(140,E140 N)]) (N:=N) (ntmps:=63) (priv:=[3]) (pu:=[3,12,17,27,31,39,45,59]) (hs:=H89) (mc:=C89) (c:=bodyOf Tryz.f89) (z06 (⟨S123 N,⟨S140 N,trivial⟩⟩:AllS Tryz.prog [(123,E123 N),(140,E140 N)])) Tryz.func89 (by kernel_rfl) (by kernel_rfl) (by kernel_rfl) (Nat.le_of_ble_eq_true (by kernel_rfl)) (by kernel_rfl) (by kernel_rfl) (fun a=>by kernel_rfl)
def H90:List Hint:=[.no]
def E90 (N:Nat):Entry:=entry [.c .ptr] [.s 2 (.c (.int .i64))] fun a=>F_12 N a
noncomputable def C90:MC:=mcOf (comp Tryz.prog 12 [] [] (bodyOf Tryz.f90) none H90)
theorem S90 (N:Nat):Sound Tryz.prog 90 (E90 N):=
 z07 (C:=[(140,E140 N)]) (N:=N) (ntmps:=12) (priv:=[]) (pu:=[]) (hs:=H90) (mc:=C90) (c:=bodyOf Tryz.f90) (z06 (⟨S140 N,trivial⟩:AllS Tryz.prog [(140,E140 N)])) Tryz.func90 (by kernel_rfl) (by kernel_rfl) (by kernel_rfl) (Nat.le_of_ble_eq_true (by kernel_rfl)) (by kernel_rfl) (by kernel_rfl) (fun a=>by kernel_rfl)
def H41:List Hint:=[.no,.no,.draw true [],.no,.join [(.normal,⟨[],[]⟩),(.ret,⟨[.s 4 (.c (.int .i64))],[]⟩)],.loop ⟨[.s 7 (.c (.sl 1)),.s 41 (.c (.int .i64))],[]⟩,.no,.no,.no]
def E41 (N:Nat):Entry:=entry [.c .ptr,.st [.int .i64,.int .i64,.int .i64,.int .i64]] [.s 4 (.c (.int .i64))] fun a=>F_1z N a.1 a.2
noncomputable def C41:MC:=mcOf (comp Tryz.prog 56 [3,5] [3,5,25,39] (bodyOf Tryz.f41) none H41)
theorem S41 (N:Nat):Sound Tryz.prog 41 (E41 N):=
 z07 (C:=[(46,E46 N),(25,E25 N),(76,E76 N),(88,E88 N),(89,E89 N),(90,E90 N)]) (N:=N) (ntmps:=56) (priv:=[3,5]) (pu:=[3,5,25,39]) (hs:=H41) (mc:=C41) (c:=bodyOf Tryz.f41) (z06 (⟨S46 N,⟨S25 N,⟨S76 N,⟨S88 N,⟨S89 N,⟨S90 N,trivial⟩⟩⟩⟩⟩⟩:AllS Tryz.prog [(46,E46 N),(25,E25 N),(76,E76 N),(88,E88 N),(89,E89 N),(90,E90 N)])) Tryz.func41 (by kernel_rfl) (by kernel_rfl) (by kernel_rfl) (Nat.le_of_ble_eq_true (by kernel_rfl)) (by kernel_rfl) (by kernel_rfl) (fun a=>by kernel_rfl)
def H71:List Hint:=[.no,.no,.no,.no]
def E71 (N:Nat):Entry:=entry [.c .ptr,.c (.int .i64)] [.m 4 (.agg 65),.s 5 (.c (.int .i64))] fun a=>F_20 N a.1 a.2
noncomputable def C71:MC:=mcOf (comp Tryz.prog 29 [4] [] (bodyOf Tryz.f71) none H71)
theorem S71 (N:Nat):Sound Tryz.prog 71 (E71 N):=
 z07 (C:=[(123,E123 N)]) (N:=N) (ntmps:=29) (priv:=[4]) (pu:=[]) (hs:=H71) (mc:=C71) (c:=bodyOf Tryz.f71) (z06 (⟨S123 N,trivial⟩:AllS Tryz.prog [(123,E123 N)])) Tryz.func71 (by kernel_rfl) (by kernel_rfl) (by kernel_rfl) (Nat.le_of_ble_eq_true (by kernel_rfl)) (by kernel_rfl) (by kernel_rfl) (fun a=>by kernel_rfl)
def H61:List Hint:=[.no]
def E61 (N:Nat):Entry:=entry [.c (.sl 1)] [.s 2 (.c (.sl 1))] fun a=>F_0d N a
noncomputable def C61:MC:=mcOf (comp Tryz.prog 8 [] [] (bodyOf Tryz.f61) none H61)
theorem S61 (N:Nat):Sound Tryz.prog 61 (E61 N):=
 z07 (C:=[]) (N:=N) (ntmps:=8) (priv:=[]) (pu:=[]) (hs:=H61) (mc:=C61) (c:=bodyOf Tryz.f61) (z06 (trivial:AllS Tryz.prog [])) Tryz.func61 (by kernel_rfl) (by kernel_rfl) (by kernel_rfl) (Nat.le_of_ble_eq_true (by kernel_rfl)) (by kernel_rfl) (by kernel_rfl) (fun a=>by kernel_rfl)
def H26:List Hint:=[.no]
def E26 (N:Nat):Entry:=entry [.c .ptr,.c (.int .i64)] [.s 4 (.c (.sl 1)),.s 5 (.c (.int .i64))] fun a=>F_09 N a.1 a.2
noncomputable def C26:MC:=mcOf (comp Tryz.prog 20 [] [] (bodyOf Tryz.f26) none H26)
theorem S26 (N:Nat):Sound Tryz.prog 26 (E26 N):=
 z07 (C:=[(71,E71 N),(61,E61 N)]) (N:=N) (ntmps:=20) (priv:=[]) (pu:=[]) (hs:=H26) (mc:=C26) (c:=bodyOf Tryz.f26) (z06 (⟨S71 N,⟨S61 N,trivial⟩⟩:AllS Tryz.prog [(71,E71 N),(61,E61 N)])) Tryz.func26 (by kernel_rfl) (by kernel_rfl) (by kernel_rfl) (Nat.le_of_ble_eq_true (by kernel_rfl)) (by kernel_rfl) (by kernel_rfl) (fun a=>by kernel_rfl)
def H151:List Hint:=[]
def E151 (N:Nat):Entry:=entry [.c (.int .i64),.c (.int .i64),.c (.int .i64)] [.s 6 (.c .bool)] fun a=>F_21 N a.1 a.2.1 a.2.2
noncomputable def C151:MC:=mcOf (comp Tryz.prog 29 [] [] (bodyOf Tryz.f151) none H151)
theorem S151 (N:Nat):Sound Tryz.prog 151 (E151 N):=
 z07 (C:=[]) (N:=N) (ntmps:=29) (priv:=[]) (pu:=[]) (hs:=H151) (mc:=C151) (c:=bodyOf Tryz.f151) (z06 (trivial:AllS Tryz.prog [])) Tryz.func151 (by kernel_rfl) (by kernel_rfl) (by kernel_rfl) (Nat.le_of_ble_eq_true (by kernel_rfl)) (by kernel_rfl) (by kernel_rfl) (fun a=>by kernel_rfl)
def H152:List Hint:=[.join [(.normal,⟨[.s 3 (.c (.int .u64))],[]⟩)],.loop ⟨[.s 3 (.c (.int .u64)),.s 7 (.c (.int .i64))],[]⟩,.no,.no]
def E152 (N:Nat):Entry:=entry [.c (.sl 1)] [.s 2 (.c (.int .u64))] fun a=>F_13 N a
noncomputable def C152:MC:=mcOf (comp Tryz.prog 22 [] [] (bodyOf Tryz.f152) none H152)
theorem S152 (N:Nat):Sound Tryz.prog 152 (E152 N):=
 z07 (C:=[]) (N:=N) (ntmps:=22) (priv:=[]) (pu:=[]) (hs:=H152) (mc:=C152) (c:=bodyOf Tryz.f152) (z06 (trivial:AllS Tryz.prog [])) Tryz.func152 (by kernel_rfl) (by kernel_rfl) (by kernel_rfl) (Nat.le_of_ble_eq_true (by kernel_rfl)) (by kernel_rfl) (by kernel_rfl) (fun a=>by kernel_rfl)
def H125:List Hint:=[.no]
def E125 (N:Nat):Entry:=entry [.c (.sl 1),.c (.int .i64),.c (.int .i64)] [.s 6 (.c (.int .u64)),.s 7 (.c (.int .i64))] fun a=>F_0e N a.1 a.2.1 a.2.2
noncomputable def C125:MC:=mcOf (comp Tryz.prog 21 [] [] (bodyOf Tryz.f125) none H125)
theorem S125 (N:Nat):Sound Tryz.prog 125 (E125 N):=
 z07 (C:=[(151,E151 N),(152,E152 N)]) (N:=N) (ntmps:=21) (priv:=[]) (pu:=[]) (hs:=H125) (mc:=C125) (c:=bodyOf Tryz.f125) (z06 (⟨S151 N,⟨S152 N,trivial⟩⟩:AllS Tryz.prog [(151,E151 N),(152,E152 N)])) Tryz.func125 (by kernel_rfl) (by kernel_rfl) (by kernel_rfl) (Nat.le_of_ble_eq_true (by kernel_rfl)) (by kernel_rfl) (by kernel_rfl) (fun a=>by kernel_rfl)
def H75:List Hint:=[.no,.join [(.normal,⟨[],[]⟩)],.loop ⟨[.s 5 (.c (.int .i64)),.s 22 (.c (.int .i64))],[]⟩,.no,.no,.no]
def E75 (N:Nat):Entry:=entry [.c (.sl 1)] [.m 2 (.st [.int .i64,.int .i64,.int .i64,.int .i64]),.s 3 (.c (.int .i64))] fun a=>F_22 N a
noncomputable def C75:MC:=mcOf (comp Tryz.prog 55 [2] [2] (bodyOf Tryz.f75) none H75)
theorem S75 (N:Nat):Sound Tryz.prog 75 (E75 N):=
 z07 (C:=[(125,E125 N),(88,E88 N)]) (N:=N) (ntmps:=55) (priv:=[2]) (pu:=[2]) (hs:=H75) (mc:=C75) (c:=bodyOf Tryz.f75) (z06 (⟨S125 N,⟨S88 N,trivial⟩⟩:AllS Tryz.prog [(125,E125 N),(88,E88 N)])) Tryz.func75 (by kernel_rfl) (by kernel_rfl) (by kernel_rfl) (Nat.le_of_ble_eq_true (by kernel_rfl)) (by kernel_rfl) (by kernel_rfl) (fun a=>by kernel_rfl)
def H153:List Hint:=[.no,.no]
def E153 (N:Nat):Entry:=entry [.c (.sl 1)] [.s 2 (.c (.sl 1)),.s 3 (.c (.int .i64))] fun a=>F_23 N a
noncomputable def C153:MC:=mcOf (comp Tryz.prog 36 [] [] (bodyOf Tryz.f153) none H153)
theorem S153 (N:Nat):Sound Tryz.prog 153 (E153 N):=
 z07 (C:=[(125,E125 N),(158,E158 N)]) (N:=N) (ntmps:=36) (priv:=[]) (pu:=[]) (hs:=H153) (mc:=C153) (c:=bodyOf Tryz.f153) (z06 (⟨S125 N,⟨S158 N,trivial⟩⟩:AllS Tryz.prog [(125,E125 N),(158,E158 N)])) Tryz.func153 (by kernel_rfl) (by kernel_rfl) (by kernel_rfl) (Nat.le_of_ble_eq_true (by kernel_rfl)) (by kernel_rfl) (by kernel_rfl) (fun a=>by kernel_rfl)
def H116:List Hint:=[.draw true []]
def E116 (N:Nat):Entry:=entry [.c .ptr,.c (.int .u64),.c (.int .i64)] [.m 6 (.st [.int .i64,.sl 1,.int .u16])] fun a=>F_0f N a.1 a.2.1 a.2.2
noncomputable def C116:MC:=mcOf (comp Tryz.prog 40 [6] [6] (bodyOf Tryz.f116) none H116)
theorem S116 (N:Nat):Sound Tryz.prog 116 (E116 N):=
 z07 (C:=[(137,E137 N),(138,E138 N),(139,E139 N)]) (N:=N) (ntmps:=40) (priv:=[6]) (pu:=[6]) (hs:=H116) (mc:=C116) (c:=bodyOf Tryz.f116) (z06 (⟨S137 N,⟨S138 N,⟨S139 N,trivial⟩⟩⟩:AllS Tryz.prog [(137,E137 N),(138,E138 N),(139,E139 N)])) Tryz.func116 (by kernel_rfl) (by kernel_rfl) (by kernel_rfl) (Nat.le_of_ble_eq_true (by kernel_rfl)) (by kernel_rfl) (by kernel_rfl) (fun a=>by kernel_rfl)
def H64:List Hint:=[.no]
def E64 (N:Nat):Entry:=entry [.c .ptr] [.s 2 (.c (.int .i64))] fun a=>F_0a N a
noncomputable def C64:MC:=mcOf (comp Tryz.prog 16 [] [] (bodyOf Tryz.f64) none H64)
theorem S64 (N:Nat):Sound Tryz.prog 64 (E64 N):=
 z07 (C:=[]) (N:=N) (ntmps:=16) (priv:=[]) (pu:=[]) (hs:=H64) (mc:=C64) (c:=bodyOf Tryz.f64) (z06 (trivial:AllS Tryz.prog [])) Tryz.func64 (by kernel_rfl) (by kernel_rfl) (by kernel_rfl) (Nat.le_of_ble_eq_true (by kernel_rfl)) (by kernel_rfl) (by kernel_rfl) (fun a=>by kernel_rfl)
def H127:List Hint:=[.draw false [],.no,.no,.draw true []]
def E127 (N:Nat):Entry:=entry [.c .ptr,.c (.sl 1)] [.s 4 (.c (.int .i64)),.s 5 (.c .bool)] fun a=>F_24 N a.1 a.2
noncomputable def C127:MC:=mcOf (comp Tryz.prog 57 [] [] (bodyOf Tryz.f127) none H127)
theorem S127 (N:Nat):Sound Tryz.prog 127 (E127 N):=
 z07 (C:=[(153,E153 N),(125,E125 N),(116,E116 N),(64,E64 N)]) (N:=N) (ntmps:=57) (priv:=[]) (pu:=[]) (hs:=H127) (mc:=C127) (c:=bodyOf Tryz.f127) (z06 (⟨S153 N,⟨S125 N,⟨S116 N,⟨S64 N,trivial⟩⟩⟩⟩:AllS Tryz.prog [(153,E153 N),(125,E125 N),(116,E116 N),(64,E64 N)])) Tryz.func127 (by kernel_rfl) (by kernel_rfl) (by kernel_rfl) (Nat.le_of_ble_eq_true (by kernel_rfl)) (by kernel_rfl) (by kernel_rfl) (fun a=>by kernel_rfl)
def H154:List Hint:=[]
def E154 (N:Nat):Entry:=entry [.c .ptr,.c (.int .i64)] [.s 4 (.c (.sl 1))] fun a=>F_3p N a.1 a.2
noncomputable def C154:MC:=mcOf (comp Tryz.prog 17 [] [] (bodyOf Tryz.f154) none H154)
theorem S154 (N:Nat):Sound Tryz.prog 154 (E154 N):=
 z07 (C:=[(26,E26 N)]) (N:=N) (ntmps:=17) (priv:=[]) (pu:=[]) (hs:=H154) (mc:=C154) (c:=bodyOf Tryz.f154) (z06 (⟨S26 N,trivial⟩:AllS Tryz.prog [(26,E26 N)])) Tryz.func154 (by kernel_rfl) (by kernel_rfl) (by kernel_rfl) (Nat.le_of_ble_eq_true (by kernel_rfl)) (by kernel_rfl) (by kernel_rfl) (fun a=>by kernel_rfl)
def H131:List Hint:=[.no,.no,.no,.join [(.normal,⟨[.s 6 (.c (.sl 1))],[]⟩)],.loop ⟨[.s 6 (.c (.sl 1)),.s 7 (.c (.sl 1))],[]⟩,.no,.no]
def E131 (N:Nat):Entry:=entry [.c (.int .i64),.c (.sl 1)] [.s 4 (.c (.sl 1)),.s 5 (.c (.int .i64))] fun a=>F_0g N a.1 a.2
noncomputable def C131:MC:=mcOf (comp Tryz.prog 41 [] [] (bodyOf Tryz.f131) none H131)
theorem S131 (N:Nat):Sound Tryz.prog 131 (E131 N):=
 z07 (C:=[(152,E152 N)]) (N:=N) (ntmps:=41) (priv:=[]) (pu:=[]) (hs:=H131) (mc:=C131) (c:=bodyOf Tryz.f131) (z06 (⟨S152 N,trivial⟩:AllS Tryz.prog [(152,E152 N)])) Tryz.func131 (by kernel_rfl) (by kernel_rfl) (by kernel_rfl) (Nat.le_of_ble_eq_true (by kernel_rfl)) (by kernel_rfl) (by kernel_rfl) (fun a=>by kernel_rfl)
def H114:List Hint:=[.draw false []]
def E114 (N:Nat):Entry:=entry [.c .ptr,.c (.int .i64)] [.s 4 (.c .bool)] fun a=>F_14 N a.1 a.2
noncomputable def C114:MC:=mcOf (comp Tryz.prog 37 [] [] (bodyOf Tryz.f114) none H114)
theorem S114 (N:Nat):Sound Tryz.prog 114 (E114 N):=
 z07 (C:=[(25,E25 N)]) (N:=N) (ntmps:=37) (priv:=[]) (pu:=[]) (hs:=H114) (mc:=C114) (c:=bodyOf Tryz.f114) (z06 (⟨S25 N,trivial⟩:AllS Tryz.prog [(25,E25 N)])) Tryz.func114 (by kernel_rfl) (by kernel_rfl) (by kernel_rfl) (Nat.le_of_ble_eq_true (by kernel_rfl)) (by kernel_rfl) (by kernel_rfl) (fun a=>by kernel_rfl)
def H128:List Hint:=[.join [(.normal,⟨[.s 6 (.c (.sl 3))],[]⟩),(.ret,⟨[.s 4 (.c (.sl 3)),.s 5 (.c .bool)],[]⟩)],.loop ⟨[.s 6 (.c (.sl 3)),.s 7 (.c (.int .i64))],[]⟩,.no,.no,.join [(.normal,⟨[.s 6 (.c (.sl 3))],[]⟩),(.ret,⟨[.s 4 (.c (.sl 3)),.s 5 (.c .bool)],[]⟩)],.loop ⟨[.s 6 (.c (.sl 3)),.s 35 (.c (.int .i64))],[]⟩,.no,.no,.draw true [12],.no]
def E128 (N:Nat):Entry:=entry [.c .ptr,.c (.int .i64)] [.s 4 (.c (.sl 3)),.s 5 (.c .bool)] fun a=>F_5b N a.1 a.2
noncomputable def C128:MC:=mcOf (comp Tryz.prog 73 [] [] (bodyOf Tryz.f128) none H128)
theorem S128 (N:Nat):Sound Tryz.prog 128 (E128 N):=
 z07 (C:=[(154,E154 N),(131,E131 N),(114,E114 N)]) (N:=N) (ntmps:=73) (priv:=[]) (pu:=[]) (hs:=H128) (mc:=C128) (c:=bodyOf Tryz.f128) (z06 (⟨S154 N,⟨S131 N,⟨S114 N,trivial⟩⟩⟩:AllS Tryz.prog [(154,E154 N),(131,E131 N),(114,E114 N)])) Tryz.func128 (by kernel_rfl) (by kernel_rfl) (by kernel_rfl) (Nat.le_of_ble_eq_true (by kernel_rfl)) (by kernel_rfl) (by kernel_rfl) (fun a=>by kernel_rfl)
def H117:List Hint:=[.jump 0 ⟨[.s 4 (.c (.int .i64))],[]⟩,.join [(.normal,⟨[],[]⟩),(.goto 0,⟨[.s 4 (.c (.int .i64))],[]⟩)],.loop ⟨[.s 9 (.c (.int .i64))],[]⟩,.no,.no,.draw false [],.no,.no]
def E117 (N:Nat):Entry:=entry [.c .ptr,.c (.sl 3)] [.s 4 (.c (.int .i64))] fun a=>F_15 N a.1 a.2
noncomputable def C117:MC:=mcOf (comp Tryz.prog 30 [6] [6] (bodyOf Tryz.f117) none H117)
theorem S117 (N:Nat):Sound Tryz.prog 117 (E117 N):=
 z07 (C:=[(89,E89 N),(90,E90 N)]) (N:=N) (ntmps:=30) (priv:=[6]) (pu:=[6]) (hs:=H117) (mc:=C117) (c:=bodyOf Tryz.f117) (z06 (⟨S89 N,⟨S90 N,trivial⟩⟩:AllS Tryz.prog [(89,E89 N),(90,E90 N)])) Tryz.func117 (by kernel_rfl) (by kernel_rfl) (by kernel_rfl) (Nat.le_of_ble_eq_true (by kernel_rfl)) (by kernel_rfl) (by kernel_rfl) (fun a=>by kernel_rfl)
def H77:List Hint:=[.no,.no,.no,.no,.no,.no,.no,.join [(.normal,⟨[],[]⟩),(.ret,⟨[.s 6 (.c .ptr),.s 7 (.c (.int .i64)),.s 8 (.c (.int .i64))],[]⟩)],.loop ⟨[.s 89 (.c (.int .i64))],[]⟩,.no,.no,.no]
def E77 (N:Nat):Entry:=entry [.c .ptr,.c (.int .i64),.c (.int .i64)] [.s 6 (.c .ptr),.s 7 (.c (.int .i64)),.s 8 (.c (.int .i64))] fun a=>F_25 N a.1 a.2.1 a.2.2
noncomputable def C77:MC:=mcOf (comp Tryz.prog 102 [] [] (bodyOf Tryz.f77) none H77)
theorem S77 (N:Nat):Sound Tryz.prog 77 (E77 N):=
 z07 (C:=[(25,E25 N),(26,E26 N),(127,E127 N),(128,E128 N),(116,E116 N),(117,E117 N)]) (N:=N) (ntmps:=102) (priv:=[]) (pu:=[]) (hs:=H77) (mc:=C77) (c:=bodyOf Tryz.f77) (z06 (⟨S25 N,⟨S26 N,⟨S127 N,⟨S128 N,⟨S116 N,⟨S117 N,trivial⟩⟩⟩⟩⟩⟩:AllS Tryz.prog [(25,E25 N),(26,E26 N),(127,E127 N),(128,E128 N),(116,E116 N),(117,E117 N)])) Tryz.func77 (by kernel_rfl) (by kernel_rfl) (by kernel_rfl) (Nat.le_of_ble_eq_true (by kernel_rfl)) (by kernel_rfl) (by kernel_rfl) (fun a=>by kernel_rfl)
def H23:List Hint:=[.no,.join [(.normal,⟨[],[]⟩),(.ret,⟨[.s 2 (.c .bool)],[]⟩)],.loop ⟨[.s 12 (.c (.int .i64))],[]⟩,.no,.no,.no,.join [(.normal,⟨[],[]⟩),(.ret,⟨[.s 2 (.c .bool)],[]⟩)],.no,.no]
def E23 (N:Nat):Entry:=entry [.c (.sl 2)] [.s 2 (.c .bool)] fun a=>F_05 N a
noncomputable def C23:MC:=mcOf (comp Tryz.prog 42 [5] [5,17,20,23,27,31,37] (bodyOf Tryz.f23) none H23)
theorem S23 (N:Nat):Sound Tryz.prog 23 (E23 N):=
 z07 (C:=[]) (N:=N) (ntmps:=42) (priv:=[5]) (pu:=[5,17,20,23,27,31,37]) (hs:=H23) (mc:=C23) (c:=bodyOf Tryz.f23) (z06 (trivial:AllS Tryz.prog [])) Tryz.func23 (by kernel_rfl) (by kernel_rfl) (by kernel_rfl) (Nat.le_of_ble_eq_true (by kernel_rfl)) (by kernel_rfl) (by kernel_rfl) (fun a=>by kernel_rfl)
def H129:List Hint:=[.no,.join [(.normal,⟨[.s 6 (.c (.sl 2))],[]⟩)],.loop ⟨[.s 6 (.c (.sl 2)),.s 7 (.c (.int .i64))],[]⟩,.no,.no,.draw false [],.no]
def E129 (N:Nat):Entry:=entry [.c (.sl 1)] [.s 2 (.c (.sl 2)),.s 3 (.c (.int .i64))] fun a=>F_26 N a
noncomputable def C129:MC:=mcOf (comp Tryz.prog 45 [] [] (bodyOf Tryz.f129) none H129)
theorem S129 (N:Nat):Sound Tryz.prog 129 (E129 N):=
 z07 (C:=[(131,E131 N),(23,E23 N)]) (N:=N) (ntmps:=45) (priv:=[]) (pu:=[]) (hs:=H129) (mc:=C129) (c:=bodyOf Tryz.f129) (z06 (⟨S131 N,⟨S23 N,trivial⟩⟩:AllS Tryz.prog [(131,E131 N),(23,E23 N)])) Tryz.func129 (by kernel_rfl) (by kernel_rfl) (by kernel_rfl) (Nat.le_of_ble_eq_true (by kernel_rfl)) (by kernel_rfl) (by kernel_rfl) (fun a=>by kernel_rfl)
def H163:List Hint:=[]
def E163 (N:Nat):Entry:=entry [.c (.int .u64)] [.s 2 (.c .bool)] fun a=>F_3q N a
noncomputable def C163:MC:=mcOf (comp Tryz.prog 5 [] [] (bodyOf Tryz.f163) none H163)
theorem S163 (N:Nat):Sound Tryz.prog 163 (E163 N):=
 z07 (C:=[]) (N:=N) (ntmps:=5) (priv:=[]) (pu:=[]) (hs:=H163) (mc:=C163) (c:=bodyOf Tryz.f163) (z06 (trivial:AllS Tryz.prog [])) Tryz.func163 (by kernel_rfl) (by kernel_rfl) (by kernel_rfl) (Nat.le_of_ble_eq_true (by kernel_rfl)) (by kernel_rfl) (by kernel_rfl) (fun a=>by kernel_rfl)
def zge:List Hint:=[.join [(.normal,⟨[],[]⟩),(.ret,⟨[.s 4 (.c (.int .i64))],[]⟩)],.loop ⟨[.s 8 (.c (.int .i64))],[]⟩,.no,.no,.no]
def zbr (N:Nat):Entry:=entry [.c (.sl 1),.fnc 163 []] [.s 4 (.c (.int .i64))] fun a=>F_3r N a.1 a.2
noncomputable def C176_163:MC:=mcOf (comp Tryz.prog 19 [] [] (bodyOf Tryz.f176) none zge)
theorem zq4 (N:Nat):Sound Tryz.prog 176 (zbr N):=
 z07 (C:=[(163,E163 N)]) (N:=N) (ntmps:=19) (priv:=[]) (pu:=[]) (hs:=zge) (mc:=C176_163) (c:=bodyOf Tryz.f176) (z06 (⟨S163 N,trivial⟩:AllS Tryz.prog [(163,E163 N)])) Tryz.func176 (by kernel_rfl) (by kernel_rfl) (by kernel_rfl) (Nat.le_of_ble_eq_true (by kernel_rfl)) (by kernel_rfl) (by kernel_rfl) (fun a=>by kernel_rfl)
def zgf:List Hint:=[]
def zbs (N:Nat):Entry:=entry [.c (.sl 1),.fnc 163 []] [.s 4 (.c .bool)] fun a=>F_27 N a.1 a.2
noncomputable def C162_163:MC:=mcOf (comp Tryz.prog 9 [] [] (bodyOf Tryz.f162) none zgf)
theorem zq5 (N:Nat):Sound Tryz.prog 162 (zbs N):=
 z07 (C:=[(176,zbr N)]) (N:=N) (ntmps:=9) (priv:=[]) (pu:=[]) (hs:=zgf) (mc:=C162_163) (c:=bodyOf Tryz.f162) (z06 (⟨zq4 N,trivial⟩:AllS Tryz.prog [(176,zbr N)])) Tryz.func162 (by kernel_rfl) (by kernel_rfl) (by kernel_rfl) (Nat.le_of_ble_eq_true (by kernel_rfl)) (by kernel_rfl) (by kernel_rfl) (fun a=>by kernel_rfl)
def H136:List Hint:=[]
def E136 (N:Nat):Entry:=entry [.c (.int .i64)] [.s 2 (.c .bool)] fun a=>F_28 N a
noncomputable def C136:MC:=mcOf (comp Tryz.prog 9 [] [] (bodyOf Tryz.f136) none H136)
theorem S136 (N:Nat):Sound Tryz.prog 136 (E136 N):=
 z07 (C:=[]) (N:=N) (ntmps:=9) (priv:=[]) (pu:=[]) (hs:=H136) (mc:=C136) (c:=bodyOf Tryz.f136) (z06 (trivial:AllS Tryz.prog [])) Tryz.func136 (by kernel_rfl) (by kernel_rfl) (by kernel_rfl) (Nat.le_of_ble_eq_true (by kernel_rfl)) (by kernel_rfl) (by kernel_rfl) (fun a=>by kernel_rfl)
def H87:List Hint:=[.no,.join [(.normal,⟨[.s 5 (.c .bool)],[]⟩)],.join [(.normal,⟨[.s 5 (.c .bool)],[]⟩)],.no,.no,.join [(.normal,⟨[],[]⟩),(.ret,⟨[.s 2 (.c .bool)],[]⟩)],.loop ⟨[.s 41 (.c (.int .i64))],[]⟩,.no,.no,.no]
def E87 (N:Nat):Entry:=entry [.agg 14] [.s 2 (.c .bool)] fun a=>F_0h N a
noncomputable def C87:MC:=mcOf (comp Tryz.prog 56 [1] [] (bodyOf Tryz.f87) none H87)
theorem S87 (N:Nat):Sound Tryz.prog 87 (E87 N):=
 z07 (C:=[(136,E136 N)]) (N:=N) (ntmps:=56) (priv:=[1]) (pu:=[]) (hs:=H87) (mc:=C87) (c:=bodyOf Tryz.f87) (z06 (⟨S136 N,trivial⟩:AllS Tryz.prog [(136,E136 N)])) Tryz.func87 (by kernel_rfl) (by kernel_rfl) (by kernel_rfl) (Nat.le_of_ble_eq_true (by kernel_rfl)) (by kernel_rfl) (by kernel_rfl) (fun a=>by kernel_rfl)
def H155:List Hint:=[.no,.draw false [],.join [(.normal,⟨[],[]⟩)],.loop ⟨[.s 42 (.c (.int .i64))],[]⟩,.no,.no,.draw false [],.no]
def E155 (N:Nat):Entry:=entry [.c (.sl 1)] [.m 2 (.agg 14),.s 3 (.c (.int .i64))] fun a=>F_29 N a
noncomputable def C155:MC:=mcOf (comp Tryz.prog 74 [2] [] (bodyOf Tryz.f155) none H155)
theorem S155 (N:Nat):Sound Tryz.prog 155 (E155 N):=
 z07 (C:=[(131,E131 N),(162,zbs N),(87,E87 N)]) (N:=N) (ntmps:=74) (priv:=[2]) (pu:=[]) (hs:=H155) (mc:=C155) (c:=bodyOf Tryz.f155) (z06 (⟨S131 N,⟨zq5 N,⟨S87 N,trivial⟩⟩⟩:AllS Tryz.prog [(131,E131 N),(162,zbs N),(87,E87 N)])) Tryz.func155 (by kernel_rfl) (by kernel_rfl) (by kernel_rfl) (Nat.le_of_ble_eq_true (by kernel_rfl)) (by kernel_rfl) (by kernel_rfl) (fun a=>by kernel_rfl)
def H130:List Hint:=[.join [(.normal,⟨[.s 4 (.c (.sl 14))],[]⟩),(.ret,⟨[.s 2 (.c (.sl 14)),.s 3 (.c .bool)],[]⟩)],.loop ⟨[.s 4 (.c (.sl 14)),.s 12 (.c (.int .i64))],[]⟩,.no,.no,.join [(.normal,⟨[.s 4 (.c (.sl 14))],[]⟩),(.ret,⟨[.s 2 (.c (.sl 14)),.s 3 (.c .bool)],[]⟩)],.loop ⟨[.s 4 (.c (.sl 14)),.s 7 (.c (.int .i64))],[]⟩,.no,.no,.no]
def E130 (N:Nat):Entry:=entry [.c (.sl 1)] [.s 2 (.c (.sl 14)),.s 3 (.c .bool)] fun a=>F_2a N a
noncomputable def C130:MC:=mcOf (comp Tryz.prog 39 [8] [] (bodyOf Tryz.f130) none H130)
theorem S130 (N:Nat):Sound Tryz.prog 130 (E130 N):=
 z07 (C:=[(155,E155 N)]) (N:=N) (ntmps:=39) (priv:=[8]) (pu:=[]) (hs:=H130) (mc:=C130) (c:=bodyOf Tryz.f130) (z06 (⟨S155 N,trivial⟩:AllS Tryz.prog [(155,E155 N)])) Tryz.func130 (by kernel_rfl) (by kernel_rfl) (by kernel_rfl) (Nat.le_of_ble_eq_true (by kernel_rfl)) (by kernel_rfl) (by kernel_rfl) (fun a=>by kernel_rfl)
def H103:List Hint:=[]
def E103 (N:Nat):Entry:=entry [.c (.sl 1),.c (.int .i64),.c (.int .i64)] [.s 6 (.c (.int .i64)),.s 7 (.c (.int .i64))] fun a=>F_16 N a.1 a.2.1 a.2.2
noncomputable def C103:MC:=mcOf (comp Tryz.prog 15 [] [] (bodyOf Tryz.f103) none H103)
theorem S103 (N:Nat):Sound Tryz.prog 103 (E103 N):=
 z07 (C:=[]) (N:=N) (ntmps:=15) (priv:=[]) (pu:=[]) (hs:=H103) (mc:=C103) (c:=bodyOf Tryz.f103) (z06 (trivial:AllS Tryz.prog [])) Tryz.func103 (by kernel_rfl) (by kernel_rfl) (by kernel_rfl) (Nat.le_of_ble_eq_true (by kernel_rfl)) (by kernel_rfl) (by kernel_rfl) (fun a=>by kernel_rfl)
def H104:List Hint:=[]
def E104 (N:Nat):Entry:=entry [.c (.sl 1),.c (.int .i64)] [.s 4 (.c .bool)] fun a=>F_0i N a.1 a.2
noncomputable def C104:MC:=mcOf (comp Tryz.prog 26 [] [] (bodyOf Tryz.f104) none H104)
theorem S104 (N:Nat):Sound Tryz.prog 104 (E104 N):=
 z07 (C:=[]) (N:=N) (ntmps:=26) (priv:=[]) (pu:=[]) (hs:=H104) (mc:=C104) (c:=bodyOf Tryz.f104) (z06 (trivial:AllS Tryz.prog [])) Tryz.func104 (by kernel_rfl) (by kernel_rfl) (by kernel_rfl) (Nat.le_of_ble_eq_true (by kernel_rfl)) (by kernel_rfl) (by kernel_rfl) (fun a=>by kernel_rfl)
def H134:List Hint:=[.join [(.normal,⟨[.s 7 (.c (.int .i64))],[]⟩)],.loop ⟨[.s 7 (.c (.int .i64)),.s 10 (.c (.int .i64))],[]⟩,.no,.no,.join [(.normal,⟨[.s 7 (.c (.int .i64))],[]⟩)]]
def E134 (N:Nat):Entry:=entry [.c (.sl 1),.c (.int .i64),.c (.int .i64)] [.s 6 (.c (.int .i64))] fun a=>F_17 N a.1 a.2.1 a.2.2
noncomputable def C134:MC:=mcOf (comp Tryz.prog 30 [] [] (bodyOf Tryz.f134) none H134)
theorem S134 (N:Nat):Sound Tryz.prog 134 (E134 N):=
 z07 (C:=[(103,E103 N),(104,E104 N)]) (N:=N) (ntmps:=30) (priv:=[]) (pu:=[]) (hs:=H134) (mc:=C134) (c:=bodyOf Tryz.f134) (z06 (⟨S103 N,⟨S104 N,trivial⟩⟩:AllS Tryz.prog [(103,E103 N),(104,E104 N)])) Tryz.func134 (by kernel_rfl) (by kernel_rfl) (by kernel_rfl) (Nat.le_of_ble_eq_true (by kernel_rfl)) (by kernel_rfl) (by kernel_rfl) (fun a=>by kernel_rfl)
def H111:List Hint:=[.no,.join [(.normal,⟨[],[]⟩),(.ret,⟨[.s 4 (.c .bool)],[]⟩)],.loop ⟨[.s 43 (.c (.int .i64))],[]⟩,.no,.no,.no,.join [(.normal,⟨[],[]⟩),(.ret,⟨[.s 4 (.c .bool)],[]⟩)],.loop ⟨[.s 57 (.c (.int .i64))],[]⟩,.no,.no,.no]
def E111 (N:Nat):Entry:=entry [.st [.int .i64,.int .i64,.int .i64,.int .i64],.st [.sl 2,.sl 1,.sl 1,.sl 14]] [.s 4 (.c .bool)] fun a=>F_18 N a.1 a.2
noncomputable def C111:MC:=mcOf (comp Tryz.prog 78 [2,3,8] [2,3,13,19,22,27,33,36,40,54,65,67,69,72] (bodyOf Tryz.f111) none H111)
theorem S111 (N:Nat):Sound Tryz.prog 111 (E111 N):=
 z07 (C:=[(92,E92 N),(23,E23 N),(87,E87 N),(134,E134 N)]) (N:=N) (ntmps:=78) (priv:=[2,3,8]) (pu:=[2,3,13,19,22,27,33,36,40,54,65,67,69,72]) (hs:=H111) (mc:=C111) (c:=bodyOf Tryz.f111) (z06 (⟨S92 N,⟨S23 N,⟨S87 N,⟨S134 N,trivial⟩⟩⟩⟩:AllS Tryz.prog [(92,E92 N),(23,E23 N),(87,E87 N),(134,E134 N)])) Tryz.func111 (by kernel_rfl) (by kernel_rfl) (by kernel_rfl) (Nat.le_of_ble_eq_true (by kernel_rfl)) (by kernel_rfl) (by kernel_rfl) (fun a=>by kernel_rfl)
def H78:List Hint:=[.no,.join [(.normal,⟨[.p 4 (.st [.sl 2,.sl 1,.sl 1,.sl 14])],[(4,4,0)]⟩),(.ret,⟨[.s 5 (.c (.int .i64)),.p 4 (.st [.sl 2,.sl 1,.sl 1,.sl 14])],[(4,4,0)]⟩)],.loop ⟨[.s 30 (.c (.int .i64)),.p 4 (.st [.sl 2,.sl 1,.sl 1,.sl 14])],[(4,4,0)]⟩,.no,.no,.no,.no,.join [(.normal,⟨[.p 4 (.st [.sl 2,.sl 1,.sl 1,.sl 14]),.p 14 (.st [.sl 2,.sl 1,.sl 1,.sl 14])],[(4,4,0),(14,14,0)]⟩),(.ret,⟨[.s 5 (.c (.int .i64)),.p 4 (.st [.sl 2,.sl 1,.sl 1,.sl 14])],[(4,4,0)]⟩)],.loop ⟨[.s 75 (.c (.int .i64)),.p 4 (.st [.sl 2,.sl 1,.sl 1,.sl 14]),.p 14 (.st [.sl 2,.sl 1,.sl 1,.sl 14])],[(4,4,0),(14,14,0)]⟩,.no,.no,.no,.join [(.normal,⟨[.p 4 (.st [.sl 2,.sl 1,.sl 1,.sl 14]),.p 14 (.st [.sl 2,.sl 1,.sl 1,.sl 14])],[(4,4,0),(14,14,0)]⟩),(.ret,⟨[.s 5 (.c (.int .i64)),.p 4 (.st [.sl 2,.sl 1,.sl 1,.sl 14])],[(4,4,0)]⟩)],.no,.no]
def E78 (N:Nat):Entry:=entry [.st [.int .i64,.int .i64,.int .i64,.int .i64],.c (.sl 1)] [.m 4 (.st [.sl 2,.sl 1,.sl 1,.sl 14]),.s 5 (.c (.int .i64))] fun a=>F_2b N a.1 a.2
noncomputable def C78:MC:=mcOf (comp Tryz.prog 103 [2,4,14] [2,4,14,82,85,91] (bodyOf Tryz.f78) none H78)
theorem S78 (N:Nat):Sound Tryz.prog 78 (E78 N):=
 z07 (C:=[(92,E92 N),(65,E65 N),(129,E129 N),(130,E130 N),(131,E131 N),(61,E61 N),(111,E111 N)]) (N:=N) (ntmps:=103) (priv:=[2,4,14]) (pu:=[2,4,14,82,85,91]) (hs:=H78) (mc:=C78) (c:=bodyOf Tryz.f78) (z06 (⟨S92 N,⟨S65 N,⟨S129 N,⟨S130 N,⟨S131 N,⟨S61 N,⟨S111 N,trivial⟩⟩⟩⟩⟩⟩⟩:AllS Tryz.prog [(92,E92 N),(65,E65 N),(129,E129 N),(130,E130 N),(131,E131 N),(61,E61 N),(111,E111 N)])) Tryz.func78 (by kernel_rfl) (by kernel_rfl) (by kernel_rfl) (Nat.le_of_ble_eq_true (by kernel_rfl)) (by kernel_rfl) (by kernel_rfl) (fun a=>by kernel_rfl)
def H132:List Hint:=[]
def E132 (N:Nat):Entry:=entry [.c .ptr,.c (.int .i64)] [.s 4 (.c .bool)] fun a=>F_19 N a.1 a.2
noncomputable def C132:MC:=mcOf (comp Tryz.prog 16 [] [] (bodyOf Tryz.f132) none H132)
theorem S132 (N:Nat):Sound Tryz.prog 132 (E132 N):=
 z07 (C:=[]) (N:=N) (ntmps:=16) (priv:=[]) (pu:=[]) (hs:=H132) (mc:=C132) (c:=bodyOf Tryz.f132) (z06 (trivial:AllS Tryz.prog [])) Tryz.func132 (by kernel_rfl) (by kernel_rfl) (by kernel_rfl) (Nat.le_of_ble_eq_true (by kernel_rfl)) (by kernel_rfl) (by kernel_rfl) (fun a=>by kernel_rfl)
def H85:List Hint:=[.draw false []]
def E85 (N:Nat):Entry:=entry [.c .ptr,.c (.int .i64)] [.s 4 (.c (.int .i64))] fun a=>F_0n N a.1 a.2
noncomputable def C85:MC:=mcOf (comp Tryz.prog 27 [] [] (bodyOf Tryz.f85) none H85)
theorem S85 (N:Nat):Sound Tryz.prog 85 (E85 N):=
 z07 (C:=[(134,E134 N)]) (N:=N) (ntmps:=27) (priv:=[]) (pu:=[]) (hs:=H85) (mc:=C85) (c:=bodyOf Tryz.f85) (z06 (⟨S134 N,trivial⟩:AllS Tryz.prog [(134,E134 N)])) Tryz.func85 (by kernel_rfl) (by kernel_rfl) (by kernel_rfl) (Nat.le_of_ble_eq_true (by kernel_rfl)) (by kernel_rfl) (by kernel_rfl) (fun a=>by kernel_rfl)
def H79:List Hint:=[.join [(.normal,⟨[],[]⟩),(.ret,⟨[.s 2 (.c .bool)],[]⟩)],.loop ⟨[.s 14 (.c (.int .i64))],[]⟩,.no,.no,.no,.join [(.normal,⟨[],[]⟩),(.ret,⟨[.s 2 (.c .bool)],[]⟩)],.loop ⟨[.s 46 (.c (.int .i64))],[]⟩,.no,.no,.no]
def E79 (N:Nat):Entry:=entry [.c .ptr] [.s 2 (.c .bool)] fun a=>F_2c N a
noncomputable def C79:MC:=mcOf (comp Tryz.prog 62 [6] [] (bodyOf Tryz.f79) none H79)
theorem S79 (N:Nat):Sound Tryz.prog 79 (E79 N):=
 z07 (C:=[(132,E132 N),(85,E85 N)]) (N:=N) (ntmps:=62) (priv:=[6]) (pu:=[]) (hs:=H79) (mc:=C79) (c:=bodyOf Tryz.f79) (z06 (⟨S132 N,⟨S85 N,trivial⟩⟩:AllS Tryz.prog [(132,E132 N),(85,E85 N)])) Tryz.func79 (by kernel_rfl) (by kernel_rfl) (by kernel_rfl) (Nat.le_of_ble_eq_true (by kernel_rfl)) (by kernel_rfl) (by kernel_rfl) (fun a=>by kernel_rfl)
def H31:List Hint:=[.no,.no,.no,.draw true [],.no,.no,.join [(.normal,⟨[],[]⟩)],.loop ⟨[.s 72 (.c (.int .i64))],[]⟩,.no,.no,.draw false [],.no]
def E31 (N:Nat):Entry:=entry [.c .ptr] [.s 2 (.c .ptr),.s 3 (.c (.int .i64))] fun a=>F_2d N a
noncomputable def C31:MC:=mcOf (comp Tryz.prog 121 [6,7] [6,7,42,53,55,77] (bodyOf Tryz.f31) none H31)
theorem S31 (N:Nat):Sound Tryz.prog 31 (E31 N):=
 z07 (C:=[(26,E26 N),(75,E75 N),(46,E46 N),(25,E25 N),(76,E76 N),(77,E77 N),(65,E65 N),(78,E78 N),(79,E79 N)]) (N:=N) (ntmps:=121) (priv:=[6,7]) (pu:=[6,7,42,53,55,77]) (hs:=H31) (mc:=C31) (c:=bodyOf Tryz.f31) (z06 (⟨S26 N,⟨S75 N,⟨S46 N,⟨S25 N,⟨S76 N,⟨S77 N,⟨S65 N,⟨S78 N,⟨S79 N,trivial⟩⟩⟩⟩⟩⟩⟩⟩⟩:AllS Tryz.prog [(26,E26 N),(75,E75 N),(46,E46 N),(25,E25 N),(76,E76 N),(77,E77 N),(65,E65 N),(78,E78 N),(79,E79 N)])) Tryz.func31 (by kernel_rfl) (by kernel_rfl) (by kernel_rfl) (Nat.le_of_ble_eq_true (by kernel_rfl)) (by kernel_rfl) (by kernel_rfl) (fun a=>by kernel_rfl)
def H10:List Hint:=[.no]
def E10 (N:Nat):Entry:=entry [.st [.int .i64,.int .i64,.int .i64,.int .i64]] [.s 2 (.c .ptr),.s 3 (.c .ptr),.s 4 (.c .bool)] fun a=>F_1a N a
noncomputable def C10:MC:=mcOf (comp Tryz.prog 39 [1,5] [1,5,17] (bodyOf Tryz.f10) none H10)
theorem S10 (N:Nat):Sound Tryz.prog 10 (E10 N):=
 z07 (C:=[(46,E46 N),(47,E47 N),(41,E41 N),(31,E31 N)]) (N:=N) (ntmps:=39) (priv:=[1,5]) (pu:=[1,5,17]) (hs:=H10) (mc:=C10) (c:=bodyOf Tryz.f10) (z06 (⟨S46 N,⟨S47 N,⟨S41 N,⟨S31 N,trivial⟩⟩⟩⟩:AllS Tryz.prog [(46,E46 N),(47,E47 N),(41,E41 N),(31,E31 N)])) Tryz.func10 (by kernel_rfl) (by kernel_rfl) (by kernel_rfl) (Nat.le_of_ble_eq_true (by kernel_rfl)) (by kernel_rfl) (by kernel_rfl) (fun a=>by kernel_rfl)
def H145:List Hint:=[]
def E145 (N:Nat):Entry:=entry [.st [.int .u16,.int .i64],.c .ptr] [.s 3 (.c .bool)] fun a=>F_3s N a.1 a.2
noncomputable def C145:MC:=mcOf (comp Tryz.prog 13 [2] [2,4,8] (bodyOf Tryz.f145) none H145)
theorem S145 (N:Nat):Sound Tryz.prog 145 (E145 N):=
 z07 (C:=[]) (N:=N) (ntmps:=13) (priv:=[2]) (pu:=[2,4,8]) (hs:=H145) (mc:=C145) (c:=bodyOf Tryz.f145) (z06 (trivial:AllS Tryz.prog [])) Tryz.func145 (by kernel_rfl) (by kernel_rfl) (by kernel_rfl) (Nat.le_of_ble_eq_true (by kernel_rfl)) (by kernel_rfl) (by kernel_rfl) (fun a=>by kernel_rfl)
def zgg:List Hint:=[.join [(.normal,⟨[],[]⟩),(.ret,⟨[.s 4 (.c (.int .i64))],[]⟩)],.loop ⟨[.s 8 (.c (.int .i64))],[]⟩,.no,.no,.no]
def zbt (N:Nat):Entry:=entry [.c (.sl 2),.fnc 145 [.ptr]] [.s 4 (.c (.int .i64))] fun a=>F_3t N a.1 a.2
noncomputable def C146_145:MC:=mcOf (comp Tryz.prog 19 [] [] (bodyOf Tryz.f146) none zgg)
theorem zq6 (N:Nat):Sound Tryz.prog 146 (zbt N):=
 z07 (C:=[(145,E145 N)]) (N:=N) (ntmps:=19) (priv:=[]) (pu:=[]) (hs:=zgg) (mc:=C146_145) (c:=bodyOf Tryz.f146) (z06 (⟨S145 N,trivial⟩:AllS Tryz.prog [(145,E145 N)])) Tryz.func146 (by kernel_rfl) (by kernel_rfl) (by kernel_rfl) (Nat.le_of_ble_eq_true (by kernel_rfl)) (by kernel_rfl) (by kernel_rfl) (fun a=>by kernel_rfl)
def zgh:List Hint:=[]
def zbu (N:Nat):Entry:=entry [.c (.sl 2),.fnc 145 [.ptr]] [.s 4 (.c (.int .i64))] fun a=>F_3u N a.1 a.2
noncomputable def C106_145:MC:=mcOf (comp Tryz.prog 8 [] [] (bodyOf Tryz.f106) none zgh)
theorem zq7 (N:Nat):Sound Tryz.prog 106 (zbu N):=
 z07 (C:=[(146,zbt N)]) (N:=N) (ntmps:=8) (priv:=[]) (pu:=[]) (hs:=zgh) (mc:=C106_145) (c:=bodyOf Tryz.f106) (z06 (⟨zq6 N,trivial⟩:AllS Tryz.prog [(146,zbt N)])) Tryz.func106 (by kernel_rfl) (by kernel_rfl) (by kernel_rfl) (Nat.le_of_ble_eq_true (by kernel_rfl)) (by kernel_rfl) (by kernel_rfl) (fun a=>by kernel_rfl)
def H102:List Hint:=[]
def E102 (N:Nat):Entry:=entry [.c (.sl 2),.c (.int .u16)] [.s 4 (.c (.int .i64))] fun a=>F_1b N a.1 a.2
noncomputable def C102:MC:=mcOf (comp Tryz.prog 8 [] [] (bodyOf Tryz.f102) none H102)
theorem S102 (N:Nat):Sound Tryz.prog 102 (E102 N):=
 z07 (C:=[(106,zbu N)]) (N:=N) (ntmps:=8) (priv:=[]) (pu:=[]) (hs:=H102) (mc:=C102) (c:=bodyOf Tryz.f102) (z06 (⟨zq7 N,trivial⟩:AllS Tryz.prog [(106,zbu N)])) Tryz.func102 (by kernel_rfl) (by kernel_rfl) (by kernel_rfl) (Nat.le_of_ble_eq_true (by kernel_rfl)) (by kernel_rfl) (by kernel_rfl) (fun a=>by kernel_rfl)
def H55:List Hint:=[.no]
def E55 (N:Nat):Entry:=entry [.c (.sl 2),.c (.int .u16)] [.s 4 (.c (.int .i64)),.s 5 (.c .bool)] fun a=>F_2e N a.1 a.2
noncomputable def C55:MC:=mcOf (comp Tryz.prog 18 [] [] (bodyOf Tryz.f55) none H55)
theorem S55 (N:Nat):Sound Tryz.prog 55 (E55 N):=
 z07 (C:=[(102,E102 N),(23,E23 N)]) (N:=N) (ntmps:=18) (priv:=[]) (pu:=[]) (hs:=H55) (mc:=C55) (c:=bodyOf Tryz.f55) (z06 (⟨S102 N,⟨S23 N,trivial⟩⟩:AllS Tryz.prog [(102,E102 N),(23,E23 N)])) Tryz.func55 (by kernel_rfl) (by kernel_rfl) (by kernel_rfl) (Nat.le_of_ble_eq_true (by kernel_rfl)) (by kernel_rfl) (by kernel_rfl) (fun a=>by kernel_rfl)
def H56:List Hint:=[.join [(.normal,⟨[],[]⟩),(.ret,⟨[.s 8 (.c (.int .i64)),.s 9 (.c .bool)],[]⟩)],.loop ⟨[.s 12 (.c (.int .i64))],[]⟩,.no,.no,.no]
def E56 (N:Nat):Entry:=entry [.c (.sl 1),.c (.int .i64),.c (.int .i64),.c .bool] [.s 8 (.c (.int .i64)),.s 9 (.c .bool)] fun a=>F_2f N a.1 a.2.1 a.2.2.1 a.2.2.2
noncomputable def C56:MC:=mcOf (comp Tryz.prog 32 [] [] (bodyOf Tryz.f56) none H56)
theorem S56 (N:Nat):Sound Tryz.prog 56 (E56 N):=
 z07 (C:=[(103,E103 N),(104,E104 N)]) (N:=N) (ntmps:=32) (priv:=[]) (pu:=[]) (hs:=H56) (mc:=C56) (c:=bodyOf Tryz.f56) (z06 (⟨S103 N,⟨S104 N,trivial⟩⟩:AllS Tryz.prog [(103,E103 N),(104,E104 N)])) Tryz.func56 (by kernel_rfl) (by kernel_rfl) (by kernel_rfl) (Nat.le_of_ble_eq_true (by kernel_rfl)) (by kernel_rfl) (by kernel_rfl) (fun a=>by kernel_rfl)
def H105:List Hint:=[.no,.no,.no,.draw false [],.join [(.normal,⟨[],[]⟩)],.draw false []]
def E105 (N:Nat):Entry:=entry [.c (.sl 1),.c (.int .i64),.c .bool] [.s 6 (.c (.sl 1)),.s 7 (.c (.int .i64))] fun a=>F_2g N a.1 a.2.1 a.2.2
noncomputable def C105:MC:=mcOf (comp Tryz.prog 48 [] [] (bodyOf Tryz.f105) none H105)
theorem S105 (N:Nat):Sound Tryz.prog 105 (E105 N):=
 z07 (C:=[]) (N:=N) (ntmps:=48) (priv:=[]) (pu:=[]) (hs:=H105) (mc:=C105) (c:=bodyOf Tryz.f105) (z06 (trivial:AllS Tryz.prog [])) Tryz.func105 (by kernel_rfl) (by kernel_rfl) (by kernel_rfl) (Nat.le_of_ble_eq_true (by kernel_rfl)) (by kernel_rfl) (by kernel_rfl) (fun a=>by kernel_rfl)
def H57:List Hint:=[]
def E57 (N:Nat):Entry:=entry [.c .ptr,.c (.int .i64),.c .bool] [] fun a=>F_0o N a.1 a.2.1 a.2.2
noncomputable def C57:MC:=mcOf (comp Tryz.prog 23 [] [] (bodyOf Tryz.f57) none H57)
theorem S57 (N:Nat):Sound Tryz.prog 57 (E57 N):=
 z07 (C:=[(105,E105 N)]) (N:=N) (ntmps:=23) (priv:=[]) (pu:=[]) (hs:=H57) (mc:=C57) (c:=bodyOf Tryz.f57) (z06 (⟨S105 N,trivial⟩:AllS Tryz.prog [(105,E105 N)])) Tryz.func57 (by kernel_rfl) (by kernel_rfl) (by kernel_rfl) (Nat.le_of_ble_eq_true (by kernel_rfl)) (by kernel_rfl) (by kernel_rfl) (fun a=>by kernel_rfl)
def H58:List Hint:=[.join [(.normal,⟨[],[]⟩),(.ret,⟨[.s 4 (.c (.int .i64))],[]⟩)],.loop ⟨[.s 8 (.c (.int .i64))],[]⟩,.no,.no,.no]
def E58 (N:Nat):Entry:=entry [.c (.sl 1),.c (.int .i64)] [.s 4 (.c (.int .i64))] fun a=>F_2h N a.1 a.2
noncomputable def C58:MC:=mcOf (comp Tryz.prog 19 [] [] (bodyOf Tryz.f58) none H58)
theorem S58 (N:Nat):Sound Tryz.prog 58 (E58 N):=
 z07 (C:=[]) (N:=N) (ntmps:=19) (priv:=[]) (pu:=[]) (hs:=H58) (mc:=C58) (c:=bodyOf Tryz.f58) (z06 (trivial:AllS Tryz.prog [])) Tryz.func58 (by kernel_rfl) (by kernel_rfl) (by kernel_rfl) (Nat.le_of_ble_eq_true (by kernel_rfl)) (by kernel_rfl) (by kernel_rfl) (fun a=>by kernel_rfl)
def H107:List Hint:=[]
def E107 (N:Nat):Entry:=entry [.st [.int .u16,.int .i64]] [.s 2 (.c .bool)] fun a=>F_3v N a
noncomputable def C107:MC:=mcOf (comp Tryz.prog 6 [1] [1,3] (bodyOf Tryz.f107) none H107)
theorem S107 (N:Nat):Sound Tryz.prog 107 (E107 N):=
 z07 (C:=[]) (N:=N) (ntmps:=6) (priv:=[1]) (pu:=[1,3]) (hs:=H107) (mc:=C107) (c:=bodyOf Tryz.f107) (z06 (trivial:AllS Tryz.prog [])) Tryz.func107 (by kernel_rfl) (by kernel_rfl) (by kernel_rfl) (Nat.le_of_ble_eq_true (by kernel_rfl)) (by kernel_rfl) (by kernel_rfl) (fun a=>by kernel_rfl)
def zgi:List Hint:=[.join [(.normal,⟨[],[]⟩),(.ret,⟨[.s 4 (.c (.int .i64))],[]⟩)],.loop ⟨[.s 8 (.c (.int .i64))],[]⟩,.no,.no,.no]
def zbv (N:Nat):Entry:=entry [.c (.sl 2),.fnc 107 []] [.s 4 (.c (.int .i64))] fun a=>F_3w N a.1 a.2
noncomputable def C146_107:MC:=mcOf (comp Tryz.prog 19 [] [] (bodyOf Tryz.f146) none zgi)
theorem zq8 (N:Nat):Sound Tryz.prog 146 (zbv N):=
 z07 (C:=[(107,E107 N)]) (N:=N) (ntmps:=19) (priv:=[]) (pu:=[]) (hs:=zgi) (mc:=C146_107) (c:=bodyOf Tryz.f146) (z06 (⟨S107 N,trivial⟩:AllS Tryz.prog [(107,E107 N)])) Tryz.func146 (by kernel_rfl) (by kernel_rfl) (by kernel_rfl) (Nat.le_of_ble_eq_true (by kernel_rfl)) (by kernel_rfl) (by kernel_rfl) (fun a=>by kernel_rfl)
def zgj:List Hint:=[]
def zbw (N:Nat):Entry:=entry [.c (.sl 2),.fnc 107 []] [.s 4 (.c (.int .i64))] fun a=>F_2i N a.1 a.2
noncomputable def C106_107:MC:=mcOf (comp Tryz.prog 8 [] [] (bodyOf Tryz.f106) none zgj)
theorem zq9 (N:Nat):Sound Tryz.prog 106 (zbw N):=
 z07 (C:=[(146,zbv N)]) (N:=N) (ntmps:=8) (priv:=[]) (pu:=[]) (hs:=zgj) (mc:=C106_107) (c:=bodyOf Tryz.f106) (z06 (⟨zq8 N,trivial⟩:AllS Tryz.prog [(146,zbv N)])) Tryz.func106 (by kernel_rfl) (by kernel_rfl) (by kernel_rfl) (Nat.le_of_ble_eq_true (by kernel_rfl)) (by kernel_rfl) (by kernel_rfl) (fun a=>by kernel_rfl)
def H108:List Hint:=[]
def E108 (N:Nat):Entry:=entry [.c (.sl 2),.c (.int .i64),.st [.int .u16,.int .i64]] [.s 6 (.c (.sl 2))] fun a=>F_0p N a.1 a.2.1 a.2.2
noncomputable def C108:MC:=mcOf (comp Tryz.prog 19 [5] [5] (bodyOf Tryz.f108) none H108)
theorem S108 (N:Nat):Sound Tryz.prog 108 (E108 N):=
 z07 (C:=[]) (N:=N) (ntmps:=19) (priv:=[5]) (pu:=[5]) (hs:=H108) (mc:=C108) (c:=bodyOf Tryz.f108) (z06 (trivial:AllS Tryz.prog [])) Tryz.func108 (by kernel_rfl) (by kernel_rfl) (by kernel_rfl) (Nat.le_of_ble_eq_true (by kernel_rfl)) (by kernel_rfl) (by kernel_rfl) (fun a=>by kernel_rfl)
def H59:List Hint:=[.no,.join [(.normal,⟨[.s 7 (.c (.int .i64))],[]⟩)],.no,.no,.no]
def E59 (N:Nat):Entry:=entry [.c (.sl 2),.c (.int .u16)] [.s 4 (.c (.sl 2)),.s 5 (.c (.int .i64)),.s 6 (.c (.int .i64))] fun a=>F_1c N a.1 a.2
noncomputable def C59:MC:=mcOf (comp Tryz.prog 40 [] [] (bodyOf Tryz.f59) none H59)
theorem S59 (N:Nat):Sound Tryz.prog 59 (E59 N):=
 z07 (C:=[(23,E23 N),(102,E102 N),(106,zbw N),(108,E108 N)]) (N:=N) (ntmps:=40) (priv:=[]) (pu:=[]) (hs:=H59) (mc:=C59) (c:=bodyOf Tryz.f59) (z06 (⟨S23 N,⟨S102 N,⟨zq9 N,⟨S108 N,trivial⟩⟩⟩⟩:AllS Tryz.prog [(23,E23 N),(102,E102 N),(106,zbw N),(108,E108 N)])) Tryz.func59 (by kernel_rfl) (by kernel_rfl) (by kernel_rfl) (Nat.le_of_ble_eq_true (by kernel_rfl)) (by kernel_rfl) (by kernel_rfl) (fun a=>by kernel_rfl)
def H15:List Hint:=[.no,.join [(.normal,⟨[],[]⟩),(.ret,⟨[.s 4 (.c (.int .i64)),.s 5 (.c (.int .i64))],[]⟩)],.loop ⟨[.s 35 (.c (.int .i64))],[]⟩,.no,.join [(.normal,⟨[],[]⟩),(.ret,⟨[.s 4 (.c (.int .i64)),.s 5 (.c (.int .i64))],[]⟩)],.no,.draw false [],.no,.no,.no]
def E15 (N:Nat):Entry:=entry [.c .ptr,.c (.int .u16)] [.s 4 (.c (.int .i64)),.s 5 (.c (.int .i64))] fun a=>F_06 N a.1 a.2
noncomputable def C15:MC:=mcOf (comp Tryz.prog 135 [] [] (bodyOf Tryz.f15) none H15)
theorem S15 (N:Nat):Sound Tryz.prog 15 (E15 N):=
 z07 (C:=[(55,E55 N),(56,E56 N),(57,E57 N),(58,E58 N),(59,E59 N)]) (N:=N) (ntmps:=135) (priv:=[]) (pu:=[]) (hs:=H15) (mc:=C15) (c:=bodyOf Tryz.f15) (z06 (⟨S55 N,⟨S56 N,⟨S57 N,⟨S58 N,⟨S59 N,trivial⟩⟩⟩⟩⟩:AllS Tryz.prog [(55,E55 N),(56,E56 N),(57,E57 N),(58,E58 N),(59,E59 N)])) Tryz.func15 (by kernel_rfl) (by kernel_rfl) (by kernel_rfl) (Nat.le_of_ble_eq_true (by kernel_rfl)) (by kernel_rfl) (by kernel_rfl) (fun a=>by kernel_rfl)
def H60:List Hint:=[.draw false []]
def E60 (N:Nat):Entry:=entry [.c .ptr,.c (.int .i64)] [.s 4 (.c .bool)] fun a=>F_2j N a.1 a.2
noncomputable def C60:MC:=mcOf (comp Tryz.prog 22 [] [] (bodyOf Tryz.f60) none H60)
theorem S60 (N:Nat):Sound Tryz.prog 60 (E60 N):=
 z07 (C:=[]) (N:=N) (ntmps:=22) (priv:=[]) (pu:=[]) (hs:=H60) (mc:=C60) (c:=bodyOf Tryz.f60) (z06 (trivial:AllS Tryz.prog [])) Tryz.func60 (by kernel_rfl) (by kernel_rfl) (by kernel_rfl) (Nat.le_of_ble_eq_true (by kernel_rfl)) (by kernel_rfl) (by kernel_rfl) (fun a=>by kernel_rfl)
def H62:List Hint:=[.no,.no,.no,.no]
def E62 (N:Nat):Entry:=entry [.c .ptr,.c (.int .i64)] [.s 4 (.c (.int .i64))] fun a=>F_1d N a.1 a.2
noncomputable def C62:MC:=mcOf (comp Tryz.prog 23 [] [] (bodyOf Tryz.f62) none H62)
theorem S62 (N:Nat):Sound Tryz.prog 62 (E62 N):=
 z07 (C:=[(60,E60 N),(104,E104 N)]) (N:=N) (ntmps:=23) (priv:=[]) (pu:=[]) (hs:=H62) (mc:=C62) (c:=bodyOf Tryz.f62) (z06 (⟨S60 N,⟨S104 N,trivial⟩⟩:AllS Tryz.prog [(60,E60 N),(104,E104 N)])) Tryz.func62 (by kernel_rfl) (by kernel_rfl) (by kernel_rfl) (Nat.le_of_ble_eq_true (by kernel_rfl)) (by kernel_rfl) (by kernel_rfl) (fun a=>by kernel_rfl)
def H109:List Hint:=[.draw false [],.no]
def E109 (N:Nat):Entry:=entry [.c .ptr,.c (.int .i64)] [.s 4 (.c (.int .u16))] fun a=>F_0q N a.1 a.2
noncomputable def C109:MC:=mcOf (comp Tryz.prog 34 [] [] (bodyOf Tryz.f109) none H109)
theorem S109 (N:Nat):Sound Tryz.prog 109 (E109 N):=
 z07 (C:=[]) (N:=N) (ntmps:=34) (priv:=[]) (pu:=[]) (hs:=H109) (mc:=C109) (c:=bodyOf Tryz.f109) (z06 (trivial:AllS Tryz.prog [])) Tryz.func109 (by kernel_rfl) (by kernel_rfl) (by kernel_rfl) (Nat.le_of_ble_eq_true (by kernel_rfl)) (by kernel_rfl) (by kernel_rfl) (fun a=>by kernel_rfl)
def H63:List Hint:=[.draw true []]
def E63 (N:Nat):Entry:=entry [.c .ptr,.c (.int .i64),.c (.sl 1)] [] fun a=>F_1e N a.1 a.2.1 a.2.2
noncomputable def C63:MC:=mcOf (comp Tryz.prog 24 [] [] (bodyOf Tryz.f63) none H63)
theorem S63 (N:Nat):Sound Tryz.prog 63 (E63 N):=
 z07 (C:=[(109,E109 N)]) (N:=N) (ntmps:=24) (priv:=[]) (pu:=[]) (hs:=H63) (mc:=C63) (c:=bodyOf Tryz.f63) (z06 (⟨S109 N,trivial⟩:AllS Tryz.prog [(109,E109 N)])) Tryz.func63 (by kernel_rfl) (by kernel_rfl) (by kernel_rfl) (Nat.le_of_ble_eq_true (by kernel_rfl)) (by kernel_rfl) (by kernel_rfl) (fun a=>by kernel_rfl)
def H135:List Hint:=[.no,.no,.no,.no,.draw false []]
def E135 (N:Nat):Entry:=entry [.c (.sl 2),.c (.int .i64)] [.s 4 (.c (.sl 2)),.s 5 (.c (.int .i64))] fun a=>F_2k N a.1 a.2
noncomputable def C135:MC:=mcOf (comp Tryz.prog 53 [] [] (bodyOf Tryz.f135) none H135)
theorem S135 (N:Nat):Sound Tryz.prog 135 (E135 N):=
 z07 (C:=[(23,E23 N),(108,E108 N)]) (N:=N) (ntmps:=53) (priv:=[]) (pu:=[]) (hs:=H135) (mc:=C135) (c:=bodyOf Tryz.f135) (z06 (⟨S23 N,⟨S108 N,trivial⟩⟩:AllS Tryz.prog [(23,E23 N),(108,E108 N)])) Tryz.func135 (by kernel_rfl) (by kernel_rfl) (by kernel_rfl) (Nat.le_of_ble_eq_true (by kernel_rfl)) (by kernel_rfl) (by kernel_rfl) (fun a=>by kernel_rfl)
def H86:List Hint:=[]
def E86 (N:Nat):Entry:=entry [.c .ptr,.c (.int .i64)] [] fun a=>F_1f N a.1 a.2
noncomputable def C86:MC:=mcOf (comp Tryz.prog 20 [] [] (bodyOf Tryz.f86) none H86)
theorem S86 (N:Nat):Sound Tryz.prog 86 (E86 N):=
 z07 (C:=[(135,E135 N)]) (N:=N) (ntmps:=20) (priv:=[]) (pu:=[]) (hs:=H86) (mc:=C86) (c:=bodyOf Tryz.f86) (z06 (⟨S135 N,trivial⟩:AllS Tryz.prog [(135,E135 N)])) Tryz.func86 (by kernel_rfl) (by kernel_rfl) (by kernel_rfl) (Nat.le_of_ble_eq_true (by kernel_rfl)) (by kernel_rfl) (by kernel_rfl) (fun a=>by kernel_rfl)
def H37:List Hint:=[.no,.join [(.normal,⟨[],[]⟩)]]
def E37 (N:Nat):Entry:=entry [.c .ptr,.c (.int .i64)] [.s 4 (.c (.int .i64))] fun a=>F_0j N a.1 a.2
noncomputable def C37:MC:=mcOf (comp Tryz.prog 51 [] [] (bodyOf Tryz.f37) none H37)
theorem S37 (N:Nat):Sound Tryz.prog 37 (E37 N):=
 z07 (C:=[(62,E62 N),(63,E63 N),(57,E57 N),(85,E85 N),(86,E86 N)]) (N:=N) (ntmps:=51) (priv:=[]) (pu:=[]) (hs:=H37) (mc:=C37) (c:=bodyOf Tryz.f37) (z06 (⟨S62 N,⟨S63 N,⟨S57 N,⟨S85 N,⟨S86 N,trivial⟩⟩⟩⟩⟩:AllS Tryz.prog [(62,E62 N),(63,E63 N),(57,E57 N),(85,E85 N),(86,E86 N)])) Tryz.func37 (by kernel_rfl) (by kernel_rfl) (by kernel_rfl) (Nat.le_of_ble_eq_true (by kernel_rfl)) (by kernel_rfl) (by kernel_rfl) (fun a=>by kernel_rfl)
def H9:List Hint:=[.no]
def E9 (N:Nat):Entry:=entry [] [.s 0 (.c .bool)] fun a=>F_2l N
noncomputable def C9:MC:=mcOf (comp Tryz.prog 76 [] [] (bodyOf Tryz.f9) none H9)
theorem S9 (N:Nat):Sound Tryz.prog 9 (E9 N):=
 z07 (C:=[(10,E10 N),(15,E15 N),(37,E37 N)]) (N:=N) (ntmps:=76) (priv:=[]) (pu:=[]) (hs:=H9) (mc:=C9) (c:=bodyOf Tryz.f9) (z06 (⟨S10 N,⟨S15 N,⟨S37 N,trivial⟩⟩⟩:AllS Tryz.prog [(10,E10 N),(15,E15 N),(37,E37 N)])) Tryz.func9 (by kernel_rfl) (by kernel_rfl) (by kernel_rfl) (Nat.le_of_ble_eq_true (by kernel_rfl)) (by kernel_rfl) (by kernel_rfl) (fun a=>by kernel_rfl)
def H11:List Hint:=[]
def E11 (N:Nat):Entry:=entry [] [.m 0 (.st [.int .i64,.int .i64,.int .i64,.int .i64])] fun a=>F_3x N
noncomputable def C11:MC:=mcOf (comp Tryz.prog 2 [0] [0] (bodyOf Tryz.f11) none H11)
theorem S11 (N:Nat):Sound Tryz.prog 11 (E11 N):=
 z07 (C:=[]) (N:=N) (ntmps:=2) (priv:=[0]) (pu:=[0]) (hs:=H11) (mc:=C11) (c:=bodyOf Tryz.f11) (z06 (trivial:AllS Tryz.prog [])) Tryz.func11 (by kernel_rfl) (by kernel_rfl) (by kernel_rfl) (Nat.le_of_ble_eq_true (by kernel_rfl)) (by kernel_rfl) (by kernel_rfl) (fun a=>by kernel_rfl)
def H94:List Hint:=[.no]
def E94 (N:Nat):Entry:=entry [.st [.int .i64,.int .i64,.int .i64,.int .i64]] [.s 2 (.c .bool)] fun a=>F_2m N a
noncomputable def C94:MC:=mcOf (comp Tryz.prog 53 [1] [1,3,7,12,17,22,27,31,36,41,46,48] (bodyOf Tryz.f94) none H94)
theorem S94 (N:Nat):Sound Tryz.prog 94 (E94 N):=
 z07 (C:=[]) (N:=N) (ntmps:=53) (priv:=[1]) (pu:=[1,3,7,12,17,22,27,31,36,41,46,48]) (hs:=H94) (mc:=C94) (c:=bodyOf Tryz.f94) (z06 (trivial:AllS Tryz.prog [])) Tryz.func94 (by kernel_rfl) (by kernel_rfl) (by kernel_rfl) (Nat.le_of_ble_eq_true (by kernel_rfl)) (by kernel_rfl) (by kernel_rfl) (fun a=>by kernel_rfl)
def H48:List Hint:=[.no,.draw false [8,11,12,15]]
def E48 (N:Nat):Entry:=entry [.st [.int .i64,.int .i64,.int .i64,.int .i64]] [.m 2 (.st [.sl 2,.sl 1,.sl 1,.sl 14]),.s 3 (.c (.int .i64))] fun a=>F_3y N a
noncomputable def C48:MC:=mcOf (comp Tryz.prog 17 [1,2] [1,2,9,13] (bodyOf Tryz.f48) none H48)
theorem S48 (N:Nat):Sound Tryz.prog 48 (E48 N):=
 z07 (C:=[(94,E94 N)]) (N:=N) (ntmps:=17) (priv:=[1,2]) (pu:=[1,2,9,13]) (hs:=H48) (mc:=C48) (c:=bodyOf Tryz.f48) (z06 (⟨S94 N,trivial⟩:AllS Tryz.prog [(94,E94 N)])) Tryz.func48 (by kernel_rfl) (by kernel_rfl) (by kernel_rfl) (Nat.le_of_ble_eq_true (by kernel_rfl)) (by kernel_rfl) (by kernel_rfl) (fun a=>by kernel_rfl)
def H12:List Hint:=[.join [(.normal,⟨[],[]⟩)],.loop ⟨[.s 6 (.c (.int .i64))],[]⟩,.no,.no,.draw false []]
def E12 (N:Nat):Entry:=entry [.st [.int .i64,.int .i64,.int .i64,.int .i64]] [.s 2 (.c .ptr)] fun a=>F_2n N a
noncomputable def C12:MC:=mcOf (comp Tryz.prog 46 [1,3] [1,3,17,19] (bodyOf Tryz.f12) none H12)
theorem S12 (N:Nat):Sound Tryz.prog 12 (E12 N):=
 z07 (C:=[(48,E48 N)]) (N:=N) (ntmps:=46) (priv:=[1,3]) (pu:=[1,3,17,19]) (hs:=H12) (mc:=C12) (c:=bodyOf Tryz.f12) (z06 (⟨S48 N,trivial⟩:AllS Tryz.prog [(48,E48 N)])) Tryz.func12 (by kernel_rfl) (by kernel_rfl) (by kernel_rfl) (Nat.le_of_ble_eq_true (by kernel_rfl)) (by kernel_rfl) (by kernel_rfl) (fun a=>by kernel_rfl)
def H13:List Hint:=[.join [(.normal,⟨[],[]⟩),(.ret,⟨[.s 2 (.c (.sl 20))],[]⟩)],.loop ⟨[.s 6 (.c (.int .i64))],[]⟩,.no,.no,.no]
def E13 (N:Nat):Entry:=entry [.c (.sl 20)] [.s 2 (.c (.sl 20))] fun a=>F_2o N a
noncomputable def C13:MC:=mcOf (comp Tryz.prog 25 [] [] (bodyOf Tryz.f13) none H13)
theorem S13 (N:Nat):Sound Tryz.prog 13 (E13 N):=
 z07 (C:=[]) (N:=N) (ntmps:=25) (priv:=[]) (pu:=[]) (hs:=H13) (mc:=C13) (c:=bodyOf Tryz.f13) (z06 (trivial:AllS Tryz.prog [])) Tryz.func13 (by kernel_rfl) (by kernel_rfl) (by kernel_rfl) (Nat.le_of_ble_eq_true (by kernel_rfl)) (by kernel_rfl) (by kernel_rfl) (fun a=>by kernel_rfl)
def H40:List Hint:=[.no]
def E40 (N:Nat):Entry:=entry [.c .ptr] [.s 2 (.c (.int .i64))] fun a=>F_0r N a
noncomputable def C40:MC:=mcOf (comp Tryz.prog 11 [] [] (bodyOf Tryz.f40) none H40)
theorem S40 (N:Nat):Sound Tryz.prog 40 (E40 N):=
 z07 (C:=[]) (N:=N) (ntmps:=11) (priv:=[]) (pu:=[]) (hs:=H40) (mc:=C40) (c:=bodyOf Tryz.f40) (z06 (trivial:AllS Tryz.prog [])) Tryz.func40 (by kernel_rfl) (by kernel_rfl) (by kernel_rfl) (Nat.le_of_ble_eq_true (by kernel_rfl)) (by kernel_rfl) (by kernel_rfl) (fun a=>by kernel_rfl)
def H112:List Hint:=[.no,.join [(.normal,⟨[.s 4 (.c (.sl 1))],[]⟩)],.loop ⟨[.s 4 (.c (.sl 1)),.s 12 (.c (.int .i64))],[]⟩,.no,.no]
def E112 (N:Nat):Entry:=entry [.c (.sl 2)] [.s 2 (.c (.sl 1)),.s 3 (.c (.int .i64))] fun a=>F_2p N a
noncomputable def C112:MC:=mcOf (comp Tryz.prog 30 [6] [6,17,20] (bodyOf Tryz.f112) none H112)
theorem S112 (N:Nat):Sound Tryz.prog 112 (E112 N):=
 z07 (C:=[(23,E23 N),(137,E137 N)]) (N:=N) (ntmps:=30) (priv:=[6]) (pu:=[6,17,20]) (hs:=H112) (mc:=C112) (c:=bodyOf Tryz.f112) (z06 (⟨S23 N,⟨S137 N,trivial⟩⟩:AllS Tryz.prog [(23,E23 N),(137,E137 N)])) Tryz.func112 (by kernel_rfl) (by kernel_rfl) (by kernel_rfl) (Nat.le_of_ble_eq_true (by kernel_rfl)) (by kernel_rfl) (by kernel_rfl) (fun a=>by kernel_rfl)
def H113:List Hint:=[.no,.join [(.normal,⟨[.s 4 (.c (.sl 1))],[]⟩)],.loop ⟨[.s 4 (.c (.sl 1)),.s 29 (.c (.int .i64))],[]⟩,.no,.no]
def E113 (N:Nat):Entry:=entry [.agg 14] [.s 2 (.c (.sl 1)),.s 3 (.c (.int .i64))] fun a=>F_1g N a
noncomputable def C113:MC:=mcOf (comp Tryz.prog 55 [1] [] (bodyOf Tryz.f113) none H113)
theorem S113 (N:Nat):Sound Tryz.prog 113 (E113 N):=
 z07 (C:=[(87,E87 N),(137,E137 N),(138,E138 N)]) (N:=N) (ntmps:=55) (priv:=[1]) (pu:=[]) (hs:=H113) (mc:=C113) (c:=bodyOf Tryz.f113) (z06 (⟨S87 N,⟨S137 N,⟨S138 N,trivial⟩⟩⟩:AllS Tryz.prog [(87,E87 N),(137,E137 N),(138,E138 N)])) Tryz.func113 (by kernel_rfl) (by kernel_rfl) (by kernel_rfl) (Nat.le_of_ble_eq_true (by kernel_rfl)) (by kernel_rfl) (by kernel_rfl) (fun a=>by kernel_rfl)
def H67:List Hint:=[.no,.join [(.normal,⟨[],[]⟩)],.loop ⟨[.s 31 (.c (.int .i64))],[]⟩,.no,.no,.join [(.normal,⟨[.s 11 (.c (.sl 1))],[]⟩)],.loop ⟨[.s 11 (.c (.sl 1)),.s 12 (.c (.int .i64))],[]⟩,.no,.no]
def E67 (N:Nat):Entry:=entry [.st [.int .i64,.int .i64,.int .i64,.int .i64],.st [.sl 2,.sl 1,.sl 1,.sl 14]] [.s 4 (.c (.sl 1)),.s 5 (.c (.int .i64))] fun a=>F_2q N a.1 a.2
noncomputable def C67:MC:=mcOf (comp Tryz.prog 81 [2,3] [2,3,22,28,44,49,56,65] (bodyOf Tryz.f67) none H67)
theorem S67 (N:Nat):Sound Tryz.prog 67 (E67 N):=
 z07 (C:=[(111,E111 N),(112,E112 N),(61,E61 N),(113,E113 N)]) (N:=N) (ntmps:=81) (priv:=[2,3]) (pu:=[2,3,22,28,44,49,56,65]) (hs:=H67) (mc:=C67) (c:=bodyOf Tryz.f67) (z06 (⟨S111 N,⟨S112 N,⟨S61 N,⟨S113 N,trivial⟩⟩⟩⟩:AllS Tryz.prog [(111,E111 N),(112,E112 N),(61,E61 N),(113,E113 N)])) Tryz.func67 (by kernel_rfl) (by kernel_rfl) (by kernel_rfl) (Nat.le_of_ble_eq_true (by kernel_rfl)) (by kernel_rfl) (by kernel_rfl) (fun a=>by kernel_rfl)
def H119:List Hint:=[]
def E119 (N:Nat):Entry:=entry [.c .map] [.s 2 (.c .any)] fun a=>F_3z N a
noncomputable def C119:MC:=mcOf (comp Tryz.prog 4 [] [] (bodyOf Tryz.f119) none H119)
theorem S119 (N:Nat):Sound Tryz.prog 119 (E119 N):=
 z07 (C:=[]) (N:=N) (ntmps:=4) (priv:=[]) (pu:=[]) (hs:=H119) (mc:=C119) (c:=bodyOf Tryz.f119) (z06 (trivial:AllS Tryz.prog [])) Tryz.func119 (by kernel_rfl) (by kernel_rfl) (by kernel_rfl) (Nat.le_of_ble_eq_true (by kernel_rfl)) (by kernel_rfl) (by kernel_rfl) (fun a=>by kernel_rfl)
def H69:List Hint:=[.join [(.normal,⟨[.s 5 (.c (.sl 3))],[]⟩)],.loop ⟨[.s 5 (.c (.sl 3)),.s 12 (.c (.int .i64))],[]⟩,.no,.no,.draw false [],.join [(.normal,⟨[.s 5 (.c (.sl 3))],[]⟩)],.join [(.normal,⟨[.s 5 (.c (.sl 3))],[]⟩)],.loop ⟨[.s 5 (.c (.sl 3)),.s 49 (.c (.int .i64))],[]⟩,.no,.no]
def E69 (N:Nat):Entry:=entry [.c .ptr,.c (.sl 1)] [.s 4 (.c (.sl 3))] fun a=>F_2r N a.1 a.2
noncomputable def C69:MC:=mcOf (comp Tryz.prog 65 [] [] (bodyOf Tryz.f69) none H69)
theorem S69 (N:Nat):Sound Tryz.prog 69 (E69 N):=
 z07 (C:=[(119,E119 N),(118,E118 N)]) (N:=N) (ntmps:=65) (priv:=[]) (pu:=[]) (hs:=H69) (mc:=C69) (c:=bodyOf Tryz.f69) (z06 (⟨S119 N,⟨S118 N,trivial⟩⟩:AllS Tryz.prog [(119,E119 N),(118,E118 N)])) Tryz.func69 (by kernel_rfl) (by kernel_rfl) (by kernel_rfl) (Nat.le_of_ble_eq_true (by kernel_rfl)) (by kernel_rfl) (by kernel_rfl) (fun a=>by kernel_rfl)
def H115:List Hint:=[.join [(.normal,⟨[.s 5 (.c (.sl 3))],[]⟩)],.loop ⟨[.s 5 (.c (.sl 3)),.s 6 (.c (.int .i64))],[]⟩,.no,.no,.join [(.normal,⟨[.s 8 (.c (.sl 1))],[]⟩)],.loop ⟨[.s 8 (.c (.sl 1)),.s 32 (.c (.int .i64))],[]⟩,.no,.no,.join [(.normal,⟨[],[]⟩)],.loop ⟨[.s 65 (.c (.int .i64))],[]⟩,.no,.no]
def E115 (N:Nat):Entry:=entry [.c .ptr,.c (.sl 3)] [.s 4 (.c (.sl 3))] fun a=>F_2s N a.1 a.2
noncomputable def C115:MC:=mcOf (comp Tryz.prog 81 [10] [10,37,40] (bodyOf Tryz.f115) none H115)
theorem S115 (N:Nat):Sound Tryz.prog 115 (E115 N):=
 z07 (C:=[(137,E137 N),(138,E138 N)]) (N:=N) (ntmps:=81) (priv:=[10]) (pu:=[10,37,40]) (hs:=H115) (mc:=C115) (c:=bodyOf Tryz.f115) (z06 (⟨S137 N,⟨S138 N,trivial⟩⟩:AllS Tryz.prog [(137,E137 N),(138,E138 N)])) Tryz.func115 (by kernel_rfl) (by kernel_rfl) (by kernel_rfl) (Nat.le_of_ble_eq_true (by kernel_rfl)) (by kernel_rfl) (by kernel_rfl) (fun a=>by kernel_rfl)
def H68:List Hint:=[.no,.no,.no,.no,.join [(.normal,⟨[],[]⟩),(.ret,⟨[.s 4 (.c (.int .i64))],[]⟩)],.loop ⟨[.s 26 (.c (.int .i64))],[]⟩,.no,.no,.no,.no,.join [(.normal,⟨[],[]⟩),(.ret,⟨[.s 4 (.c (.int .i64))],[]⟩)],.loop ⟨[.s 65 (.c (.int .i64))],[]⟩,.no,.no,.no]
def E68 (N:Nat):Entry:=entry [.c .ptr,.c (.sl 3)] [.s 4 (.c (.int .i64))] fun a=>F_0s N a.1 a.2
noncomputable def C68:MC:=mcOf (comp Tryz.prog 80 [6] [6,31,36] (bodyOf Tryz.f68) none H68)
theorem S68 (N:Nat):Sound Tryz.prog 68 (E68 N):=
 z07 (C:=[(64,E64 N),(114,E114 N),(115,E115 N),(116,E116 N),(117,E117 N)]) (N:=N) (ntmps:=80) (priv:=[6]) (pu:=[6,31,36]) (hs:=H68) (mc:=C68) (c:=bodyOf Tryz.f68) (z06 (⟨S64 N,⟨S114 N,⟨S115 N,⟨S116 N,⟨S117 N,trivial⟩⟩⟩⟩⟩:AllS Tryz.prog [(64,E64 N),(114,E114 N),(115,E115 N),(116,E116 N),(117,E117 N)])) Tryz.func68 (by kernel_rfl) (by kernel_rfl) (by kernel_rfl) (Nat.le_of_ble_eq_true (by kernel_rfl)) (by kernel_rfl) (by kernel_rfl) (fun a=>by kernel_rfl)
def H21:List Hint:=[.no,.no,.no,.draw false [],.draw true [34],.no]
def E21 (N:Nat):Entry:=entry [.c .ptr] [.s 2 (.c (.int .i64))] fun a=>F_1h N a
noncomputable def C21:MC:=mcOf (comp Tryz.prog 55 [] [] (bodyOf Tryz.f21) none H21)
theorem S21 (N:Nat):Sound Tryz.prog 21 (E21 N):=
 z07 (C:=[(67,E67 N),(69,E69 N),(68,E68 N)]) (N:=N) (ntmps:=55) (priv:=[]) (pu:=[]) (hs:=H21) (mc:=C21) (c:=bodyOf Tryz.f21) (z06 (⟨S67 N,⟨S69 N,⟨S68 N,trivial⟩⟩⟩:AllS Tryz.prog [(67,E67 N),(69,E69 N),(68,E68 N)])) Tryz.func21 (by kernel_rfl) (by kernel_rfl) (by kernel_rfl) (Nat.le_of_ble_eq_true (by kernel_rfl)) (by kernel_rfl) (by kernel_rfl) (fun a=>by kernel_rfl)
def H120:List Hint:=[.no]
def E120 (N:Nat):Entry:=entry [.c (.sl 2)] [.s 2 (.c (.sl 2))] fun a=>F_40 N a
noncomputable def C120:MC:=mcOf (comp Tryz.prog 8 [] [] (bodyOf Tryz.f120) none H120)
theorem S120 (N:Nat):Sound Tryz.prog 120 (E120 N):=
 z07 (C:=[]) (N:=N) (ntmps:=8) (priv:=[]) (pu:=[]) (hs:=H120) (mc:=C120) (c:=bodyOf Tryz.f120) (z06 (trivial:AllS Tryz.prog [])) Tryz.func120 (by kernel_rfl) (by kernel_rfl) (by kernel_rfl) (Nat.le_of_ble_eq_true (by kernel_rfl)) (by kernel_rfl) (by kernel_rfl) (fun a=>by kernel_rfl)
def H121:List Hint:=[.no]
def E121 (N:Nat):Entry:=entry [.c (.sl 1)] [.s 2 (.c (.sl 1))] fun a=>F_41 N a
noncomputable def C121:MC:=mcOf (comp Tryz.prog 8 [] [] (bodyOf Tryz.f121) none H121)
theorem S121 (N:Nat):Sound Tryz.prog 121 (E121 N):=
 z07 (C:=[]) (N:=N) (ntmps:=8) (priv:=[]) (pu:=[]) (hs:=H121) (mc:=C121) (c:=bodyOf Tryz.f121) (z06 (trivial:AllS Tryz.prog [])) Tryz.func121 (by kernel_rfl) (by kernel_rfl) (by kernel_rfl) (Nat.le_of_ble_eq_true (by kernel_rfl)) (by kernel_rfl) (by kernel_rfl) (fun a=>by kernel_rfl)
def H122:List Hint:=[.no]
def E122 (N:Nat):Entry:=entry [.c (.sl 14)] [.s 2 (.c (.sl 14))] fun a=>F_42 N a
noncomputable def C122:MC:=mcOf (comp Tryz.prog 8 [] [] (bodyOf Tryz.f122) none H122)
theorem S122 (N:Nat):Sound Tryz.prog 122 (E122 N):=
 z07 (C:=[]) (N:=N) (ntmps:=8) (priv:=[]) (pu:=[]) (hs:=H122) (mc:=C122) (c:=bodyOf Tryz.f122) (z06 (trivial:AllS Tryz.prog [])) Tryz.func122 (by kernel_rfl) (by kernel_rfl) (by kernel_rfl) (Nat.le_of_ble_eq_true (by kernel_rfl)) (by kernel_rfl) (by kernel_rfl) (fun a=>by kernel_rfl)
def H70:List Hint:=[.draw false []]
def E70 (N:Nat):Entry:=entry [.st [.sl 2,.sl 1,.sl 1,.sl 14]] [.m 2 (.st [.sl 2,.sl 1,.sl 1,.sl 14])] fun a=>F_1i N a
noncomputable def C70:MC:=mcOf (comp Tryz.prog 16 [1,2] [1,2,3,6,9,12] (bodyOf Tryz.f70) none H70)
theorem S70 (N:Nat):Sound Tryz.prog 70 (E70 N):=
 z07 (C:=[(120,E120 N),(121,E121 N),(61,E61 N),(122,E122 N)]) (N:=N) (ntmps:=16) (priv:=[1,2]) (pu:=[1,2,3,6,9,12]) (hs:=H70) (mc:=C70) (c:=bodyOf Tryz.f70) (z06 (⟨S120 N,⟨S121 N,⟨S61 N,⟨S122 N,trivial⟩⟩⟩⟩:AllS Tryz.prog [(120,E120 N),(121,E121 N),(61,E61 N),(122,E122 N)])) Tryz.func70 (by kernel_rfl) (by kernel_rfl) (by kernel_rfl) (Nat.le_of_ble_eq_true (by kernel_rfl)) (by kernel_rfl) (by kernel_rfl) (fun a=>by kernel_rfl)
def H66:List Hint:=[.draw false []]
def E66 (N:Nat):Entry:=entry [.st [.sl 2,.sl 1,.sl 1,.sl 14,.map]] [.m 2 (.st [.sl 2,.sl 1,.sl 1,.sl 14,.map])] fun a=>F_0t N a
noncomputable def C66:MC:=mcOf (comp Tryz.prog 10 [1,2] [1,2,3,6] (bodyOf Tryz.f66) none H66)
theorem S66 (N:Nat):Sound Tryz.prog 66 (E66 N):=
 z07 (C:=[(70,E70 N),(110,E110 N)]) (N:=N) (ntmps:=10) (priv:=[1,2]) (pu:=[1,2,3,6]) (hs:=H66) (mc:=C66) (c:=bodyOf Tryz.f66) (z06 (⟨S70 N,⟨S110 N,trivial⟩⟩:AllS Tryz.prog [(70,E70 N),(110,E110 N)])) Tryz.func66 (by kernel_rfl) (by kernel_rfl) (by kernel_rfl) (Nat.le_of_ble_eq_true (by kernel_rfl)) (by kernel_rfl) (by kernel_rfl) (fun a=>by kernel_rfl)
def H19:List Hint:=[.no,.draw true [],.join [(.normal,⟨[],[]⟩),(.ret,⟨[.s 2 (.c (.int .i64))],[]⟩)],.no]
def E19 (N:Nat):Entry:=entry [.c .ptr] [.s 2 (.c (.int .i64))] fun a=>F_2t N a
noncomputable def C19:MC:=mcOf (comp Tryz.prog 35 [] [] (bodyOf Tryz.f19) none H19)
theorem S19 (N:Nat):Sound Tryz.prog 19 (E19 N):=
 z07 (C:=[(40,E40 N),(64,E64 N),(65,E65 N),(21,E21 N),(66,E66 N)]) (N:=N) (ntmps:=35) (priv:=[]) (pu:=[]) (hs:=H19) (mc:=C19) (c:=bodyOf Tryz.f19) (z06 (⟨S40 N,⟨S64 N,⟨S65 N,⟨S21 N,⟨S66 N,trivial⟩⟩⟩⟩⟩:AllS Tryz.prog [(40,E40 N),(64,E64 N),(65,E65 N),(21,E21 N),(66,E66 N)])) Tryz.func19 (by kernel_rfl) (by kernel_rfl) (by kernel_rfl) (Nat.le_of_ble_eq_true (by kernel_rfl)) (by kernel_rfl) (by kernel_rfl) (fun a=>by kernel_rfl)
def H20:List Hint:=[.join [(.normal,⟨[],[]⟩)]]
def E20 (N:Nat):Entry:=entry [.c .ptr] [] fun a=>F_2u N a
noncomputable def C20:MC:=mcOf (comp Tryz.prog 21 [] [] (bodyOf Tryz.f20) none H20)
theorem S20 (N:Nat):Sound Tryz.prog 20 (E20 N):=
 z07 (C:=[(66,E66 N)]) (N:=N) (ntmps:=21) (priv:=[]) (pu:=[]) (hs:=H20) (mc:=C20) (c:=bodyOf Tryz.f20) (z06 (⟨S66 N,trivial⟩:AllS Tryz.prog [(66,E66 N)])) Tryz.func20 (by kernel_rfl) (by kernel_rfl) (by kernel_rfl) (Nat.le_of_ble_eq_true (by kernel_rfl)) (by kernel_rfl) (by kernel_rfl) (fun a=>by kernel_rfl)
def H142:List Hint:=[.no,.join [(.normal,⟨[],[]⟩),(.ret,⟨[.s 2 (.c .bool)],[]⟩)],.loop ⟨[.s 3 (.c (.int .i64))],[]⟩,.no,.no,.no,.join [(.normal,⟨[],[]⟩),(.ret,⟨[.s 2 (.c .bool)],[]⟩)],.loop ⟨[.s 4 (.c (.int .i64))],[]⟩,.no,.no,.draw false [],.no]
def E142 (N:Nat):Entry:=entry [.c (.sl 2)] [.s 2 (.c .bool)] fun a=>F_0u N a
noncomputable def C142:MC:=mcOf (comp Tryz.prog 76 [] [] (bodyOf Tryz.f142) none H142)
theorem S142 (N:Nat):Sound Tryz.prog 142 (E142 N):=
 z07 (C:=[]) (N:=N) (ntmps:=76) (priv:=[]) (pu:=[]) (hs:=H142) (mc:=C142) (c:=bodyOf Tryz.f142) (z06 (trivial:AllS Tryz.prog [])) Tryz.func142 (by kernel_rfl) (by kernel_rfl) (by kernel_rfl) (Nat.le_of_ble_eq_true (by kernel_rfl)) (by kernel_rfl) (by kernel_rfl) (fun a=>by kernel_rfl)
def H95:List Hint:=[.join [(.normal,⟨[],[]⟩),(.ret,⟨[.s 4 (.c (.int .i64)),.s 5 (.c .bool)],[]⟩)],.loop ⟨[.s 6 (.c (.int .i64))],[]⟩,.no,.no,.no]
def E95 (N:Nat):Entry:=entry [.c (.sl 2),.c (.int .u16)] [.s 4 (.c (.int .i64)),.s 5 (.c .bool)] fun a=>F_1j N a.1 a.2
noncomputable def C95:MC:=mcOf (comp Tryz.prog 33 [] [] (bodyOf Tryz.f95) none H95)
theorem S95 (N:Nat):Sound Tryz.prog 95 (E95 N):=
 z07 (C:=[(142,E142 N)]) (N:=N) (ntmps:=33) (priv:=[]) (pu:=[]) (hs:=H95) (mc:=C95) (c:=bodyOf Tryz.f95) (z06 (⟨S142 N,trivial⟩:AllS Tryz.prog [(142,E142 N)])) Tryz.func95 (by kernel_rfl) (by kernel_rfl) (by kernel_rfl) (Nat.le_of_ble_eq_true (by kernel_rfl)) (by kernel_rfl) (by kernel_rfl) (fun a=>by kernel_rfl)
def H96:List Hint:=[.no,.join [(.normal,⟨[.s 5 (.c (.int .u8))],[]⟩)],.loop ⟨[.s 5 (.c (.int .u8)),.s 6 (.c (.int .i64))],[]⟩,.no,.no]
def E96 (N:Nat):Entry:=entry [.c (.sl 1),.c (.int .i64)] [.s 4 (.c .bool)] fun a=>F_07 N a.1 a.2
noncomputable def C96:MC:=mcOf (comp Tryz.prog 32 [] [] (bodyOf Tryz.f96) none H96)
theorem S96 (N:Nat):Sound Tryz.prog 96 (E96 N):=
 z07 (C:=[]) (N:=N) (ntmps:=32) (priv:=[]) (pu:=[]) (hs:=H96) (mc:=C96) (c:=bodyOf Tryz.f96) (z06 (trivial:AllS Tryz.prog [])) Tryz.func96 (by kernel_rfl) (by kernel_rfl) (by kernel_rfl) (Nat.le_of_ble_eq_true (by kernel_rfl)) (by kernel_rfl) (by kernel_rfl) (fun a=>by kernel_rfl)
def H143:List Hint:=[.no,.no,.join [(.normal,⟨[.s 8 (.c (.sl 1))],[]⟩)],.loop ⟨[.s 8 (.c (.sl 1)),.s 9 (.c (.int .i64))],[]⟩,.no,.no,.join [(.normal,⟨[.s 10 (.c (.int .u8))],[]⟩)],.loop ⟨[.s 10 (.c (.int .u8)),.s 11 (.c (.int .u8)),.s 12 (.c (.int .i64))],[]⟩,.no,.no,.join [(.normal,⟨[.s 13 (.c .bool)],[]⟩)],.join [(.normal,⟨[.s 10 (.c (.int .u8))],[]⟩)]]
def E143 (N:Nat):Entry:=entry [.c (.sl 1),.c (.int .i64),.c .bool] [.s 6 (.c (.sl 1)),.s 7 (.c (.int .i64))] fun a=>F_2v N a.1 a.2.1 a.2.2
noncomputable def C143:MC:=mcOf (comp Tryz.prog 60 [] [] (bodyOf Tryz.f143) none H143)
theorem S143 (N:Nat):Sound Tryz.prog 143 (E143 N):=
 z07 (C:=[(96,E96 N)]) (N:=N) (ntmps:=60) (priv:=[]) (pu:=[]) (hs:=H143) (mc:=C143) (c:=bodyOf Tryz.f143) (z06 (⟨S96 N,trivial⟩:AllS Tryz.prog [(96,E96 N)])) Tryz.func143 (by kernel_rfl) (by kernel_rfl) (by kernel_rfl) (Nat.le_of_ble_eq_true (by kernel_rfl)) (by kernel_rfl) (by kernel_rfl) (fun a=>by kernel_rfl)
def H97:List Hint:=[]
def E97 (N:Nat):Entry:=entry [.c .ptr,.c (.int .i64),.c .bool] [] fun a=>F_0v N a.1 a.2.1 a.2.2
noncomputable def C97:MC:=mcOf (comp Tryz.prog 24 [] [] (bodyOf Tryz.f97) none H97)
theorem S97 (N:Nat):Sound Tryz.prog 97 (E97 N):=
 z07 (C:=[(143,E143 N)]) (N:=N) (ntmps:=24) (priv:=[]) (pu:=[]) (hs:=H97) (mc:=C97) (c:=bodyOf Tryz.f97) (z06 (⟨S143 N,trivial⟩:AllS Tryz.prog [(143,E143 N)])) Tryz.func97 (by kernel_rfl) (by kernel_rfl) (by kernel_rfl) (Nat.le_of_ble_eq_true (by kernel_rfl)) (by kernel_rfl) (by kernel_rfl) (fun a=>by kernel_rfl)
def H98:List Hint:=[.no,.no,.no,.join [(.normal,⟨[],[]⟩),(.ret,⟨[.s 4 (.c (.sl 2)),.s 5 (.c (.int .i64)),.s 6 (.c (.int .i64))],[]⟩)],.loop ⟨[.s 10 (.c (.int .i64))],[]⟩,.no,.no,.no]
def E98 (N:Nat):Entry:=entry [.c (.sl 2),.c (.int .u16)] [.s 4 (.c (.sl 2)),.s 5 (.c (.int .i64)),.s 6 (.c (.int .i64))] fun a=>F_1k N a.1 a.2
noncomputable def C98:MC:=mcOf (comp Tryz.prog 62 [] [] (bodyOf Tryz.f98) none H98)
theorem S98 (N:Nat):Sound Tryz.prog 98 (E98 N):=
 z07 (C:=[(142,E142 N),(95,E95 N)]) (N:=N) (ntmps:=62) (priv:=[]) (pu:=[]) (hs:=H98) (mc:=C98) (c:=bodyOf Tryz.f98) (z06 (⟨S142 N,⟨S95 N,trivial⟩⟩:AllS Tryz.prog [(142,E142 N),(95,E95 N)])) Tryz.func98 (by kernel_rfl) (by kernel_rfl) (by kernel_rfl) (Nat.le_of_ble_eq_true (by kernel_rfl)) (by kernel_rfl) (by kernel_rfl) (fun a=>by kernel_rfl)
def H49:List Hint:=[.join [(.normal,⟨[],[]⟩),(.ret,⟨[.s 4 (.c (.int .i64)),.s 5 (.c (.int .i64))],[]⟩)],.loop ⟨[.s 8 (.c (.int .i64))],[]⟩,.no,.no,.draw false [],.no,.join [(.normal,⟨[],[]⟩),(.ret,⟨[.s 4 (.c (.int .i64)),.s 5 (.c (.int .i64))],[]⟩)],.loop ⟨[.s 9 (.c (.int .i64))],[]⟩,.no,.no,.no,.no]
def E49 (N:Nat):Entry:=entry [.c .ptr,.c (.int .u16)] [.s 4 (.c (.int .i64)),.s 5 (.c (.int .i64))] fun a=>F_2w N a.1 a.2
noncomputable def C49:MC:=mcOf (comp Tryz.prog 128 [] [] (bodyOf Tryz.f49) none H49)
theorem S49 (N:Nat):Sound Tryz.prog 49 (E49 N):=
 z07 (C:=[(95,E95 N),(96,E96 N),(97,E97 N),(98,E98 N)]) (N:=N) (ntmps:=128) (priv:=[]) (pu:=[]) (hs:=H49) (mc:=C49) (c:=bodyOf Tryz.f49) (z06 (⟨S95 N,⟨S96 N,⟨S97 N,⟨S98 N,trivial⟩⟩⟩⟩:AllS Tryz.prog [(95,E95 N),(96,E96 N),(97,E97 N),(98,E98 N)])) Tryz.func49 (by kernel_rfl) (by kernel_rfl) (by kernel_rfl) (Nat.le_of_ble_eq_true (by kernel_rfl)) (by kernel_rfl) (by kernel_rfl) (fun a=>by kernel_rfl)
def H99:List Hint:=[.join [(.normal,⟨[.s 7 (.c (.int .i64))],[]⟩)],.loop ⟨[.s 7 (.c (.int .i64)),.s 8 (.c (.int .i64))],[]⟩,.no,.no,.join [(.normal,⟨[.s 7 (.c (.int .i64))],[]⟩)]]
def E99 (N:Nat):Entry:=entry [.c (.sl 1),.c (.int .i64),.c (.int .i64)] [.s 6 (.c (.int .i64))] fun a=>F_2x N a.1 a.2.1 a.2.2
noncomputable def C99:MC:=mcOf (comp Tryz.prog 32 [] [] (bodyOf Tryz.f99) none H99)
theorem S99 (N:Nat):Sound Tryz.prog 99 (E99 N):=
 z07 (C:=[(96,E96 N)]) (N:=N) (ntmps:=32) (priv:=[]) (pu:=[]) (hs:=H99) (mc:=C99) (c:=bodyOf Tryz.f99) (z06 (⟨S96 N,trivial⟩:AllS Tryz.prog [(96,E96 N)])) Tryz.func99 (by kernel_rfl) (by kernel_rfl) (by kernel_rfl) (Nat.le_of_ble_eq_true (by kernel_rfl)) (by kernel_rfl) (by kernel_rfl) (fun a=>by kernel_rfl)
def H100:List Hint:=[.no,.no,.join [(.normal,⟨[],[]⟩)]]
def E100 (N:Nat):Entry:=entry [.c (.sl 2),.c (.int .i64)] [.s 4 (.c (.sl 2)),.s 5 (.c (.int .i64))] fun a=>F_1l N a.1 a.2
noncomputable def C100:MC:=mcOf (comp Tryz.prog 48 [] [] (bodyOf Tryz.f100) none H100)
theorem S100 (N:Nat):Sound Tryz.prog 100 (E100 N):=
 z07 (C:=[(142,E142 N)]) (N:=N) (ntmps:=48) (priv:=[]) (pu:=[]) (hs:=H100) (mc:=C100) (c:=bodyOf Tryz.f100) (z06 (⟨S142 N,trivial⟩:AllS Tryz.prog [(142,E142 N)])) Tryz.func100 (by kernel_rfl) (by kernel_rfl) (by kernel_rfl) (Nat.le_of_ble_eq_true (by kernel_rfl)) (by kernel_rfl) (by kernel_rfl) (fun a=>by kernel_rfl)
def H50:List Hint:=[.no,.no,.draw false [],.draw false [],.join [(.normal,⟨[],[]⟩)],.draw false []]
def E50 (N:Nat):Entry:=entry [.c .ptr,.c (.int .i64)] [.s 4 (.c (.int .i64))] fun a=>F_2y N a.1 a.2
noncomputable def C50:MC:=mcOf (comp Tryz.prog 103 [] [] (bodyOf Tryz.f50) none H50)
theorem S50 (N:Nat):Sound Tryz.prog 50 (E50 N):=
 z07 (C:=[(96,E96 N),(97,E97 N),(99,E99 N),(100,E100 N)]) (N:=N) (ntmps:=103) (priv:=[]) (pu:=[]) (hs:=H50) (mc:=C50) (c:=bodyOf Tryz.f50) (z06 (⟨S96 N,⟨S97 N,⟨S99 N,⟨S100 N,trivial⟩⟩⟩⟩:AllS Tryz.prog [(96,E96 N),(97,E97 N),(99,E99 N),(100,E100 N)])) Tryz.func50 (by kernel_rfl) (by kernel_rfl) (by kernel_rfl) (Nat.le_of_ble_eq_true (by kernel_rfl)) (by kernel_rfl) (by kernel_rfl) (fun a=>by kernel_rfl)
def H17:List Hint:=[.join [(.normal,⟨[],[]⟩)],.loop ⟨[.s 8 (.c (.int .i64))],[]⟩,.no,.no]
def E17 (N:Nat):Entry:=entry [.c (.int .u8)] [.s 2 (.c (.sl 1))] fun a=>F_1m N a
noncomputable def C17:MC:=mcOf (comp Tryz.prog 17 [] [] (bodyOf Tryz.f17) none H17)
theorem S17 (N:Nat):Sound Tryz.prog 17 (E17 N):=
 z07 (C:=[]) (N:=N) (ntmps:=17) (priv:=[]) (pu:=[]) (hs:=H17) (mc:=C17) (c:=bodyOf Tryz.f17) (z06 (trivial:AllS Tryz.prog [])) Tryz.func17 (by kernel_rfl) (by kernel_rfl) (by kernel_rfl) (Nat.le_of_ble_eq_true (by kernel_rfl)) (by kernel_rfl) (by kernel_rfl) (fun a=>by kernel_rfl)
def H18:List Hint:=[.no,.no]
def E18 (N:Nat):Entry:=entry [.c .ptr,.c (.int .i64),.c (.sl 1)] [.s 6 (.c (.int .i64))] fun a=>F_1n N a.1 a.2.1 a.2.2
noncomputable def C18:MC:=mcOf (comp Tryz.prog 26 [] [] (bodyOf Tryz.f18) none H18)
theorem S18 (N:Nat):Sound Tryz.prog 18 (E18 N):=
 z07 (C:=[(62,E62 N),(61,E61 N),(63,E63 N)]) (N:=N) (ntmps:=26) (priv:=[]) (pu:=[]) (hs:=H18) (mc:=C18) (c:=bodyOf Tryz.f18) (z06 (⟨S62 N,⟨S61 N,⟨S63 N,trivial⟩⟩⟩:AllS Tryz.prog [(62,E62 N),(61,E61 N),(63,E63 N)])) Tryz.func18 (by kernel_rfl) (by kernel_rfl) (by kernel_rfl) (Nat.le_of_ble_eq_true (by kernel_rfl)) (by kernel_rfl) (by kernel_rfl) (fun a=>by kernel_rfl)
def H51:List Hint:=[.no,.no,.draw false []]
def E51 (N:Nat):Entry:=entry [.c .ptr,.c (.int .i64),.c (.sl 1)] [.s 6 (.c (.int .i64))] fun a=>F_1o N a.1 a.2.1 a.2.2
noncomputable def C51:MC:=mcOf (comp Tryz.prog 45 [] [] (bodyOf Tryz.f51) none H51)
theorem S51 (N:Nat):Sound Tryz.prog 51 (E51 N):=
 z07 (C:=[(96,E96 N)]) (N:=N) (ntmps:=45) (priv:=[]) (pu:=[]) (hs:=H51) (mc:=C51) (c:=bodyOf Tryz.f51) (z06 (⟨S96 N,trivial⟩:AllS Tryz.prog [(96,E96 N)])) Tryz.func51 (by kernel_rfl) (by kernel_rfl) (by kernel_rfl) (Nat.le_of_ble_eq_true (by kernel_rfl)) (by kernel_rfl) (by kernel_rfl) (fun a=>by kernel_rfl)
def H84:List Hint:=[]
def E84 (N:Nat):Entry:=entry [.agg 14] [.s 2 (.c .bool)] fun a=>F_43 N a
noncomputable def C84:MC:=mcOf (comp Tryz.prog 6 [1] [] (bodyOf Tryz.f84) none H84)
theorem S84 (N:Nat):Sound Tryz.prog 84 (E84 N):=
 z07 (C:=[]) (N:=N) (ntmps:=6) (priv:=[1]) (pu:=[]) (hs:=H84) (mc:=C84) (c:=bodyOf Tryz.f84) (z06 (trivial:AllS Tryz.prog [])) Tryz.func84 (by kernel_rfl) (by kernel_rfl) (by kernel_rfl) (Nat.le_of_ble_eq_true (by kernel_rfl)) (by kernel_rfl) (by kernel_rfl) (fun a=>by kernel_rfl)
def zms:List Hint:=[.join [(.normal,⟨[],[]⟩),(.ret,⟨[.s 4 (.c (.int .i64))],[]⟩)],.loop ⟨[.s 8 (.c (.int .i64))],[]⟩,.no,.no,.no]
def zgk (N:Nat):Entry:=entry [.c (.sl 14),.fnc 84 []] [.s 4 (.c (.int .i64))] fun a=>F_2z N a.1 a.2
noncomputable def C83_84:MC:=mcOf (comp Tryz.prog 19 [] [] (bodyOf Tryz.f83) none zms)
theorem zu8 (N:Nat):Sound Tryz.prog 83 (zgk N):=
 z07 (C:=[(84,E84 N)]) (N:=N) (ntmps:=19) (priv:=[]) (pu:=[]) (hs:=zms) (mc:=C83_84) (c:=bodyOf Tryz.f83) (z06 (⟨S84 N,trivial⟩:AllS Tryz.prog [(84,E84 N)])) Tryz.func83 (by kernel_rfl) (by kernel_rfl) (by kernel_rfl) (Nat.le_of_ble_eq_true (by kernel_rfl)) (by kernel_rfl) (by kernel_rfl) (fun a=>by kernel_rfl)
def H35:List Hint:=[.no,.no,.no,.no,.no]
def E35 (N:Nat):Entry:=entry [.c .ptr,.c (.int .u8),.c (.int .u16)] [.s 6 (.c (.int .i64)),.s 7 (.c (.int .i64))] fun a=>F_30 N a.1 a.2.1 a.2.2
noncomputable def C35:MC:=mcOf (comp Tryz.prog 65 [] [] (bodyOf Tryz.f35) none H35)
theorem S35 (N:Nat):Sound Tryz.prog 35 (E35 N):=
 z07 (C:=[(83,zgk N),(59,E59 N)]) (N:=N) (ntmps:=65) (priv:=[]) (pu:=[]) (hs:=H35) (mc:=C35) (c:=bodyOf Tryz.f35) (z06 (⟨zu8 N,⟨S59 N,trivial⟩⟩:AllS Tryz.prog [(83,zgk N),(59,E59 N)])) Tryz.func35 (by kernel_rfl) (by kernel_rfl) (by kernel_rfl) (Nat.le_of_ble_eq_true (by kernel_rfl)) (by kernel_rfl) (by kernel_rfl) (fun a=>by kernel_rfl)
def H52:List Hint:=[.no,.join [(.normal,⟨[.s 8 (.c (.int .i64))],[]⟩)],.loop ⟨[.s 8 (.c (.int .i64))],[]⟩,.no,.no,.no,.no]
def E52 (N:Nat):Entry:=entry [.c .ptr,.c (.int .u8),.c (.int .u16)] [.s 6 (.c (.int .i64)),.s 7 (.c (.int .i64))] fun a=>F_31 N a.1 a.2.1 a.2.2
noncomputable def C52:MC:=mcOf (comp Tryz.prog 79 [] [] (bodyOf Tryz.f52) none H52)
theorem S52 (N:Nat):Sound Tryz.prog 52 (E52 N):=
 z07 (C:=[(98,E98 N)]) (N:=N) (ntmps:=79) (priv:=[]) (pu:=[]) (hs:=H52) (mc:=C52) (c:=bodyOf Tryz.f52) (z06 (⟨S98 N,trivial⟩:AllS Tryz.prog [(98,E98 N)])) Tryz.func52 (by kernel_rfl) (by kernel_rfl) (by kernel_rfl) (Nat.le_of_ble_eq_true (by kernel_rfl)) (by kernel_rfl) (by kernel_rfl) (fun a=>by kernel_rfl)
def H80:List Hint:=[.no,.no,.no,.no]
def E80 (N:Nat):Entry:=entry [.c .ptr,.c (.int .i64)] [.s 4 (.c (.int .i64))] fun a=>F_1p N a.1 a.2
noncomputable def C80:MC:=mcOf (comp Tryz.prog 34 [] [] (bodyOf Tryz.f80) none H80)
theorem S80 (N:Nat):Sound Tryz.prog 80 (E80 N):=
 z07 (C:=[]) (N:=N) (ntmps:=34) (priv:=[]) (pu:=[]) (hs:=H80) (mc:=C80) (c:=bodyOf Tryz.f80) (z06 (trivial:AllS Tryz.prog [])) Tryz.func80 (by kernel_rfl) (by kernel_rfl) (by kernel_rfl) (Nat.le_of_ble_eq_true (by kernel_rfl)) (by kernel_rfl) (by kernel_rfl) (fun a=>by kernel_rfl)
def H38:List Hint:=[.no]
def E38 (N:Nat):Entry:=entry [.c .ptr,.c (.int .i64)] [.s 4 (.c (.int .i64))] fun a=>F_32 N a.1 a.2
noncomputable def C38:MC:=mcOf (comp Tryz.prog 34 [] [] (bodyOf Tryz.f38) none H38)
theorem S38 (N:Nat):Sound Tryz.prog 38 (E38 N):=
 z07 (C:=[(80,E80 N),(86,E86 N)]) (N:=N) (ntmps:=34) (priv:=[]) (pu:=[]) (hs:=H38) (mc:=C38) (c:=bodyOf Tryz.f38) (z06 (⟨S80 N,⟨S86 N,trivial⟩⟩:AllS Tryz.prog [(80,E80 N),(86,E86 N)])) Tryz.func38 (by kernel_rfl) (by kernel_rfl) (by kernel_rfl) (Nat.le_of_ble_eq_true (by kernel_rfl)) (by kernel_rfl) (by kernel_rfl) (fun a=>by kernel_rfl)
def H81:List Hint:=[.no,.no]
def E81 (N:Nat):Entry:=entry [.c .ptr,.c (.int .i64)] [.s 4 (.c (.int .i64))] fun a=>F_1q N a.1 a.2
noncomputable def C81:MC:=mcOf (comp Tryz.prog 27 [] [] (bodyOf Tryz.f81) none H81)
theorem S81 (N:Nat):Sound Tryz.prog 81 (E81 N):=
 z07 (C:=[]) (N:=N) (ntmps:=27) (priv:=[]) (pu:=[]) (hs:=H81) (mc:=C81) (c:=bodyOf Tryz.f81) (z06 (trivial:AllS Tryz.prog [])) Tryz.func81 (by kernel_rfl) (by kernel_rfl) (by kernel_rfl) (Nat.le_of_ble_eq_true (by kernel_rfl)) (by kernel_rfl) (by kernel_rfl) (fun a=>by kernel_rfl)
def H53:List Hint:=[.no,.draw false []]
def E53 (N:Nat):Entry:=entry [.c .ptr,.c (.int .i64)] [.s 4 (.c (.int .i64))] fun a=>F_33 N a.1 a.2
noncomputable def C53:MC:=mcOf (comp Tryz.prog 46 [] [] (bodyOf Tryz.f53) none H53)
theorem S53 (N:Nat):Sound Tryz.prog 53 (E53 N):=
 z07 (C:=[(81,E81 N),(100,E100 N)]) (N:=N) (ntmps:=46) (priv:=[]) (pu:=[]) (hs:=H53) (mc:=C53) (c:=bodyOf Tryz.f53) (z06 (⟨S81 N,⟨S100 N,trivial⟩⟩:AllS Tryz.prog [(81,E81 N),(100,E100 N)])) Tryz.func53 (by kernel_rfl) (by kernel_rfl) (by kernel_rfl) (Nat.le_of_ble_eq_true (by kernel_rfl)) (by kernel_rfl) (by kernel_rfl) (fun a=>by kernel_rfl)
def H33:List Hint:=[.no,.draw false []]
def E33 (N:Nat):Entry:=entry [.c .ptr,.c (.int .i64)] [.m 4 (.agg 14),.s 5 (.c (.int .u16)),.s 6 (.c (.int .i64))] fun a=>F_34 N a.1 a.2
noncomputable def C33:MC:=mcOf (comp Tryz.prog 40 [4] [] (bodyOf Tryz.f33) none H33)
theorem S33 (N:Nat):Sound Tryz.prog 33 (E33 N):=
 z07 (C:=[(81,E81 N)]) (N:=N) (ntmps:=40) (priv:=[4]) (pu:=[]) (hs:=H33) (mc:=C33) (c:=bodyOf Tryz.f33) (z06 (⟨S81 N,trivial⟩:AllS Tryz.prog [(81,E81 N)])) Tryz.func33 (by kernel_rfl) (by kernel_rfl) (by kernel_rfl) (Nat.le_of_ble_eq_true (by kernel_rfl)) (by kernel_rfl) (by kernel_rfl) (fun a=>by kernel_rfl)
def H39:List Hint:=[.no,.no,.no,.no,.draw false [],.no,.draw false []]
def E39 (N:Nat):Entry:=entry [.c .ptr,.c (.int .i64),.agg 14] [.s 6 (.c (.int .i64))] fun a=>F_35 N a.1 a.2.1 a.2.2
noncomputable def C39:MC:=mcOf (comp Tryz.prog 70 [5] [] (bodyOf Tryz.f39) none H39)
theorem S39 (N:Nat):Sound Tryz.prog 39 (E39 N):=
 z07 (C:=[(80,E80 N),(87,E87 N)]) (N:=N) (ntmps:=70) (priv:=[5]) (pu:=[]) (hs:=H39) (mc:=C39) (c:=bodyOf Tryz.f39) (z06 (⟨S80 N,⟨S87 N,trivial⟩⟩:AllS Tryz.prog [(80,E80 N),(87,E87 N)])) Tryz.func39 (by kernel_rfl) (by kernel_rfl) (by kernel_rfl) (Nat.le_of_ble_eq_true (by kernel_rfl)) (by kernel_rfl) (by kernel_rfl) (fun a=>by kernel_rfl)
def H144:List Hint:=[]
def E144 (N:Nat):Entry:=entry [.c (.int .i64)] [.s 2 (.c .bool)] fun a=>F_36 N a
noncomputable def C144:MC:=mcOf (comp Tryz.prog 9 [] [] (bodyOf Tryz.f144) none H144)
theorem S144 (N:Nat):Sound Tryz.prog 144 (E144 N):=
 z07 (C:=[]) (N:=N) (ntmps:=9) (priv:=[]) (pu:=[]) (hs:=H144) (mc:=C144) (c:=bodyOf Tryz.f144) (z06 (trivial:AllS Tryz.prog [])) Tryz.func144 (by kernel_rfl) (by kernel_rfl) (by kernel_rfl) (Nat.le_of_ble_eq_true (by kernel_rfl)) (by kernel_rfl) (by kernel_rfl) (fun a=>by kernel_rfl)
def H101:List Hint:=[.no,.join [(.normal,⟨[],[]⟩),(.ret,⟨[.s 2 (.c .bool)],[]⟩)],.loop ⟨[.s 3 (.c (.int .i64))],[]⟩,.no,.no,.no]
def E101 (N:Nat):Entry:=entry [.agg 14] [.s 2 (.c .bool)] fun a=>F_37 N a
noncomputable def C101:MC:=mcOf (comp Tryz.prog 60 [1] [] (bodyOf Tryz.f101) none H101)
theorem S101 (N:Nat):Sound Tryz.prog 101 (E101 N):=
 z07 (C:=[(144,E144 N)]) (N:=N) (ntmps:=60) (priv:=[1]) (pu:=[]) (hs:=H101) (mc:=C101) (c:=bodyOf Tryz.f101) (z06 (⟨S144 N,trivial⟩:AllS Tryz.prog [(144,E144 N)])) Tryz.func101 (by kernel_rfl) (by kernel_rfl) (by kernel_rfl) (Nat.le_of_ble_eq_true (by kernel_rfl)) (by kernel_rfl) (by kernel_rfl) (fun a=>by kernel_rfl)
def H54:List Hint:=[.no,.draw false [],.no,.no,.draw false []]
def E54 (N:Nat):Entry:=entry [.c .ptr,.c (.int .i64),.agg 14] [.s 6 (.c (.int .i64))] fun a=>F_38 N a.1 a.2.1 a.2.2
noncomputable def C54:MC:=mcOf (comp Tryz.prog 85 [5] [] (bodyOf Tryz.f54) none H54)
theorem S54 (N:Nat):Sound Tryz.prog 54 (E54 N):=
 z07 (C:=[(101,E101 N)]) (N:=N) (ntmps:=85) (priv:=[5]) (pu:=[]) (hs:=H54) (mc:=C54) (c:=bodyOf Tryz.f54) (z06 (⟨S101 N,trivial⟩:AllS Tryz.prog [(101,E101 N)])) Tryz.func54 (by kernel_rfl) (by kernel_rfl) (by kernel_rfl) (Nat.le_of_ble_eq_true (by kernel_rfl)) (by kernel_rfl) (by kernel_rfl) (fun a=>by kernel_rfl)
def H14:List Hint:=[.no,.no,.no,.draw false [],.no,.draw false [],.no,.no,.draw false [],.no,.join [(.normal,⟨[.p 15 (.agg 14)],[(15,15,0)]⟩)],.draw false [],.draw false [],.no,.draw false [],.join [(.normal,⟨[],[]⟩)],.loop ⟨[.s 173 (.c (.int .i64))],[]⟩,.no,.no]
def E14 (N:Nat):Entry:=entry [.c .ptr,.c .ptr,.agg 20] [.s 6 (.c .bool)] fun a=>F_39 N a.1 a.2.1 a.2.2
noncomputable def C14:MC:=mcOf (comp Tryz.prog 184 [5,15,16] [] (bodyOf Tryz.f14) none H14)
theorem S14 (N:Nat):Sound Tryz.prog 14 (E14 N):=
 z07 (C:=[(15,E15 N),(49,E49 N),(37,E37 N),(50,E50 N),(17,E17 N),(18,E18 N),(51,E51 N),(35,E35 N),(52,E52 N),(38,E38 N),(53,E53 N),(33,E33 N),(39,E39 N),(54,E54 N)]) (N:=N) (ntmps:=184) (priv:=[5,15,16]) (pu:=[]) (hs:=H14) (mc:=C14) (c:=bodyOf Tryz.f14) (z06 (⟨S15 N,⟨S49 N,⟨S37 N,⟨S50 N,⟨S17 N,⟨S18 N,⟨S51 N,⟨S35 N,⟨S52 N,⟨S38 N,⟨S53 N,⟨S33 N,⟨S39 N,⟨S54 N,trivial⟩⟩⟩⟩⟩⟩⟩⟩⟩⟩⟩⟩⟩⟩:AllS Tryz.prog [(15,E15 N),(49,E49 N),(37,E37 N),(50,E50 N),(17,E17 N),(18,E18 N),(51,E51 N),(35,E35 N),(52,E52 N),(38,E38 N),(53,E53 N),(33,E33 N),(39,E39 N),(54,E54 N)])) Tryz.func14 (by kernel_rfl) (by kernel_rfl) (by kernel_rfl) (Nat.le_of_ble_eq_true (by kernel_rfl)) (by kernel_rfl) (by kernel_rfl) (fun a=>by kernel_rfl)
def H22:List Hint:=[.no]
def E22 (N:Nat):Entry:=entry [.c .ptr] [.m 2 (.st [.sl 2,.sl 1,.sl 1,.sl 14])] fun a=>F_3a N a
noncomputable def C22:MC:=mcOf (comp Tryz.prog 12 [2] [2] (bodyOf Tryz.f22) none H22)
theorem S22 (N:Nat):Sound Tryz.prog 22 (E22 N):=
 z07 (C:=[(70,E70 N)]) (N:=N) (ntmps:=12) (priv:=[2]) (pu:=[2]) (hs:=H22) (mc:=C22) (c:=bodyOf Tryz.f22) (z06 (⟨S70 N,trivial⟩:AllS Tryz.prog [(70,E70 N)])) Tryz.func22 (by kernel_rfl) (by kernel_rfl) (by kernel_rfl) (Nat.le_of_ble_eq_true (by kernel_rfl)) (by kernel_rfl) (by kernel_rfl) (fun a=>by kernel_rfl)
def H4:List Hint:=[.no,.join [(.normal,⟨[],[]⟩),(.ret,⟨[.s 2 (.c .bool)],[]⟩)],.loop ⟨[.s 33 (.c (.int .i64))],[]⟩,.no,.no,.no,.join [(.normal,⟨[],[]⟩)],.join [(.normal,⟨[],[]⟩)],.join [(.normal,⟨[],[]⟩)],.no,.join [(.normal,⟨[],[]⟩),(.ret,⟨[.s 2 (.c .bool)],[]⟩)],.loop ⟨[.s 78 (.c (.int .i64))],[]⟩,.no,.no,.no,.join [(.normal,⟨[],[]⟩)],.join [(.normal,⟨[],[]⟩)],.loop ⟨[.s 110 (.c (.int .i64))],[]⟩,.no,.no,.join [(.normal,⟨[],[]⟩)],.join [(.normal,⟨[],[]⟩),(.ret,⟨[.s 2 (.c .bool)],[]⟩)],.loop ⟨[.s 127 (.c (.int .i64))],[]⟩,.no,.no,.no]
def E4 (N:Nat):Entry:=entry [.c (.sl 20)] [.s 2 (.c .bool)] fun a=>F_44 N a
noncomputable def C4:MC:=mcOf (comp Tryz.prog 141 [9,10,16,18] [10,18,58,63,69,75,83,107,124,132] (bodyOf Tryz.f4) none H4)
theorem S4 (N:Nat):Sound Tryz.prog 4 (E4 N):=
 z07 (C:=[(9,E9 N),(11,E11 N),(10,E10 N),(12,E12 N),(13,E13 N),(19,E19 N),(20,E20 N),(21,E21 N),(14,E14 N),(22,E22 N),(23,E23 N)]) (N:=N) (ntmps:=141) (priv:=[9,10,16,18]) (pu:=[10,18,58,63,69,75,83,107,124,132]) (hs:=H4) (mc:=C4) (c:=bodyOf Tryz.f4) (z06 (⟨S9 N,⟨S11 N,⟨S10 N,⟨S12 N,⟨S13 N,⟨S19 N,⟨S20 N,⟨S21 N,⟨S14 N,⟨S22 N,⟨S23 N,trivial⟩⟩⟩⟩⟩⟩⟩⟩⟩⟩⟩:AllS Tryz.prog [(9,E9 N),(11,E11 N),(10,E10 N),(12,E12 N),(13,E13 N),(19,E19 N),(20,E20 N),(21,E21 N),(14,E14 N),(22,E22 N),(23,E23 N)])) Tryz.func4 (by kernel_rfl) (by kernel_rfl) (by kernel_rfl) (Nat.le_of_ble_eq_true (by kernel_rfl)) (by kernel_rfl) (by kernel_rfl) (fun a=>by kernel_rfl)
end Go.Proofs.YtcaaljlhljemoaaGreat
