/-
  DERIVED: THE SHELF's CONTRACTS AT THIS DUMP, IN PLAIN WORDS (tools/lay-plain.mjs out of 'S16t.lean', which tools/lay-shelf.mjs wrote): THE SAME DECLARATIONS UNDER THE SAME NAMES: 'import', 'namespace', 'open', 'def', 'theorem' AND NOTHING ELSE: no command of the shelf's: FOR A HAND-IN. Each laying: the table of numbers ('.._ren') and one theorem, a field a fact of the dump's own or the kernel's comparison; each contract: ONE APPLICATION.
-/
import Derived.Shelf.SlGeneric
import Derived.Shelf.SlIterI.Sorted
import Derived.Shelf.SortM.Plain
import Derived.Shelf.SortM.SortNone
import Derived.Shelf.SlMaps.Clone
import Derived.Ground.GgzProg
import Derived.Ground.SlgmProg
import Derived.Ground.SlmcProg
import Derived.Test.YtfieiaijdalkbaaGreatProg
namespace Go.Proofs
open Go.Shelf
def Tryz.laysK_ren:Go.Shelf.Ren:=⟨fun | 7=>93 | 10=>133 | n=>n,fun | 23=>99 | 26=>3 | 3=>126 | 28=>164 | 0=>0 | 27=>163 | 33=>142 | 4=>4 | n=>n,fun | n=>n⟩
theorem Tryz.laysK:Go.Proofs.SlLaysZI.n7 Tryz.prog Tryz.laysK_ren:={
 mixed:=by kernel_rfl
 f7:=⟨Tryz.f93.name,by decide,Tryz.func93.trans (congrArg some (by kernel_rfl))⟩
 f10:=⟨Tryz.f133.name,by decide,Tryz.func133.trans (congrArg some (by kernel_rfl))⟩
 t0:=Tryz.underlying0
 a0:=Tryz.isAgg0
 z0:=Tryz.sizeOf0
 v0:=Tryz.zeroValue0
 t4:=Tryz.underlying4
 a4:=Tryz.isAgg4
 z4:=Tryz.sizeOf4
 v4:=Tryz.zeroValue4
 t23:=Tryz.underlying99
 a23:=Tryz.isAgg99
 z23:=Tryz.sizeOf99
 v23:=Tryz.zeroValue99
 t26:=Tryz.underlying3
 a26:=Tryz.isAgg3
 z26:=Tryz.sizeOf3
 v26:=Tryz.zeroValue3
 t27:=Tryz.underlying163
 a27:=Tryz.isAgg163
 z27:=Tryz.sizeOf163
 v27:=Tryz.zeroValue163
 t28:=Tryz.underlying164
 a28:=Tryz.isAgg164
 z28:=Tryz.sizeOf164
 v28:=Tryz.zeroValue164
 t33:=Tryz.underlying142
 a33:=Tryz.isAgg142
 z33:=Tryz.sizeOf142
 v33:=Tryz.zeroValue142}
def Tryz.laysS_ren:Go.Shelf.Ren:=⟨fun | 6=>92 | 8=>131 | 9=>132 | 11=>150 | 13=>152 | 12=>151 | 23=>166 | 24=>167 | 14=>157 | 15=>158 | 16=>159 | 17=>160 | 18=>161 | 19=>162 | 20=>163 | 21=>164 | 22=>165 | 25=>169 | 26=>170 | 27=>171 | 28=>172 | 29=>173 | 30=>174 | 31=>175 | n=>n,fun | 26=>3 | 28=>164 | 24=>35 | 0=>0 | 3=>3 | 37=>208 | 48=>212 | 50=>151 | 4=>4 | 40=>236 | 39=>235 | 45=>183 | 5=>5 | 9=>9 | 51=>245 | 55=>137 | 57=>250 | 58=>225 | 33=>142 | n=>n,fun | n=>n⟩
theorem Tryz.laysS:Go.Proofs.SlLaysZI.n6 Tryz.prog Tryz.laysS_ren:={
 mixed:=by kernel_rfl
 f6:=⟨Tryz.f92.name,by decide,Tryz.func92.trans (congrArg some (by kernel_rfl))⟩
 f8:=⟨Tryz.f131.name,by decide,Tryz.func131.trans (congrArg some (by kernel_rfl))⟩
 f11:=⟨Tryz.f150.name,by decide,Tryz.func150.trans (congrArg some (by kernel_rfl))⟩
 t0:=Tryz.underlying0
 a0:=Tryz.isAgg0
 z0:=Tryz.sizeOf0
 v0:=Tryz.zeroValue0
 t24:=Tryz.underlying35
 a24:=Tryz.isAgg35
 z24:=Tryz.sizeOf35
 v24:=Tryz.zeroValue35
 t26:=Tryz.underlying3
 a26:=Tryz.isAgg3
 z26:=Tryz.sizeOf3
 v26:=Tryz.zeroValue3
 t28:=Tryz.underlying164
 a28:=Tryz.isAgg164
 z28:=Tryz.sizeOf164
 v28:=Tryz.zeroValue164
 i26:=by kernel_rfl}
def Tryz.laysO_ren:Go.Shelf.Ren:=⟨fun | 5=>132 | 8=>152 | 7=>151 | 19=>166 | 20=>167 | 10=>157 | 11=>158 | 12=>159 | 13=>160 | 14=>161 | 15=>162 | 16=>163 | 17=>164 | 18=>165 | 30=>169 | 31=>170 | 32=>171 | 33=>172 | 34=>173 | 35=>174 | 40=>175 | n=>n,fun | 23=>35 | 25=>3 | 3=>3 | 32=>208 | 22=>35 | 0=>0 | 44=>212 | 46=>151 | 4=>4 | 36=>236 | 35=>235 | 41=>183 | 5=>5 | 9=>9 | 53=>245 | 57=>137 | 63=>250 | 64=>225 | n=>n,fun | n=>n⟩
theorem Tryz.laysO:Go.Proofs.SlLaysM.n5 Tryz.prog Tryz.laysO_ren:={
 mixed:=by kernel_rfl
 f5:=⟨Tryz.f132.name,by decide,Tryz.func132.trans (congrArg some (by kernel_rfl))⟩
 f7:=⟨Tryz.f151.name,by decide,Tryz.func151.trans (congrArg some (by kernel_rfl))⟩
 f8:=Tryz.func152.trans (congrArg some (by kernel_rfl))
 f10:=⟨Tryz.f157.name,by decide,Tryz.func157.trans (congrArg some (by kernel_rfl))⟩
 f11:=⟨Tryz.f158.name,by decide,Tryz.func158.trans (congrArg some (by kernel_rfl))⟩
 f12:=⟨Tryz.f159.name,by decide,Tryz.func159.trans (congrArg some (by kernel_rfl))⟩
 f13:=⟨Tryz.f160.name,by decide,Tryz.func160.trans (congrArg some (by kernel_rfl))⟩
 f14:=⟨Tryz.f161.name,by decide,Tryz.func161.trans (congrArg some (by kernel_rfl))⟩
 f15:=⟨Tryz.f162.name,by decide,Tryz.func162.trans (congrArg some (by kernel_rfl))⟩
 f16:=⟨Tryz.f163.name,by decide,Tryz.func163.trans (congrArg some (by kernel_rfl))⟩
 f17:=⟨Tryz.f164.name,by decide,Tryz.func164.trans (congrArg some (by kernel_rfl))⟩
 f18:=⟨Tryz.f165.name,by decide,Tryz.func165.trans (congrArg some (by kernel_rfl))⟩
 f19:=Tryz.func166.trans (congrArg some (by kernel_rfl))
 f20:=Tryz.func167.trans (congrArg some (by kernel_rfl))
 f30:=⟨Tryz.f169.name,by decide,Tryz.func169.trans (congrArg some (by kernel_rfl))⟩
 f31:=Tryz.func170.trans (congrArg some (by kernel_rfl))
 f32:=Tryz.func171.trans (congrArg some (by kernel_rfl))
 f33:=⟨Tryz.f172.name,by decide,Tryz.func172.trans (congrArg some (by kernel_rfl))⟩
 f34:=⟨Tryz.f173.name,by decide,Tryz.func173.trans (congrArg some (by kernel_rfl))⟩
 f35:=⟨Tryz.f174.name,by decide,Tryz.func174.trans (congrArg some (by kernel_rfl))⟩
 f40:=⟨Tryz.f175.name,by decide,Tryz.func175.trans (congrArg some (by kernel_rfl))⟩
 t0:=Tryz.underlying0
 a0:=Tryz.isAgg0
 z0:=Tryz.sizeOf0
 v0:=Tryz.zeroValue0
 t3:=Tryz.underlying3
 a3:=Tryz.isAgg3
 z3:=Tryz.sizeOf3
 v3:=Tryz.zeroValue3
 t4:=Tryz.underlying4
 a4:=Tryz.isAgg4
 z4:=Tryz.sizeOf4
 v4:=Tryz.zeroValue4
 t5:=Tryz.underlying5
 a5:=Tryz.isAgg5
 z5:=Tryz.sizeOf5
 v5:=Tryz.zeroValue5
 t9:=Tryz.underlying9
 a9:=Tryz.isAgg9
 z9:=Tryz.sizeOf9
 v9:=Tryz.zeroValue9
 t22:=Tryz.underlying35
 a22:=Tryz.isAgg35
 z22:=Tryz.sizeOf35
 v22:=Tryz.zeroValue35
 t23:=Tryz.underlying35
 a23:=Tryz.isAgg35
 z23:=Tryz.sizeOf35
 v23:=Tryz.zeroValue35
 t25:=Tryz.underlying3
 a25:=Tryz.isAgg3
 z25:=Tryz.sizeOf3
 v25:=Tryz.zeroValue3
 t32:=Tryz.underlying208
 a32:=Tryz.isAgg208
 z32:=Tryz.sizeOf208
 v32:=Tryz.zeroValue208
 t35:=Tryz.underlying235
 a35:=Tryz.isAgg235
 z35:=Tryz.sizeOf235
 v35:=Tryz.zeroValue235
 t36:=Tryz.underlying236
 a36:=Tryz.isAgg236
 z36:=Tryz.sizeOf236
 v36:=Tryz.zeroValue236
 t41:=Tryz.underlying183
 a41:=Tryz.isAgg183
 z41:=Tryz.sizeOf183
 v41:=Tryz.zeroValue183
 t44:=Tryz.underlying212
 a44:=Tryz.isAgg212
 z44:=Tryz.sizeOf212
 v44:=Tryz.zeroValue212
 t46:=Tryz.underlying151
 a46:=Tryz.isAgg151
 z46:=Tryz.sizeOf151
 v46:=Tryz.zeroValue151
 t53:=Tryz.underlying245
 a53:=Tryz.isAgg245
 z53:=Tryz.sizeOf245
 v53:=Tryz.zeroValue245
 t57:=Tryz.underlying137
 a57:=Tryz.isAgg137
 z57:=Tryz.sizeOf137
 v57:=Tryz.zeroValue137
 t63:=Tryz.underlying250
 a63:=Tryz.isAgg250
 z63:=Tryz.sizeOf250
 v63:=Tryz.zeroValue250
 t64:=Tryz.underlying225
 a64:=Tryz.isAgg225
 z64:=Tryz.sizeOf225
 v64:=Tryz.zeroValue225}
def Tryz.laysC_ren:Go.Shelf.Ren:=⟨fun | 5=>84 | 7=>129 | n=>n,fun | 23=>99 | 25=>3 | 3=>126 | 4=>4 | 20=>20 | n=>n,fun | n=>n⟩
theorem Tryz.laysC:Go.Proofs.SlLaysW.n5 Tryz.prog Tryz.laysC_ren:={
 mixed:=by kernel_rfl
 f5:=⟨Tryz.f84.name,by decide,Tryz.func84.trans (congrArg some (by kernel_rfl))⟩
 f7:=Tryz.func129.trans (congrArg some (by kernel_rfl))
 t4:=Tryz.underlying4
 a4:=Tryz.isAgg4
 z4:=Tryz.sizeOf4
 v4:=Tryz.zeroValue4
 t20:=Tryz.underlying20
 a20:=Tryz.isAgg20
 z20:=Tryz.sizeOf20
 v20:=Tryz.zeroValue20
 t23:=Tryz.underlying99
 a23:=Tryz.isAgg99
 z23:=Tryz.sizeOf99
 v23:=Tryz.zeroValue99}
end Go.Proofs
