/-
  DERIVED: THE SHELF's CONTRACTS AT THIS DUMP, IN PLAIN WORDS (tools/lay-plain.mjs out of 'S15t.lean', which tools/lay-shelf.mjs wrote): THE SAME DECLARATIONS UNDER THE SAME NAMES: 'import', 'namespace', 'open', 'def', 'theorem' AND NOTHING ELSE: no command of the shelf's: FOR A HAND-IN. Each laying: the table of numbers ('.._ren') and one theorem, a field a fact of the dump's own or the kernel's comparison; each contract: ONE APPLICATION.
-/
import Derived.Shelf.SlGeneric
import Derived.Shelf.SlIterI.Sorted
import Derived.Shelf.SortM.Plain
import Derived.Shelf.SortM.SortNone
import Derived.Shelf.SlMaps.Clone
import Derived.Ground.GgzProg
import Derived.Ground.SlgmProg
import Derived.Ground.SlmcProg
import Derived.Test.YtcaaljlhljemoaaGreatProg
namespace Go.Proofs
open Go.Shelf
def Tryz.laysK_ren:Go.Shelf.Ren:=⟨fun | 7=>119 | 10=>150 | n=>n,fun | 23=>95 | 26=>3 | 3=>110 | 28=>171 | 0=>0 | 27=>170 | 33=>108 | 4=>4 | n=>n,fun | n=>n⟩
theorem Tryz.laysK:Go.Proofs.SlLaysZI.n7 Tryz.prog Tryz.laysK_ren:={
 mixed:=by kernel_rfl
 f7:=⟨Tryz.f119.name,by decide,Tryz.func119.trans (congrArg some (by kernel_rfl))⟩
 f10:=⟨Tryz.f150.name,by decide,Tryz.func150.trans (congrArg some (by kernel_rfl))⟩
 t0:=Tryz.underlying0
 a0:=Tryz.isAgg0
 z0:=Tryz.sizeOf0
 v0:=Tryz.zeroValue0
 t4:=Tryz.underlying4
 a4:=Tryz.isAgg4
 z4:=Tryz.sizeOf4
 v4:=Tryz.zeroValue4
 t23:=Tryz.underlying95
 a23:=Tryz.isAgg95
 z23:=Tryz.sizeOf95
 v23:=Tryz.zeroValue95
 t26:=Tryz.underlying3
 a26:=Tryz.isAgg3
 z26:=Tryz.sizeOf3
 v26:=Tryz.zeroValue3
 t27:=Tryz.underlying170
 a27:=Tryz.isAgg170
 z27:=Tryz.sizeOf170
 v27:=Tryz.zeroValue170
 t28:=Tryz.underlying171
 a28:=Tryz.isAgg171
 z28:=Tryz.sizeOf171
 v28:=Tryz.zeroValue171
 t33:=Tryz.underlying108
 a33:=Tryz.isAgg108
 z33:=Tryz.sizeOf108
 v33:=Tryz.zeroValue108}
def Tryz.laysS_ren:Go.Shelf.Ren:=⟨fun | 6=>118 | 8=>148 | 9=>149 | 11=>159 | 13=>161 | 12=>160 | 23=>174 | 24=>175 | 14=>165 | 15=>166 | 16=>167 | 17=>168 | 18=>169 | 19=>170 | 20=>171 | 21=>172 | 22=>173 | 25=>177 | 26=>178 | 27=>179 | 28=>180 | 29=>181 | 30=>182 | 31=>183 | n=>n,fun | 26=>3 | 28=>171 | 24=>54 | 0=>0 | 3=>3 | 37=>194 | 48=>203 | 50=>40 | 4=>4 | 40=>213 | 39=>212 | 45=>93 | 5=>5 | 9=>9 | 51=>222 | 55=>176 | 57=>227 | 58=>152 | 33=>108 | n=>n,fun | n=>n⟩
theorem Tryz.laysS:Go.Proofs.SlLaysZI.n6 Tryz.prog Tryz.laysS_ren:={
 mixed:=by kernel_rfl
 f6:=⟨Tryz.f118.name,by decide,Tryz.func118.trans (congrArg some (by kernel_rfl))⟩
 f8:=⟨Tryz.f148.name,by decide,Tryz.func148.trans (congrArg some (by kernel_rfl))⟩
 f11:=⟨Tryz.f159.name,by decide,Tryz.func159.trans (congrArg some (by kernel_rfl))⟩
 t0:=Tryz.underlying0
 a0:=Tryz.isAgg0
 z0:=Tryz.sizeOf0
 v0:=Tryz.zeroValue0
 t24:=Tryz.underlying54
 a24:=Tryz.isAgg54
 z24:=Tryz.sizeOf54
 v24:=Tryz.zeroValue54
 t26:=Tryz.underlying3
 a26:=Tryz.isAgg3
 z26:=Tryz.sizeOf3
 v26:=Tryz.zeroValue3
 t28:=Tryz.underlying171
 a28:=Tryz.isAgg171
 z28:=Tryz.sizeOf171
 v28:=Tryz.zeroValue171
 i26:=by kernel_rfl}
def Tryz.laysO_ren:Go.Shelf.Ren:=⟨fun | 5=>149 | 8=>161 | 7=>160 | 19=>174 | 20=>175 | 10=>165 | 11=>166 | 12=>167 | 13=>168 | 14=>169 | 15=>170 | 16=>171 | 17=>172 | 18=>173 | 30=>177 | 31=>178 | 32=>179 | 33=>180 | 34=>181 | 35=>182 | 40=>183 | n=>n,fun | 23=>54 | 25=>3 | 3=>3 | 32=>194 | 22=>54 | 0=>0 | 44=>203 | 46=>40 | 4=>4 | 36=>213 | 35=>212 | 41=>93 | 5=>5 | 9=>9 | 53=>222 | 57=>176 | 63=>227 | 64=>152 | n=>n,fun | n=>n⟩
theorem Tryz.laysO:Go.Proofs.SlLaysM.n5 Tryz.prog Tryz.laysO_ren:={
 mixed:=by kernel_rfl
 f5:=⟨Tryz.f149.name,by decide,Tryz.func149.trans (congrArg some (by kernel_rfl))⟩
 f7:=⟨Tryz.f160.name,by decide,Tryz.func160.trans (congrArg some (by kernel_rfl))⟩
 f8:=Tryz.func161.trans (congrArg some (by kernel_rfl))
 f10:=⟨Tryz.f165.name,by decide,Tryz.func165.trans (congrArg some (by kernel_rfl))⟩
 f11:=⟨Tryz.f166.name,by decide,Tryz.func166.trans (congrArg some (by kernel_rfl))⟩
 f12:=⟨Tryz.f167.name,by decide,Tryz.func167.trans (congrArg some (by kernel_rfl))⟩
 f13:=⟨Tryz.f168.name,by decide,Tryz.func168.trans (congrArg some (by kernel_rfl))⟩
 f14:=⟨Tryz.f169.name,by decide,Tryz.func169.trans (congrArg some (by kernel_rfl))⟩
 f15:=⟨Tryz.f170.name,by decide,Tryz.func170.trans (congrArg some (by kernel_rfl))⟩
 f16:=⟨Tryz.f171.name,by decide,Tryz.func171.trans (congrArg some (by kernel_rfl))⟩
 f17:=⟨Tryz.f172.name,by decide,Tryz.func172.trans (congrArg some (by kernel_rfl))⟩
 f18:=⟨Tryz.f173.name,by decide,Tryz.func173.trans (congrArg some (by kernel_rfl))⟩
 f19:=Tryz.func174.trans (congrArg some (by kernel_rfl))
 f20:=Tryz.func175.trans (congrArg some (by kernel_rfl))
 f30:=⟨Tryz.f177.name,by decide,Tryz.func177.trans (congrArg some (by kernel_rfl))⟩
 f31:=Tryz.func178.trans (congrArg some (by kernel_rfl))
 f32:=Tryz.func179.trans (congrArg some (by kernel_rfl))
 f33:=⟨Tryz.f180.name,by decide,Tryz.func180.trans (congrArg some (by kernel_rfl))⟩
 f34:=⟨Tryz.f181.name,by decide,Tryz.func181.trans (congrArg some (by kernel_rfl))⟩
 f35:=⟨Tryz.f182.name,by decide,Tryz.func182.trans (congrArg some (by kernel_rfl))⟩
 f40:=⟨Tryz.f183.name,by decide,Tryz.func183.trans (congrArg some (by kernel_rfl))⟩
 t0:=Tryz.underlying0
 a0:=Tryz.isAgg0
 z0:=Tryz.sizeOf0
 v0:=Tryz.zeroValue0
 t3:=Tryz.underlying3
 a3:=Tryz.isAgg3
 z3:=Tryz.sizeOf3
 v3:=Tryz.zeroValue3
 t4:=Tryz.underlying4
 a4:=Tryz.isAgg4
 z4:=Tryz.sizeOf4
 v4:=Tryz.zeroValue4
 t5:=Tryz.underlying5
 a5:=Tryz.isAgg5
 z5:=Tryz.sizeOf5
 v5:=Tryz.zeroValue5
 t9:=Tryz.underlying9
 a9:=Tryz.isAgg9
 z9:=Tryz.sizeOf9
 v9:=Tryz.zeroValue9
 t22:=Tryz.underlying54
 a22:=Tryz.isAgg54
 z22:=Tryz.sizeOf54
 v22:=Tryz.zeroValue54
 t23:=Tryz.underlying54
 a23:=Tryz.isAgg54
 z23:=Tryz.sizeOf54
 v23:=Tryz.zeroValue54
 t25:=Tryz.underlying3
 a25:=Tryz.isAgg3
 z25:=Tryz.sizeOf3
 v25:=Tryz.zeroValue3
 t32:=Tryz.underlying194
 a32:=Tryz.isAgg194
 z32:=Tryz.sizeOf194
 v32:=Tryz.zeroValue194
 t35:=Tryz.underlying212
 a35:=Tryz.isAgg212
 z35:=Tryz.sizeOf212
 v35:=Tryz.zeroValue212
 t36:=Tryz.underlying213
 a36:=Tryz.isAgg213
 z36:=Tryz.sizeOf213
 v36:=Tryz.zeroValue213
 t41:=Tryz.underlying93
 a41:=Tryz.isAgg93
 z41:=Tryz.sizeOf93
 v41:=Tryz.zeroValue93
 t44:=Tryz.underlying203
 a44:=Tryz.isAgg203
 z44:=Tryz.sizeOf203
 v44:=Tryz.zeroValue203
 t46:=Tryz.underlying40
 a46:=Tryz.isAgg40
 z46:=Tryz.sizeOf40
 v46:=Tryz.zeroValue40
 t53:=Tryz.underlying222
 a53:=Tryz.isAgg222
 z53:=Tryz.sizeOf222
 v53:=Tryz.zeroValue222
 t57:=Tryz.underlying176
 a57:=Tryz.isAgg176
 z57:=Tryz.sizeOf176
 v57:=Tryz.zeroValue176
 t63:=Tryz.underlying227
 a63:=Tryz.isAgg227
 z63:=Tryz.sizeOf227
 v63:=Tryz.zeroValue227
 t64:=Tryz.underlying152
 a64:=Tryz.isAgg152
 z64:=Tryz.sizeOf152
 v64:=Tryz.zeroValue152}
def Tryz.laysC_ren:Go.Shelf.Ren:=⟨fun | 5=>110 | 7=>147 | n=>n,fun | 23=>95 | 25=>3 | 3=>110 | 4=>4 | 20=>20 | n=>n,fun | n=>n⟩
theorem Tryz.laysC:Go.Proofs.SlLaysW.n5 Tryz.prog Tryz.laysC_ren:={
 mixed:=by kernel_rfl
 f5:=⟨Tryz.f110.name,by decide,Tryz.func110.trans (congrArg some (by kernel_rfl))⟩
 f7:=Tryz.func147.trans (congrArg some (by kernel_rfl))
 t4:=Tryz.underlying4
 a4:=Tryz.isAgg4
 z4:=Tryz.sizeOf4
 v4:=Tryz.zeroValue4
 t20:=Tryz.underlying20
 a20:=Tryz.isAgg20
 z20:=Tryz.sizeOf20
 v20:=Tryz.zeroValue20
 t23:=Tryz.underlying95
 a23:=Tryz.isAgg95
 z23:=Tryz.sizeOf95
 v23:=Tryz.zeroValue95}
end Go.Proofs
