/- Part of the proof that the law CustomRestsAsSpecified holds. Conditions: none. -/
import Derived.Shelf.SlSortCmp.WholeK
import Derived.Test.YtjbhehjoaalhiaaGreatDoorProg
set_option linter.unusedVariables false
set_option linter.unusedSimpArgs false
set_option linter.unusedSectionVars false
namespace Go.Proofs
open Go.Shelf
def Tryz.sortA_ren:Go.Shelf.Ren:=⟨fun|6=>158|15=>161|14=>195|28=>204|29=>205|20=>224|21=>225|22=>226|23=>227|24=>228|25=>229|26=>230|27=>231|46=>249|47=>233|48=>234|49=>250|50=>251|57=>261|n=>n,fun|22=>48|24=>32|25=>127|3=>3|39=>231|0=>0|53=>266|55=>268|4=>4|46=>260|45=>259|50=>165|5=>5|9=>9|66=>286|70=>290|76=>304|77=>305|n=>n,fun|n=>n⟩
theorem Tryz.sortA:Go.Proofs.SlLaysF0.n6 Tryz.prog Tryz.sortA_ren:={
 mixed:=by kernel_rfl
 f6:=⟨Tryz.f158.name,by decide,Tryz.func158.trans (congrArg some (by kernel_rfl))⟩
 f14:=⟨Tryz.f195.name,by decide,Tryz.func195.trans (congrArg some (by kernel_rfl))⟩
 f15:=Tryz.func161.trans (congrArg some (by kernel_rfl))
 f20:=⟨Tryz.f224.name,by decide,Tryz.func224.trans (congrArg some (by kernel_rfl))⟩
 f21:=⟨Tryz.f225.name,by decide,Tryz.func225.trans (congrArg some (by kernel_rfl))⟩
 f22:=⟨Tryz.f226.name,by decide,Tryz.func226.trans (congrArg some (by kernel_rfl))⟩
 f23:=⟨Tryz.f227.name,by decide,Tryz.func227.trans (congrArg some (by kernel_rfl))⟩
 f24:=⟨Tryz.f228.name,by decide,Tryz.func228.trans (congrArg some (by kernel_rfl))⟩
 f25:=⟨Tryz.f229.name,by decide,Tryz.func229.trans (congrArg some (by kernel_rfl))⟩
 f26:=⟨Tryz.f230.name,by decide,Tryz.func230.trans (congrArg some (by kernel_rfl))⟩
 f27:=⟨Tryz.f231.name,by decide,Tryz.func231.trans (congrArg some (by kernel_rfl))⟩
 f28:=Tryz.func204.trans (congrArg some (by kernel_rfl))
 f29:=Tryz.func205.trans (congrArg some (by kernel_rfl))
 f46:=⟨Tryz.f249.name,by decide,Tryz.func249.trans (congrArg some (by kernel_rfl))⟩
 f47:=Tryz.func233.trans (congrArg some (by kernel_rfl))
 f48:=Tryz.func234.trans (congrArg some (by kernel_rfl))
 f49:=⟨Tryz.f250.name,by decide,Tryz.func250.trans (congrArg some (by kernel_rfl))⟩
 f50:=⟨Tryz.f251.name,by decide,Tryz.func251.trans (congrArg some (by kernel_rfl))⟩
 f57:=⟨Tryz.f261.name,by decide,Tryz.func261.trans (congrArg some (by kernel_rfl))⟩
 t0:=Tryz.underlying0
 a0:=Tryz.isAgg0
 z0:=Tryz.sizeOf0
 v0:=Tryz.zeroValue0
 t3:=Tryz.underlying3
 a3:=Tryz.isAgg3
 z3:=Tryz.sizeOf3
 v3:=Tryz.zeroValue3
 t4:=Tryz.underlying4
 a4:=Tryz.isAgg4
 z4:=Tryz.sizeOf4
 v4:=Tryz.zeroValue4
 t5:=Tryz.underlying5
 a5:=Tryz.isAgg5
 z5:=Tryz.sizeOf5
 v5:=Tryz.zeroValue5
 t9:=Tryz.underlying9
 a9:=Tryz.isAgg9
 z9:=Tryz.sizeOf9
 v9:=Tryz.zeroValue9
 t22:=Tryz.underlying48
 a22:=Tryz.isAgg48
 z22:=Tryz.sizeOf48
 v22:=Tryz.zeroValue48
 t25:=Tryz.underlying127
 a25:=Tryz.isAgg127
 z25:=Tryz.sizeOf127
 v25:=Tryz.zeroValue127
 t39:=Tryz.underlying231
 a39:=Tryz.isAgg231
 z39:=Tryz.sizeOf231
 v39:=Tryz.zeroValue231
 t45:=Tryz.underlying259
 a45:=Tryz.isAgg259
 z45:=Tryz.sizeOf259
 v45:=Tryz.zeroValue259
 t46:=Tryz.underlying260
 a46:=Tryz.isAgg260
 z46:=Tryz.sizeOf260
 v46:=Tryz.zeroValue260
 t50:=Tryz.underlying165
 a50:=Tryz.isAgg165
 z50:=Tryz.sizeOf165
 v50:=Tryz.zeroValue165
 t53:=Tryz.underlying266
 a53:=Tryz.isAgg266
 z53:=Tryz.sizeOf266
 v53:=Tryz.zeroValue266
 t55:=Tryz.underlying268
 a55:=Tryz.isAgg268
 z55:=Tryz.sizeOf268
 v55:=Tryz.zeroValue268
 t66:=Tryz.underlying286
 a66:=Tryz.isAgg286
 z66:=Tryz.sizeOf286
 v66:=Tryz.zeroValue286
 t70:=Tryz.underlying290
 a70:=Tryz.isAgg290
 z70:=Tryz.sizeOf290
 v70:=Tryz.zeroValue290
 t76:=Tryz.underlying304
 a76:=Tryz.isAgg304
 z76:=Tryz.sizeOf304
 v76:=Tryz.zeroValue304
 t77:=Tryz.underlying305
 a77:=Tryz.isAgg305
 z77:=Tryz.sizeOf305
 v77:=Tryz.zeroValue305 }
end Go.Proofs
