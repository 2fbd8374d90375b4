/- A part of the proof of YardOrders; no condition of our own. -/
import Derived.Test.YtekkhljfkiojiaaGreatDoorProg
import Derived.WalkKit
import Derived.Test.YtekkhljfkiojiaaGreatDoorMf
set_option linter.defProp false
set_option linter.unusedSimpArgs false
set_option linter.unusedVariables false
open Bool renaming false->ak,true->aa
open Go renaming IntKind->aG
open Go.IntKind renaming wrap->aO,wrap_i64->vN,wrap_u8->YQ
open Go.Shelf renaming Ren->Tx
open List renaming length->aN8,replicate->gb
open Option renaming bind->ab,none->ae,some->J
namespace Go.W
set_option maxHeartbeats 1000000
section
set_option maxRecDepth 100000
open Go.aF Go.Proofs Go.Sort Go.Shelf Go.RowKit Go.Lib
def ap':Tx:=⟨λ|6=>218|15=>127|14=>264|28=>195|29=>196|20=>298|21=>299|22=>300|23=>301|24=>302|25=>303|26=>304|27=>305|46=>331|47=>246|48=>247|49=>332|50=>333|57=>341|n=>n,λ|22=>60|24=>142|25=>282|3=>3|39=>199|0=>0|53=>256|55=>258|4=>4|46=>250|45=>249|50=>221|5=>5|9=>9|66=>303|70=>307|76=>328|77=>97|n=>n,λ|n=>n⟩
def ar7:Go.Proofs.SlLaysF0.n6 Tryz.prog ap':={
 mixed:=by kernel_rfl,
 f6:=⟨Tryz.f218.name,by decide,Tryz.func218.trans (congrArg J (by kernel_rfl))⟩,
 f14:=⟨Tryz.f264.name,by decide,Tryz.func264.trans (congrArg J (by kernel_rfl))⟩,
 f15:=Tryz.func127.trans (congrArg J (by kernel_rfl)),
 f20:=⟨Tryz.f298.name,by decide,Tryz.func298.trans (congrArg J (by kernel_rfl))⟩,
 f21:=⟨Tryz.f299.name,by decide,Tryz.func299.trans (congrArg J (by kernel_rfl))⟩,
 f22:=⟨Tryz.f300.name,by decide,Tryz.func300.trans (congrArg J (by kernel_rfl))⟩,
 f23:=⟨Tryz.f301.name,by decide,Tryz.func301.trans (congrArg J (by kernel_rfl))⟩,
 f24:=⟨Tryz.f302.name,by decide,Tryz.func302.trans (congrArg J (by kernel_rfl))⟩,
 f25:=⟨Tryz.f303.name,by decide,Tryz.func303.trans (congrArg J (by kernel_rfl))⟩,
 f26:=⟨Tryz.f304.name,by decide,Tryz.func304.trans (congrArg J (by kernel_rfl))⟩,
 f27:=⟨Tryz.f305.name,by decide,Tryz.func305.trans (congrArg J (by kernel_rfl))⟩,
 f28:=Tryz.func195.trans (congrArg J (by kernel_rfl)),
 f29:=Tryz.func196.trans (congrArg J (by kernel_rfl)),
 f46:=⟨Tryz.f331.name,by decide,Tryz.func331.trans (congrArg J (by kernel_rfl))⟩,
 f47:=Tryz.func246.trans (congrArg J (by kernel_rfl)),
 f48:=Tryz.func247.trans (congrArg J (by kernel_rfl)),
 f49:=⟨Tryz.f332.name,by decide,Tryz.func332.trans (congrArg J (by kernel_rfl))⟩,
 f50:=⟨Tryz.f333.name,by decide,Tryz.func333.trans (congrArg J (by kernel_rfl))⟩,
 f57:=⟨Tryz.f341.name,by decide,Tryz.func341.trans (congrArg J (by kernel_rfl))⟩,
 t0:=Tryz.underlying0,
 a0:=Tryz.isAgg0,
 z0:=Tryz.sizeOf0,
 v0:=Tryz.zeroValue0,
 t3:=Tryz.underlying3,
 a3:=Tryz.isAgg3,
 z3:=Tryz.sizeOf3,
 v3:=Tryz.zeroValue3,
 t4:=Tryz.underlying4,
 a4:=Tryz.isAgg4,
 z4:=Tryz.sizeOf4,
 v4:=Tryz.zeroValue4,
 t5:=Tryz.underlying5,
 a5:=Tryz.isAgg5,
 z5:=Tryz.sizeOf5,
 v5:=Tryz.zeroValue5,
 t9:=Tryz.underlying9,
 a9:=Tryz.isAgg9,
 z9:=Tryz.sizeOf9,
 v9:=Tryz.zeroValue9,
 t22:=Tryz.underlying60,
 a22:=Tryz.isAgg60,
 z22:=Tryz.sizeOf60,
 v22:=Tryz.zeroValue60,
 t25:=Tryz.underlying282,
 a25:=Tryz.isAgg282,
 z25:=Tryz.sizeOf282,
 v25:=Tryz.zeroValue282,
 t39:=Tryz.underlying199,
 a39:=Tryz.isAgg199,
 z39:=Tryz.sizeOf199,
 v39:=Tryz.zeroValue199,
 t45:=Tryz.underlying249,
 a45:=Tryz.isAgg249,
 z45:=Tryz.sizeOf249,
 v45:=Tryz.zeroValue249,
 t46:=Tryz.underlying250,
 a46:=Tryz.isAgg250,
 z46:=Tryz.sizeOf250,
 v46:=Tryz.zeroValue250,
 t50:=Tryz.underlying221,
 a50:=Tryz.isAgg221,
 z50:=Tryz.sizeOf221,
 v50:=Tryz.zeroValue221,
 t53:=Tryz.underlying256,
 a53:=Tryz.isAgg256,
 z53:=Tryz.sizeOf256,
 v53:=Tryz.zeroValue256,
 t55:=Tryz.underlying258,
 a55:=Tryz.isAgg258,
 z55:=Tryz.sizeOf258,
 v55:=Tryz.zeroValue258,
 t66:=Tryz.underlying303,
 a66:=Tryz.isAgg303,
 z66:=Tryz.sizeOf303,
 v66:=Tryz.zeroValue303,
 t70:=Tryz.underlying307,
 a70:=Tryz.isAgg307,
 z70:=Tryz.sizeOf307,
 v70:=Tryz.zeroValue307,
 t76:=Tryz.underlying328,
 a76:=Tryz.isAgg328,
 z76:=Tryz.sizeOf328,
 v76:=Tryz.zeroValue328,
 t77:=Tryz.underlying97,
 a77:=Tryz.isAgg97,
 z77:=Tryz.sizeOf97,
 v77:=Tryz.zeroValue97}
def ap7:Tx:=⟨λ|5=>220|7=>250|n=>n,λ|22=>3|3=>3|4=>4|n=>n,λ|n=>n⟩
def asd:Go.Proofs.SlLaysC2.n5 Tryz.prog ap7:={
 mixed:=by kernel_rfl,
 f5:=⟨Tryz.f220.name,by decide,Tryz.func220.trans (congrArg J (by kernel_rfl))⟩,
 f7:=⟨Tryz.f250.name,by decide,Tryz.func250.trans (congrArg J (by kernel_rfl))⟩,
 t3:=Tryz.underlying3,
 a3:=Tryz.isAgg3,
 z3:=Tryz.sizeOf3,
 v3:=Tryz.zeroValue3,
 t4:=Tryz.underlying4,
 a4:=Tryz.isAgg4,
 z4:=Tryz.sizeOf4,
 v4:=Tryz.zeroValue4,
 t22:=Tryz.underlying3,
 a22:=Tryz.isAgg3,
 z22:=Tryz.sizeOf3,
 v22:=Tryz.zeroValue3}
set_option maxHeartbeats 1000000 in
def asb(x y:b6)(W:World):Calls Tryz.prog 219 #[.agg #[.int .i64 x.aOk,.int .i64 x.reason,.int .i64 x.ib,.int .i64 x.round],.agg #[.int .i64 y.aOk,.int .i64 y.reason,.int .i64 y.ib,.int .i64 y.round]] W λe d=>e=.returned (.int .i64 (p1 x.aOk y.aOk))/\∃q f,d=grow (W.drewN q) f:=by
 have a:=λb=>AnyG.cmp_Compare_int asd x.aOk y.aOk b
 change ∀b,Calls Tryz.prog 220 _ _ _ at a
 unfold p1;generalize Lib.compareInt x.aOk y.aOk=r at a⊢
 go_enter Tryz.func219,Tryz.ntmps219
 go_wp2_with (go_at_call 220;refine(a _).mono ?_;rintro e d ⟨rfl,rfl⟩)
 go_ret
 exact⟨rfl,0,_,by rw[alloc_eq_grow,alloc_eq_grow,grow_grow];rfl⟩
def ap9:Tx:=⟨λ|6=>327|15=>127|14=>337|28=>195|29=>196|20=>343|21=>344|22=>345|23=>346|24=>347|25=>348|26=>349|27=>350|46=>351|47=>246|48=>247|49=>352|50=>353|57=>354|n=>n,λ|22=>22|24=>3|25=>281|3=>3|39=>199|0=>0|53=>256|55=>258|4=>4|46=>250|45=>249|50=>221|5=>5|9=>9|66=>303|70=>307|76=>328|77=>97|n=>n,λ|n=>n⟩
def ar6:Go.Proofs.SlLaysF.n6 Tryz.prog ap9:={
 mixed:=by kernel_rfl,
 f6:=⟨Tryz.f327.name,by decide,Tryz.func327.trans (congrArg J (by kernel_rfl))⟩,
 f14:=⟨Tryz.f337.name,by decide,Tryz.func337.trans (congrArg J (by kernel_rfl))⟩,
 f15:=Tryz.func127.trans (congrArg J (by kernel_rfl)),
 f20:=⟨Tryz.f343.name,by decide,Tryz.func343.trans (congrArg J (by kernel_rfl))⟩,
 f21:=⟨Tryz.f344.name,by decide,Tryz.func344.trans (congrArg J (by kernel_rfl))⟩,
 f22:=⟨Tryz.f345.name,by decide,Tryz.func345.trans (congrArg J (by kernel_rfl))⟩,
 f23:=⟨Tryz.f346.name,by decide,Tryz.func346.trans (congrArg J (by kernel_rfl))⟩,
 f24:=⟨Tryz.f347.name,by decide,Tryz.func347.trans (congrArg J (by kernel_rfl))⟩,
 f25:=⟨Tryz.f348.name,by decide,Tryz.func348.trans (congrArg J (by kernel_rfl))⟩,
 f26:=⟨Tryz.f349.name,by decide,Tryz.func349.trans (congrArg J (by kernel_rfl))⟩,
 f27:=⟨Tryz.f350.name,by decide,Tryz.func350.trans (congrArg J (by kernel_rfl))⟩,
 f28:=Tryz.func195.trans (congrArg J (by kernel_rfl)),
 f29:=Tryz.func196.trans (congrArg J (by kernel_rfl)),
 f46:=⟨Tryz.f351.name,by decide,Tryz.func351.trans (congrArg J (by kernel_rfl))⟩,
 f47:=Tryz.func246.trans (congrArg J (by kernel_rfl)),
 f48:=Tryz.func247.trans (congrArg J (by kernel_rfl)),
 f49:=⟨Tryz.f352.name,by decide,Tryz.func352.trans (congrArg J (by kernel_rfl))⟩,
 f50:=⟨Tryz.f353.name,by decide,Tryz.func353.trans (congrArg J (by kernel_rfl))⟩,
 f57:=⟨Tryz.f354.name,by decide,Tryz.func354.trans (congrArg J (by kernel_rfl))⟩,
 t0:=Tryz.underlying0,
 a0:=Tryz.isAgg0,
 z0:=Tryz.sizeOf0,
 v0:=Tryz.zeroValue0,
 t3:=Tryz.underlying3,
 a3:=Tryz.isAgg3,
 z3:=Tryz.sizeOf3,
 v3:=Tryz.zeroValue3,
 t4:=Tryz.underlying4,
 a4:=Tryz.isAgg4,
 z4:=Tryz.sizeOf4,
 v4:=Tryz.zeroValue4,
 t5:=Tryz.underlying5,
 a5:=Tryz.isAgg5,
 z5:=Tryz.sizeOf5,
 v5:=Tryz.zeroValue5,
 t9:=Tryz.underlying9,
 a9:=Tryz.isAgg9,
 z9:=Tryz.sizeOf9,
 v9:=Tryz.zeroValue9,
 t22:=Tryz.underlying22,
 a22:=Tryz.isAgg22,
 z22:=Tryz.sizeOf22,
 v22:=Tryz.zeroValue22,
 a24:=Tryz.isAgg3,
 z24:=Tryz.sizeOf3,
 t25:=Tryz.underlying281,
 a25:=Tryz.isAgg281,
 z25:=Tryz.sizeOf281,
 v25:=Tryz.zeroValue281,
 t39:=Tryz.underlying199,
 a39:=Tryz.isAgg199,
 z39:=Tryz.sizeOf199,
 v39:=Tryz.zeroValue199,
 t45:=Tryz.underlying249,
 a45:=Tryz.isAgg249,
 z45:=Tryz.sizeOf249,
 v45:=Tryz.zeroValue249,
 t46:=Tryz.underlying250,
 a46:=Tryz.isAgg250,
 z46:=Tryz.sizeOf250,
 v46:=Tryz.zeroValue250,
 t50:=Tryz.underlying221,
 a50:=Tryz.isAgg221,
 z50:=Tryz.sizeOf221,
 v50:=Tryz.zeroValue221,
 t53:=Tryz.underlying256,
 a53:=Tryz.isAgg256,
 z53:=Tryz.sizeOf256,
 v53:=Tryz.zeroValue256,
 t55:=Tryz.underlying258,
 a55:=Tryz.isAgg258,
 z55:=Tryz.sizeOf258,
 v55:=Tryz.zeroValue258,
 t66:=Tryz.underlying303,
 a66:=Tryz.isAgg303,
 z66:=Tryz.sizeOf303,
 v66:=Tryz.zeroValue303,
 t70:=Tryz.underlying307,
 a70:=Tryz.isAgg307,
 z70:=Tryz.sizeOf307,
 v70:=Tryz.zeroValue307,
 t76:=Tryz.underlying328,
 a76:=Tryz.isAgg328,
 z76:=Tryz.sizeOf328,
 v76:=Tryz.zeroValue328,
 t77:=Tryz.underlying97,
 a77:=Tryz.isAgg97,
 z77:=Tryz.sizeOf97,
 v77:=Tryz.zeroValue97}
set_option maxHeartbeats 1000000 in
def arS(x y bL b:Int)(h g f d n a:Nat)(W:World)(r:W.cell? ⟨h,g,ae⟩=J (.slice (J ⟨f,d,ae⟩) n a))(p:0<=x)(s:x<n)(l:0<=y)(t:y<n)(m:W.cell? ⟨f,d+x.toNat*4+1,ae⟩=J (.int .i64 bL))(k:W.cell? ⟨f,d+y.toNat*4+1,ae⟩=J (.int .i64 b)):
  Calls Tryz.prog 328 #[.int .i64 x,.int .i64 y,.pointer (J ⟨h,g,ae⟩)] W λe j=>e=.returned (.int .i64 (aG.i64.wrap (bL-b)))/\∃q i,j=grow (W.drewN q) i:=by
 go_enter Tryz.func328,Tryz.ntmps328
 go_wp2
 go_quiet (fail)
 go_wp2
 go_ret
 exact⟨congrArg (λn=>Ending.returned (.int .i64 n)) (IntWalk.i64_left _).symm,_,#[],by simp[grow];rfl⟩
def aqh:Tx:=⟨λ|189=>64|125=>127|257=>126|128=>195|129=>196|294=>186|295=>187|296=>188|297=>189|298=>190|299=>191|216=>192|300=>193|301=>194|328=>245|329=>246|330=>247|331=>248|332=>249|215=>250|343=>282|n=>n,λ|28=>22|3=>3|46=>199|0=>0|51=>256|53=>258|4=>4|183=>250|182=>249|131=>221|5=>5|9=>9|218=>303|222=>307|228=>328|229=>97|n=>n,λ|n=>n⟩
def asN:Go.Proofs.Lays.n189 Tryz.prog aqh:={
 mixed:=by kernel_rfl,
 f125:=Tryz.func127.trans (congrArg J (by kernel_rfl)),
 f128:=Tryz.func195.trans (congrArg J (by kernel_rfl)),
 f129:=Tryz.func196.trans (congrArg J (by kernel_rfl)),
 f189:=Tryz.func64.trans (congrArg J (by kernel_rfl)),
 f215:=Tryz.func250.trans (congrArg J (by kernel_rfl)),
 f216:=Tryz.func192.trans (congrArg J (by kernel_rfl)),
 f257:=Tryz.func126.trans (congrArg J (by kernel_rfl)),
 f294:=Tryz.func186.trans (congrArg J (by kernel_rfl)),
 f295:=Tryz.func187.trans (congrArg J (by kernel_rfl)),
 f296:=Tryz.func188.trans (congrArg J (by kernel_rfl)),
 f297:=Tryz.func189.trans (congrArg J (by kernel_rfl)),
 f298:=Tryz.func190.trans (congrArg J (by kernel_rfl)),
 f299:=Tryz.func191.trans (congrArg J (by kernel_rfl)),
 f300:=Tryz.func193.trans (congrArg J (by kernel_rfl)),
 f301:=Tryz.func194.trans (congrArg J (by kernel_rfl)),
 f328:=Tryz.func245.trans (congrArg J (by kernel_rfl)),
 f329:=Tryz.func246.trans (congrArg J (by kernel_rfl)),
 f330:=Tryz.func247.trans (congrArg J (by kernel_rfl)),
 f331:=Tryz.func248.trans (congrArg J (by kernel_rfl)),
 f332:=Tryz.func249.trans (congrArg J (by kernel_rfl)),
 f343:=Tryz.func282.trans (congrArg J (by kernel_rfl)),
 t0:=Tryz.underlying0,
 a0:=Tryz.isAgg0,
 z0:=Tryz.sizeOf0,
 v0:=Tryz.zeroValue0,
 t3:=Tryz.underlying3,
 a3:=Tryz.isAgg3,
 z3:=Tryz.sizeOf3,
 v3:=Tryz.zeroValue3,
 t4:=Tryz.underlying4,
 a4:=Tryz.isAgg4,
 z4:=Tryz.sizeOf4,
 v4:=Tryz.zeroValue4,
 t5:=Tryz.underlying5,
 a5:=Tryz.isAgg5,
 z5:=Tryz.sizeOf5,
 v5:=Tryz.zeroValue5,
 t9:=Tryz.underlying9,
 a9:=Tryz.isAgg9,
 z9:=Tryz.sizeOf9,
 v9:=Tryz.zeroValue9,
 t28:=Tryz.underlying22,
 a28:=Tryz.isAgg22,
 z28:=Tryz.sizeOf22,
 v28:=Tryz.zeroValue22,
 t46:=Tryz.underlying199,
 a46:=Tryz.isAgg199,
 z46:=Tryz.sizeOf199,
 v46:=Tryz.zeroValue199,
 t51:=Tryz.underlying256,
 a51:=Tryz.isAgg256,
 z51:=Tryz.sizeOf256,
 v51:=Tryz.zeroValue256,
 t53:=Tryz.underlying258,
 a53:=Tryz.isAgg258,
 z53:=Tryz.sizeOf258,
 v53:=Tryz.zeroValue258,
 t131:=Tryz.underlying221,
 a131:=Tryz.isAgg221,
 z131:=Tryz.sizeOf221,
 v131:=Tryz.zeroValue221,
 t182:=Tryz.underlying249,
 a182:=Tryz.isAgg249,
 z182:=Tryz.sizeOf249,
 v182:=Tryz.zeroValue249,
 t183:=Tryz.underlying250,
 a183:=Tryz.isAgg250,
 z183:=Tryz.sizeOf250,
 v183:=Tryz.zeroValue250,
 t218:=Tryz.underlying303,
 a218:=Tryz.isAgg303,
 z218:=Tryz.sizeOf303,
 v218:=Tryz.zeroValue303,
 t222:=Tryz.underlying307,
 a222:=Tryz.isAgg307,
 z222:=Tryz.sizeOf307,
 v222:=Tryz.zeroValue307,
 t228:=Tryz.underlying328,
 a228:=Tryz.isAgg328,
 z228:=Tryz.sizeOf328,
 v228:=Tryz.zeroValue328,
 t229:=Tryz.underlying97,
 a229:=Tryz.isAgg97,
 z229:=Tryz.sizeOf97,
 v229:=Tryz.zeroValue97}
end
section
set_option maxRecDepth 100000
open Go.aF Go.Proofs
noncomputable def iq:cM Int:=fB 3 [.int .i64] l1
noncomputable def ali:cM Bool:=fB 4 [.bool] l1
noncomputable def uw:cM UInt8:=kE 5
noncomputable def uy:cM (List UInt8):=fB 9 [.str] l1
noncomputable def yt:cM (List Int):=fB 22 [.bh Int iq] l1
noncomputable def afb(x:eE):=(x.aOg,x.aOh,())
noncomputable def LD:cM eE:=fB 107 [.str,.int .i64] afb
noncomputable def ak':cM (List eE):=fB 23 [.bh eE LD] l1
noncomputable def aeQ(x:cR):=(x.aOj,x.aOn,x.a,x.b,x.c,())
noncomputable def LH:cM cR:=fB 156 [.int .i64,.int .i64,.int .i64,.int .i64,.int .i64] aeQ
noncomputable def ala:cM (List cR):=fB 24 [.bh cR LH] l1
noncomputable def afa(x:ff):=(x.speed,x.iZ,x.j9,())
noncomputable def LC:cM ff:=fB 104 [.int .i64,.int .i64,.int .i64] afa
noncomputable def alb:cM (List ff):=fB 25 [.bh ff LC] l1
noncomputable def abg(x:c8):=(x.aH,x.rules,x.table,x.speed,x.iZ,())
noncomputable def alc:cM c8:=fB 27 [.bh eE LD,.bh cR LH,.bh ff LC,.int .i64,.int .i64] abg
noncomputable def abu(x:bC):=(x.aOj,x.aOh,x.iL,x.gv,x.lJ,x.kH,x.uM,x.aOl,())
noncomputable def uz:cM bC:=fB 92 [.str,.int .i64,.int .i64,.int .i64,.int .i64,.int .i64,.bool,.str] abu
noncomputable def ald:cM (List bC):=fB 33 [.bh bC uz] l1
noncomputable def ale:cM (List (List Int)):=fB 34 [.bh (List Int) yt] l1
noncomputable def abm(x:b7):=(x.aOg,x.cq,x.c7,())
noncomputable def I7:cM b7:=fB 54 [.str,.int .i64,.bh (List UInt8) uy] abm
noncomputable def alf:cM (List b7):=fB 35 [.bh b7 I7] l1
noncomputable def abt(x:c4):=(x.dS,x.pZ,x.round,x.aOh,())
noncomputable def ux:cM c4:=fB 89 [.int .i64,.int .i64,.int .i64,.int .i64] abt
noncomputable def alg:cM (List c4):=fB 36 [.bh c4 ux] l1
noncomputable def abh(x:b8):=(x.aN',x.dO,())
noncomputable def alh:cM b8:=fB 38 [.bh c4 ux,.int .i64] abh
noncomputable def abi(x:dF):=(x.aOm,x.fW,())
noncomputable def alj:cM dF:=fB 40 [.int .i64,.bh Int iq] abi
noncomputable def abj(x:e8):=(x.e9.aOm,x.e9.fW,x.chain,())
noncomputable def alk:cM e8:=fB 42 [.int .i64,.bh Int iq,.bh Int iq] abj
noncomputable def abk(x:eR):=(x.bD,x.iP.aN',x.iP.dO,x.aOc.e9.aOm,x.aOc.e9.fW,x.aOc.chain,x.aOs,x.aH,x.h9,())
noncomputable def alm:cM eR:=fB 44 [.bh Int iq,.bh c4 ux,.int .i64,.int .i64,.bh Int iq,.bh Int iq,.int .i64,.bh Int iq,.int .i64] abk
noncomputable def abl(x:bq):=(x.bD,x.aH,x.b2,x.aOb,x.bo.bD,x.bo.iP.aN',x.bo.iP.dO,x.bo.aOc.e9.aOm,x.bo.aOc.e9.fW,x.bo.aOc.chain,x.bo.aOs,x.bo.aH,x.bo.h9,x.cE,())
noncomputable def aln:cM bq:=fB 46 [.bh bC uz,.bh (List Int) yt,.bh b7 I7,.bool,.bh Int iq,.bh c4 ux,.int .i64,.int .i64,.bh Int iq,.bh Int iq,.int .i64,.bh Int iq,.int .i64,.bool] abl
noncomputable def alo:cM Int:=fB 47 [.int .i64] l1
noncomputable def aeN(x:im):=(x.aOe,x.cq,())
noncomputable def xh:cM im:=fB 140 [.int .i64,.int .i64] aeN
noncomputable def alp:cM (List im):=fB 51 [.bh im xh] l1
noncomputable def alq:cM (List (List UInt8)):=fB 52 [.bh (List UInt8) uy] l1
noncomputable def alr:cM (List UInt8):=fB 55 [.bh UInt8 uw] l1
noncomputable def abn(x:eb):=(x.aOn,x.cq,x.to,x.count,x.dO,x.aH,x.hD,x.aOo.aOg,x.aOo.cq,x.aOo.c7,x.aOg,x.data,())
noncomputable def als:cM eb:=fB 57 [.int .i64,.int .i64,.int .i64,.int .i64,.int .i64,.bh Int iq,.bh im xh,.str,.int .i64,.bh (List UInt8) uy,.str,.bh UInt8 uw] abn
noncomputable def aeP(x:cn):=(x.hX,x.aOt,x.to,x.front,())
noncomputable def LG:cM cn:=fB 149 [.int .i64,.int .i64,.int .i64,.bool] aeP
noncomputable def alu:cM (List cn):=fB 59 [.bh cn LG] l1
noncomputable def aeO(x:b6):=(x.aOk,x.reason,x.ib,x.round,())
noncomputable def LF:cM b6:=fB 142 [.int .i64,.int .i64,.int .i64,.int .i64] aeO
noncomputable def alv:cM (List b6):=fB 60 [.bh b6 LF] l1
noncomputable def abo(x:dM):=(x.aOh,x.iL,x.gv,x.mw,x.j9,x.required,x.oW,())
noncomputable def alw:cM dM:=fB 62 [.int .i64,.int .i64,.int .i64,.int .i64,.int .i64,.int .i64,.int .i64] abo
noncomputable def aeV(x:hn):=(x.stop,x.bD,x.UN,())
noncomputable def Ct:cM hn:=fB 302 [.int .i64,.int .i64,.int .i64] aeV
noncomputable def alx:cM (List hn):=fB 63 [.bh hn Ct] l1
noncomputable def abp(x:hI):=(x.aOg,x.bD,x.jt.aOh,x.jt.iL,x.jt.gv,x.jt.mw,x.jt.j9,x.jt.required,x.jt.oW,x.P0,())
noncomputable def aly:cM hI:=fB 65 [.str,.bh bC uz,.int .i64,.int .i64,.int .i64,.int .i64,.int .i64,.int .i64,.int .i64,.bh hn Ct] abp
noncomputable def abq(x:cI):=(x.err,x.vv,x.aOc.e9.aOm,x.aOc.e9.fW,x.aOc.chain,x.dW,x.aOd.aOg,x.aOd.bD,x.aOd.jt.aOh,x.aOd.jt.iL,x.aOd.jt.gv,x.aOd.jt.mw,x.aOd.jt.j9,x.aOd.jt.required,x.aOd.jt.oW,x.aOd.P0,x.cZ,x.aOe,())
noncomputable def alz:cM cI:=fB 67 [.int .i64,.bh cn LG,.int .i64,.bh Int iq,.bh Int iq,.bh b6 LF,.str,.bh bC uz,.int .i64,.int .i64,.int .i64,.int .i64,.int .i64,.int .i64,.int .i64,.bh hn Ct,.int .i64,.int .i64] abq
noncomputable def abr(x:ct):=(x.aN',x.aOq,x.aH,())
noncomputable def alA:cM ct:=fB 73 [.bh c4 ux,.bh Int iq,.bh (List Int) yt] abr
noncomputable def ae'(x:dd):=(x.l,x.n,())
noncomputable def at3:cM dd:=fB 101 [.bh Int iq,.int .i64] ae'
noncomputable def avm:List LT:=[.int .i64,.int .i64,.int .i64,.int .i64,.int .i64,.bh Int iq,.bh im xh,.str,.int .i64,.bh (List UInt8) uy,.str,.bh UInt8 uw,.int .i64,.int .i64,.int .i64,.int .i64,.int .i64,.bh Int iq,.bh im xh,.str,.int .i64,.bh (List UInt8) uy,.str,.bh UInt8 uw,.int .i64,.int .i64,.int .i64,.int .i64,.int .i64,.bh Int iq,.bh im xh,.str,.int .i64,.bh (List UInt8) uy,.str,.bh UInt8 uw]
noncomputable def aeK(x:IY):=(x.a0.aOn,x.a0.cq,x.a0.to,x.a0.count,x.a0.dO,x.a0.aH,x.a0.hD,x.a0.aOo.aOg,x.a0.aOo.cq,x.a0.aOo.c7,x.a0.aOg,x.a0.data,x.ec.aOn,x.ec.cq,x.ec.to,x.ec.count,x.ec.dO,x.ec.aH,x.ec.hD,x.ec.aOo.aOg,x.ec.aOo.cq,x.ec.aOo.c7,x.ec.aOg,x.ec.data,x.a2.aOn,x.a2.cq,x.a2.to,x.a2.count,x.a2.dO,x.a2.aH,x.a2.hD,x.a2.aOo.aOg,x.a2.aOo.cq,x.a2.aOo.c7,x.a2.aOg,x.a2.data,())
noncomputable def at4:cM IY:=fB 111 avm aeK
noncomputable def aeZ:List LT:=[.bh eE LD,.bh cR LH,.bh ff LC,.int .i64,.int .i64,.bh bC uz,.bh (List Int) yt,.bh b7 I7,.bool,.bh Int iq,.bh c4 ux,.int .i64,.int .i64,.bh Int iq,.bh Int iq,.int .i64,.bh Int iq,.int .i64,.bool,.int .i64,.int .i64,.int .i64,.int .i64,.int .i64,.bh Int iq,.bh im xh,.str,.int .i64,.bh (List UInt8) uy,.str,.bh UInt8 uw,.int .i64,.bh cn LG,.int .i64,.bh Int iq,.bh Int iq,.bh b6 LF,.str,.bh bC uz,.int .i64,.int .i64,.int .i64,.int .i64,.int .i64,.int .i64,.int .i64,.bh hn Ct,.int .i64,.int .i64]
noncomputable def aeL(x:Step):=(x.c.aH,x.c.rules,x.c.table,x.c.speed,x.c.iZ,x.y.bD,x.y.aH,x.y.b2,x.y.aOb,x.y.bo.bD,x.y.bo.iP.aN',x.y.bo.iP.dO,x.y.bo.aOc.e9.aOm,x.y.bo.aOc.e9.fW,x.y.bo.aOc.chain,x.y.bo.aOs,x.y.bo.aH,x.y.bo.h9,x.y.cE,x.e.aOn,x.e.cq,x.e.to,x.e.count,x.e.dO,x.e.aH,x.e.hD,x.e.aOo.aOg,x.e.aOo.cq,x.e.aOo.c7,x.e.aOg,x.e.data,x.r.err,x.r.vv,x.r.aOc.e9.aOm,x.r.aOc.e9.fW,x.r.aOc.chain,x.r.dW,x.r.aOd.aOg,x.r.aOd.bD,x.r.aOd.jt.aOh,x.r.aOd.jt.iL,x.r.aOd.jt.gv,x.r.aOd.jt.mw,x.r.aOd.jt.j9,x.r.aOd.jt.required,x.r.aOd.jt.oW,x.r.aOd.P0,x.r.cZ,x.r.aOe,())
noncomputable def at5:cM Step:=fB 117 aeZ aeL
noncomputable def avn:=aeZ
noncomputable def aeM(x:b0):=(x.c.aH,x.c.rules,x.c.table,x.c.speed,x.c.iZ,x.y.bD,x.y.aH,x.y.b2,x.y.aOb,x.y.bo.bD,x.y.bo.iP.aN',x.y.bo.iP.dO,x.y.bo.aOc.e9.aOm,x.y.bo.aOc.e9.fW,x.y.bo.aOc.chain,x.y.bo.aOs,x.y.bo.aH,x.y.bo.h9,x.y.cE,x.e.aOn,x.e.cq,x.e.to,x.e.count,x.e.dO,x.e.aH,x.e.hD,x.e.aOo.aOg,x.e.aOo.cq,x.e.aOo.c7,x.e.aOg,x.e.data,x.r.err,x.r.vv,x.r.aOc.e9.aOm,x.r.aOc.e9.fW,x.r.aOc.chain,x.r.dW,x.r.aOd.aOg,x.r.aOd.bD,x.r.aOd.jt.aOh,x.r.aOd.jt.iL,x.r.aOd.jt.gv,x.r.aOd.jt.mw,x.r.aOd.jt.j9,x.r.aOd.jt.required,x.r.aOd.jt.oW,x.r.aOd.P0,x.r.cZ,x.r.aOe,())
noncomputable def at6:cM b0:=fB 121 avn aeM
noncomputable def at7:cM (List ((List UInt8)×Bool)):=fB 165 [.mp (List UInt8) Bool ⟨BD,Cr,165⟩] l1
noncomputable def aeR(x:Ig):=(x.a0,x.ec,x.a2,())
noncomputable def aua:cM Ig:=fB 200 [.str,.str,.str] aeR
noncomputable def atG:cM (List (Int×Int)):=fB 218 [.mp Int Int ⟨tl .i64,tl .i64,218⟩] l1
noncomputable def aeS(x:kX):=(x.b,x.at_,())
noncomputable def atH:cM kX:=fB 267 [.bh UInt8 uw,.int .i64] aeS
noncomputable def aeX(x:hx):=(x.cq,x.aOe,())
noncomputable def XK:cM hx:=fB 339 [.int .i64,.int .i64] aeX
noncomputable def atI:cM (List hx):=fB 276 [.bh hx XK] l1
noncomputable def aeT(x:er):=(x.d.aN',x.d.aOq,x.d.aH,x.at_,x.round,())
noncomputable def atJ:cM er:=fB 278 [.bh c4 ux,.bh Int iq,.bh (List Int) yt,.bh hx XK,.bh Int iq] aeT
noncomputable def aeU(x:fa):=(x.cq,x.aOe,())
noncomputable def atK:cM fa:=fB 291 [.int .i64,.int .i64] aeU
noncomputable def aeW(x:fI):=(x.l,x.off,x.total.aOh,x.total.iL,x.total.gv,x.total.mw,x.total.j9,x.total.required,x.total.oW,())
noncomputable def atL:cM fI:=fB 322 [.bh bC uz,.bh Int iq,.int .i64,.int .i64,.int .i64,.int .i64,.int .i64,.int .i64,.int .i64] aeW
structure ak8 where
 aK:Type
 T:cM aK
 eo:aK->List Value
noncomputable def X8:Nat->ak8|3=>⟨Int,iq,tl .i64⟩|4=>⟨Bool,ali,Cr⟩|5=>⟨UInt8,uw,λ_=>[]⟩|9=>⟨(List UInt8),uy,BD⟩|22=>⟨(List Int),yt,λ_=>[]⟩|107=>⟨eE,LD,λ_=>[]⟩|23=>⟨(List eE),ak',λ_=>[]⟩|156=>⟨cR,LH,λ_=>[]⟩|24=>⟨(List cR),ala,λ_=>[]⟩|104=>⟨ff,LC,λ_=>[]⟩|25=>⟨(List ff),alb,λ_=>[]⟩|27=>⟨c8,alc,λ_=>[]⟩|92=>⟨bC,uz,λ_=>[]⟩|33=>⟨(List bC),ald,λ_=>[]⟩|34=>⟨(List (List Int)),ale,λ_=>[]⟩|54=>⟨b7,I7,λ_=>[]⟩|35=>⟨(List b7),alf,λ_=>[]⟩|89=>⟨c4,ux,λ_=>[]⟩|36=>⟨(List c4),alg,λ_=>[]⟩|38=>⟨b8,alh,λ_=>[]⟩|40=>⟨dF,alj,λ_=>[]⟩|42=>⟨e8,alk,λ_=>[]⟩|44=>⟨eR,alm,λ_=>[]⟩|46=>⟨bq,aln,λ_=>[]⟩|47=>⟨Int,alo,tl .i64⟩|140=>⟨im,xh,λ_=>[]⟩|51=>⟨(List im),alp,λ_=>[]⟩|52=>⟨(List (List UInt8)),alq,λ_=>[]⟩|55=>⟨(List UInt8),alr,λ_=>[]⟩|57=>⟨eb,als,λ_=>[]⟩|149=>⟨cn,LG,λ_=>[]⟩|59=>⟨(List cn),alu,λ_=>[]⟩|142=>⟨b6,LF,λ_=>[]⟩|60=>⟨(List b6),alv,λ_=>[]⟩|62=>⟨dM,alw,λ_=>[]⟩|302=>⟨hn,Ct,λ_=>[]⟩|63=>⟨(List hn),alx,λ_=>[]⟩|65=>⟨hI,aly,λ_=>[]⟩|67=>⟨cI,alz,λ_=>[]⟩|73=>⟨ct,alA,λ_=>[]⟩|101=>⟨dd,at3,λ_=>[]⟩|111=>⟨IY,at4,λ_=>[]⟩|117=>⟨Step,at5,λ_=>[]⟩|121=>⟨b0,at6,λ_=>[]⟩|165=>⟨(List ((List UInt8)×Bool)),at7,λ_=>[]⟩|200=>⟨Ig,aua,λ_=>[]⟩|218=>⟨(List (Int×Int)),atG,λ_=>[]⟩|267=>⟨kX,atH,λ_=>[]⟩|339=>⟨hx,XK,λ_=>[]⟩|276=>⟨(List hx),atI,λ_=>[]⟩|278=>⟨er,atJ,λ_=>[]⟩|291=>⟨fa,atK,λ_=>[]⟩|322=>⟨fI,atL,λ_=>[]⟩|_=>⟨Bool,Cn 4,Cr⟩
noncomputable def D(t:Nat):Type:=(X8 t).aK
noncomputable def G:l6 D:=⟨λt=>(X8 t).T,λt=>(X8 t).eo⟩
noncomputable def aft:dP Tryz.prog G 3:=ga [.int .i64] l1 ju Tryz.type3
noncomputable def avU:dP Tryz.prog G 4:=ga [.bool] l1 ju Tryz.type4
noncomputable def av0:dP Tryz.prog G 5:=awf (λ(x:UInt8)=>x) (λx=>x) (λx=>x) (λo=>by cases o<;>rfl) (λ_=>rfl) (λ_=>rfl) Tryz.t5 rfl rfl (λ_ _ _=>Iff.rfl) Tryz.type5 rfl rfl rfl
noncomputable def awc:dP Tryz.prog G 9:=ga [.str] l1 ju Tryz.type9
noncomputable def avK:dP Tryz.prog G 22:=ga [.bh 3] l1 ju Tryz.type22
noncomputable def au6:dP Tryz.prog G 107:=ga [.str,.int .i64] afb (λ(a,b,_)=>eE.mk a b) Tryz.type107
noncomputable def avL:dP Tryz.prog G 23:=ga [.bh 107] l1 ju Tryz.type23
noncomputable def auD:dP Tryz.prog G 156:=ga [.int .i64,.int .i64,.int .i64,.int .i64,.int .i64] aeQ (λ(a,b,c,d,e,_)=>cR.mk a b c d e) Tryz.type156
noncomputable def avM:dP Tryz.prog G 24:=ga [.bh 156] l1 ju Tryz.type24
noncomputable def au5:dP Tryz.prog G 104:=ga [.int .i64,.int .i64,.int .i64] afa (λ(a,b,c,_)=>ff.mk a b c) Tryz.type104
noncomputable def avN:dP Tryz.prog G 25:=ga [.bh 104] l1 ju Tryz.type25
noncomputable def avO:dP Tryz.prog G 27:=ga [.bh 107,.bh 156,.bh 104,.int .i64,.int .i64] abg (λ(a,b,c,d,e,_)=>c8.mk a b c d e) Tryz.type27
noncomputable def awd:dP Tryz.prog G 92:=ga [.str,.int .i64,.int .i64,.int .i64,.int .i64,.int .i64,.bool,.str] abu (λ(a,b,c,d,e,f,g,h,_)=>bC.mk a b c d e f g h) Tryz.type92
noncomputable def avP:dP Tryz.prog G 33:=ga [.bh 92] l1 ju Tryz.type33
noncomputable def avQ:dP Tryz.prog G 34:=ga [.bh 22] l1 ju Tryz.type34
noncomputable def afu:dP Tryz.prog G 54:=ga [.str,.int .i64,.bh 9] abm (λ(a,b,c,_)=>b7.mk a b c) Tryz.type54
noncomputable def avR:dP Tryz.prog G 35:=ga [.bh 54] l1 ju Tryz.type35
noncomputable def awb:dP Tryz.prog G 89:=ga [.int .i64,.int .i64,.int .i64,.int .i64] abt (λ(a,b,c,d,_)=>c4.mk a b c d) Tryz.type89
noncomputable def avS:dP Tryz.prog G 36:=ga [.bh 89] l1 ju Tryz.type36
noncomputable def avT:dP Tryz.prog G 38:=ga [.bh 89,.int .i64] abh (λ(a,b,_)=>b8.mk a b) Tryz.type38
noncomputable def avV:dP Tryz.prog G 40:=ga [.int .i64,.bh 3] abi (λ(a,b,_)=>dF.mk a b) Tryz.type40
noncomputable def avW:dP Tryz.prog G 42:=ga [.int .i64,.bh 3,.bh 3] abj (λ(a,b,c,_)=>e8.mk (dF.mk a b) c) Tryz.type42
noncomputable def avX:dP Tryz.prog G 44:=ga [.bh 3,.bh 89,.int .i64,.int .i64,.bh 3,.bh 3,.int .i64,.bh 3,.int .i64] abk (λ(a,b,c,d,e,f,g,h,i,_)=>eR.mk a (b8.mk b c) (e8.mk (dF.mk d e) f) g h i) Tryz.type44
noncomputable def avY:dP Tryz.prog G 46:=ga [.bh 92,.bh 22,.bh 54,.bool,.bh 3,.bh 89,.int .i64,.int .i64,.bh 3,.bh 3,.int .i64,.bh 3,.int .i64,.bool] abl (λ(a,b,c,d,e,f,g,h,i,j,k,l,m,p,_)=>bq.mk a b c d (eR.mk e (b8.mk f g) (e8.mk (dF.mk h i) j) k l m) p) Tryz.type46
noncomputable def avZ:dP Tryz.prog G 47:=ga [.int .i64] l1 ju Tryz.type47
noncomputable def auA:dP Tryz.prog G 140:=ga [.int .i64,.int .i64] aeN (λ(a,b,_)=>im.mk a b) Tryz.type140
noncomputable def av1:dP Tryz.prog G 51:=ga [.bh 140] l1 ju Tryz.type51
noncomputable def av2:dP Tryz.prog G 52:=ga [.bh 9] l1 ju Tryz.type52
noncomputable def av3:dP Tryz.prog G 55:=ga [.bh 5] l1 ju Tryz.type55
noncomputable def av4:dP Tryz.prog G 57:=ga [.int .i64,.int .i64,.int .i64,.int .i64,.int .i64,.bh 3,.bh 140,.str,.int .i64,.bh 9,.str,.bh 5] abn (λ(a,b,c,d,e,f,g,h,i,j,k,l,_)=>eb.mk a b c d e f g (b7.mk h i j) k l) Tryz.type57
noncomputable def auC:dP Tryz.prog G 149:=ga [.int .i64,.int .i64,.int .i64,.bool] aeP (λ(a,b,c,d,_)=>cn.mk a b c d) Tryz.type149
noncomputable def av5:dP Tryz.prog G 59:=ga [.bh 149] l1 ju Tryz.type59
noncomputable def auB:dP Tryz.prog G 142:=ga [.int .i64,.int .i64,.int .i64,.int .i64] aeO (λ(a,b,c,d,_)=>b6.mk a b c d) Tryz.type142
noncomputable def av6:dP Tryz.prog G 60:=ga [.bh 142] l1 ju Tryz.type60
noncomputable def av7:dP Tryz.prog G 62:=ga [.int .i64,.int .i64,.int .i64,.int .i64,.int .i64,.int .i64,.int .i64] abo (λ(a,b,c,d,e,f,g,_)=>dM.mk a b c d e f g) Tryz.type62
noncomputable def avz:dP Tryz.prog G 302:=ga [.int .i64,.int .i64,.int .i64] aeV (λ(a,b,c,_)=>hn.mk a b c) Tryz.type302
noncomputable def av8:dP Tryz.prog G 63:=ga [.bh 302] l1 ju Tryz.type63
noncomputable def av9:dP Tryz.prog G 65:=ga [.str,.bh 92,.int .i64,.int .i64,.int .i64,.int .i64,.int .i64,.int .i64,.int .i64,.bh 302] abp (λ(a,b,c,d,e,f,g,h,i,j,_)=>hI.mk a b (dM.mk c d e f g h i) j) Tryz.type65
noncomputable def av':dP Tryz.prog G 67:=ga [.int .i64,.bh 149,.int .i64,.bh 3,.bh 3,.bh 142,.str,.bh 92,.int .i64,.int .i64,.int .i64,.int .i64,.int .i64,.int .i64,.int .i64,.bh 302,.int .i64,.int .i64] abq (λ(a,b,c,d,e,f,g,h,i,j,k,l,m,p,q,s,t,u,_)=>cI.mk a b (e8.mk (dF.mk c d) e) f (hI.mk g h (dM.mk i j k l m p q) s) t u) Tryz.type67
noncomputable def awa:dP Tryz.prog G 73:=ga [.bh 89,.bh 3,.bh 22] abr (λ(a,b,c,_)=>ct.mk a b c) Tryz.type73
noncomputable def au4:dP Tryz.prog G 101:=ga [.bh 3,.int .i64] ae' (λ(a,b,_)=>dd.mk a b) Tryz.type101
noncomputable def avk:List hJ:=[.int .i64,.int .i64,.int .i64,.int .i64,.int .i64,.bh 3,.bh 140,.str,.int .i64,.bh 9,.str,.bh 5,.int .i64,.int .i64,.int .i64,.int .i64,.int .i64,.bh 3,.bh 140,.str,.int .i64,.bh 9,.str,.bh 5,.int .i64,.int .i64,.int .i64,.int .i64,.int .i64,.bh 3,.bh 140,.str,.int .i64,.bh 9,.str,.bh 5]
noncomputable def au7:dP Tryz.prog G 111:=ga avk aeK (λ(a,b,c,d,e,f,g,h,i,j,k,l,m,p,q,s,t,u,v,w,y,z,A,B,C,G,H,I,n,K,L,M,O,Q,R,S,_)=>IY.mk (eb.mk a b c d e f g (b7.mk h i j) k l) (eb.mk m p q s t u v (b7.mk w y z) A B) (eb.mk C G H I n K L (b7.mk M O Q) R S)) Tryz.type111
noncomputable def ae9:List hJ:=[.bh 107,.bh 156,.bh 104,.int .i64,.int .i64,.bh 92,.bh 22,.bh 54,.bool,.bh 3,.bh 89,.int .i64,.int .i64,.bh 3,.bh 3,.int .i64,.bh 3,.int .i64,.bool,.int .i64,.int .i64,.int .i64,.int .i64,.int .i64,.bh 3,.bh 140,.str,.int .i64,.bh 9,.str,.bh 5,.int .i64,.bh 149,.int .i64,.bh 3,.bh 3,.bh 142,.str,.bh 92,.int .i64,.int .i64,.int .i64,.int .i64,.int .i64,.int .i64,.int .i64,.bh 302,.int .i64,.int .i64]
noncomputable def auy:dP Tryz.prog G 117:=ga ae9 aeL (λ(tP,a,b,d,e,i,j,k,g,h,f,s,r,l,m,q,p,n,t,x,z,A,w,y,F,B,C,K,L,I,O,M,T,U,R,N,P,H,S,Q,pf,Y,X,E,Z,pL,sw,V,tQ,_)=>Step.mk (c8.mk tP a b d e) (bq.mk i j k g (eR.mk h (b8.mk f s) (e8.mk (dF.mk r l) m) q p n) t) (eb.mk x z A w y F B (b7.mk C K L) I O) (cI.mk M T (e8.mk (dF.mk U R) N) P (hI.mk H S (dM.mk Q pf Y X E Z pL) sw) V tQ)) Tryz.type117
noncomputable def avl:=ae9
noncomputable def auz:dP Tryz.prog G 121:=ga avl aeM (λ(tP,a,b,d,e,i,j,k,g,h,f,s,r,l,m,q,p,n,t,x,z,A,w,y,F,B,C,K,L,I,O,M,T,U,R,N,P,H,S,Q,pf,Y,X,E,Z,pL,sw,V,tQ,_)=>b0.mk (c8.mk tP a b d e) (bq.mk i j k g (eR.mk h (b8.mk f s) (e8.mk (dF.mk r l) m) q p n) t) (eb.mk x z A w y F B (b7.mk C K L) I O) (cI.mk M T (e8.mk (dF.mk U R) N) P (hI.mk H S (dM.mk Q pf Y X E Z pL) sw) V tQ)) Tryz.type121
noncomputable def auE:dP Tryz.prog G 165:=ga [.mp 165 9 4] l1 ju Tryz.type165
noncomputable def auF:dP Tryz.prog G 200:=ga [.str,.str,.str] aeR (λ(a,b,c,_)=>Ig.mk a b c) Tryz.type200
noncomputable def auG:dP Tryz.prog G 218:=ga [.mp 218 3 3] l1 ju Tryz.type218
noncomputable def auH:dP Tryz.prog G 267:=ga [.bh 5,.int .i64] aeS (λ(a,b,_)=>kX.mk a b) Tryz.type267
noncomputable def avB:dP Tryz.prog G 339:=ga [.int .i64,.int .i64] aeX (λ(a,b,_)=>hx.mk a b) Tryz.type339
noncomputable def avw:dP Tryz.prog G 276:=ga [.bh 339] l1 ju Tryz.type276
noncomputable def avx:dP Tryz.prog G 278:=ga [.bh 89,.bh 3,.bh 22,.bh 339,.bh 3] aeT (λ(a,b,c,d,e,_)=>er.mk (ct.mk a b c) d e) Tryz.type278
noncomputable def avy:dP Tryz.prog G 291:=ga [.int .i64,.int .i64] aeU (λ(a,b,_)=>fa.mk a b) Tryz.type291
noncomputable def avA:dP Tryz.prog G 322:=ga [.bh 92,.bh 3,.int .i64,.int .i64,.int .i64,.int .i64,.int .i64,.int .i64,.int .i64] aeW (λ(a,b,c,d,e,f,g,h,i,_)=>fI.mk a b (dM.mk c d e f g h i)) Tryz.type322
noncomputable def auY:AI Tryz.prog G 142:=Xh [.int .i64,.int .i64,.int .i64,.int .i64] (λ(x:b6)=>(x.aOk,x.reason,x.ib,x.round,())) (λ(e,a,b,d,_)=>((b6.mk e a b d):b6)) (λ_=>rfl) _ (λ(x y:b6)=>decide (x=y)) rfl (λ(x y:b6)=>decide_eq_true_iff) Tryz.underlying142 (by kernel_rfl) (by kernel_rfl) (by kernel_rfl)
noncomputable def aml:Yw Tryz.prog G 5:=⟨λa=>a,λa=>a,λ_ _ _ h=>h,λ_ _ _ _ _ _ h=>h,λ_ _ _ _ _ _ h=>h,Tryz.t5,Tryz.underlying5,Tryz.type5,rfl,λ_ _ _ _ h=>h⟩
noncomputable def api:Ax Tryz.prog G 9:=apk (λn=>n) (inferInstance:DecidableEq (List UInt8)) Tryz.underlying9 (atD Tryz.underlying9 Tryz.type9 rfl) (λ_=>rfl)
noncomputable def awq:AP Tryz.prog G 4:=awr (λn=>n) (λn=>n) (λ_=>rfl) Tryz.t4 Tryz.underlying4 Tryz.type4 (asQ Tryz.underlying4 Tryz.type4 rfl) (λ_=>rfl) rfl
noncomputable def aph:Ax Tryz.prog G 3:=apj .i64 (λn=>n) (inferInstance:DecidableEq Int) Tryz.t3 Tryz.underlying3 (atC Tryz.underlying3 Tryz.type3 rfl) (λ_=>rfl)
noncomputable def awp:AP Tryz.prog G 3:=aws .i64 (λn=>n) (λn=>n) (λ_=>rfl) Tryz.t3 Tryz.underlying3 Tryz.type3 (atU Tryz.underlying3 Tryz.type3 rfl) (λ_=>rfl) rfl
noncomputable def aq9:ns Tryz.prog G:=avF (t:=142) [.int .i64,.int .i64,.int .i64,.int .i64] (λ(x:b6)=>(x.aOk,x.reason,x.ib,x.round,())) rfl rfl ((b6.mk 0 0 0 0):b6) (λ(x:b6)=>x.aOk) ar7 218 219 rfl (by kernel_rfl) Tryz.isAgg142 Tryz.sizeOf142 (Go.Proofs.enters_of Tryz.func219 (by kernel_rfl) rfl) rfl asb
noncomputable def aud:ns Tryz.prog G:=au1 (e:=3) (ti:=89) (λn=>n) (λz x a h=>w0 (G:=G) (ls:=[hJ.int .i64]) (x:=(x,())) rfl h) (λz x=>zu (G:=G) (ls:=[hJ.int .i64]) (x:=(x,())) rfl) (λ(x:c4)=>x.pZ) 1 (λz x a h=>by rw[w0 (G:=G) (ls:=[.int .i64,.int .i64,.int .i64,.int .i64]) (x:=(λ(x:c4)=>(x.dS,x.pZ,x.round,x.aOh,())) x) rfl h];rfl) o1 aqp ar6 327 328 rfl (by kernel_rfl) (Go.Proofs.enters_of Tryz.func328 (by kernel_rfl) rfl) arS
noncomputable def aub:ns Tryz.prog G:=afh (t:=35) afu (by kernel_rfl) 169 Tryz.func169 rfl (by kernel_rfl) rfl rfl ⟨by kernel_rfl,by kernel_rfl,.of (by kernel_rfl),.of (by kernel_rfl),.of (by kernel_rfl),.of (by kernel_rfl),.of (by kernel_rfl),.of (by kernel_rfl),.of (by kernel_rfl)⟩ Tryz.underlying35
noncomputable def auc:ns Tryz.prog G:=afh (t:=22) aft (by kernel_rfl) 288 Tryz.func288 rfl (by kernel_rfl) rfl rfl ⟨by kernel_rfl,by kernel_rfl,.of (by kernel_rfl),.of (by kernel_rfl),.of (by kernel_rfl),.of (by kernel_rfl),.of (by kernel_rfl),.of (by kernel_rfl),.of (by kernel_rfl)⟩ Tryz.underlying22
noncomputable def au3:ns Tryz.prog G:=au2 (t:=3) (λn=>n) (λz x a h=>w0 (G:=G) (ls:=[hJ.int .i64]) (x:=(x,())) rfl h) (λz x=>zu (G:=G) (ls:=[hJ.int .i64]) (x:=(x,())) rfl) ve aqv asN 64 rfl (by kernel_rfl)
noncomputable def atp:vO Tryz.prog G 22 3:=⟨λa=>a,rfl,rfl,λ_ _ _ h=>⟨h,trivial⟩,Tryz.t22,Tryz.type22,rfl,rfl,rfl,Tryz.underlying22,rfl⟩
noncomputable def cT:e3 Tryz.prog D where
 G:=G
 S:=[aq9,aud,aub,auc,au3]
 I:=λt=>match t with|3=>J aft|4=>J avU|5=>J av0|9=>J awc|22=>J avK|107=>J au6|23=>J avL|156=>J auD|24=>J avM|104=>J au5|25=>J avN|27=>J avO|92=>J awd|33=>J avP|34=>J avQ|54=>J afu|35=>J avR|89=>J awb|36=>J avS|38=>J avT|40=>J avV|42=>J avW|44=>J avX|46=>J avY|47=>J avZ|140=>J auA|51=>J av1|52=>J av2|55=>J av3|57=>J av4|149=>J auC|59=>J av5|142=>J auB|60=>J av6|62=>J av7|302=>J avz|63=>J av8|65=>J av9|67=>J av'|73=>J awa|101=>J au4|111=>J au7|117=>J auy|121=>J auz|165=>J auE|200=>J auF|218=>J auG|267=>J auH|339=>J avB|276=>J avw|278=>J avx|291=>J avy|322=>J avA|_=>ae
 A:=λ_=>ae
 nm:=λk v=>match k,v with|3,3=>J (abz aph awp)|9,4=>J (abz api awq)|_,_=>ae
 B:=λt=>match t with|5=>J aml|_=>ae
 Q:=λt=>match t with|142=>J auY|_=>ae
 N:=λe t=>match e,t with|22,3=>J atp|_,_=>ae
 aao:=J ⟨0,by kernel_rfl⟩
 F:=λ_ _ _=>ak
 C:=λ_ _ _ _ _=>ae
noncomputable def _root_.Go.aF.eS.u{P:Program}{D:Nat->Type}{a:e3 P D}(T:eS a)(fn:Func):ch T.bk (en fn):=ch.nil
noncomputable section
def cd{E:mi cT}{B:Code}:ch E B:=ch.nil
def yr(N:Nat):eS cT:=eS.nil
def agJ(N:Nat):=(yr N).go (gS 9 1 [aW 0 3] [ob 2 101] [aE 2 0] [.tmp 2]) (λr x=>Al x.1) Tryz.func9
def aik(N:Nat):=(agJ N).go ⟨15,2,[ad 1],[],J (0,101),2,[ad 4,.u 0 (.recv 101)],[],[.tmp 4],ak⟩ (λr x=>HO r x.1) Tryz.func15 ((cd.aS (bi 11101 [.o 0 (.recv 101),ad 5,a6 11] [aE 0 0] [1] (b3 [ad 5]) [0,1]) λ(a,b,c,_)=>EY a b c).aS (bi 11111101 [.o 0 (.recv 101),ad 1,ad 5,a6 51] [aE 0 0] [1] (b3 [ad 5]) [0]) λ(_,a,b,c,_)=>EZ a b c)
def ajU(N:Nat):=(aik N).go ⟨199,2,[ad 1],[],J (0,101),2,[vs 4,.u 0 (.recv 101)],[],[.tmp 4],ak⟩ (λr x=>RN N r x.1) Tryz.func199 (cd.bE N (bi 111010 [.o 0 (.recv 101),ad 1,ax 5 5,ad 6] [aE 0 0,a8 5 1] [2,2] (eD 0 [.u 0 (.recv 101),.u 1 (.bh 5)]) [0,5]) λn (a,b,c,d,_)=>D1 b n a c d)
def aj'(N:Nat):=(ajU N).go (cx 251 2 [vs 0,ad 1] [a6 4]) (λr x=>Sx N x.1 x.2.1) Tryz.func251 ((cd.aS (cV 11101001000 [vs 0,ad 5] (b3 [a6 24]) [0,1,5]) λx=>aK9 x.1 x.2.1).bE N (cV 111010 [vs 0,ad 1,ad 5] (dI 0 [a6 4]) []) λn (a,b,c,_)=>aAg a b n c)
def akk(N:Nat):=(aj' N).go (cx 252 2 [vs 0,ad 1] [ad 4]) (λr x=>Ti N x.1 x.2.1) Tryz.func252 ((cd.aS (cV 1110100100101 [ad 7,a6 20] (b3 [ad 7]) [0,1,5,6]) λx=>OO x.1 x.2.1).bE N (cV 111010 [vs 0,ad 1,ad 5,ad 6] (eD 0 [ad 5]) []) λn (a,b,c,d,_)=>Gk a b n c d)
def akv(N:Nat):=(akk N).go (cx 200 1 [vs 0] [ad 2,ad 3]) (λr x=>SL N x.1) Tryz.func200
def akE(N:Nat):=(akv N).go ⟨134,2,[ad 1],[],J (0,101),2,[vs 4,.u 0 (.recv 101)],[],[.tmp 4],ak⟩ (λr x=>RO N r x.1) Tryz.func134
def akP(N:Nat):=(akE N).go ⟨38,2,[aW 1 3],[],J (0,101),2,[ad 4,.u 0 (.recv 101)],[],[.tmp 4],ak⟩ (λr x=>HP r x.1) Tryz.func38
def akZ(N:Nat):=(akP N).go ⟨135,1,[],[],J (0,101),2,[vs 2,.u 0 (.recv 101)],[],[.tmp 2],ak⟩ (λr x=>Sw r) Tryz.func135
def agK(N:Nat):=(akZ N).go ⟨84,2,[ad 1],[],J (0,101),2,[cm 1000000 92,.u 0 (.recv 101)],[],[.cell 4 92],ak⟩ (λr x=>R9 N r x.1) Tryz.func84 ((cd.aS (bi 11101001 [.o 0 (.recv 101),ob 4 92,ob 5 92,.v 26 (.int .u8),a6 27] [aE 0 0,aE 4 1,aE 5 2] [1,1,1] (b3 [a6 27]) [0,4,5,26]) λ(_,_,_,a,b,_)=>Oq a b).aS (bi 11101 [.o 0 (.recv 101),ob 4 92,ob 5 92,.v 26 (.int .u8)] [aE 0 0,aE 4 1,aE 5 2] [1,1,2] (b3 [eJ 2 92]) [0,4,5]) λ(_,_,a,b,_)=>DU a b)
def agU(N:Nat):=(agK N).go (cx 283 1 [vs 0] [ad 2]) (λr x=>SM N x.1) Tryz.func283
def ag3(N:Nat):=(agU N).go (cx 253 1 [vs 0] [ad 2,ad 3]) (λr x=>S9 N x.1) Tryz.func253 ((cd.aS (cV 11101001 [.v 11 (.int .u8),a6 12] (b3 [a6 12]) [11]) λx=>aLt x.1 x.2.1).aS (cV 1110101101 [.v 11 (.int .u8),a6 15] (b3 [a6 15]) [11]) λx=>aLu x.1 x.2.1)
def ahb(N:Nat):=(ag3 N).go (cx 91 1 [vs 0] [a6 2]) (λr x=>Ah N x.1) Tryz.func91 (((cd.aS (cV 1101001000 [vs 0,ad 3] (b3 [a6 32]) [0,3]) λx=>aFk x.1 x.2.1).bE N (cV 11010 [vs 0,ad 3] (dI 0 [a6 2]) [0]) λn x=>aFY N x.1 n x.2.1).aS (cV 1110 [vs 0] (b3 [a6 2]) []) λx=>aKW x.1)
def ahk(N:Nat):=(ahb N).go (cx 201 1 [cm 0 92] [ad 2]) (λr x=>HW N x.1) Tryz.func201 ((cd.aS (bi 1111101 [ob 1 92,ad 5,ad 6,ad 16] [aE 1 0] [1] (b3 [ad 5,ad 6]) [1]) λ(_,a,b,c,_)=>EN a b c).aS (bi 11111100110 [ob 1 92,ad 6] [aE 1 0] [1] (b3 [a6 26]) [1]) λx=>aLh x.1 x.2.1)
def ahu(N:Nat):=(ahk N).go (cx 136 1 [aW 0 92] [ad 2]) (λr x=>Rw N x.1) Tryz.func136 ((cd.bE N (cV 1110100100110 [aW 0 92,ad 3,ad 5] (dI 2 [ad 2]) [0,3]) λn (a,b,c,_)=>aJn a b n c).bE N (cV 111010 [aW 0 92,ad 3] (dI 0 [ad 2]) []) λn x=>aAQ N x.1 n x.2.1)
def ahF(N:Nat):=(ahu N).go (cx 137 1 [aW 0 5] [ad 2]) (λr x=>SN N x.1) Tryz.func137 (cd.bE N (cV 111010 [aW 0 5,ad 3,ad 4] (eD 0 [ad 3]) []) λn (a,b,c,_)=>Fm a n b c)
def ahQ(N:Nat):=(ahF N).go (gS 85 1 [aW 0 92] [ax 2 5,ad 3] [a8 2 0] [.tmp 2,.tmp 3]) (λr x=>jO N x.1) Tryz.func85 (((cd.bE N (bi 111101001001010 [ax 5 5,ob 7 92,ad 8] [a8 5 0,aE 7 1] [0,1] [⟨.exit 2,[ax 5 5],[a8 5 2]⟩] [0,6,7]) λn (a,b,c,_)=>aDC b n a c).aS (bi 1111010010011101 [ax 5 5,ob 7 92,.v 9 (.int .u8),a6 54] [a8 5 0,aE 7 1] [1,1] (b3 [.v 9 (.int .u8)]) [0,5,6,7]) λ(_,_,a,b,_)=>aLb a b).bE N (bi 1111010 [aW 0 92,ax 5 5,ad 6] [a8 5 0] [0] [⟨.exit 0,[ax 5 5],[a8 5 1]⟩] []) λn (a,b,c,_)=>aBq N a n b c)
def ah0(N:Nat):=(ahQ N).go (gS 72 0 [] [cm 1000000 27,ax 1 57] [a8 1 0] [.cell 0 27,.tmp 1]) (λr x=>SK N) Tryz.func72 (cd.bE N (bi 1111010 [ob 0 27,.o 2 (.bL 27 [(0,3),(2,4)]),ax 3 92,ad 4,ax 2002000 107,ax 2002002 104] [aE 0 0,aE 2 1,a8 3 2] [1,1,0,1,1] [⟨.exit 0,[ax 3 92],[a8 3 5]⟩] [0,2]) λn (_,_,a,b,_)=>aBA N n a b)
def ah9(N:Nat):=(ah0 N).go (cx 88 1 [vs 0] [a6 2]) (λr x=>nQ N x.1) Tryz.func88 (((cd.aS (cV 110100110010 [vs 0,ad 3] (b3 [a6 30]) [0,5,6]) λx=>C9 x.1 x.2.1).bE N (cV 11010 [vs 0,ad 5,ad 6] (dI 0 [a6 2]) [0]) λn (a,b,c,_)=>C8 a b n c).aS (cV 1110 [vs 0] (b3 [a6 2]) []) λx=>Da x.1)
def ail(N:Nat):=(ah9 N).go (cx 139 1 [cm 0 156] [a6 2]) (λr x=>Hv N x.1) Tryz.func139 (((cd.aS (bi 110100110010 [ob 1 156,ad 4,ax 11 3] [aE 1 0,a8 11 1] [1,1] (b3 [a6 22]) [1,11,12,13]) λx=>Dj x.2.1).bE N (bi 11010 [ob 1 156,ax 11 3,ad 12,ad 13] [aE 1 0,a8 11 1] [1,1] (dI 0 [a6 2]) [1]) λn (_,a,b,c,_)=>Np a b n c).aS (bi 1110 [ob 1 156] [aE 1 0] [1] (b3 [a6 2]) []) λx=>Nq x.1)
def aiv(N:Nat):=(ail N).go (cx 141 2 [cm 0 156,e1 1 156] [a6 3]) (λr x=>vB x.1 x.2.1) Tryz.func141
def aiE(N:Nat):=(aiv N).go (cx 202 2 [aW 0 156,.v 1 (.fn 141 [156])] [ad 4]) (λr x=>Qt N x.1 x.2.1.1) Tryz.func202 (cd.bE N (cV 11010 [aW 0 156,.v 1 (.fn 141 [156]),ad 7,ad 8] (dI 0 [ad 4]) []) λn (a,b,c,d,_)=>Cw a b.1 c n d)
def aiP(N:Nat):=(aiE N).go (cx 140 2 [aW 0 156,.v 1 (.fn 141 [156])] [a6 4]) (λr x=>Qq N x.1 x.2.1.1) Tryz.func140
def ai0(N:Nat):=(aiP N).go (cx 89 1 [aW 0 156] [ad 2]) (λr x=>Hu N x.1) Tryz.func89 (cd.bE N (cV 111010 [aW 0 156,aW 8 156,ad 9,ad 10] (dI 0 [ad 2]) []) λn (a,b,c,d,_)=>Di N a b c n d)
def ai9(N:Nat):=(ai0 N).go (cx 142 3 [ad 0,ad 1,ad 2] [a6 6]) (λr (a,b,c,_)=>S7 a b c) Tryz.func142 (cd.aS (cV 110 [ad 0,ad 1,ad 2] (b3 [a6 6]) []) λ(a,b,c,_)=>F5 a b c)
def ajj(N:Nat):=(ai9 N).go (cx 90 1 [aW 0 104] [a6 2]) (λr x=>afG N x.1) Tryz.func90 ((cd.aS (bi 110100110010 [ob 4 104] [aE 4 0] [1] (b3 [a6 26]) [0,5,6,7]) λx=>aC9 x.1).bE N (cV 11010 [aW 5 104,ad 6,ad 7] (dI 0 [a6 2]) [0]) λn (a,b,c,_)=>XL a b n c)
def ajs(N:Nat):=(ajj N).go (cx 43 1 [cm 0 27] [ad 2]) (λr x=>Hi N x.1) Tryz.func43 (((cd.aS (bi 1100 [ob 1 27] [aE 1 0] [1] (b3 [a6 36]) [1]) λx=>Mw x.1).aS (bi 111101001100100 [ob 1 27,.o 3 (.map 165 9 4),ob 5 107] [aE 1 0,a8 3 1,aE 5 2] [1,1,1] (b3 [a6 64]) [1,3,5,39,40,41]) λ(_,a,b,_)=>Mx N a b).bE N (bi 1111010 [ob 1 27,.o 3 (.map 165 9 4),aW 39 107,ad 40,ad 41] [aE 1 0,a8 3 1] [1,0] (dI 0 [ad 2]) [1]) λn (_,a,b,c,d,_)=>Dz N b c n a d)
def Zt(N:Nat):=(ajs N).go (gS 12 1 [cm 0 27] [cm 1000000 46,ad 3] [] [.cell 2 46,.tmp 3]) (λr x=>Ak N x.1) Tryz.func12
def Uj:fS D:=⟨95,1,[aW 0 92],[],ae,0,[ax 2 92],[a8 2 0],[.tmp 2],ak⟩
def YE(N:Nat):Uj.F:=λr x=>Hg x.1
def awx(N:Nat):gL cT Uj (YE N):=gL.imp (rq:=λ_ x=>uF x.1) rfl (λ_ _ _ h=>Lg h)<|ch.fn (ch.nil:ch (Zt N).bk (en Tryz.f95)) Tryz.func95
def Zu(N:Nat):eS cT:=(Zt N).l7 Uj (YE N) (awx N)
def Un:fS D:=⟨96,1,[aW 0 3],[],ae,0,[ax 2 3],[a8 2 0],[.tmp 2],ak⟩
def YH(N:Nat):Un.F:=λr x=>qy x.1
def awB(N:Nat):gL cT Un (YH N):=gL.imp (rq:=λ_ x=>uF x.1) rfl (λ_ _ _ h=>Lg h)<|ch.fn (ch.nil:ch (Zu N).bk (en Tryz.f96)) Tryz.func96
def Zw(N:Nat):eS cT:=(Zu N).l7 Un (YH N) (awB N)
def Ul:fS D:=⟨144,1,[aW 0 9],[],ae,0,[ax 2 9],[a8 2 0],[.tmp 2],ak⟩
def YG(N:Nat):Ul.F:=λr x=>QH x.1
def awz(N:Nat):gL cT Ul (YG N):=gL.imp (rq:=λ_ x=>uF x.1) rfl (λ_ _ _ h=>Lg h)<|ch.fn (ch.nil:ch (Zw N).bk (en Tryz.f144)) Tryz.func144
def aj2(N:Nat):eS cT:=(Zw N).l7 Ul (YG N) (awz N)
def Zx(N:Nat):=(aj2 N).go (gS 97 1 [cm 0 54] [cm 1000000 54] [] [.cell 2 54]) (λr x=>Rb x.1) Tryz.func97
def Uk:fS D:=⟨98,1,[aW 0 89],[],ae,0,[ax 2 89],[a8 2 0],[.tmp 2],ak⟩
def YF(N:Nat):Uk.F:=λr x=>QE x.1
def awy(N:Nat):gL cT Uk (YF N):=gL.imp (rq:=λ_ x=>uF x.1) rfl (λ_ _ _ h=>Lg h)<|ch.fn (ch.nil:ch (Zx N).bk (en Tryz.f98)) Tryz.func98
def aj3(N:Nat):eS cT:=(Zx N).l7 Uk (YF N) (awy N)
def aj4(N:Nat):=(aj3 N).go (gS 99 1 [cm 0 42] [cm 1000000 42] [] [.cell 2 42]) (λr x=>Rc x.1) Tryz.func99
def aj5(N:Nat):=(aj4 N).go (gS 47 1 [cm 0 46] [cm 1064000000 46,ax 1064000001 92,ax 1064000003 54] [a8 1064000001 0,a8 1064000003 1] [.cell 2 46]) (λr x=>Ss N x.1) Tryz.func47 ((cd.bE N (bi 11111010 [ob 1 46,ob 2 46,.o 3 (.bL 46 [(0,3),(1,4),(2,5)]),aW 17 22,ad 18,ad 19,ax 2003000 92,ax 2003001 22,ax 2003002 54] [aE 1 0,aE 2 1,aE 3 2] [1,1,2,1,0,1] (eD 0 [.u 2 (.bL 46 [(0,3),(1,6),(2,5)]),ax 2003001 22]) [1,2,3]) λn (_,_,a,b,c,d,_,e,_)=>FH b c n a d e).bE N (bi 111111010 [ob 2 46,.o 3 (.bL 46 [(0,2),(1,3),(2,4)]),aW 32 54,ad 33,ad 34,ax 2003000 92,ax 2003001 22,ax 2003002 54] [aE 2 0,aE 3 1] [1,2,1,1,0] (eD 2 [.u 1 (.bL 46 [(0,2),(1,3),(2,5)]),ax 2003002 54]) [2,3]) λn (_,a,b,c,d,_,_,e,_)=>NV b c n a d e)
def aj6(N:Nat):=(aj5 N).go (cx 145 2 [e1 0 117,ad 1] [a6 4]) (λr x=>tS x.1 x.2.1) Tryz.func145 (cd.aS (cV 110 [e1 0 117,ad 1] (b3 [a6 4]) []) λx=>aAi x.1 x.2.1)
def aj7(N:Nat):=(aj6 N).go (cx 66 2 [aW 0 3,ad 1] [ad 4]) (λr x=>vA N x.1 x.2.1) Tryz.func66 (cd.bE N (cV 11010 [aW 0 3,ad 1,ad 7,ad 8] (dI 0 [ad 4]) []) λn (a,b,c,d,_)=>DD a b c n d)
def aj8(N:Nat):=(aj7 N).go (cx 63 2 [aW 0 3,ad 1] [a6 4]) (λr x=>sy N x.1 x.2.1) Tryz.func63
def aj9(N:Nat):=(aj8 N).go (cx 146 2 [e1 0 117,ad 1] [a6 4]) (λr x=>HM N x.1 x.2.1) Tryz.func146 (cd.aS (bi 1110 [e1 0 117,ad 1,ob 5 44] [aE 5 0] [1] (b3 [a6 4]) []) λ(a,b,c,_)=>Fy N a b c)
def aka(N:Nat):=(aj9 N).go (cx 204 2 [cm 0 54,e1 1 3] [a6 3]) (λr x=>QS x.1 x.2.1) Tryz.func204
def akb(N:Nat):=(aka N).go (cx 166 2 [aW 0 54,.v 1 (.fn 204 [3])] [ad 4]) (λr x=>Qn N x.1 x.2.1.1) Tryz.func166 (cd.bE N (cV 11010 [aW 0 54,.v 1 (.fn 204 [3]),ad 7,ad 8] (dI 0 [ad 4]) []) λn (a,b,c,d,_)=>CI a b.1 c n d)
def akc(N:Nat):=(akb N).go (cx 203 2 [aW 0 54,.v 1 (.fn 204 [3])] [a6 4]) (λr x=>Qm N x.1 x.2.1.1) Tryz.func203
def akd(N:Nat):=(akc N).go (cx 147 2 [e1 0 117,ad 1] [a6 4]) (λr x=>R2 N x.1 x.2.1) Tryz.func147
def ake(N:Nat):=(akd N).go (cx 205 1 [aW 0 5] [ad 2,a6 3]) (λr x=>Sc N x.1) Tryz.func205 (cd.bE N (cV 1111010 [aW 0 5,ad 4,ad 5] [⟨.exit 0,[ad 4],[]⟩,⟨.ret,[ad 2,a6 3],[]⟩] [0]) λn (a,b,c,_)=>aJf a n b c)
def akf(N:Nat):=(ake N).go ⟨254,1,[],[],J (0,267),2,[ad 2,.u 0 (.recv 267)],[],[.tmp 2],ak⟩ (λr x=>SD r) Tryz.func254
def akg(N:Nat):=(akf N).go ⟨206,1,[],[],J (0,267),2,[ad 2,.u 0 (.recv 267)],[],[.tmp 2],ak⟩ (λr x=>SE r) Tryz.func206
def akh(N:Nat):=(akg N).go (cx 207 1 [aW 0 5] [ad 2]) (λr x=>Rr N x.1) Tryz.func207 (cd.bE N (cV 111010 [ad 3,aW 6 5,ad 7,ad 8] (eD 0 [ad 3]) []) λn (a,b,c,d,_)=>aAO b c n a d)
def aki(N:Nat):=(akh N).go ⟨208,1,[],[],J (0,267),2,[cm 1000000 92,a6 3,.u 0 (.recv 267)],[],[.cell 2 92,.tmp 3],ak⟩ (λr x=>RS N r) Tryz.func208 (((cd.aS (bi 11111010010010 [.o 0 (.recv 267),ob 2 92,ob 4 92,ax 5 5,a6 6,ad 8] [aE 0 0,aE 2 1,aE 4 2,a8 5 3] [1,1,1,1] (b3 [a6 6]) [0,2,4,5,7,8]) λ(_,_,_,_,a,b,_)=>aKO a b).bE N (bi 11111010 [.o 0 (.recv 267),ob 2 92,ob 4 92,ax 5 5,a6 6,ad 7] [aE 0 0,aE 2 1,aE 4 2,a8 5 3] [2,1,1,0] [⟨.exit 0,[.u 0 (.recv 267),ax 5 5,a6 6],[a8 5 4]⟩] [0,2,4]) λn (a,_,_,b,c,d,_)=>aCC n a b c d).aS (bi 11111111111110 [.o 0 (.recv 267),ob 2 92,ob 4 92,a6 6,ad 9] [aE 0 0,aE 2 1,aE 4 2] [1,1,1] (b3 [a6 6]) [0,2,4]) λ(_,_,a,b,c,_)=>aKP a b c)
def akj(N:Nat):=(aki N).go (cx 334 2 [vs 0,ad 1] [a6 4]) (λr x=>QX N x.1 x.2.1) Tryz.func334 ((cd.aS (cV 1101001000 [vs 0,ad 5] (b3 [a6 21]) [0,1,5]) λx=>LZ x.1 x.2.1).bE N (cV 11010 [vs 0,ad 5] (dI 0 [a6 4]) [0,1]) λn x=>DI x.1 n x.2.1)
def akl(N:Nat):=(akj N).go (cx 342 1 [vs 0] [ad 2]) (λr x=>Hq N x.1) Tryz.func342 ((cd.aS (cV 1110100100101 [ad 5,a6 19] (b3 [ad 5]) [0,3,4]) λx=>Db x.1 x.2.1).bE N (cV 111010 [vs 0,ad 3,ad 4] (eD 0 [ad 3]) []) λn (a,b,c,_)=>Ml a n b c)
def akm(N:Nat):=(akl N).go (cx 335 1 [vs 0] [ad 2]) (λr x=>Q3 N x.1) Tryz.func335
def akn(N:Nat):=(akm N).go (cx 324 1 [vs 0] [ad 2]) (λr x=>Q2 N x.1) Tryz.func324
def ako(N:Nat):=(akn N).go (cx 284 1 [vs 0] [ad 2,ad 3]) (λr x=>Q9 N x.1) Tryz.func284 ((cd.aS (cV 11101001 [.v 11 (.int .u8),a6 12] (b3 [a6 12]) [11]) λx=>C1 x.1 x.2.1).aS (cV 1110101101 [.v 11 (.int .u8),a6 15] (b3 [a6 15]) [11]) λx=>aDb x.1 x.2.1)
def akp(N:Nat):=(ako N).go (cx 285 1 [ad 0] [ad 2]) (λr x=>Ru x.1) Tryz.func285
def akq(N:Nat):=(akp N).go (cx 286 1 [vs 0] [a6 2]) (λr x=>RQ N x.1) Tryz.func286 (((cd.aS (cV 11010010010 [.v 4 (.int .u8)] (b3 [a6 27]) [0,3]) λx=>aKM x.1).bE N (cV 11010 [vs 0,ad 3] (dI 0 [a6 2]) [0]) λn x=>D4 x.1 n x.2.1).aS (cV 1110 [vs 0] (b3 [a6 2]) []) λx=>aKN x.1)
def akr(N:Nat):=(akq N).go (cx 255 1 [cm 0 92] [ad 2]) (λr x=>Rt N x.1) Tryz.func255 (((cd.aS (bi 1111101 [ob 1 92,ad 5,a6 16] [aE 1 0] [1] (b3 [ad 5]) [1,3]) λ(_,a,b,_)=>CP a b).aS (bi 11111100110 [ob 1 92,ad 5] [aE 1 0] [1] (b3 [a6 23]) [1]) λx=>Nv x.1 x.2.1).aS (bi 1111110011110 [ob 1 92] [aE 1 0] [1] (b3 [a6 43]) [1]) λx=>CQ x.1)
def aks(N:Nat):=(akr N).go (cx 209 1 [aW 0 92] [ad 2]) (λr x=>Hx N x.1) Tryz.func209 (cd.bE N (bi 1111010 [.o 3 (.map 165 9 4),aW 11 92,ad 12,ad 13] [a8 3 0] [0] (dI 0 [ad 2]) []) λn (a,b,c,d,_)=>CS N b c n a d)
def akt(N:Nat):=(aks N).go (gS 148 1 [aW 0 5] [ax 2 92,ad 3] [a8 2 0] [.tmp 2,.tmp 3]) (λr x=>Rj N x.1) Tryz.func148 ((cd.aS (bi 111111111010010010 [ob 6 267,ax 7 92,a6 8,ob 10 92,a6 11] [aE 6 0,a8 7 1,aE 10 2] [1,1,1] (b3 [a6 8]) [0,6,7,9,10]) λ(_,_,a,_,b,_)=>Ni a b).bE N (bi 111111111010 [aW 0 5,ob 6 267,ax 7 92,a6 8,ad 9] [aE 6 0,a8 7 1] [0,0] [⟨.exit 1,[ax 7 92,a6 8],[a8 7 2]⟩] []) λn (a,b,c,d,e,_)=>De N a n b c d e)
def aku(N:Nat):=(akt N).go (cx 150 2 [cm 0 92,e1 1 9] [a6 3]) (λr x=>QU x.1 x.2.1) Tryz.func150
def akw(N:Nat):=(aku N).go (cx 210 2 [aW 0 92,.v 1 (.fn 150 [9])] [ad 4]) (λr x=>Qp N x.1 x.2.1.1) Tryz.func210 (cd.bE N (cV 11010 [aW 0 92,.v 1 (.fn 150 [9]),ad 7,ad 8] (dI 0 [ad 4]) []) λn (a,b,c,d,_)=>CJ a b.1 c n d)
def akx(N:Nat):=(akw N).go (cx 149 2 [aW 0 92,.v 1 (.fn 150 [9])] [a6 4]) (λr x=>Qo N x.1 x.2.1.1) Tryz.func149
def aky(N:Nat):=(akx N).go (cx 287 3 [cm 0 107,aW 1 3,aW 2 3] [ad 6]) (λr (a,b,c,_)=>Rk N a b c) Tryz.func287 (cd.bE N (cV 111010 [aW 1 3,ad 7,aW 12 3,ad 13,ad 14] (eD 0 [ad 7]) []) λn (a,b,c,d,e,_)=>aA6 a c d n b e)
def Zy(N:Nat):=(aky N).go (cx 256 3 [aW 0 107,aW 1 3,aW 2 22] [a6 6]) (λr (a,b,c,_)=>Re N a b c) Tryz.func256 (((((((cd.aS (cV 1100 [aW 0 107,aW 1 3,aW 2 22] (b3 [a6 28]) [0,1,2]) λ(a,b,c,_)=>aDc a b c).aS (cV 1110100110010 [ad 8] (b3 [a6 40]) [0,1,2,29,30,31]) λx=>aPP x.1).bE N (cV 111010 [aW 29 3,ad 30,ad 31] (dI 0 [a6 6]) [0,1,2]) λn (a,b,c,_)=>aPt a b n c).aS (bi 1111101001100101001100100 [aW 1 3,ax 9 4,ad 13] [a8 9 0] [1] (b3 [a6 71]) [0,1,9,10,11,13,45,46,47,52,53,54]) λ(a,b,c,_)=>aPQ a b c).bE N (bi 11111010011001010 [aW 1 3,ax 9 4,aW 52 3,ad 53,ad 54] [a8 9 0] [2] [⟨.exit 4,[.u 0 (.bh 4)],[]⟩,⟨.ret,[a6 6],[]⟩] [0,1,9,10,11,45,46,47]) λn (a,b,c,d,e,_)=>aPv a c d n b e).aS (bi 1111101001100110 [aW 0 107,aW 1 3,ax 9 4,ad 10,aW 11 3] [a8 9 0] [1] (b3 [a6 99]) [0,1,9,45,46,47]) λ(a,b,_,c,d,_)=>aPR N a b c d).bE N (bi 11111010 [aW 0 107,aW 1 3,ax 9 4,aW 45 22,ad 46,ad 47] [a8 9 0] [0] (dI 2 [a6 6]) []) λn (a,b,c,d,e,f,_)=>aPu N a b d e n c f)
def alU(N:Nat):mi cT:=(Zy N).bk.l9 λx b a=>match x,b,a with|.const (.int .i64 34),ae,ae=>3|_,_,_=>0
def akz(N:Nat):eS cT:=(Zy N).l7 ⟨257,1,[aW 0 22],[],ae,0,[.o 2 (.ne 22 3)],[a8 2 0],[.tmp 2],ak⟩ (λr x=>Hm N x.1) (((ch.nil:ch (alU N) (en Tryz.f257)).bE N ⟨[1,1,0,1,0],[.o 3 (.ne 22 3),aW 6 22,ad 7,ad 8],[a8 3 0],[0],[⟨.exit 0,[.o 3 (.ne 22 3)],[a8 3 1]⟩],[]⟩ λn x=>CZ x.2.1 x.2.2.1 n x.1 x.2.2.2.1).fn Tryz.func257)
def vX(N:Nat):=(akz N).go (cx 227 2 [aW 0 22,ad 1] [ad 4,ad 5]) (λr x=>Ho N x.1 x.2.1) Tryz.func227 (cd.bE N (cV 11010 [ad 1,aW 9 22,ad 10,ad 11] (dI 0 [ad 4,ad 5]) []) λn (a,b,c,d,_)=>aDd N a b c n d)
def aE0:e7 D:=⟨258,4,[aX 0 149,aW 0 107,aW 1 3,.o 2 (.ne 22 3),cm 3 149],[a8 2 1],[1,2],[ad 8,.u 1 (.ne 22 3)],[],[8],ak⟩
def aCe(N:Nat):aE0.gA.F:=λx=>QZ N x.2.1 x.2.2.1 x.2.2.2.1 x.2.2.2.2.1
def aHN(N:Nat):ch (vX N).bk (en Tryz.f258):=ch.aS ch.nil ⟨[1,0,0],[aX 0 149,aW 1 3,.o 2 (.ne 22 3),ob 7 149],[a8 2 1,aE 7 2],[1,1,1],[⟨.normal,[a6 44],[]⟩],[0,1,2,7]⟩ λx=>DJ x.2.1 x.2.2.1 x.2.2.2.1
def aHO(N:Nat):ch (vX N).bk (en Tryz.f258):=ch.aS (aHN N) ⟨[1,1,1,0,0],[aX 0 149,.o 2 (.ne 22 3),ob 7 149,ad 9],[a8 2 1,aE 7 2],[1,1,1],[⟨.normal,[a6 65],[]⟩],[0,1,2,7,9,10]⟩ λx=>L0 x.2.2.1 x.2.2.2.1
def aHP(N:Nat):ch (vX N).bk (en Tryz.f258):=ch.aS (aHO N) ⟨[1,1,1,1,0,0],[aX 0 149,aW 0 107,aW 1 3,.o 2 (.ne 22 3),ob 7 149],[a8 2 1,aE 7 2],[1,2,1],[⟨.normal,[.u 1 (.ne 22 3),a6 95],[]⟩],[2,7,9,10]⟩ λx=>aC5 N x.2.1 x.2.2.1 x.2.2.2.1 x.2.2.2.2.1
def aHQ(N:Nat):ch (vX N).bk (en Tryz.f258):=ch.aS (aHP N) ⟨[1,1,1,1,1,0,1],[aX 0 149,.o 2 (.ne 22 3),ob 7 149,ad 9,ad 10,a6 97],[a8 2 1,aE 7 2],[1,2,1],[⟨.normal,[.u 1 (.ne 22 3)],[]⟩],[2,7]⟩ λx=>aC6 x.2.1 x.2.2.2.1 x.2.2.2.2.1 x.2.2.2.2.2.1
def aHR(N:Nat):ch (vX N).bk (en Tryz.f258):=ch.aS (aHQ N) ⟨[1,1,1,1,1,1,0,0,0],[aX 0 149,.o 2 (.ne 22 3),ob 7 149],[a8 2 1,aE 7 2],[1,1,1],[⟨.normal,[a6 109],[]⟩],[2,7]⟩ λx=>aC8 x.2.2.1
def aFQ(N:Nat):ch (vX N).bk (en Tryz.f258):=ch.aS (aHR N) ⟨[1,1,1,1,1,1,0],[aX 0 149,.o 2 (.ne 22 3),ob 7 149],[a8 2 1,aE 7 2],[1,2,1],[⟨.normal,[.u 1 (.ne 22 3)],[]⟩],[2]⟩ λx=>aC7 x.2.1 x.2.2.1
def aIb(N:Nat):fR cT aE0 (aCe N):=ch.iu (aFQ N) Tryz.func258
def akA(N:Nat):eS cT:=(vX N).ir aE0 (aCe N) (aIb N)
def aF2:e7 D:=⟨258,4,[aX 1 149,aW 0 107,aW 1 3,.o 2 (.ne 22 3),cm 3 149],[a8 2 1],[1,2],[ad 8,.u 1 (.ne 22 3)],[],[8],ak⟩
def aHG(N:Nat):fR cT aF2 (aCe N):=ch.iu (aFQ N) Tryz.func258
def akB(N:Nat):eS cT:=(akA N).ir aF2 (aCe N) (aHG N)
def akC(N:Nat):=(akB N).go (gS 211 4 [aW 0 107,aW 1 3,aW 2 22,aW 3 149] [aW 8 22,ad 9,ad 10] [] [.tmp 8,.tmp 9,.tmp 10]) (λr (a,b,c,d,_)=>Rv N a b c d) Tryz.func211 (cd.bE N (bi 1111010 [aW 0 107,aW 1 3,.o 11 (.ne 22 3),aW 22 149,ad 23,ad 24] [a8 11 0] [2] [⟨.exit 0,[.u 0 (.ne 22 3)],[]⟩,⟨.ret,[ad 9,ad 10],[(8,.c .gE)]⟩] [3,11]) λn (a,b,c,d,e,f,_)=>Nw N a b d e n c f)
def akD(N:Nat):=(akC N).mx ⟨151,2,[aX 0 27,aX 1 46,aX 2 57,aX 3 46,aX 4 67,.o 0 (.bL 117 [(32,6)]),aW 1 149,ax 2000032 149],[aE 0 5],[1,1,1,1,1,2,0],[ad 4,eJ 5 117],[],[4],ak⟩ (λ(_,_,_,_,_,a,b,c,_)=>HF N a b c) Tryz.func151 (cd.bE N (bi 111010 [aX 0 27,aX 1 46,aX 2 57,aX 3 46,aX 4 67,.o 0 (.bL 117 [(32,7)]),ax 5 3,aW 15 92,ad 16,ad 17,ax 2000032 149] [aE 0 5,a8 5 6] [1,1,1,1,1,1,0,1] [⟨.exit 0,[ax 5 3],[a8 5 8]⟩] [0,1]) λn (_,_,_,_,_,_,a,b,c,d,_)=>aJ4 b c n a d)
def akF(N:Nat):=(akD N).mx ⟨100,1,[aX 0 27,aX 1 46,aX 2 57,aX 3 46,aX 4 67,.o 0 (.bL 117 [(5,6),(32,7)]),ax 2000005 92,ax 2000032 149],[aE 0 5],[1,1,1,1,1,2,0,0],[ad 2,eJ 5 117],[],[2],ak⟩ (λ(_,_,_,_,_,a,b,c,_)=>Aa N a b c) Tryz.func100 (((cd.bE N (bi 11111101001100110 [aX 0 27,aX 1 46,aX 2 57,aX 3 46,aX 4 67,.o 0 (.bL 117 [(5,7),(32,8)]),ax 4 92,aW 54 3,ad 55,ad 56,ax 2000005 92,ax 2000032 149] [aE 0 5,a8 4 6] [1,1,1,1,1,1,1,1,1] (dI 3 [ad 2]) [0,3,4,48,49,50]) λn (_,_,_,_,_,_,a,b,c,d,e,_)=>aCS N a b c e n d).bE N (bi 111111010 [aX 0 27,aX 1 46,aX 2 57,aX 3 46,aX 4 67,.o 0 (.bL 117 [(5,7),(32,8)]),ax 4 92,aW 48 22,ad 49,ad 50,ax 2000005 92,ax 2000032 149] [aE 0 5,a8 4 6] [1,1,1,1,1,1,1,1,1] (dI 1 [ad 2]) [0,3,4]) λn (_,_,_,_,_,_,a,b,c,d,e,_)=>CU N a b c e n d).bE N (bi 11111111111010 [aX 0 27,aX 1 46,aX 2 57,aX 3 46,aX 4 67,.o 0 (.bL 117 [(5,7),(32,8)]),ad 3,ad 11,ax 12 149,ad 97,ad 98,ax 2000005 92,ax 2000032 149] [aE 0 5,a8 12 6] [1,1,1,1,1,1,0,1,1] [⟨.exit 5,[ax 12 149],[a8 12 9]⟩] [0]) λn (_,_,_,_,_,_,a,b,c,d,e,_)=>aCT a b d n c e)
def akG(N:Nat):=(akF N).go (cx 185 2 [aW 0 9,vs 1] [ad 4]) (λr x=>z6 N x.1 x.2.1) Tryz.func185 (cd.bE N (cV 11010 [aW 0 9,vs 1,ad 7,ad 8] (dI 0 [ad 4]) []) λn (a,b,c,d,_)=>Dx a b c n d)
def akH(N:Nat):=(akG N).go (cx 155 2 [aW 0 9,vs 1] [a6 4]) (λr x=>Hh N x.1 x.2.1) Tryz.func155
def akI(N:Nat):=(akH N).go (cx 152 2 [cm 0 27,cm 1 54] [a6 4]) (λr x=>Hj N x.1 x.2.1) Tryz.func152 (((cd.aS (bi 1100 [ob 2 27,ob 3 54] [aE 2 0,aE 3 1] [1,1] (b3 [a6 35]) [3]) λx=>Mz N x.1 x.2.1).aS (bi 1110100110010 [ob 3 54,ad 5,vs 6] [aE 3 0] [1] (b3 [a6 54]) [3,37,38,39]) λ(a,b,c,_)=>MA N a b c).bE N (bi 111010 [ob 3 54,aW 37 9,ad 38,ad 39] [aE 3 0] [1] (dI 0 [a6 4]) []) λn (a,b,c,d,_)=>DC N a b c n d)
def akJ(N:Nat):=(akI N).go (cx 154 2 [vs 0,e1 1 54] [a6 3]) (λr x=>QY N x.1 x.2.1) Tryz.func154
def akK(N:Nat):=(akJ N).go (cx 212 2 [aW 0 9,.v 1 (.fn 154 [54])] [ad 4]) (λr x=>Qv N x.1 x.2.1.1) Tryz.func212 (cd.bE N (cV 11010 [aW 0 9,.v 1 (.fn 154 [54]),ad 7,ad 8] (dI 0 [ad 4]) []) λn (a,b,c,d,_)=>Cy N a b.1 c n d)
def akL(N:Nat):=(akK N).go (cx 153 2 [aW 0 9,.v 1 (.fn 154 [54])] [a6 4]) (λr x=>Qs N x.1 x.2.1.1) Tryz.func153
def akM(N:Nat):=(akL N).mx ⟨101,1,[aX 0 27,aX 1 46,aX 2 57,aX 3 46,aX 4 67,.o 0 (.bL 117 [(7,6)]),ax 2000007 54],[aE 0 5],[1,1,1,1,1,2,0],[ad 2,ax 2000007 54,.u 5 (.bL 117 [(7,7)])],[],[2],ak⟩ (λ(_,_,_,_,_,a,b,_)=>R1 N a b) Tryz.func101 ((cd.aS (bi 1111101001100110 [aX 0 27,aX 1 46,aX 2 57,aX 3 46,aX 4 67,.o 0 (.bL 117 [(7,7)]),ob 3 54,e1 5 54,a6 6,ax 28 54] [aE 0 5,aE 3 6,a8 28 7] [1,1,1,1,1,1,1,1] (b3 [a6 52]) [0,3,28,29,30]) λ(_,_,_,_,_,_,a,b,c,_)=>aD1 a b c).bE N (bi 11111010 [aX 0 27,aX 1 46,aX 2 57,aX 3 46,aX 4 67,.o 0 (.bL 117 [(7,7)]),ob 3 54,ax 28 54,ad 29,ad 30] [aE 0 5,aE 3 6,a8 28 7] [1,1,1,1,1,1,1,1] (dI 0 [ad 2]) [0,3]) λn (_,_,_,_,_,_,a,b,c,d,_)=>aBY N a b c n d)
def akN(N:Nat):=(akM N).go (cx 156 1 [e1 0 117] [ad 2]) (λr x=>R0 N x.1) Tryz.func156 ((cd.bE N (bi 11010 [e1 0 117,ax 16 3,ad 17,ad 18] [a8 16 0] [1] (dI 0 [ad 2]) [0]) λn (a,b,c,d,_)=>Ek a b c n d).aS (cV 11100 [e1 0 117] (b3 [a6 40]) []) λx=>Oj x.1)
def akO(N:Nat):=(akN N).go (cx 157 1 [e1 0 117] [ad 2]) (λr x=>SH N x.1) Tryz.func157 ((cd.aS (cV 110100110010 [e1 0 117,ad 3,ad 4] (b3 [a6 38]) [0,9,10,11]) λ(a,b,c,_)=>aAh N a b c).bE N (cV 11010 [e1 0 117,aW 9 3,ad 10,ad 11] (dI 0 [ad 2]) [0]) λn (a,b,c,d,_)=>Fg N a b c n d)
def akQ(N:Nat):=(akO N).go (cx 124 2 [cm 0 46,ad 1] [ad 4,ad 5]) (λr x=>R5 N x.1 x.2.1) Tryz.func124 (cd.bE N (bi 11010 [ad 1,ob 2 46,aW 10 54,ad 11,ad 12] [aE 2 0] [1] (dI 0 [ad 4,ad 5]) []) λn (a,b,c,d,e,_)=>aIV N a b c d n e)
def akR(N:Nat):=(akQ N).go (sX 65 2 [cm 0 46,ad 1] [cm 1000000 89,a6 5] [.cell 4 89,.tmp 5]) (λr x=>S6 N x.1 x.2.1) Tryz.func65
def akS(N:Nat):=(akR N).go (cx 269 3 [ad 0,ad 1,ad 2] [a6 6]) (λr (a,b,c,_)=>Ie a b c) Tryz.func269 (cd.aS (cV 110 [ad 0,ad 1,ad 2] (b3 [a6 6]) []) λ(a,b,c,_)=>FU a b c)
def Zz(N:Nat):=(akS N).go (cx 224 1 [cm 0 38] [ad 2]) (λr x=>SJ N x.1) Tryz.func224 (((cd.aS (bi 111101001100100 [ob 1 38,ob 4 89] [aE 1 0,aE 4 1] [1,1] (b3 [a6 42]) [1,3,4,14,15,16]) λx=>NQ x.2.1).aS (bi 111101001100110 [ob 1 38,ad 3,ob 4 89] [aE 1 0,aE 4 1] [1,1] (b3 [a6 56]) [1,14,15,16]) λ(a,b,c,_)=>NR a b c).bE N (bi 1111010 [ob 1 38,aW 14 89,ad 15,ad 16] [aE 1 0] [1] (dI 0 [ad 2]) []) λn (a,b,c,d,_)=>Fk a b c n d)
def alV(N:Nat):mi cT:=(Zz N).bk.l9 λx b a=>match x,b,a with|.tmp 10,J (.tmp 10),J (.tmp 10)=>3|_,_,_=>0
def akT(N:Nat):eS cT:=(Zz N).l7 ⟨291,1,[cm 0 38],[],ae,0,[.o 2 (.ne 22 3)],[a8 2 0],[.tmp 2],ak⟩ (λr x=>Hk N x.1) ((((((ch.nil:ch (alV N) (en Tryz.f291)).aS ⟨[1,1,0,1,0,0,1,1,0,0,1,1,1,0,0,1,1,0,0,1,1,0,0],[ob 1 38,.o 3 (.ne 22 3),ob 6 89,ob 7 89],[aE 1 0,a8 3 1,aE 6 2,aE 7 3],[1,1,1,1],[⟨.normal,[a6 48],[]⟩],[1,3,4,5,13,14,28,29]⟩ λx=>MC x.2.2.1 x.2.2.2.1).aS ⟨[1,1,0,1,0,0,1,1,0,0,1,1,1,0,0,1,1,0],[ob 1 38,.o 3 (.ne 22 3),ad 4,ad 29],[aE 1 0,a8 3 1],[1,2],[⟨.normal,[.u 1 (.ne 22 3)],[]⟩],[1,3,4,13,14,28,29]⟩ λx=>MB x.1 x.2.1 x.2.2.1 x.2.2.2.1).bE N ⟨[1,1,0,1,0,0,1,1,0,0,1,1,1,0],[ob 1 38,.o 3 (.ne 22 3),ad 4,ad 28,ad 29],[aE 1 0,a8 3 1],[1,2],[⟨.exit 2,[.u 1 (.ne 22 3)],[]⟩],[1,3,13,14]⟩ λn x=>DF x.1 x.2.2.1 x.2.2.2.1 n x.2.1 x.2.2.2.2.1).bE N ⟨[1,1,0,1,0],[ob 1 38,.o 3 (.ne 22 3),ad 13,ad 14],[aE 1 0,a8 3 1],[1,2],[⟨.exit 0,[.u 1 (.ne 22 3)],[]⟩],[3]⟩ λn x=>DE N x.1 x.2.2.1 n x.2.1 x.2.2.2.1).fn Tryz.func291)
def akU(N:Nat):=(akT N).go (cx 330 3 [ad 0,ad 1,ad 2] [a6 6]) (λr (a,b,c,_)=>H7 a b c) Tryz.func330 (cd.aS (cV 110 [ad 0,ad 1,ad 2] (b3 [a6 6]) []) λ(a,b,c,_)=>Gj a b c)
def akV(N:Nat):=(akU N).go (cx 338 2 [ad 0,ad 1] [a6 4]) (λr x=>HU x.1 x.2.1) Tryz.func338 (cd.aS (cV 110 [ad 0,ad 1] (b3 [a6 4]) []) λx=>Fi x.1 x.2.1)
def akW(N:Nat):=(akV N).go (cx 339 1 [ad 0] [ad 2]) (λr x=>HI x.1) Tryz.func339
def akX(N:Nat):=(akW N).go (cx 340 1 [ad 0] [ad 2]) (λr x=>HV N x.1) Tryz.func340 (cd.bE N (cV 11100 [ad 0,ad 3] (eD 0 [ad 3]) []) λn x=>Fj n x.1 x.2.1)
def akY(N:Nat):=(akX N).go (cx 329 3 [ad 0,ad 1,ad 2] [ad 6,ad 7]) (λr (a,b,c,_)=>vD N a b c) Tryz.func329 (((cd.aS (cV 1100 [ad 0,ad 1,ad 2] (b3 [a6 18]) [0,1,2]) λ(a,b,c,_)=>aBz a b c).aS (cV 11111011 [ad 0,ad 1,ad 8,ad 9,a6 25] (b3 [ad 8]) [1,2]) λ(a,b,c,d,e,_)=>aDM a b c d e).bE N (cV 11111100 [ad 2,ad 8] [⟨.exit 0,[ad 8],[]⟩,⟨.ret,[ad 6,ad 7],[]⟩] [1]) λn x=>aDN N x.1 n x.2.1)
def ak0(N:Nat):=(akY N).go (gS 290 2 [cm 0 38,aW 1 22] [ax 4 3,ax 5 3,ad 6] [a8 4 0,a8 5 1] [.tmp 4,.tmp 5,.tmp 6]) (λr x=>Rf N x.1 x.2.1) Tryz.func290 ((((cd.bE N (bi 111010 [ob 2 38,ax 7 3,ad 20,ad 21] [aE 2 0,a8 7 1] [1,2] (eD 0 [.u 1 (.bh 3)]) [1,2,7]) λn (_,a,b,c,_)=>Mf b n a c).aS (bi 11111110100110010100110 [aW 1 22,ax 4 3,ax 5 3,ad 10,ax 38 3,ad 47] [a8 4 0,a8 5 1,a8 38 2] [2,1,1] (b3 [.u 0 (.bh 3)]) [1,2,4,5,10,38,39,40,46,47]) λ(a,b,c,d,_,e,_)=>aPa a b c d e).bE N (bi 1111111010011001010 [aW 1 22,ax 4 3,ax 5 3,ad 10,ax 38 3,ad 46,ad 47] [a8 4 0,a8 5 1,a8 38 2] [2,1,1] (eD 4 [.u 0 (.bh 3)]) [1,2,4,5,10,38,39,40]) λn (a,b,c,d,_,e,f,_)=>aOZ a c d e n b f).bE N (bi 1111111010 [aW 1 22,e1 2 38,ax 4 3,ax 5 3,ax 38 3,ad 39,ad 40] [a8 4 0,a8 5 1,a8 38 2] [2,2,1] [⟨.exit 2,[.u 0 (.bh 3),.u 1 (.bh 3)],[a8 4 0,a8 5 1]⟩,⟨.ret,[ad 6],[(4,.c .gE),(5,.c .gE)]⟩] []) λn (a,b,c,d,e,f,g,_)=>aOY N a b e f n c d g)
def ak1(N:Nat):=(ak0 N).go (cx 292 1 [ad 0] [ad 2,ad 3]) (λr x=>HQ N x.1) Tryz.func292 (cd.bE N (cV 111100 [ad 0,ad 4] (eD 0 [ad 4]) []) λn x=>E0 n x.1 x.2.1)
def ak2(N:Nat):=(ak1 N).go (gS 259 1 [cm 0 38] [cm 1000000 40,ad 3] [] [.cell 2 40,.tmp 3]) (λr x=>z7 N x.1) Tryz.func259 (cd.bE N (bi 111111010 [ob 2 40,.o 8 (.bL 40 [(1,2)]),ax 33 3,ad 34,ad 35] [aE 2 0,aE 8 1,a8 33 2] [1,2,1] (eD 0 [.u 1 (.bL 40 [(1,2)])]) [2,8]) λn (_,a,b,c,d,_)=>aA2 N b c n a d)
def ZA(N:Nat):=(ak2 N).go (cx 293 1 [aW 0 3] [ad 2]) (λr x=>QV N x.1) Tryz.func293 ((cd.aS (cV 1101 [a6 7] (b3 []) [0]) λx=>MF x.1).bE N (cV 1111010 [aW 0 3,ad 3,ad 4] (eD 0 [ad 3]) []) λn (a,b,c,_)=>DG a n b c)
def Um:e7 D:=⟨294,1,[ax 100000000 3,ax 100000001 3,ax 0 3],[a8 0 2],[1,1,2],[.u 2 (.bh 3)],[],[],ak⟩
def Io(N:Nat):Um.gA.F:=λx=>QI N x.2.2.1
def aei(N:Nat):ch (ZA N).bk (en Tryz.f294):=ch.bE ch.nil N ⟨[1,0],[ax 100000000 3,ax 100000001 3,ax 0 3,ad 2,ad 3],[a8 0 2],[1,1,2],[⟨.exit 0,[.u 2 (.bh 3)],[]⟩],[0]⟩ λn x=>Dy n x.2.2.1 x.2.2.2.1 x.2.2.2.2.1
def awA(N:Nat):fR cT Um (Io N):=ch.iu (aei N) Tryz.func294
def ak3(N:Nat):eS cT:=(ZA N).ir Um (Io N) (awA N)
def adV:e7 D:=⟨294,1,[ax 100000002 3,ax 100000003 3,ax 0 3],[a8 0 2],[1,1,2],[.u 2 (.bh 3)],[],[],ak⟩
def asS(N:Nat):fR cT adV (Io N):=ch.iu (aei N) Tryz.func294
def ak4(N:Nat):eS cT:=(ak3 N).ir adV (Io N) (asS N)
def ak5(N:Nat):=(ak4 N).go (gS 260 1 [cm 0 38] [ax 2 3,ad 3] [a8 2 0] [.tmp 2,.tmp 3]) (λr x=>Q0 N x.1) Tryz.func260 (((cd.aS (bi 1111111110001001001100110 [ax 6 3,ax 7 3,ad 9,ax 10 3,ad 11,ad 12] [a8 6 0,a8 7 1,a8 10 2] [1,1,1] (b3 [a6 71]) [5,6,7,9,10,11,45,46]) λ(a,b,c,_,d,e,_)=>L3 a b c d e).bE N (bi 11111111100010010 [aW 5 22,ax 6 3,ax 7 3,ad 9,ax 10 3,ad 45,ad 46] [a8 6 0,a8 7 1,a8 10 2] [1,1,1] (eD 2 [ad 9]) [5,6,7,10]) λn (a,b,c,d,_,e,f,_)=>L2 a b c e n d f).bE N (bi 11111111100 [aW 5 22,ax 6 3,ax 7 3,ad 9,ax 10 3] [a8 6 0,a8 7 1,a8 10 2] [1,1,0] [⟨.exit 0,[ax 10 3],[a8 10 3]⟩] []) λn (a,b,c,d,e,_)=>L1 N a b c n d e)
def ak6(N:Nat):=(ak5 N).go (gS 213 1 [cm 0 38] [cm 1000000 42,ad 3] [] [.cell 2 42,.tmp 3]) (λr x=>Q7 N x.1) Tryz.func213
def ak7(N:Nat):=(ak6 N).go (cx 159 1 [ad 0] [a6 2]) (λr x=>Q4) Tryz.func159
def TU(N:Nat):=(ak7 N).go ⟨214,4,[e1 0 117,cm 1 38,cm 2 40],[(3,.fn 159 [])],ae,0,[ad 8],[],[.tmp 8],aa⟩ (λr (a,b,c,_)=>QG N a b c) Tryz.func214 ((((((((cd.aS (bi 11101001100110100110 [ob 5 38,ob 6 40,ad 9,ad 10,aW 35 89,ad 37] [aE 5 0,aE 6 1] [1,1] (b3 [ad 10]) [0,3,5,6,9,30,31,35,36,37]) λ(_,a,b,c,d,e,_)=>Mr a b c d e).bE N (bi 1110100110011010 [ob 5 38,ob 6 40,ad 9,ad 10,aW 35 89,ad 36,ad 37] [aE 5 0,aE 6 1] [1,1] (eD 2 [ad 10]) [0,3,5,6,9,30,31]) λn (_,a,b,c,d,e,f,_)=>Dt a b d e n c f).bE N (bi 111010 [e1 0 117,ob 5 38,ob 6 40,ad 30,ad 31] [aE 5 0,aE 6 1] [1,1] (dI 0 [ad 8]) [0,3,5]) λn (a,b,c,d,e,_)=>Ds N a b c d n e).aS (bi 111101001100110100110 [ob 5 38,ad 13,ob 14 54,ad 15,aW 87 89,ad 89] [aE 5 0,aE 14 1] [1,1] (b3 [ad 15]) [0,3,5,13,14,79,80,81,87,88,89]) λ(_,a,_,b,c,d,_)=>Ms a b c d).bE N (bi 11110100110011010 [ob 5 38,ad 13,ob 14 54,ad 15,aW 87 89,ad 88,ad 89] [aE 5 0,aE 14 1] [1,1] (eD 6 [ad 15]) [0,3,5,14,79,80,81]) λn (_,a,_,b,c,d,e,_)=>Dv a c d n b e).aS (bi 1111010011001110100110 [e1 0 117,ob 5 38,ob 14 54,ad 15,aW 110 3,ad 112] [(3,.fn 159 []),aE 5 0,aE 14 1] [1,1] (b3 [ad 15]) [0,3,5,14,79,80,81,110,111,112]) λ(a,_,_,b,c,d,_)=>Mt a b c d).bE N (bi 111101001100111010 [e1 0 117,ob 5 38,ob 14 54,ad 15,aW 110 3,ad 111,ad 112] [(3,.fn 159 []),aE 5 0,aE 14 1] [1,1] (eD 8 [ad 15]) [0,3,5,14,79,80,81]) λn (a,_,_,b,c,d,e,_)=>Dw a c d n b e).bE N (bi 1111010 [e1 0 117,ob 5 38,aW 79 54,ad 80,ad 81] [(3,.fn 159 []),aE 5 0] [1] (dI 4 [ad 8]) []) λn (a,b,c,d,e,_)=>Du N a b c d n e)
def aLO:e7 D:=⟨158,4,[aX 0 27,aX 1 46,aX 2 57,aX 3 46,aX 4 67,aX 5 38,ob 0 117,aW 1 3,cm 2 38],[aE 0 6,(3,.fn 159 [])],[1,1,1,1,1,1,2],[ad 8,eJ 6 117],[],[8],ak⟩
def aKe(N:Nat):aLO.gA.F:=λx=>x3 N x.2.2.2.2.2.2.1 x.2.2.2.2.2.2.2.1 x.2.2.2.2.2.2.2.2.1
def aN1(N:Nat):fR cT aLO (aKe N):=ch.iu (ch.nil:ch (TU N).bk (en Tryz.f158)) Tryz.func158
def agL(N:Nat):eS cT:=(TU N).ir aLO (aKe N) (aN1 N)
def aMt:e7 D:=⟨158,4,[aX 0 27,aX 1 46,aX 2 57,aX 3 46,aX 4 67,aX 7 38,ob 0 117,aW 1 3,cm 2 38],[aE 0 6,(3,.fn 159 [])],[1,1,1,1,1,1,2],[ad 8,eJ 6 117],[],[8],ak⟩
def aNK(N:Nat):fR cT aMt (aKe N):=ch.iu (ch.nil:ch (TU N).bk (en Tryz.f158)) Tryz.func158
def agM(N:Nat):eS cT:=(agL N).ir aMt (aKe N) (aNK N)
def agN(N:Nat):=(agM N).mx ⟨102,1,[aX 0 27,aX 1 46,aX 2 57,aX 3 46,aX 4 67,ob 0 117],[aE 0 5],[1,1,1,1,1,2],[ad 2,eJ 5 117],[],[2],ak⟩ (λx=>Sj N x.2.2.2.2.2.1) Tryz.func102 ((((cd.bE N (bi 11111010 [aX 0 27,aX 1 46,aX 2 57,aX 3 46,aX 4 67,ob 0 117,aW 37 3,ad 38,ad 39] [aE 0 5] [1,1,1,1,1,1] (dI 0 [ad 2]) [0]) λn (_,_,_,_,_,a,b,c,d,_)=>OG a b c n d).bE N (bi 11111111010 [aX 0 27,aX 1 46,aX 2 57,aX 3 46,aX 4 67,ob 0 117,ax 7 3,.o 8 (.bL 38 [(0,8)]),ad 74,ad 75,ax 2008000 89] [aE 0 5,a8 7 6,aE 8 7,a8 73 6] [1,1,1,1,1,1,1,2,0] [⟨.exit 2,[.u 7 (.bL 38 [(0,9)]),ax 2008000 89],[]⟩,⟨.ret,[ad 2],[]⟩] [0,7,8]) λn (_,_,_,_,_,a,b,c,d,e,f,_)=>aEe N a b d n c e f).aS (bi 11111111110100110 [aX 0 27,aX 1 46,aX 2 57,aX 3 46,aX 4 67,ob 0 117,ax 7 3,.o 8 (.bL 38 [(0,8)]),ax 101 89,ad 103] [aE 0 5,a8 7 6,aE 8 7,a8 101 8] [1,1,1,1,1,1,1,1,1] [⟨.normal,[],[]⟩,⟨.ret,[ad 2],[]⟩] [0,7,8,101,102,103]) λ(_,_,_,_,_,a,_,_,b,c,_)=>aKu N a b c).bE N (bi 1111111111010 [aX 0 27,aX 1 46,aX 2 57,aX 3 46,aX 4 67,ob 0 117,ax 7 3,.o 8 (.bL 38 [(0,8)]),ax 101 89,ad 102,ad 103] [aE 0 5,a8 7 6,aE 8 7,a8 101 8] [1,1,1,1,1,1,1,1,1] (dI 4 [ad 2]) [0,7,8]) λn (_,_,_,_,_,a,_,_,b,c,d,_)=>aJh N a b c n d)
def agO(N:Nat):=(agN N).go (cx 58 1 [cm 0 44] [ad 2]) (λr x=>Su x.1) Tryz.func58
def agP(N:Nat):=(agO N).mx ⟨160,3,[aX 0 27,aX 1 46,aX 2 57,aX 3 46,aX 4 67,ob 0 117,ad 1,ad 2],[aE 0 5],[1,1,1,1,1,1],[.v 6 (.mp 218 3 3),ad 7],[],[6,7],ak⟩ (λ(_,_,_,_,_,a,b,c,_)=>RB N a b c) Tryz.func160 ((((cd.aS (bi 11110100110010 [aX 0 27,aX 1 46,aX 2 57,aX 3 46,aX 4 67,ob 0 117,ad 1,.o 8 (.map 218 3 3),ob 10 140] [aE 0 5,a8 8 6,aE 10 7] [1,1,1,1,1,1,1,1] (b3 [a6 50]) [0,1,2,8,29,30,31]) λ(_,_,_,_,_,a,b,_,c,_)=>aKG a b c).bE N (bi 1111010 [aX 0 27,aX 1 46,aX 2 57,aX 3 46,aX 4 67,ob 0 117,ad 1,.o 8 (.map 218 3 3),aW 29 140,ad 30,ad 31] [aE 0 5,a8 8 6] [1,1,1,1,1,1,1] [⟨.exit 0,[],[]⟩,⟨.ret,[ad 7],[(6,.c .oY)]⟩] [0,2,8]) λn (_,_,_,_,_,a,b,_,c,d,e,_)=>aAT a b c d n e).bE N (bi 11111010 [aX 0 27,aX 1 46,aX 2 57,aX 3 46,aX 4 67,ob 0 117,.o 8 (.map 218 3 3),aW 56 140,ad 57,ad 58] [aE 0 5,a8 8 6] [1,1,1,1,1,1,2] [⟨.exit 2,[.u 6 (.map 218 3 3)],[]⟩,⟨.ret,[ad 7],[(6,.c .oY)]⟩] [0,2,8]) λn (_,_,_,_,_,_,a,b,c,d,_)=>aIL b c n a d).bE N (bi 111111010 [aX 0 27,aX 1 46,aX 2 57,aX 3 46,aX 4 67,ob 0 117,ad 2,.o 8 (.map 218 3 3),aW 80 140,ad 81,ad 82] [aE 0 5,a8 8 6] [1,1,1,1,1,1,1] [⟨.exit 4,[],[]⟩,⟨.ret,[ad 7],[(6,.c .oY)]⟩] [0,8]) λn (_,_,_,_,_,_,a,_,b,c,d,_)=>aIM a b c n d)
def agQ(N:Nat):=(agP N).go (cx 59 2 [cm 0 46,ad 1] [ad 4]) (λr x=>Sv N x.1 x.2.1) Tryz.func59 (cd.bE N (bi 1111010 [ob 2 46,ob 5 44,ad 6,ad 7] [aE 2 0,aE 5 1] [1,1] (dI 0 [ad 4]) [1,2]) λn (_,a,b,c,_)=>FJ a b n c)
def agR(N:Nat):=(agQ N).go ⟨151,2,[aW 1 149],[],J (0,117),2,[ad 4,.u 0 (.recv 117)],[],[.tmp 4],ak⟩ (λr x=>HT N r x.1) Tryz.func151 (cd.bE N (bi 111010 [.o 0 (.recv 117),ax 5 3,aW 15 92,ad 16,ad 17] [aE 0 0,a8 5 1] [1,0] [⟨.exit 0,[ax 5 3],[a8 5 2]⟩] [0,1]) λn (_,a,b,c,d,_)=>aJC b c n a d)
def agS(N:Nat):=(agR N).go ⟨161,1,[],[],J (0,117),2,[.u 0 (.recv 117)],[],[],ak⟩ (λr x=>x4 r) Tryz.func161
def Zj(N:Nat):=(agS N).mx ⟨103,1,[aX 0 27,aX 1 46,aX 2 57,aX 3 46,aX 4 67,.o 0 (.bL 117 [(32,6)]),ax 2000032 149],[aE 0 5],[1,1,1,1,1,2,0],[ad 2,eJ 5 117],[],[2],ak⟩ (λ(_,_,_,_,_,a,b,_)=>Sk N a b) Tryz.func103 ((((cd.aS (bi 111111111110100110011010 [aX 0 27,aX 1 46,aX 2 57,aX 3 46,aX 4 67,ob 0 117,ax 9 149,ad 12,ad 13,a6 14] [aE 0 5,(3,.box 5 9),a8 9 6] [1,1,1,1,1,1,1] (b3 [a6 78]) [0,3,4,6,8,9,11,12,13,54,55,56]) λ(_,_,_,_,_,_,_,a,b,c,_)=>aAf a b c).aS (bi 111111111110100110011011 [aX 0 27,aX 1 46,aX 2 57,aX 3 46,aX 4 67,ob 0 117,a6 8,ax 9 149,ad 12,ad 13,a6 78] [aE 0 5,(3,.box 5 9),a8 9 6] [1,1,1,1,1,1,1] (b3 [a6 8,ad 12]) [0,3,4,6,9,11,54,55,56]) λ(_,_,_,_,_,_,a,_,b,c,d,_)=>aB8 a b c d).bE N (bi 11111111111010 [aX 0 27,aX 1 46,aX 2 57,aX 3 46,aX 4 67,ob 0 117,ad 4,.v 6 (.mp 218 3 3),a6 8,ax 9 149,aW 54 3,ad 55,ad 56] [aE 0 5,(3,.box 5 9),a8 9 6] [1,1,1,1,1,1,0] [⟨.exit 0,[a6 8,ax 9 149],[a8 9 7]⟩] [0,3]) λn (_,_,_,_,_,a,b,c,d,e,f,g,h,_)=>aB7 N a b c f g n d e h).aS (bi 111111111111110 [aX 0 27,aX 1 46,aX 2 57,aX 3 46,aX 4 67,ob 0 117,a6 8] [aE 0 5,(3,.box 5 9)] [1,1,1,1,1,2] (b3 [eJ 5 117]) [0]) λ(_,_,_,_,_,a,b,_)=>aEf a b)
def sO(N:Nat):mi cT:=(Zj N).bk.l9 λx b a=>match x,b,a with|.func 62,ae,ae=>5|_,_,_=>0
def apD:Cl Tryz.prog 62:=W7 (t3:=3) (t4:=4) (ty:=20) (tz:=20) Tryz.func62 rfl rfl rfl rfl rfl rfl rfl rfl (by decide) (by decide) rfl (λw=>by kernel_rfl) λw=>by kernel_rfl
def amk:qm Tryz.prog Tryz.f20 (oh (en Tryz.f20)):=.inr ⟨_,_,_,_,_,62,21,_,rfl,rfl,rfl,rfl,rfl,rfl,rfl,rfl,rfl,apD⟩
def aNl(N:Nat):ch (sO N) (oh (en Tryz.f20)):=ch.bE ch.nil N ⟨[1,1,1,0,1,0],[ob 1 46,.o 2 (.bL 73 [(0,4),(1,5),(2,6)]),.o 3 (.bL 22 [(0,7)]),ob 4 47,aW 27 54,ad 28,ad 29,ax 2002000 89,ax 2002001 3,ax 2002002 22,ax 2003000 3],[aE 1 0,aE 2 1,aE 3 2,aE 4 3],[1,2,1,1,1,0,1,1],[⟨.exit 0,[.u 1 (.bL 73 [(0,4),(1,8),(2,6)]),ax 2002001 3],[]⟩],[1,2,3,4]⟩ λn x=>NI x.2.2.2.2.1 x.2.2.2.2.2.1 n x.2.1 x.2.2.2.2.2.2.1 x.2.2.2.2.2.2.2.2.1
def aNz(N:Nat):ch (sO N) (oh (en Tryz.f20)):=ch.aS (aNl N) ⟨[1,1,1,1,0,1,0,0,1,1,0,0,1,1,0,0,1,1,0,0,1,0],[ob 1 46,.o 2 (.bL 73 [(0,4),(1,5),(2,6)]),.o 3 (.bL 22 [(0,7)]),ob 4 47,ad 7,ad 10,ax 2002000 89,ax 2002001 3,ax 2002002 22,ax 2003000 3],[aE 1 0,aE 2 1,aE 3 2,aE 4 3],[1,1,1,1,1,1,1,1],[⟨.normal,[a6 65],[]⟩],[1,2,3,4,7,10,42,43,44,49,50,51]⟩ λx=>aKK N x.1 x.2.2.2.2.1 x.2.2.2.2.2.1 x.2.2.2.2.2.2.2.1
def aNo(N:Nat):ch (sO N) (oh (en Tryz.f20)):=ch.aS (aNz N) ⟨[1,1,1,1,0,1,0,0,1,1,0,0,1,1,0,0,1,1,0],[ob 1 46,.o 2 (.bL 73 [(0,4),(1,5),(2,6)]),.o 3 (.bL 22 [(0,7)]),ob 4 47,ad 7,aW 49 3,ad 51,ax 2002000 89,ax 2002001 3,ax 2002002 22,ax 2003000 3],[aE 1 0,aE 2 1,aE 3 2,aE 4 3],[1,1,2,1,1,1,1,0],[⟨.normal,[.u 2 (.bL 22 [(0,8)]),ax 2003000 3],[]⟩],[1,2,3,4,7,42,43,44,49,50,51]⟩ λx=>aKJ N x.1 x.2.2.2.2.1 x.2.2.2.2.2.1 x.2.2.2.2.2.2.1 x.2.2.2.2.2.2.2.2.1 x.2.2.2.2.2.2.2.2.2.2.1
def aNn(N:Nat):ch (sO N) (oh (en Tryz.f20)):=ch.bE (aNo N) N ⟨[1,1,1,1,0,1,0,0,1,1,0,0,1,1,0],[ob 1 46,.o 2 (.bL 73 [(0,4),(1,5),(2,6)]),.o 3 (.bL 22 [(0,7)]),ob 4 47,ad 7,aW 49 3,ad 50,ad 51,ax 2002000 89,ax 2002001 3,ax 2002002 22,ax 2003000 3],[aE 1 0,aE 2 1,aE 3 2,aE 4 3],[1,1,2,1,1,1,1,0],[⟨.exit 4,[.u 2 (.bL 22 [(0,8)]),ax 2003000 3],[]⟩],[1,2,3,4,42,43,44]⟩ λn x=>MQ N x.1 x.2.2.2.2.1 x.2.2.2.2.2.1 x.2.2.2.2.2.2.1 x.2.2.2.2.2.2.2.2.2.1 n x.2.2.1 x.2.2.2.2.2.2.2.1 x.2.2.2.2.2.2.2.2.2.2.2.1
def aNm(N:Nat):ch (sO N) (oh (en Tryz.f20)):=ch.bE (aNn N) N ⟨[1,1,1,1,0,1,0],[ob 1 46,.o 2 (.bL 73 [(0,4),(1,5),(2,6)]),.o 3 (.bL 22 [(0,7)]),ob 4 47,aW 42 22,ad 43,ad 44,ax 2002000 89,ax 2002001 3,ax 2002002 22,ax 2003000 3],[aE 1 0,aE 2 1,aE 3 2,aE 4 3],[1,1,2,1,1,1,1,0],[⟨.exit 2,[.u 2 (.bL 22 [(0,8)]),ax 2003000 3],[]⟩],[1,2,3,4]⟩ λn x=>EE N x.1 x.2.2.2.2.1 x.2.2.2.2.2.1 x.2.2.2.2.2.2.2.2.1 n x.2.2.1 x.2.2.2.2.2.2.1 x.2.2.2.2.2.2.2.2.2.2.1
def aNA(N:Nat):ch (sO N) (oh (en Tryz.f20)):=ch.bE (aNm N) N ⟨[1,1,1,1,1,1,1,0,1,0],[ob 1 46,.o 2 (.bL 73 [(0,5),(1,6),(2,7)]),.o 3 (.bL 22 [(0,4)]),ob 4 47,ax 78 3,ad 79,ad 80,ax 2002000 89,ax 2002001 3,ax 2002002 22],[aE 1 0,aE 2 1,aE 3 2,aE 4 3,a8 78 4],[1,2,1,1,1,0,1,1],[⟨.exit 6,[.u 1 (.bL 73 [(0,8),(1,6),(2,7)]),ax 2002000 89],[]⟩],[1,2,3,4]⟩ λn x=>aIS N x.1 x.2.2.2.2.1 x.2.2.2.2.2.1 n x.2.1 x.2.2.2.2.2.2.1 x.2.2.2.2.2.2.2.1
def aND(N:Nat):ch (sO N) (oh (en Tryz.f20)):=ch.aS (aNA N) ⟨[1,1,1,1,1,1,1,1,0,1,0,0,1,1,0,0,1,1,0,1,0,0,1,1,0],[.o 2 (.bL 73 [(0,4),(1,5),(2,6)]),.o 3 (.bL 22 [(0,7)]),ob 4 47,ax 17 3,aW 104 3,ad 106,ax 2002000 89,ax 2002001 3,ax 2002002 22,ax 2003000 3],[aE 2 0,aE 3 1,aE 4 2,a8 17 3],[1,1,1,0,1,1,1,1],[⟨.normal,[ax 17 3],[a8 17 8]⟩],[2,3,4,98,99,100,104,105,106]⟩ λx=>aI3 N x.2.2.2.1 x.2.2.2.2.1 x.2.2.2.2.2.1 x.2.2.2.2.2.2.2.2.2.1
def aNC(N:Nat):ch (sO N) (oh (en Tryz.f20)):=ch.bE (aND N) N ⟨[1,1,1,1,1,1,1,1,0,1,0,0,1,1,0,0,1,1,0,1,0],[.o 2 (.bL 73 [(0,4),(1,5),(2,6)]),.o 3 (.bL 22 [(0,7)]),ob 4 47,ax 17 3,aW 104 3,ad 105,ad 106,ax 2002000 89,ax 2002001 3,ax 2002002 22,ax 2003000 3],[aE 2 0,aE 3 1,aE 4 2,a8 17 3],[1,1,1,0,1,1,1,1],[⟨.exit 10,[ax 17 3],[a8 17 8]⟩],[2,3,4,98,99,100]⟩ λn x=>aIU N x.2.2.2.2.1 x.2.2.2.2.2.1 x.2.2.2.2.2.2.2.2.2.2.1 n x.2.2.2.1 x.2.2.2.2.2.2.1
def aNB(N:Nat):ch (sO N) (oh (en Tryz.f20)):=ch.bE (aNC N) N ⟨[1,1,1,1,1,1,1,1,0,1,0],[.o 2 (.bL 73 [(0,3),(1,4),(2,5)]),.o 3 (.bL 22 [(0,6)]),ob 4 47,aW 98 22,ad 99,ad 100,ax 2002000 89,ax 2002001 3,ax 2002002 22,ax 2003000 3],[aE 2 0,aE 3 1,aE 4 2],[2,1,1,1,1,0,1],[⟨.exit 8,[.u 0 (.bL 73 [(0,3),(1,4),(2,7)]),ax 2002002 22],[]⟩],[2,3,4]⟩ λn x=>aIT N x.2.2.2.1 x.2.2.2.2.1 x.2.2.2.2.2.2.2.2.2.1 n x.1 x.2.2.2.2.2.1 x.2.2.2.2.2.2.2.2.1
def aE6:fS D:=⟨20,1,[cm 0 46],[],ae,0,[cm 1000000 73,ax 1000001 3,ad 1000002],[a8 1000001 0],[.cell 2 73,.cell 3 22,.cell 4 47],ak⟩
def aCl(N:Nat):aE6.F:=λr x=>RI N x.1
def aIh(N:Nat):gL cT aE6 (aCl N):=ch.fd (aNB N) Tryz.func20 amk
def agT(N:Nat):eS cT:=(Zj N).l7 aE6 (aCl N) (aIh N)
def agV(N:Nat):=(agT N).go (gS 261 1 [cm 0 73] [ax 2 339,a6 3] [a8 2 0] [.tmp 2,.tmp 3]) (λr x=>HD N x.1) Tryz.func261 (((cd.aS (bi 111110100110011001100100 [ax 4 339,ax 5 4,ad 10] [a8 4 0,a8 5 1] [1,1] (b3 [a6 47]) [4,5,6,7,9,10,20,21,22,27,28,29]) λ(a,b,c,_)=>MG a b c).bE N (bi 1111101001100110 [ax 4 339,ax 5 4,ad 6,ad 7,aW 27 3,ad 28,ad 29] [a8 4 0,a8 5 1] [2,2] [⟨.exit 2,[.u 0 (.bh 339),.u 1 (.bh 4),ad 6],[]⟩,⟨.ret,[a6 3],[(2,.c .gE)]⟩] [4,5,20,21,22]) λn (a,b,c,d,e,f,g,_)=>Ea d e f n a b c g).bE N (bi 11111010 [ax 4 339,ax 5 4,ad 6,aW 20 22,ad 21,ad 22] [a8 4 0,a8 5 1] [0,0] [⟨.exit 0,[ax 4 339,ad 6],[a8 4 2]⟩,⟨.ret,[a6 3],[(2,.c .gE)]⟩] [4]) λn (a,b,c,d,e,f,_)=>Nh N d e n a b c f)
def agW(N:Nat):=(agV N).go (cx 215 1 [cm 0 73] [a6 2]) (λr x=>RV N x.1) Tryz.func215 (((((cd.aS (bi 1100 [ob 1 73] [aE 1 0] [1] (b3 [a6 24]) [1]) λx=>D6 x.1).aS (bi 1110100110010 [ob 1 73,ad 3,ad 4] [aE 1 0] [1] (b3 [a6 49]) [1,26,27,28]) λ(a,b,c,_)=>Nd N a b c).bE N (bi 111010 [ob 1 73,aW 26 3,ad 27,ad 28] [aE 1 0] [1] (dI 0 [a6 2]) [1]) λn (a,b,c,d,_)=>Nc N a b c n d).aS (bi 11110100110010 [ob 1 73,ob 6 89] [aE 1 0,aE 6 1] [1,1] (b3 [a6 93]) [1,52,53,54]) λx=>aCD x.1 x.2.1).bE N (bi 1111010 [ob 1 73,aW 52 89,ad 53,ad 54] [aE 1 0] [1] (dI 2 [a6 2]) [1]) λn (a,b,c,d,_)=>aBU a b c n d)
def agX(N:Nat):=(agW N).go (gS 216 1 [cm 0 73] [.o 2 (.bL 278 [(3,1),(4,2)]),ax 2002003 339,ax 2002004 3] [aE 2 0] [.tmp 2]) (λr x=>Sg N x.1) Tryz.func216 (cd.bE N (bi 1111010 [.o 3 (.bL 278 [(3,1),(4,2)]),ad 24,ad 25,ax 2003003 339,ax 2003004 3] [aE 3 0] [1,1,2] (eD 0 [.u 2 (.bh 3)]) [3]) λn (_,a,b,_,c,_)=>Oz a n b c)
def agY(N:Nat):=(agX N).go (cx 262 2 [e1 0 278,ad 1] [a6 4]) (λr x=>SG x.1 x.2.1) Tryz.func262
def agZ(N:Nat):=(agY N).go (cx 295 3 [e1 0 278,ad 1,ad 2] [a6 6]) (λr (a,b,c,_)=>qz a b c) Tryz.func295 (cd.aS (cV 110 [e1 0 278,ad 1,ad 2] (b3 [a6 6]) []) λ(a,b,c,_)=>xm a b c)
def ag0(N:Nat):=(agZ N).go (cx 296 3 [e1 0 278,ad 1,ad 2] [a6 6]) (λr (a,b,c,_)=>RY a b c) Tryz.func296 (cd.aS (cV 110 [e1 0 278,ad 1,ad 2] (b3 [a6 6]) []) λ(a,b,c,_)=>Ec a b c)
def ag1(N:Nat):=(ag0 N).go (cx 297 3 [e1 0 278,ad 1,ad 2] [a6 6]) (λr (a,b,c,_)=>RZ a b c) Tryz.func297 (cd.aS (cV 110 [e1 0 278,ad 1,ad 2] (b3 [a6 6]) []) λ(a,b,c,_)=>Eg a b c)
def ag2(N:Nat):=(ag1 N).go (cx 263 5 [e1 0 278,ad 1,ad 2,ad 3,ad 4] [a6 10]) (λr (a,b,c,d,e,_)=>Rh a b c d e) Tryz.func263 ((((((cd.aS (cV 110100 [e1 0 278,ad 1,ad 3] (b3 [a6 10]) []) λ(a,b,c,_)=>C7 a b c).aS (cV 11100 [e1 0 278,ad 3] (b3 [a6 32]) [0,1,2,3,4]) λx=>aPb x.1 x.2.1).aS (cV 1111000 [ad 2,ad 4] (b3 [a6 33]) [0,1,2,3,4]) λx=>aPc x.1 x.2.1).aS (cV 111100100 [e1 0 278,ad 1,ad 3] (b3 [a6 10]) []) λ(a,b,c,_)=>aPd a b c).aS (cV 11110011100 [e1 0 278,ad 1,ad 3,ad 4] (b3 [a6 10]) []) λ(a,b,c,d,_)=>aPe a b c d).aS (cV 1111001111100 [e1 0 278,ad 1,ad 3,ad 4] (b3 [a6 10]) []) λ(a,b,c,d,_)=>aPf a b c d)
def Zk(N:Nat):=(ag2 N).go (sX 217 3 [e1 0 278,ad 1,ad 2] [cm 1000000 142,a6 7] [.cell 6 142,.tmp 7]) (λr (a,b,c,_)=>S4 N a b c) Tryz.func217 (((cd.aS (bi 11101 [e1 0 278,ad 1,ob 6 142,ax 8 3,a6 14] [aE 6 0,a8 8 1] [2,0] [⟨.normal,[eJ 0 142,aW 8 3],[]⟩,⟨.ret,[eJ 0 142,a6 7],[]⟩] [0,1,2,6]) λ(a,b,c,d,e,_)=>F1 a b c d e).bE N (bi 111101001100110 [e1 0 278,ad 1,ad 2,ob 6 142,ad 10,ad 34,ad 35] [aE 6 0] [2] [⟨.exit 2,[eJ 0 142],[]⟩,⟨.ret,[eJ 0 142,a6 7],[]⟩] [0,1,2,6,23,24,25]) λn (a,b,c,d,e,f,g,_)=>aJO a b c e f n d g).bE N (bi 1111010 [e1 0 278,ad 1,ad 2,ob 6 142,aW 23 3,ad 24,ad 25] [aE 6 0] [2] [⟨.exit 0,[eJ 0 142],[]⟩,⟨.ret,[eJ 0 142,a6 7],[]⟩] [6]) λn (a,b,c,d,e,f,g,_)=>O2 N a b c e f n d g)
def alN(N:Nat):mi cT:=(Zk N).bk.l9 λx b a=>match x,b,a with|.tmp 49,J (.tmp 50),ae=>1|_,_,_=>0
def TM(N:Nat):eS cT:=(Zk N).l7 ⟨162,1,[cm 0 73],[],ae,0,[ax 2 142,ad 3],[a8 2 0],[.tmp 2,.tmp 3],ak⟩ (λr x=>RU N x.1) (((((((ch.nil:ch (alN N) (en Tryz.f162)).aS ⟨[1,1,1,1,0,1,0,0,0,0,1,0,1,0,0,1,1,0],[ob 1 73,.o 4 (.bL 278 [(3,3),(4,4)]),ax 5 142,ad 6,ad 25,ax 2004003 339,ax 2004004 3],[aE 1 0,aE 4 1,a8 5 2],[1,1,0,1,1],[⟨.normal,[ax 5 142],[a8 5 5]⟩],[1,4,6,7,24,25]⟩ λx=>aKQ N x.2.1 x.2.2.1 x.2.2.2.1 x.2.2.2.2.1 x.2.2.2.2.2.1 x.2.2.2.2.2.2.1).bE N ⟨[1,1,1,1,0,1,0,0,0,0,1,0,1,0],[ob 1 73,.o 4 (.bL 278 [(3,3),(4,4)]),ax 5 142,ad 6,ad 24,ad 25,ax 2004003 339,ax 2004004 3],[aE 1 0,aE 4 1,a8 5 2],[1,1,0,1,1],[⟨.exit 2,[ax 5 142],[a8 5 5]⟩],[1,4,6,7]⟩ λn x=>aJu N x.2.1 x.2.2.2.1 x.2.2.2.2.1 x.2.2.2.2.2.2.1 x.2.2.2.2.2.2.2.1 n x.2.2.1 x.2.2.2.2.2.1).bE N ⟨[1,1,1,1,0,1,0,0,0,0,1,1,0,1,0],[ob 1 73,.o 4 (.bL 278 [(3,3),(4,4)]),ax 5 142,ad 6,.v 51 (.cut 2 142),ad 52,ad 53,ax 2004003 339,ax 2004004 3],[aE 1 0,aE 4 1,a8 5 2],[1,1,1,1,2],[⟨.exit 4,[.u 4 (.bh 3)],[]⟩],[1,4,5,6,7]⟩ λn x=>aJv x.2.2.1 x.2.2.2.1 x.2.2.2.2.1 x.2.2.2.2.2.1 n x.2.2.2.2.2.2.1 x.2.2.2.2.2.2.2.2.1).aS ⟨[1,1,1,1,0,1,0,0,0,0,1,1,1,0],[ob 1 73,.o 4 (.bL 278 [(3,3),(4,4)]),ax 5 142,ad 6,ad 7,ax 2004003 339,ax 2004004 3],[aE 1 0,aE 4 1,a8 5 2],[1,1,1,1,1],[⟨.normal,[a6 73],[]⟩],[1,4,5,6]⟩ λx=>aKR x.2.2.1 x.2.2.2.1 x.2.2.2.2.1).bE N ⟨[1,1,1,1,0,1,0],[ob 1 73,.o 4 (.bL 278 [(3,3),(4,4)]),ax 5 142,ad 6,ax 2004003 339,ax 2004004 3],[aE 1 0,aE 4 1,a8 5 2],[1,1,0,1,2],[⟨.exit 0,[ax 5 142],[a8 5 5]⟩],[]⟩ λn x=>Nb N x.1 x.2.1 x.2.2.2.2.1 n x.2.2.1 x.2.2.2.1 x.2.2.2.2.2.1).fn Tryz.func162)
def aLL:e7 D:=⟨161,1,[aX 0 27,aX 1 46,aX 2 57,aX 3 46,aX 4 67,ax 100000005 3,aX 6 73,ax 100000007 142,ob 0 117],[aE 0 8],[1,1,1,1,1,1,1,1,2],[eJ 8 117],[],[],ak⟩
def aKb(N:Nat):aLL.gA.F:=λx=>Ry x.2.2.2.2.2.2.2.2.1
def aNY(N:Nat):fR cT aLL (aKb N):=ch.iu (ch.nil:ch (TM N).bk (en Tryz.f161)) Tryz.func161
def ag4(N:Nat):eS cT:=(TM N).ir aLL (aKb N) (aNY N)
def aMm:e7 D:=⟨161,1,[aX 0 27,aX 1 46,aX 2 57,aX 3 46,aX 4 67,ax 100000008 3,aX 9 73,ax 100000010 142,ob 0 117],[aE 0 8],[1,1,1,1,1,1,1,1,2],[eJ 8 117],[],[],ak⟩
def aNs(N:Nat):fR cT aMm (aKb N):=ch.iu (ch.nil:ch (TM N).bk (en Tryz.f161)) Tryz.func161
def ag5(N:Nat):eS cT:=(ag4 N).ir aMm (aKb N) (aNs N)
def ag6(N:Nat):=(ag5 N).go (cx 265 2 [cm 0 73,aW 1 142] [a6 4]) (λr x=>RW N x.1 x.2.1) Tryz.func265 ((((((((cd.aS (bi 11101001100100 [ob 2 73,.o 5 (.bL 278 [(3,3),(4,4)]),ob 7 142,ax 2005003 339,ax 2005004 3] [aE 2 0,aE 5 1,aE 7 2] [1,1,1,1,1] (b3 [a6 48]) [1,2,5,7,16,17,18]) λ(a,_,b,_,c,_)=>aBV a b c).bE N (bi 111010 [ob 2 73,.o 5 (.bL 278 [(3,2),(4,3)]),aW 16 142,ad 17,ad 18,ax 2005003 339,ax 2005004 3] [aE 2 0,aE 5 1] [1,1,1,2] [⟨.exit 0,[.u 3 (.bh 3)],[]⟩,⟨.ret,[a6 4],[]⟩] [1,2,5]) λn (a,_,b,c,d,_,e,_)=>aCE a b c n d e).bE N (bi 1111010 [ob 2 73,.o 5 (.bL 278 [(3,2),(4,3)]),aW 59 142,ad 60,ad 61,ax 2005003 339,ax 2005004 3] [aE 2 0,aE 5 1] [1,1,1,1] (dI 2 [a6 4]) [2,5]) λn (_,a,b,c,d,e,f,_)=>aDW a b c e f n d).aS (bi 111110100110011100110010 [ob 2 73,.o 5 (.bL 278 [(3,3),(4,2)]),ad 10,ad 12,ax 80 3,ax 2005003 339] [aE 2 0,aE 5 1,a8 80 2] [1,1,1,1] (b3 [a6 13]) [2,5,10,12,80,81,82,91,92]) λ(_,a,b,c,d,e,_)=>aKS a b c d e).aS (bi 1111101001100111001100110 [ob 2 73,.o 5 (.bL 278 [(3,3),(4,2)]),ad 10,ad 12,a6 13,ax 80 3,ax 2005003 339] [aE 2 0,aE 5 1,a8 80 2] [1,1,1,1] (b3 [a6 138]) [2,5,10,80,81,82,91,92]) λ(_,a,b,c,d,e,f,_)=>aKT a b c d e f).bE N (bi 11111010011001110 [ob 2 73,.o 5 (.bL 278 [(3,3),(4,2)]),ad 10,ax 80 3,ad 91,ad 92,ax 2005003 339] [aE 2 0,aE 5 1,a8 80 2] [1,1,1,1] (dI 6 [a6 4]) [2,5,80,81,82]) λn (_,a,b,c,d,e,f,_)=>aJw a b c d f n e).aS (bi 111110100110 [ob 2 73,.o 5 (.bL 278 [(3,3),(4,2)]),ax 80 3,ad 82,ax 2005003 339] [aE 2 0,aE 5 1,a8 80 2] [1,1,1,1] [⟨.normal,[],[]⟩,⟨.ret,[a6 4],[]⟩] [2,5,80,81,82]) λ(a,b,c,d,e,_)=>aDX N a b c d e).bE N (bi 11111010 [ob 2 73,.o 5 (.bL 278 [(3,3),(4,2)]),ax 80 3,ad 81,ad 82,ax 2005003 339] [aE 2 0,aE 5 1,a8 80 2] [1,1,1,1] (dI 4 [a6 4]) []) λn (a,b,c,d,e,f,_)=>aBW N a b c d f n e)
def ag7(N:Nat):=(ag6 N).go (cx 221 2 [cm 0 73,aW 1 142] [a6 4,ad 5]) (λr x=>RT N x.1 x.2.1) Tryz.func221
def ag8(N:Nat):=(ag7 N).go (cx 268 2 [cm 0 142,e1 1 3] [a6 3]) (λr x=>Hp x.1 x.2.1) Tryz.func268
def ag9(N:Nat):=(ag8 N).go (cx 306 2 [aW 0 142,.v 1 (.fn 268 [3])] [ad 4]) (λr x=>Qu N x.1 x.2.1.1) Tryz.func306 (cd.bE N (cV 11010 [aW 0 142,.v 1 (.fn 268 [3]),ad 7,ad 8] (dI 0 [ad 4]) []) λn (a,b,c,d,_)=>Cx a b.1 c n d)
def Zl(N:Nat):=(ag9 N).go (cx 267 2 [aW 0 142,.v 1 (.fn 268 [3])] [a6 4]) (λr x=>Qr N x.1 x.2.1.1) Tryz.func267
def alO(N:Nat):mi cT:=(Zl N).bk.l9 λx b a=>match x,b,a with|.tmp 14,J (.tmp 14),J (.tmp 14)=>3|_,_,_=>0
def Zm(N:Nat):eS cT:=(Zl N).l7 ⟨223,3,[cm 0 73,aW 1 142,a6 2],[],ae,0,[.o 6 (.ne 22 3)],[a8 6 0],[.tmp 6],ak⟩ (λr x=>RX N x.1 x.2.1 x.2.2.1) (((((ch.nil:ch (alO N) (en Tryz.f223)).aS ⟨[1,1,0,1,0,0,1,1,0,0,1,1,0,0,1,1,0],[aW 1 142,a6 2,.o 7 (.ne 22 3),ad 8,aW 24 3,ad 26],[a8 7 0],[2],[⟨.normal,[.u 0 (.ne 22 3)],[]⟩],[1,2,7,8,17,18,19,24,25,26]⟩ λx=>Nf N x.1 x.2.1 x.2.2.1 x.2.2.2.1 x.2.2.2.2.1 x.2.2.2.2.2.1).bE N ⟨[1,1,0,1,0,0,1,1,0,0,1,1,0],[aW 1 142,a6 2,.o 7 (.ne 22 3),ad 8,aW 24 3,ad 25,ad 26],[a8 7 0],[2],[⟨.exit 2,[.u 0 (.ne 22 3)],[]⟩],[1,2,7,17,18,19]⟩ λn x=>D8 N x.1 x.2.1 x.2.2.2.1 x.2.2.2.2.1 x.2.2.2.2.2.1 n x.2.2.1 x.2.2.2.2.2.2.1).bE N ⟨[1,1,0,1,0],[aW 1 142,a6 2,.o 7 (.ne 22 3),aW 17 22,ad 18,ad 19],[a8 7 0],[2],[⟨.exit 0,[.u 0 (.ne 22 3)],[]⟩],[7]⟩ λn x=>D7 N x.1 x.2.1 x.2.2.2.1 x.2.2.2.2.1 n x.2.2.1 x.2.2.2.2.2.1).fn Tryz.func223)
def alP(N:Nat):mi cT:=(Zm N).bk.l9 λx b a=>match x,b,a with|.tmp 17,ae,J (.tmp 19)=>1|.tmp 22,ae,J (.tmp 24)=>2|_,_,_=>0
def ag'(N:Nat):eS cT:=(Zm N).l7 ⟨266,2,[ad 1],[(0,.c .gE)],ae,0,[ax 4 3],[a8 4 0],[.tmp 4],ak⟩ (λr x=>QT x.1) ((((ch.nil:ch (alP N) (en Tryz.f266)).aS ⟨[1,0,1],[a6 6],[],[],[⟨.normal,[],[]⟩],[0,1]⟩ λx=>MD x.1).aS ⟨[1,1,0,1,1],[ad 1,a6 16],[(0,.c .gE)],[],[⟨.normal,[ax 0 3],[a8 0 0]⟩],[]⟩ λx=>ME x.1 x.2.1).fn Tryz.func266)
def aha(N:Nat):=(ag' N).go (gS 222 1 [aW 0 22] [ax 2 3] [a8 2 0] [.tmp 2]) (λr x=>QQ N x.1) Tryz.func222 (((cd.aS (cV 1110100110 [ad 3,aW 9 22,ad 11] (b3 [ad 3]) [0,9,10,11]) λ(a,b,c,_)=>My a b c).bE N (cV 111010 [ad 3,aW 9 22,ad 10,ad 11] (eD 0 [ad 3]) [0]) λn (a,b,c,d,_)=>DA b c n a d).bE N (bi 11111010 [ax 6 3,aW 25 22,ad 26,ad 27] [a8 6 0] [0] [⟨.exit 2,[ax 6 3],[a8 6 1]⟩] []) λn (a,b,c,d,_)=>DB b c n a d)
def ahc(N:Nat):=(aha N).go (gS 163 3 [cm 0 73,aW 1 142,ad 2] [cm 1000000 38,ax 7 3,ad 8] [a8 7 0] [.cell 6 38,.tmp 7,.tmp 8]) (λr (a,b,c,_)=>SF N a b c) Tryz.func163 ((cd.aS (bi 11100110 [ad 2,ob 3 73,ob 6 38] [aE 3 0,aE 6 1] [1,1] (b3 [a6 27]) [1,2,3,6,9]) λx=>Fe x.1).bE N (bi 111111010 [ob 3 73,ob 6 38,ax 11 3,.o 12 (.bL 38 [(0,4)]),ad 46,ad 47,ax 2012000 89] [aE 3 0,aE 6 1,a8 11 2,aE 12 3,a8 45 2] [1,1,1,2,0] (eD 1 [.u 3 (.bL 38 [(0,5)]),ax 2012000 89]) [6,11,12]) λn (a,_,b,c,d,e,f,_)=>aIW a b d n c e f)
def ahd(N:Nat):=(ahc N).go (cx 225 2 [ad 0,e1 1 22] [a6 3]) (λr x=>Hl N x.1 x.2.1) Tryz.func225
def ahe(N:Nat):=(ahd N).go (cx 226 2 [e1 0 117,aW 1 3] [ad 4]) (λr x=>Sh N x.1 x.2.1) Tryz.func226 (cd.bE N (cV 111010 [e1 0 117,ad 5,aW 8 3,ad 9,ad 10] (eD 0 [ad 5]) []) λn (a,b,c,d,e,_)=>OC a c d n b e)
def TN(N:Nat):=(ahe N).go (cx 214 4 [e1 0 117,cm 1 38,cm 2 40,.v 3 (.fn 225 [22])] [ad 8]) (λr (a,b,c,d,_)=>QF N a b c d.1) Tryz.func214 ((((((((cd.aS (bi 11101001100110100110 [ob 5 38,ob 6 40,ad 9,ad 10,aW 35 89,ad 37] [aE 5 0,aE 6 1] [1,1] (b3 [ad 10]) [0,3,5,6,9,30,31,35,36,37]) λ(_,a,b,c,d,e,_)=>Mo a b c d e).bE N (bi 1110100110011010 [ob 5 38,ob 6 40,ad 9,ad 10,aW 35 89,ad 36,ad 37] [aE 5 0,aE 6 1] [1,1] (eD 2 [ad 10]) [0,3,5,6,9,30,31]) λn (_,a,b,c,d,e,f,_)=>Dn a b d e n c f).bE N (bi 111010 [e1 0 117,ob 5 38,ob 6 40,ad 30,ad 31] [aE 5 0,aE 6 1] [1,1] (dI 0 [ad 8]) [0,3,5]) λn (a,b,c,d,e,_)=>Dm N a b c d n e).aS (bi 111101001100110100110 [ob 5 38,ad 13,ob 14 54,ad 15,aW 87 89,ad 89] [aE 5 0,aE 14 1] [1,1] (b3 [ad 15]) [0,3,5,13,14,79,80,81,87,88,89]) λ(_,a,_,b,c,d,_)=>Mp a b c d).bE N (bi 11110100110011010 [ob 5 38,ad 13,ob 14 54,ad 15,aW 87 89,ad 88,ad 89] [aE 5 0,aE 14 1] [1,1] (eD 6 [ad 15]) [0,3,5,14,79,80,81]) λn (_,a,_,b,c,d,e,_)=>Dq a c d n b e).aS (bi 1111010011001110100110 [e1 0 117,.v 3 (.fn 225 [22]),ob 5 38,ob 14 54,ad 15,aW 110 3,ad 112] [aE 5 0,aE 14 1] [1,1] (b3 [ad 15]) [0,3,5,14,79,80,81,110,111,112]) λ(a,b,_,_,c,d,e,_)=>Mq N a b.1 c d e).bE N (bi 111101001100111010 [e1 0 117,.v 3 (.fn 225 [22]),ob 5 38,ob 14 54,ad 15,aW 110 3,ad 111,ad 112] [aE 5 0,aE 14 1] [1,1] (eD 8 [ad 15]) [0,3,5,14,79,80,81]) λn (a,b,_,_,c,d,e,f,_)=>Dr N a b.1 d e n c f).bE N (bi 1111010 [e1 0 117,.v 3 (.fn 225 [22]),ob 5 38,aW 79 54,ad 80,ad 81] [aE 5 0] [1] (dI 4 [ad 8]) []) λn (a,b,c,d,e,f,_)=>Dp N a b.1 c d e n f)
def aLK:e7 D:=⟨158,4,[aX 0 27,aX 1 46,aX 2 57,aX 3 46,aX 4 67,ax 100000005 3,ax 100000006 3,aX 7 38,aX 8 38,ax 100000009 3,ob 0 117,aW 1 3,cm 2 38,.v 3 (.fn 225 [22])],[aE 0 10],[1,1,1,1,1,1,1,1,1,1,2],[ad 8,eJ 10 117],[],[8],ak⟩
def aKa(N:Nat):aLK.gA.F:=λx=>x1 N x.2.2.2.2.2.2.2.2.2.2.1 x.2.2.2.2.2.2.2.2.2.2.2.1 x.2.2.2.2.2.2.2.2.2.2.2.2.1 x.2.2.2.2.2.2.2.2.2.2.2.2.2.1.1
def aNX(N:Nat):fR cT aLK (aKa N):=ch.iu (ch.nil:ch (TN N).bk (en Tryz.f158)) Tryz.func158
def ahf(N:Nat):eS cT:=(TN N).ir aLK (aKa N) (aNX N)
def aMl:e7 D:=⟨158,4,[aX 0 27,aX 1 46,aX 2 57,aX 3 46,aX 4 67,ax 100000005 3,ax 100000006 3,aX 7 38,aX 11 38,ax 100000013 3,ob 0 117,aW 1 3,cm 2 38,.v 3 (.fn 225 [22])],[aE 0 10],[1,1,1,1,1,1,1,1,1,1,2],[ad 8,eJ 10 117],[],[8],ak⟩
def aNr(N:Nat):fR cT aMl (aKa N):=ch.iu (ch.nil:ch (TN N).bk (en Tryz.f158)) Tryz.func158
def I1(N:Nat):eS cT:=(ahf N).ir aMl (aKa N) (aNr N)
def aE8:e7 D:=⟨164,3,[aX 0 27,aX 1 46,aX 2 57,aX 3 46,aX 4 67,ax 100000005 3,ax 100000006 3,aX 7 38,.o 0 (.bL 117 [(32,9)]),aW 1 3,cm 2 38,ax 2000032 149],[aE 0 8],[1,1,1,1,1,1,1,1,2,0],[ad 6,eJ 8 117],[],[6],ak⟩
def aCm(N:Nat):aE8.gA.F:=λx=>HE N x.2.2.2.2.2.2.2.2.1 x.2.2.2.2.2.2.2.2.2.1 x.2.2.2.2.2.2.2.2.2.2.1 x.2.2.2.2.2.2.2.2.2.2.2.1
def aNF(N:Nat):ch (I1 N).bk (en Tryz.f164):=ch.bE ch.nil N ⟨[1,1,0,1,0,0,1,1,0,0,1,1,0],[aX 0 27,aX 1 46,aX 2 57,aX 3 46,aX 4 67,ax 100000005 3,ax 100000006 3,aX 7 38,.o 0 (.bL 117 [(32,11)]),ob 5 38,.v 7 (.fn 225 [22]),ax 30 3,aW 43 3,ad 44,ad 45,ax 2000032 149],[aE 0 8,aE 5 9,a8 30 10],[1,1,1,1,1,1,1,1,1,1,1,1],[⟨.exit 2,[],[]⟩,⟨.ret,[ad 6],[]⟩],[0,4,5,7,30,31,32]⟩ λn x=>aJx N x.2.2.2.2.2.2.2.2.2.2.1.1 x.2.2.2.2.2.2.2.2.2.2.2.2.1 x.2.2.2.2.2.2.2.2.2.2.2.2.2.1 n x.2.2.2.2.2.2.2.2.2.2.2.2.2.2.1
def aNE(N:Nat):ch (I1 N).bk (en Tryz.f164):=ch.bE (aNF N) N ⟨[1,1,0,1,0],[aX 0 27,aX 1 46,aX 2 57,aX 3 46,aX 4 67,ax 100000005 3,ax 100000006 3,aX 7 38,.o 0 (.bL 117 [(32,11)]),ob 5 38,.v 7 (.fn 225 [22]),ax 30 3,ad 31,ad 32,ax 2000032 149],[aE 0 8,aE 5 9,a8 30 10],[1,1,1,1,1,1,1,1,1,1,1,1],[⟨.exit 0,[],[]⟩,⟨.ret,[ad 6],[]⟩],[0,4,5,7]⟩ λn x=>MP N x.2.2.2.2.2.2.2.2.1 x.2.2.2.2.2.2.2.2.2.2.1.1 x.2.2.2.2.2.2.2.2.2.2.2.1 x.2.2.2.2.2.2.2.2.2.2.2.2.1 n x.2.2.2.2.2.2.2.2.2.2.2.2.2.1
def aMw(N:Nat):ch (I1 N).bk (en Tryz.f164):=ch.bE (aNE N) N ⟨[1,1,1,1,1,1,0,1,0],[aX 0 27,aX 1 46,aX 2 57,aX 3 46,aX 4 67,ax 100000005 3,ax 100000006 3,aX 7 38,ob 0 117,ax 13 149,aW 80 3,ad 81,ad 82],[aE 0 8,a8 13 9],[1,1,1,1,1,1,1,1,1,0],[⟨.exit 4,[ax 13 149],[a8 13 10]⟩],[0]⟩ λn x=>aIN N x.2.2.2.2.2.2.2.2.1 x.2.2.2.2.2.2.2.2.2.2.1 x.2.2.2.2.2.2.2.2.2.2.2.1 n x.2.2.2.2.2.2.2.2.2.1 x.2.2.2.2.2.2.2.2.2.2.2.2.1
def aIj(N:Nat):fR cT aE8 (aCm N):=ch.iu (aMw N) Tryz.func164
def ahg(N:Nat):eS cT:=(I1 N).ir aE8 (aCm N) (aIj N)
def aMo:e7 D:=⟨164,3,[aX 0 27,aX 1 46,aX 2 57,aX 3 46,aX 4 67,ax 100000008 3,ax 100000011 3,aX 12 38,.o 0 (.bL 117 [(32,9)]),aW 1 3,cm 2 38,ax 2000032 149],[aE 0 8],[1,1,1,1,1,1,1,1,2,0],[ad 6,eJ 8 117],[],[6],ak⟩
def aNu(N:Nat):fR cT aMo (aCm N):=ch.iu (aMw N) Tryz.func164
def ahh(N:Nat):eS cT:=(ahg N).ir aMo (aCm N) (aNu N)
def ahi(N:Nat):=(ahh N).mx ⟨104,1,[aX 0 27,aX 1 46,aX 2 57,aX 3 46,aX 4 67,.o 0 (.bL 117 [(32,6),(36,7)]),ax 2000032 149,ax 2000036 142],[aE 0 5],[1,1,1,1,1,2,0,0],[ad 2,eJ 5 117],[],[2],ak⟩ (λ(_,_,_,_,_,a,b,c,_)=>Rz N a b c) Tryz.func104 (((cd.aS (bi 111111111111010011001101 [aX 0 27,aX 1 46,aX 2 57,aX 3 46,aX 4 67,.o 0 (.bL 117 [(32,10),(36,11)]),ax 6 3,ob 9 38,ax 10 3,ob 12 142,a6 86,ax 2000032 149,ax 2000036 142] [aE 0 5,a8 6 6,aE 9 7,a8 10 8,aE 12 9] [1,1,1,1,1,1,1,1,1,2,1,1] (b3 [eJ 9 142]) [0,6,9,10,12,72,73,74]) λ(_,_,_,_,_,_,a,_,_,b,c,_)=>aKF a b c).bE N (bi 111111111111010 [aX 0 27,aX 1 46,aX 2 57,aX 3 46,aX 4 67,.o 0 (.bL 117 [(32,9),(36,10)]),ax 6 3,ob 9 38,ax 10 3,aW 72 142,ad 73,ad 74,ax 2000032 149,ax 2000036 142] [aE 0 5,a8 6 6,aE 9 7,a8 10 8] [1,1,1,1,1,2,1,1,1,1,0] (eD 0 [.u 5 (.bL 117 [(32,9),(36,11)]),ax 2000036 142]) [0,6,9,10]) λn (_,_,_,_,_,a,b,_,_,c,d,e,_,f,_)=>aJo b c d n a e f).bE N (bi 11111111111111010 [aX 0 27,aX 1 46,aX 2 57,aX 3 46,aX 4 67,.o 0 (.bL 117 [(32,10),(36,11)]),ax 6 3,ob 9 38,ax 13 3,ax 106 3,ad 107,ad 108,ax 2000032 149,ax 2000036 142] [aE 0 5,a8 6 6,aE 9 7,a8 13 8,a8 106 9] [1,1,1,1,1,1,1,1,0,1,1,1] [⟨.exit 2,[ax 13 3],[a8 13 12]⟩] [0,9]) λn (_,_,_,_,_,_,a,_,b,c,d,e,_)=>aIF a c d n b e)
def ahj(N:Nat):=(ahi N).go (gS 165 4 [aW 0 22,ad 1,ad 2,ad 3] [ax 8 149,ad 9] [a8 8 0] [.tmp 8,.tmp 9]) (λr (a,b,c,d,_)=>Q8 N a b c d) Tryz.func165 (((cd.aS (cV 1100 [aW 0 22,ad 1,ad 2] (b3 [a6 36]) [0,1,2,3]) λ(a,b,c,_)=>aC' a b c).aS (cV 111100 [ad 3,aW 10 3] (b3 [a6 48]) [1,2,3,10]) λx=>aDa x.1 x.2.1).bE N (bi 111111010 [ad 1,ad 2,ax 11 149,aW 54 3,ad 55,ad 56] [a8 11 0] [0] [⟨.exit 0,[ax 11 149],[a8 11 1]⟩] []) λn (a,b,c,d,e,f,_)=>aAX a b d e n c f)
def ahl(N:Nat):=(ahj N).mx ⟨105,1,[aX 0 27,aX 1 46,aX 2 57,aX 3 46,aX 4 67,.o 0 (.bL 117 [(32,6)]),ax 2000032 149],[aE 0 5],[1,1,1,1,1,2,0],[ad 2,eJ 5 117],[],[2],ak⟩ (λ(_,_,_,_,_,a,b,_)=>Si N a b) Tryz.func105 ((cd.aS (bi 11100110 [aX 0 27,aX 1 46,aX 2 57,aX 3 46,aX 4 67,.o 0 (.bL 117 [(32,6)]),ad 3,ad 4,ax 2000032 149] [aE 0 5] [1,1,1,1,1,1,1] (b3 [a6 23]) [0,3,4]) λ(_,_,_,_,_,a,b,c,d,_)=>Fz a b c d).aS (bi 1110011110 [aX 0 27,aX 1 46,aX 2 57,aX 3 46,aX 4 67,.o 0 (.bL 117 [(32,6)]),ad 3,ad 4,ax 2000032 149] [aE 0 5] [1,1,1,1,1,1,1] (b3 [a6 34]) [0,3,4]) λ(_,_,_,_,_,a,b,c,d,_)=>FA N a b c d)
def Zn(N:Nat):=(ahl N).mx ⟨167,2,[aX 0 27,aX 1 46,aX 2 57,aX 3 46,aX 4 67,.o 100000005 (.bL 117 [(7,7),(32,6)]),ax 100000006 149,ax 100000007 54,cm 0 54],[(1,.hd 115 [.own 5] 0)],[1,1,1,1,1,1,1,1],[a6 3],[],[3],ak⟩ (λ(_,_,_,_,_,a,_,_,b,_)=>QR a b) Tryz.func167
def Ui:e7 D:=⟨166,2,[aX 0 27,aX 1 46,aX 2 57,aX 3 46,aX 4 67,.o 100000005 (.bL 117 [(7,7),(32,6)]),ax 100000006 149,ax 0 54],[a8 0 7,(1,.fn 167 [(115,[.own 5])])],[1,1,1,1,1,1,1,1],[ad 4],[],[4],ak⟩
def Im(N:Nat):Ui.gA.F:=λx=>Qw N x.2.2.2.2.2.1 x.2.2.2.2.2.2.2.1
def aeh(N:Nat):ch (Zn N).bk (en Tryz.f166):=ch.bE ch.nil N ⟨[1,0,1,0],[aX 0 27,aX 1 46,aX 2 57,aX 3 46,aX 4 67,.o 100000005 (.bL 117 [(7,7),(32,6)]),ax 100000006 149,ax 0 54,ad 7,ad 8],[a8 0 7,(1,.fn 167 [(115,[.own 5])])],[1,1,1,1,1,1,1,1],[⟨.exit 0,[],[]⟩,⟨.ret,[ad 4],[]⟩],[0,1]⟩ λn x=>Cz x.2.2.2.2.2.1 x.2.2.2.2.2.2.2.1 x.2.2.2.2.2.2.2.2.1 n x.2.2.2.2.2.2.2.2.2.1
def aww(N:Nat):fR cT Ui (Im N):=ch.iu (aeh N) Tryz.func166
def ahm(N:Nat):eS cT:=(Zn N).ir Ui (Im N) (aww N)
def adU:e7 D:=⟨166,2,[aX 0 27,aX 1 46,aX 2 57,aX 3 46,aX 4 67,.o 100000005 (.bL 117 [(7,7),(32,6)]),ax 100000007 149,ax 0 54],[a8 0 7,(1,.fn 167 [(115,[.own 5])])],[1,1,1,1,1,1,1,1],[ad 4],[],[4],ak⟩
def asR(N:Nat):fR cT adU (Im N):=ch.iu (aeh N) Tryz.func166
def ahn(N:Nat):eS cT:=(ahm N).ir adU (Im N) (asR N)
def aho(N:Nat):=(ahn N).go (cx 270 1 [aW 0 92] [ad 2,ad 3,ad 4,ad 5]) (λr x=>Rs N x.1) Tryz.func270 (cd.bE N (cV 111010 [ad 2,ad 3,ad 4,aW 14 92,ad 15,ad 16] (eD 0 [ad 2,ad 3,ad 4]) []) λn (a,b,c,d,e,f,_)=>CO d e n a b c f)
def ahp(N:Nat):=(aho N).go (cx 228 3 [cm 0 27,cm 1 54,aW 2 92] [ad 6]) (λr (a,b,c,_)=>pM N a b c) Tryz.func228
def ahq(N:Nat):=(ahp N).go (gS 271 2 [cm 0 54,aW 1 92] [ax 4 3,ad 5,ad 6] [a8 4 0] [.tmp 4,.tmp 5,.tmp 6]) (λr x=>Q1 N x.1 x.2.1) Tryz.func271 (cd.bE N (bi 111010 [ob 2 54,ax 7 3,aW 11 92,ad 12,ad 13] [aE 2 0,a8 7 1] [1,0] [⟨.exit 0,[ax 7 3],[a8 7 2]⟩,⟨.ret,[ad 5,ad 6],[(4,.c .gE)]⟩] []) λn (a,b,c,d,e,_)=>CW N a c d n b e)
def ahr(N:Nat):=(ahq N).go (gS 229 2 [cm 0 54,aW 1 92] [ax 4 3,ad 5,ad 6] [a8 4 0] [.tmp 4,.tmp 5,.tmp 6]) (λr x=>QW N x.1 x.2.1) Tryz.func229 ((cd.aS (bi 11110100110010 [ax 7 3,ad 10] [a8 7 0] [1] (b3 [a6 40]) [7,10,23,24]) λx=>LY x.1 x.2.1).bE N (bi 1111010 [ax 7 3,ad 23,ad 24] [a8 7 0] [1] [⟨.exit 0,[],[]⟩,⟨.ret,[ad 5,ad 6],[(4,.c .gE)]⟩] [7]) λn (a,b,c,_)=>DH a b n c)
def ahs(N:Nat):=(ahr N).go (cx 307 1 [ad 0] [ad 2]) (λr x=>RP x.1) Tryz.func307
def aht(N:Nat):=(ahs N).go (sX 272 2 [aW 0 92,aW 1 3] [cm 1000000 62,ad 5] [.cell 4 62,.tmp 5]) (λr x=>Sb N x.1 x.2.1) Tryz.func272 (((((cd.bE N (bi 11111010 [aW 0 92,ob 4 62,ax 10 4,aW 32 3,ad 33,ad 34] [aE 4 0,a8 10 1] [2,1] [⟨.exit 0,[eJ 0 62],[]⟩,⟨.ret,[eJ 0 62,ad 5],[]⟩] [0,1,4,6,7,8,10]) λn (a,b,_,c,d,e,_)=>aJc a c d n b e).bE N (bi 111111010 [ob 4 62,ax 10 4,aW 46 3,ad 47,ad 48] [aE 4 0,a8 10 1] [2,2] [⟨.exit 2,[eJ 0 62,.u 1 (.bh 4)],[]⟩,⟨.ret,[eJ 0 62,ad 5],[]⟩] [0,4,6,7,8,10]) λn (a,b,c,d,e,_)=>aJd c d n a b e).aS (bi 111111110100110 [ob 4 62,ax 10 4,ob 15 62,aW 65 92,ad 67] [aE 4 0,a8 10 1,aE 15 2] [1,1,2] (b3 [eJ 2 62]) [4,6,7,10,15,65,66,67]) λ(_,a,b,c,d,_)=>aKo a b c d).bE N (bi 11111111010 [ob 4 62,ax 10 4,ob 15 62,aW 65 92,ad 66,ad 67] [aE 4 0,a8 10 1,aE 15 2] [1,1,2] (eD 4 [eJ 2 62]) [4,6,7,15]) λn (_,a,b,c,d,e,_)=>aJe a c d n b e).aS (bi 111111111101 [ob 4 62,ad 7,ob 15 62,a6 92] [aE 4 0,aE 15 1] [1,2] (b3 [eJ 1 62]) [4,15]) λ(_,a,b,c,_)=>aKp a b c)
def ahv(N:Nat):=(aht N).go (cx 308 3 [aW 0 104,ad 1,ad 2] [ad 6,a6 7]) (λr (a,b,c,_)=>z8 N a b c) Tryz.func308 (((cd.aS (bi 1110100110010 [ad 1,ad 2,ad 8,a6 9,ob 11 104] [aE 11 0] [1] (b3 [a6 37]) [1,2,8,9,11,12,13,14]) λ(a,b,c,d,e,_)=>LX a b c d e).aS (cV 1110100110 [ad 1,ad 2,ad 8,a6 9,aW 12 104,ad 14] (b3 [ad 8,a6 9]) [1,2,12,13,14]) λ(a,b,c,d,e,f,_)=>LW a b c d e f).bE N (cV 111010 [ad 1,ad 2,ad 8,a6 9,aW 12 104,ad 13,ad 14] (eD 0 [ad 8,a6 9]) []) λn (a,b,c,d,e,f,g,_)=>Dd a b e f n c d g)
def ahw(N:Nat):=(ahv N).go (cx 273 3 [aW 0 104,ad 1,ad 2] [ad 6,ad 7]) (λr (a,b,c,_)=>Hs N a b c) Tryz.func273 (cd.aS (cV 11100 [ad 1,ad 2] (b3 [a6 20]) [0,1,2]) λx=>LP x.1 x.2.1)
def ahx(N:Nat):=(ahw N).go (sX 230 5 [aW 0 92,aW 1 3,aW 2 104,ad 3,ad 4] [cm 1000000 62,ad 11] [.cell 10 62,.tmp 11]) (λr (a,b,c,d,e,_)=>Sa N a b c d e) Tryz.func230
def ahy(N:Nat):=(ahx N).go (cx 310 1 [cm 0 92] [ad 2]) (λr x=>QJ x.1) Tryz.func310
def ahz(N:Nat):=(ahy N).go ⟨309,3,[cm 0 322,ad 1],[(2,.fn 310 [])],ae,0,[ad 6],[],[.tmp 6],aa⟩ (λr x=>Qx N x.1 x.2.1) Tryz.func309 (cd.bE N (bi 111010 [ad 1,ad 7,aW 11 92,ad 12,ad 13] [(2,.fn 310 [])] [] (dI 0 [ad 6]) []) λn (a,b,c,d,e,_)=>CA a c d n b e)
def ahA(N:Nat):=(ahz N).go (cx 311 1 [cm 0 92] [ad 2]) (λr x=>QK x.1) Tryz.func311
def ahB(N:Nat):=(ahA N).go ⟨309,3,[cm 0 322,ad 1],[(2,.fn 311 [])],ae,0,[ad 6],[],[.tmp 6],aa⟩ (λr x=>Qy N x.1 x.2.1) Tryz.func309 (cd.bE N (bi 111010 [ad 1,ad 7,aW 11 92,ad 12,ad 13] [(2,.fn 311 [])] [] (dI 0 [ad 6]) []) λn (a,b,c,d,e,_)=>CB a c d n b e)
def ahC(N:Nat):=(ahB N).go (cx 312 1 [cm 0 92] [ad 2]) (λr x=>QL x.1) Tryz.func312
def ahD(N:Nat):=(ahC N).go ⟨309,3,[cm 0 322,ad 1],[(2,.fn 312 [])],ae,0,[ad 6],[],[.tmp 6],aa⟩ (λr x=>Qz N x.1 x.2.1) Tryz.func309 (cd.bE N (bi 111010 [ad 1,ad 7,aW 11 92,ad 12,ad 13] [(2,.fn 312 [])] [] (dI 0 [ad 6]) []) λn (a,b,c,d,e,_)=>CC a c d n b e)
def ahE(N:Nat):=(ahD N).go (cx 313 2 [cm 0 322,a6 1] [ad 4]) (λr x=>vF x.1 x.2.1) Tryz.func313
def ahG(N:Nat):=(ahE N).go (cx 316 3 [cm 0 322,cm 1 156,ad 2] [a6 6]) (λr (a,b,c,_)=>Sl N a b c) Tryz.func316 ((cd.aS (bi 1101001100110 [ad 2,ob 3 322,ob 4 156,ad 7,ad 8,ad 9] [aE 3 0,aE 4 1] [1,1] (b3 [a6 56]) [2,3,4,10,11]) λ(a,_,b,c,d,e,_)=>aEg a b c d e).bE N (bi 11010 [ad 2,ob 3 322,ob 4 156,ad 10,ad 11] [aE 3 0,aE 4 1] [1,1] (dI 0 [a6 6]) []) λn (a,b,c,d,e,_)=>FB a b c d n e)
def ahH(N:Nat):=(ahG N).go (cx 315 4 [ad 0,cm 1 92,e1 2 322,e1 3 156] [a6 6]) (λr (a,_,b,c,_)=>QM N a b c) Tryz.func315
def ahI(N:Nat):=(ahH N).go (cx 314 2 [cm 0 322,.v 1 (.fn 315 [322,156])] [ad 4]) (λr (a,b,_)=>QA N a (b.1,b.2.1)) Tryz.func314 (cd.bE N (cV 11010 [.v 1 (.fn 315 [322,156]),aW 8 92,ad 9,ad 10] (dI 0 [ad 4]) []) λn (a,b,c,d,_)=>CD N (a.1,a.2.1) b c n d)
def ahJ(N:Nat):=(ahI N).go (cx 317 3 [ad 0,cm 1 92,e1 2 156] [a6 5]) (λr (a,b,c,_)=>QN a b c) Tryz.func317 (cd.aS (bi 110 [ad 0,e1 2 156,ob 4 92] [aE 4 0] [1] (b3 [a6 5]) []) λ(a,b,c,_)=>Mu a b c)
def ahK(N:Nat):=(ahJ N).go (cx 314 2 [cm 0 322,.v 1 (.fn 317 [156])] [ad 4]) (λr x=>QB N x.1 x.2.1.1) Tryz.func314 (cd.bE N (cV 11010 [.v 1 (.fn 317 [156]),aW 8 92,ad 9,ad 10] (dI 0 [ad 4]) []) λn (a,b,c,d,_)=>CE a.1 b c n d)
end
end
section
set_option maxRecDepth 100000
open Go.aF Go.Proofs
noncomputable section
def ahL(N:Nat):=(ahK N).go (cx 318 2 [cm 0 322,cm 1 156] [a6 4]) (λr x=>x8 N x.1 x.2.1) Tryz.func318 (((cd.aS (bi 111101001000 [ob 2 322,ob 3 156,ad 7] [aE 2 0,aE 3 1] [1,1] (b3 [a6 39]) [2,3,5,6,7]) λx=>aLg N x.1 x.2.2.1).aS (bi 1111010010 [ob 2 322,ob 3 156,ad 6,ad 7] [aE 2 0,aE 3 1] [1,1] (b3 [ad 6]) [2,3,5,7]) λ(a,_,b,c,_)=>aLf N a b c).bE N (bi 1111010 [ob 2 322,ob 3 156,ad 6,ad 7] [aE 2 0,aE 3 1] [1,1] (eD 0 [ad 6]) [3,5]) λn (a,_,b,c,_)=>aBy N a n b c)
def ahM(N:Nat):=(ahL N).go (cx 319 3 [ad 0,cm 1 92,e1 2 156] [a6 5]) (λr (_,a,b,_)=>QO a b) Tryz.func319
def ahN(N:Nat):=(ahM N).go (cx 314 2 [cm 0 322,.v 1 (.fn 319 [156])] [ad 4]) (λr x=>QC N x.1 x.2.1.1) Tryz.func314 (cd.bE N (cV 11010 [.v 1 (.fn 319 [156]),aW 8 92,ad 9,ad 10] (dI 0 [ad 4]) []) λn (a,b,c,d,_)=>CF a.1 b c n d)
def ahO(N:Nat):=(ahN N).go (cx 321 2 [cm 0 322,ad 1] [ad 4]) (λr x=>R3 N x.1 x.2.1) Tryz.func321 (cd.bE N (cV 111010 [ad 5,aW 12 92,ad 13,ad 14] (eD 0 [ad 5]) []) λn (a,b,c,d,_)=>DP b c n a d)
def ahP(N:Nat):=(ahO N).go (cx 320 4 [ad 0,cm 1 92,e1 2 156,e1 3 322] [a6 6]) (λr (a,b,c,d,_)=>QP N a b c d) Tryz.func320 (cd.aS (bi 110 [ad 0,e1 2 156,e1 3 322,ob 5 92] [aE 5 0] [1] (b3 [a6 6]) []) λ(a,b,c,d,_)=>Mv N a b c d)
def ahR(N:Nat):=(ahP N).go (cx 314 2 [cm 0 322,.v 1 (.fn 320 [156,322])] [ad 4]) (λr (a,b,_)=>QD N a (b.1,b.2.1)) Tryz.func314 (cd.bE N (cV 11010 [.v 1 (.fn 320 [156,322]),aW 8 92,ad 9,ad 10] (dI 0 [ad 4]) []) λn (a,b,c,d,_)=>Dl N (a.1,a.2.1) b c n d)
def ahS(N:Nat):=(ahR N).go (cx 274 2 [cm 0 322,cm 1 156] [ad 4]) (λr x=>Sm N x.1 x.2.1) Tryz.func274 (cd.aS (bi 11010111111100 [ob 2 322,ob 3 156] [aE 2 0,aE 3 1] [1,1] (b3 [ad 4]) []) λx=>OH x.1 x.2.1)
def ahT(N:Nat):=(ahS N).go (cx 231 3 [aW 0 156,aW 1 92,aW 2 3] [ad 6,ad 7,ad 8]) (λr (a,b,c,_)=>Ht N a b c) Tryz.func231 (cd.bE N (bi 111111010 [ob 10 322,aW 31 156,ad 32,ad 33] [aE 10 0] [1] (dI 0 [ad 6,ad 7,ad 8]) []) λn (a,b,c,d,_)=>Dh N a b c n d)
def ahU(N:Nat):=(ahT N).go (cx 275 2 [aW 0 3,ad 1] [ad 4]) (λr x=>Ab N x.1 x.2.1) Tryz.func275 ((cd.aS (cV 1110100110010 [ad 1,ad 6] (b3 [a6 22]) [1,10,11,12]) λx=>Ej x.1 x.2.1).bE N (cV 111010 [ad 1,aW 10 3,ad 11,ad 12] (dI 0 [ad 4]) []) λn (a,b,c,d,_)=>Ei a b c n d)
def ahV(N:Nat):=(ahU N).go (gS 276 2 [aW 0 3,ad 1] [ax 4 302] [a8 4 0] [.tmp 4]) (λr x=>HL N x.1 x.2.1) Tryz.func276 (((((cd.aS (bi 111101001100111010011001110 [ax 5 302,aW 6 3,ad 7,ob 8 302,ax 9 3,ad 10] [a8 5 0,aE 8 1,a8 9 2] [1,1,1] (b3 [a6 47]) [5,6,7,8,9,13,14,19,20,21]) λ(_,a,b,_,_,c,_)=>aKs a b c).aS (bi 1111010011001110100110 [ax 5 302,aW 6 3,ad 7,ob 8 302,ax 9 3,aW 19 3,ad 21] [a8 5 0,aE 8 1,a8 9 2] [1,2,0] [⟨.normal,[eJ 1 302,ax 9 3],[a8 9 3]⟩] [5,6,7,8,13,14,19,20,21]) λ(_,a,b,c,d,e,f,_)=>OA a b c d e f).bE N (bi 111101001100111010 [ax 5 302,aW 6 3,ad 7,ob 8 302,ax 9 3,aW 19 3,ad 20,ad 21] [a8 5 0,aE 8 1,a8 9 2] [1,2,0] [⟨.exit 2,[eJ 1 302,ax 9 3],[a8 9 3]⟩] [5,8,13,14]) λn (_,a,b,c,d,e,f,g,_)=>Fx a b e f n c d g).aS (bi 111101001100111101 [ax 5 302,ob 8 302,ax 9 3,a6 55] [a8 5 0,aE 8 1,a8 9 2] [0,1,1] [⟨.normal,[ax 5 302],[a8 5 3]⟩] [9,13,14]) λ(a,b,_,c,_)=>aKt a b c).bE N (bi 1111010 [ax 5 302,aW 6 3,ad 13,ad 14] [a8 5 0] [0] [⟨.exit 0,[ax 5 302],[a8 5 1]⟩] []) λn (a,b,c,d,_)=>Fw N c n a b d)
def ahW(N:Nat):=(ahV N).go (gS 232 2 [aW 0 3,ad 1] [ax 4 302,ad 5] [a8 4 0] [.tmp 4,.tmp 5]) (λr x=>sz N x.1 x.2.1) Tryz.func232 (cd.aS (cV 1100 [ad 1] (b3 [a6 12]) [0,1]) λx=>Fv x.1)
def Zo(N:Nat):=(ahW N).go (gS 168 3 [cm 0 27,cm 1 54,aW 2 92] [cm 1000000 65,ad 7,ad 8,ad 9] [] [.cell 6 65,.tmp 7,.tmp 8,.tmp 9]) (λr (a,b,c,_)=>Hn N a b c) Tryz.func168 (cd.bE N (bi 1111111111111010 [ob 4 54,ob 6 65,ob 11 62,ax 12 3,ax 81 3,ad 82,ad 83] [aE 4 0,aE 6 1,aE 11 2,a8 12 3,a8 81 4] [1,1,1,2,1] (eD 0 [.u 3 (.bh 3)]) [2,4,6,11,12]) λn (a,_,_,b,c,d,e,_)=>aAY a c d n b e)
def aLM:e7 D:=⟨151,2,[aX 0 27,aX 1 46,aX 2 57,aX 3 46,aX 4 67,aX 5 54,aX 6 65,.o 0 (.bL 117 [(32,8)]),aW 1 149,ax 2000032 149],[aE 0 7],[1,1,1,1,1,1,1,2,0],[ad 4,eJ 7 117],[],[4],ak⟩
def aKc(N:Nat):aLM.gA.F:=λx=>RA N x.2.2.2.2.2.2.2.1 x.2.2.2.2.2.2.2.2.1 x.2.2.2.2.2.2.2.2.2.1
def aMv(N:Nat):ch (Zo N).bk (en Tryz.f151):=ch.bE ch.nil N ⟨[1,1,0,1,0],[aX 0 27,aX 1 46,aX 2 57,aX 3 46,aX 4 67,aX 5 54,aX 6 65,.o 0 (.bL 117 [(32,9)]),ax 5 3,aW 15 92,ad 16,ad 17,ax 2000032 149],[aE 0 7,a8 5 8],[1,1,1,1,1,1,1,1,0,1],[⟨.exit 0,[ax 5 3],[a8 5 10]⟩],[0,1]⟩ λn x=>Er x.2.2.2.2.2.2.2.2.2.1 x.2.2.2.2.2.2.2.2.2.2.1 n x.2.2.2.2.2.2.2.2.1 x.2.2.2.2.2.2.2.2.2.2.2.1
def aNZ(N:Nat):fR cT aLM (aKc N):=ch.iu (aMv N) Tryz.func151
def ahX(N:Nat):eS cT:=(Zo N).ir aLM (aKc N) (aNZ N)
def aMn:e7 D:=⟨151,2,[aX 0 27,aX 1 46,aX 2 57,aX 3 46,aX 4 67,aX 9 54,aX 14 65,.o 0 (.bL 117 [(32,8)]),aW 1 149,ax 2000032 149],[aE 0 7],[1,1,1,1,1,1,1,2,0],[ad 4,eJ 7 117],[],[4],ak⟩
def aNt(N:Nat):fR cT aMn (aKc N):=ch.iu (aMv N) Tryz.func151
def ahY(N:Nat):eS cT:=(ahX N).ir aMn (aKc N) (aNt N)
def ahZ(N:Nat):=(ahY N).mx ⟨106,1,[aX 0 27,aX 1 46,aX 2 57,aX 3 46,aX 4 67,.o 0 (.bL 117 [(7,6),(32,7)]),ax 2000007 54,ax 2000032 149],[aE 0 5],[1,1,1,1,1,2,0,0],[ad 2,eJ 5 117],[],[2],ak⟩ (λ(_,_,_,_,_,a,b,c,_)=>Rx N a b c) Tryz.func106 (cd.bE N (bi 11111111010 [aX 0 27,aX 1 46,aX 2 57,aX 3 46,aX 4 67,.o 0 (.bL 117 [(7,9),(32,10)]),ob 4 54,ax 5 92,ax 6 149,aW 43 3,ad 44,ad 45,ax 2000007 54,ax 2000032 149] [aE 0 5,aE 4 6,a8 5 7,a8 6 8,(1,.hd 115 [.own 5] 0)] [1,1,1,1,1,1,1,0,0,1,1] [⟨.exit 0,[ax 5 92,ax 6 149],[a8 5 11,a8 6 12]⟩] [0,1,3,4]) λn (_,_,_,_,_,a,b,c,d,e,f,g,_)=>Nz a b e f n c d g)
def Zp(N:Nat):=(ahZ N).mx ⟨48,1,[aX 0 27,aX 1 46,aX 2 57,aX 3 46,aX 4 67,.o 0 (.bL 117 [(5,6),(7,7),(32,8),(36,9)]),ax 2000005 92,ax 2000007 54,ax 2000032 149,ax 2000036 142],[aE 0 5],[1,1,1,1,1,2,0,0,0,0],[ad 2,eJ 5 117],[],[2],ak⟩ (λ(_,_,_,_,_,a,b,c,d,e,_)=>S5 N a b c d e) Tryz.func48
def alQ(N:Nat):mi cT:=(Zp N).bk.l9 λx b a=>match x,b,a with|.func 46,ae,ae=>5|_,_,_=>0
def apB:Cl Tryz.prog 46:=W7 (t3:=3) (t4:=4) (ty:=20) (tz:=20) Tryz.func46 rfl rfl rfl rfl rfl rfl rfl rfl (by decide) (by decide) rfl (λw=>by kernel_rfl) λw=>by kernel_rfl
def ami:qm Tryz.prog Tryz.f16 (oh (en Tryz.f16)):=.inr ⟨_,_,_,_,_,46,10,_,rfl,rfl,rfl,rfl,rfl,rfl,rfl,rfl,rfl,apB⟩
def aLR:fS D:=⟨16,3,[cm 0 27,cm 1 46,cm 2 57],[],ae,0,[cm 1000000 46,cm 1000001 67],[],[.cell 6 46,.cell 7 67],ak⟩
def aL6(N:Nat):aLR.F:=λr x=>rl N x.1 x.2.1 x.2.2.1
def aN4(N:Nat):gL cT aLR (aL6 N):=ch.fd (ch.nil:ch (alQ N) (oh (en Tryz.f16))) Tryz.func16 ami
def Zq(N:Nat):eS cT:=(Zp N).l7 aLR (aL6 N) (aN4 N)
def ZF(N:Nat):mi cT:=(Zq N).bk.l9 λx b a=>match x,b,a with|.func 57,ae,ae=>5|_,_,_=>0
def apC:Cl Tryz.prog 57:=W7 (t3:=4) (t4:=5) (ty:=20) (tz:=20) Tryz.func57 rfl rfl rfl rfl rfl rfl rfl rfl (by decide) (by decide) rfl (λw=>by kernel_rfl) λw=>by kernel_rfl
def amj:qm Tryz.prog Tryz.f18 (oh (en Tryz.f18)):=.inr ⟨_,_,_,_,_,57,8,_,rfl,rfl,rfl,rfl,rfl,rfl,rfl,rfl,rfl,apC⟩
def aNG(N:Nat):ch (ZF N) (oh (en Tryz.f18)):=ch.aS ch.nil ⟨[1,1,0,0],[ob 1 46,ob 2 3,.o 3 (.bL 22 [(0,5)]),.o 4 (.bL 22 [(0,6)]),ob 5 47,ax 2003000 3,ax 2004000 3],[aE 1 0,aE 2 1,aE 3 2,aE 4 3,aE 5 4],[1,1,1,1,1,1,1],[⟨.normal,[a6 15],[]⟩],[1,2,3,4,5]⟩ λx=>zG x.1
def aNH(N:Nat):ch (ZF N) (oh (en Tryz.f18)):=ch.bE (aNG N) N ⟨[1,1,1,1,0,1,0],[ob 1 46,ob 2 3,.o 3 (.bL 22 [(0,5)]),.o 4 (.bL 22 [(0,6)]),ob 5 47,aW 23 3,ad 24,ad 25,ax 2003000 3,ax 2004000 3],[aE 1 0,aE 2 1,aE 3 2,aE 4 3,aE 5 4],[1,1,2,2,1,0,0],[⟨.exit 0,[.u 2 (.bL 22 [(0,7)]),.u 3 (.bL 22 [(0,8)]),ax 2003000 3,ax 2004000 3],[]⟩],[2,3,4,5]⟩ λn x=>xn N x.1 x.2.2.2.2.2.1 x.2.2.2.2.2.2.1 n x.2.2.1 x.2.2.2.1 x.2.2.2.2.2.2.2.1 x.2.2.2.2.2.2.2.2.1 x.2.2.2.2.2.2.2.2.2.1
def aLQ:fS D:=⟨18,1,[cm 0 46],[],ae,0,[ad 1000000,ax 1000001 3,ax 1000002 3,ad 1000003],[a8 1000001 0,a8 1000002 1],[.cell 2 3,.cell 3 22,.cell 4 22,.cell 5 47],ak⟩
def aL5(N:Nat):aLQ.F:=λr x=>vG N x.1
def aN3(N:Nat):gL cT aLQ (aL5 N):=ch.fd (aNH N) Tryz.func18 amj
def ah1(N:Nat):eS cT:=(Zq N).l7 aLQ (aL5 N) (aN3 N)
def ah2(N:Nat):=(ah1 N).go (cx 23 2 [aW 0 3,aW 1 3] [a6 4]) (λr x=>rm N x.1 x.2.1) Tryz.func23 (cd.bE N (cV 111010 [aW 0 3,aW 1 3,ad 5] (dI 0 [a6 4]) []) λn (a,b,c,_)=>O7 a b n c)
def ah3(N:Nat):=(ah2 N).go (cx 69 2 [aW 0 142,aW 1 142] [a6 4]) (λr x=>Q5 N x.1 x.2.1) Tryz.func69 (cd.bE N (cV 111010 [aW 0 142,aW 1 142,ad 5] (dI 0 [a6 4]) []) λn (a,b,c,_)=>aFj a b n c)
def ah4(N:Nat):=(ah3 N).go (cx 30 2 [aW 0 22,aW 1 22] [a6 4]) (λr x=>vE N x.1 x.2.1) Tryz.func30 (cd.bE N (cV 111010 [aW 0 22,aW 1 22,ad 5] (dI 0 [a6 4]) []) λn (a,b,c,_)=>NP N a b n c)
def ah5(N:Nat):=(ah4 N).go (cx 25 0 [] [a6 0]) (λr x=>S8 N) Tryz.func25 ((((cd.bE N (bi 111111010 [ob 1 27,ax 2 57,ob 3 46,ob 5 67,ad 6] [aE 1 0,a8 2 1,aE 3 2,aE 5 3] [1,1,2,2] [⟨.exit 0,[eJ 2 46,eJ 3 67],[]⟩,⟨.ret,[a6 0],[]⟩] [1,3,5]) λn (a,b,c,d,e,_)=>O8 N a b n c d e).aS (bi 1111111100 [ob 1 27,ob 3 46,ob 5 67,ad 7,ax 8 3,ax 9 3,ad 10] [aE 1 0,aE 3 1,aE 5 2,a8 8 3,a8 9 4] [1,1,1,1,1] (b3 [a6 79]) [1,3,5]) λ(_,_,a,b,c,d,e,_)=>F6 N a b c d e).aS (bi 11111111111100 [ob 1 27,ob 3 46,ob 5 67,ob 11 46,ob 13 73,ax 14 3,ad 15] [aE 1 0,aE 3 1,aE 5 2,aE 11 3,aE 13 4,a8 14 5] [1,1,1,1,1,1] (b3 [a6 130]) [1,3]) λ(_,_,a,b,c,d,e,_)=>F7 N a b c d e).aS (bi 1111111111111110 [ob 3 46] [aE 3 0] [1] (b3 [a6 0]) []) λx=>aMx N x.1)
def ah6(N:Nat):=(ah5 N).go (cx 39 1 [ad 0] [vs 2]) (λr x=>Ac x.1) Tryz.func39
def ah7(N:Nat):=(ah6 N).go ⟨40,1,[],[],J (0,101),2,[ax 2 104,.u 0 (.recv 101)],[a8 2 1],[.tmp 2],ak⟩ (λr x=>HC N r) Tryz.func40 (cd.bE N (bi 111010 [.o 0 (.recv 101),ax 3 104,ad 4] [aE 0 0,a8 3 1] [2,0] [⟨.exit 0,[.u 0 (.recv 101),ax 3 104],[a8 3 2]⟩] [0]) λn (a,b,c,_)=>MX n a b c)
def ah8(N:Nat):=(ah7 N).go ⟨82,2,[ad 1],[],J (0,101),2,[cm 1000000 156,.u 0 (.recv 101)],[],[.cell 4 156],ak⟩ (λr x=>R6 r x.1) Tryz.func82 (cd.aS (bi 11101 [.o 0 (.recv 101),ob 4 156,ob 5 156,ad 12] [aE 0 0,aE 4 1,aE 5 2] [2,1,2] (b3 [.u 0 (.recv 101),eJ 2 156]) [0,4,5]) λ(a,_,b,c,_)=>DR a b c)
def ah'(N:Nat):=(ah8 N).go ⟨41,2,[ad 1],[],J (0,101),2,[ax 4 156,.u 0 (.recv 101)],[a8 4 1],[.tmp 4],ak⟩ (λr x=>HB N r x.1) Tryz.func41 (cd.bE N (bi 111010 [.o 0 (.recv 101),ax 5 156,ad 6] [aE 0 0,a8 5 1] [2,0] [⟨.exit 0,[.u 0 (.recv 101),ax 5 156],[a8 5 2]⟩] [0]) λn (a,b,c,_)=>EL n a b c)
def aia(N:Nat):=(ah' N).go ⟨10,2,[a6 1],[],J (0,101),2,[cm 1000000 27,.u 0 (.recv 101)],[],[.cell 4 27],ak⟩ (λr x=>Rp N r x.1) Tryz.func10 (((cd.bE N (bi 111010 [.o 0 (.recv 101),ob 4 27,.o 5 (.bL 27 [(0,3),(2,4)]),ad 6,ax 2005000 107,ax 2005002 104] [aE 0 0,aE 4 1,aE 5 2] [2,1,2,0,1] (eD 0 [.u 0 (.recv 101),.u 2 (.bL 27 [(0,5),(2,4)]),ax 2005000 107]) [0,1,4,5]) λn (a,_,b,c,d,_)=>CN n a b c d).aS (bi 1111100 [.o 0 (.recv 101),a6 1,ob 4 27,.o 5 (.bL 27 [(0,3),(2,4)]),ax 2005000 107,ax 2005002 104] [aE 0 0,aE 4 1,aE 5 2] [2,1,1,1,1] (b3 [.u 0 (.recv 101),a6 51]) [0,4,5]) λx=>Nr x.1 x.2.1).aS (bi 1111101 [.o 0 (.recv 101),ob 4 27,.o 5 (.bL 27 [(0,3),(2,4)]),a6 51,ax 2005000 107,ax 2005002 104] [aE 0 0,aE 4 1,aE 5 2] [2,1,2,0,0] (b3 [.u 0 (.recv 101),.u 2 (.bL 27 [(0,5),(2,6)]),ax 2005000 107,ax 2005002 104]) [0,4,5]) λ(a,_,b,c,d,e,_)=>Ns N a b c d e)
def aib(N:Nat):=(aia N).go (cx 143 1 [cm 0 156] [a6 2]) (λr x=>H0 x.1) Tryz.func143 ((cd.aS (bi 1100 [ob 1 156] [aE 1 0] [1] (b3 [a6 20]) [1]) λx=>GF x.1).aS (bi 1110 [ob 1 156] [aE 1 0] [1] (b3 [a6 2]) []) λx=>aDp x.1)
def aic(N:Nat):=(aib N).go (cx 92 1 [aW 0 156] [ad 2]) (λr x=>HZ N x.1) Tryz.func92 ((cd.bE N (cV 1110100100110 [aW 0 156,ad 3,ad 4] (dI 2 [ad 2]) [0,3]) λn (a,b,c,_)=>Gt a b n c).bE N (cV 111010 [aW 0 156,ad 3] (dI 0 [ad 2]) []) λn x=>PC N x.1 n x.2.1)
def aid(N:Nat):=(aic N).go (cx 93 1 [aW 0 104] [a6 2]) (λr x=>Rm N x.1) Tryz.func93 ((cd.aS (cV 11101001000 [aW 0 104,ad 3] (b3 [a6 58]) [0,3]) λx=>Nk x.1 x.2.1).bE N (cV 111010 [aW 0 104,ad 3] (dI 0 [a6 2]) []) λn x=>Df x.1 n x.2.1)
def aie(N:Nat):=(aid N).go (cx 44 1 [cm 0 27] [ad 2]) (λr x=>Rg N x.1) Tryz.func44 ((((((cd.aS (bi 110 [ob 1 27] [aE 1 0] [1] (b3 [a6 3]) [1]) λx=>Mg x.1).aS (bi 111010000 [ob 1 27,a6 3,ad 4] [aE 1 0] [1] (b3 [a6 44]) [1,3,4]) λ(a,b,c,_)=>Mh a b c).aS (bi 11101001000 [ob 1 27,ad 4] [aE 1 0] [1] (b3 [a6 3]) [1,4]) λx=>C4 N x.1 x.2.1).aS (bi 11101001001100100 [ob 1 27,a6 3,ad 4,ad 5] [aE 1 0] [1] (b3 [a6 3]) [1,4,5]) λ(a,b,c,d,_)=>Mi a b c d).bE N (bi 1110100100110 [ob 1 27,a6 3,ad 4,ad 5] [aE 1 0] [1] (eD 2 [a6 3]) [1,4]) λn (a,b,c,d,_)=>C5 a c n b d).bE N (bi 111010 [ob 1 27,a6 3,ad 4] [aE 1 0] [1] (eD 0 [a6 3]) [1]) λn (a,b,c,_)=>C3 N a n b c)
def aif(N:Nat):=(aie N).go (gS 13 1 [cm 0 27] [cm 1000000 46,ad 3] [] [.cell 2 46,.tmp 3]) (λr x=>Ic N x.1) Tryz.func13 (cd.bE N (bi 1111010 [ob 1 27,ob 2 46,.o 5 (.bL 46 [(1,3)]),ad 6,ax 2005001 22] [aE 1 0,aE 2 1,aE 5 2] [1,1,2,0] (eD 0 [.u 2 (.bL 46 [(1,4)]),ax 2005001 22]) [2,5]) λn (a,_,b,c,d,_)=>aAK a n b c d)
def aih(N:Nat):=(aif N).go (gS 83 1 [cm 0 46] [ax 2 3] [a8 2 0] [.tmp 2]) (λr x=>R7 N x.1) Tryz.func83 (((((cd.aS (bi 111010010010100100 [ob 1 46,ax 3 3,ax 4 3,ad 5,a6 6,ad 7] [aE 1 0,a8 3 1,a8 4 2] [1,1,1] (b3 [a6 6]) [1,3,4,5,7]) λ(a,_,_,b,c,d,_)=>aKm a b c d).bE N (bi 11101001001010 [ob 1 46,ax 3 3,ax 4 3,ad 5,a6 6,ad 7] [aE 1 0,a8 3 1,a8 4 2] [1,1,1] (eD 2 [a6 6]) [1,3,4,5]) λn (a,_,_,b,c,d,_)=>aJb a b n c d).aS (bi 1110100100110 [ob 1 46,ax 3 3,ax 4 3,ad 5,a6 6] [aE 1 0,a8 3 1,a8 4 2] [1,1,1] (b3 [a6 43]) [1,3,4,5,6]) λ(a,_,_,b,c,_)=>aKn a b c).aS (bi 111010010 [ob 1 46,ax 3 3,ax 4 3,ad 5] [aE 1 0,a8 3 1,a8 4 2] [1,0,0] [⟨.normal,[ax 3 3,ax 4 3],[a8 3 3,a8 4 4]⟩] [1,5]) λ(a,b,c,d,_)=>aKV N a b c d).bE N (bi 111010 [ob 1 46,ax 3 3,ax 4 3,ad 5] [aE 1 0,a8 3 1,a8 4 2] [1,0,0] [⟨.exit 0,[ax 3 3,ax 4 3],[a8 3 3,a8 4 4]⟩] []) λn (a,b,c,d,_)=>aD3 N a n b c d)
def aii(N:Nat):=(aih N).go ⟨138,2,[vs 1],[],J (0,101),2,[vs 4,.u 0 (.recv 101)],[],[.tmp 4],ak⟩ (λr x=>R8 r x.1) Tryz.func138
def aij(N:Nat):=(aii N).go ⟨86,2,[aW 1 5],[],J (0,101),2,[ax 4 5,.u 0 (.recv 101)],[a8 4 1],[.tmp 4],ak⟩ (λr x=>Q6 r x.1) Tryz.func86
def aim(N:Nat):=(aij N).go ⟨87,2,[cm 1 27],[],J (0,101),2,[cm 1000000 54,.u 0 (.recv 101)],[],[.cell 4 54],ak⟩ (λr x=>RM N r x.1) Tryz.func87 (((cd.aS (bi 111010010 [.o 0 (.recv 101),ob 3 27,ob 4 54,.o 5 (.bL 54 [(2,4)]),ad 6,ax 2005002 9] [aE 0 0,aE 3 1,aE 4 2,aE 5 3] [2,1,1,2,0] (b3 [.u 0 (.recv 101),.u 3 (.bL 54 [(2,5)]),ax 2005002 9]) [0,3,4,5,6]) λ(a,_,_,b,c,d,_)=>aC2 a b c d).bE N (bi 111010 [.o 0 (.recv 101),ob 3 27,ob 4 54,.o 5 (.bL 54 [(2,4)]),ad 6,ax 2005002 9] [aE 0 0,aE 3 1,aE 4 2,aE 5 3] [2,1,1,2,0] (eD 0 [.u 0 (.recv 101),.u 3 (.bL 54 [(2,5)]),ax 2005002 9]) [0,3,4,5]) λn (a,_,_,b,c,d,_)=>aC1 n a b c d).aS (bi 111101 [.o 0 (.recv 101),ob 3 27,ob 4 54,.o 5 (.bL 54 [(2,4)]),a6 39,ax 2005002 9] [aE 0 0,aE 3 1,aE 4 2,aE 5 3] [2,1,1,2,1] (b3 [.u 0 (.recv 101),.u 3 (.bL 54 [(2,4)])]) [0,4,5]) λ(a,b,_,c,d,_)=>aC3 a b c d)
def ain(N:Nat):=(aim N).go (cx 60 1 [cm 0 46] [ad 2]) (λr x=>SC x.1) Tryz.func60
def aio(N:Nat):=(ain N).go (cx 125 5 [aW 0 54,cm 1 89,ad 2,ad 3,aW 4 3] [ad 10]) (λr (a,b,c,d,e,_)=>x7 N a b c d e) Tryz.func125 (cd.bE N (bi 11010 [ad 2,aW 4 3,ob 6 89,ad 11] [aE 6 0] [1] (dI 0 [ad 10]) [0,6]) λn (a,b,_,c,_)=>Oe a b n c)
def aip(N:Nat):=(aio N).go (gS 61 2 [cm 0 46,aW 1 3] [ax 4 3] [a8 4 0] [.tmp 4]) (λr x=>Sf N x.1 x.2.1) Tryz.func61 (((cd.aS (bi 1111010010010010 [aW 1 3,ob 2 46,ax 5 3,ob 6 44,ad 7,ad 8] [aE 2 0,a8 5 1,aE 6 2] [1,0,1] [⟨.normal,[ax 5 3],[a8 5 3]⟩] [1,2,6,7,8]) λ(a,b,c,d,e,f,_)=>aKr N a b c d e f).bE N (bi 1111010010010 [aW 1 3,ob 2 46,ax 5 3,ob 6 44,ad 7,ad 8] [aE 2 0,a8 5 1,aE 6 2] [1,0,1] [⟨.exit 2,[ax 5 3],[a8 5 3]⟩] [1,2,6,7]) λn (a,b,c,d,e,f,_)=>aJg N a b d e n c f).bE N (bi 1111010 [aW 1 3,ob 2 46,ax 5 3,ob 6 44,ad 7] [aE 2 0,a8 5 1,aE 6 2] [1,0,1] [⟨.exit 0,[ax 5 3],[a8 5 3]⟩] []) λn (a,b,c,d,e,_)=>aB4 N a b d n c e)
def aiq(N:Nat):=(aip N).go (gS 19 1 [cm 0 46] [ad 2,aW 3 3,ax 4 3,ad 5] [a8 4 0] [.tmp 2,.tmp 3,.tmp 4,.tmp 5]) (λr x=>Aj N x.1) Tryz.func19 (cd.aS (bi 1100 [ob 1 46] [aE 1 0] [1] (b3 [a6 14]) [1]) λx=>aEt x.1)
def Zr(N:Nat):=(aiq N).go ⟨42,4,[cm 1 27,cm 2 46,ad 3],[],J (0,101),2,[cm 1000000 57,.u 0 (.recv 101)],[],[.cell 8 57],ak⟩ (λr (a,b,c,_)=>RL N r a b c) Tryz.func42 (((((((((((((((cd.aS (bi 1111000 [.o 0 (.recv 101),ob 5 27,ob 6 46,ob 8 57,ax 9 3,.o 10 (.bL 57 [(5,6),(6,7),(11,8)]),ax 2010005 3,ax 2010006 140,ax 2010011 5] [aE 0 0,aE 5 1,aE 6 2,aE 8 3,a8 9 4,aE 10 5] [2,1,1,1,1,1,1,1,1] (b3 [.u 0 (.recv 101),a6 26]) [0,3,5,6,8,9,10]) λx=>MR x.1 x.2.2.1).aS (bi 111100110 [.o 0 (.recv 101),ob 5 27,ob 6 46,ob 8 57,ax 9 3,.o 10 (.bL 57 [(5,6),(6,7),(11,8)]),ax 2010005 3,ax 2010006 140,ax 2010011 5] [aE 0 0,aE 5 1,aE 6 2,aE 8 3,a8 9 4,aE 10 5] [2,1,1,1,1,1,1,1,1] (b3 [.u 0 (.recv 101),a6 35]) [0,3,5,6,8,9,10]) λx=>EG x.1 x.2.2.1).aS (bi 11110 [.o 0 (.recv 101),ob 5 27,ob 6 46,ob 8 57,ax 9 3,.o 10 (.bL 57 [(5,6),(6,7),(11,8)]),ax 2010005 3,ax 2010006 140,ax 2010011 5] [aE 0 0,aE 5 1,aE 6 2,aE 8 3,a8 9 4,aE 10 5] [2,1,1,1,1,2,1,1,1] (b3 [.u 0 (.recv 101),.u 5 (.bL 57 [(5,6),(6,7),(11,8)])]) [0,3,5,6,8,9,10]) λ(a,_,b,_,_,c,_)=>EF a b c).aS (bi 1111101010100 [.o 0 (.recv 101),ob 8 57,ax 9 3,.o 10 (.bL 57 [(5,4),(6,5),(11,6)]),ax 2010005 3,ax 2010006 140,ax 2010011 5] [aE 0 0,aE 8 1,a8 9 2,aE 10 3] [2,1,1,1,1,1,1] (b3 [.u 0 (.recv 101),a6 61]) [0,3,8,9,10]) λx=>EI x.1 x.2.2.1).aS (bi 1111101010101 [.o 0 (.recv 101),ob 8 57,ax 9 3,.o 10 (.bL 57 [(5,4),(6,5),(11,6)]),a6 61,ax 2010005 3,ax 2010006 140,ax 2010011 5] [aE 0 0,aE 8 1,a8 9 2,aE 10 3] [2,1,1,2,1,1,1] (b3 [.u 0 (.recv 101),.u 3 (.bL 57 [(5,4),(6,5),(11,6)])]) [0,3,8,10]) λ(a,_,b,c,d,_)=>MS a b c d).bE N (bi 1111101010111010 [.o 0 (.recv 101),ad 3,ob 8 57,.o 10 (.bL 57 [(5,4),(6,5),(11,6)]),ax 11 92,ad 12,ax 2010005 3,ax 2010006 140,ax 2010011 5] [aE 0 0,aE 8 1,aE 10 2,a8 11 3] [2,1,1,0,1,1,1] [⟨.exit 2,[.u 0 (.recv 101),ax 11 92],[a8 11 7]⟩] [0,8,10]) λn (a,b,_,_,c,d,_)=>EJ N b n a c d).aS (bi 11111010111010 [.o 0 (.recv 101),ob 8 57,ax 9 3,.o 10 (.bL 57 [(5,4),(6,5),(11,6)]),ax 2010005 3,ax 2010006 140,ax 2010011 5] [aE 0 0,aE 8 1,a8 9 2,aE 10 3] [2,1,1,1,1,1,1] (b3 [.u 0 (.recv 101),a6 118]) [0,8,9,10]) λx=>MT x.1 x.2.2.1).aS (bi 11111010111101 [.o 0 (.recv 101),ob 5 27,ob 6 46,ob 8 57,ax 9 3,.o 10 (.bL 57 [(5,6),(6,7),(11,8)]),ad 45,a6 124,ax 2010005 3,ax 2010006 140,ax 2010011 5] [aE 0 0,aE 5 1,aE 6 2,aE 8 3,a8 9 4,aE 10 5] [1,1,1,1,1,1,1,1,1] (b3 [a6 124]) [0,5,6,8,9,10,45]) λ(_,_,_,_,_,_,a,b,_)=>EK a b).aS (bi 11111010111110100 [.o 0 (.recv 101),ob 5 27,ob 8 57,ax 9 3,.o 10 (.bL 57 [(5,5),(6,6),(11,7)]),ax 2010005 3,ax 2010006 140,ax 2010011 5] [aE 0 0,aE 5 1,aE 8 2,a8 9 3,aE 10 4] [1,1,1,1,1,1,1,1] (b3 [a6 144]) [0,5,8,9,10]) λ(_,_,_,a,b,_)=>aKL a b).aS (bi 11111010111110101 [.o 0 (.recv 101),ob 5 27,ob 8 57,ax 9 3,.o 10 (.bL 57 [(5,5),(6,6),(11,7)]),a6 144,ax 2010005 3,ax 2010006 140,ax 2010011 5] [aE 0 0,aE 5 1,aE 8 2,a8 9 3,aE 10 4] [1,1,1,1,2,1,1,1] (b3 [.u 4 (.bL 57 [(5,5),(6,6),(11,7)])]) [0,5,8,9,10]) λ(_,_,_,a,b,c,_)=>aKj a b c).aS (bi 1111101011111011010000 [.o 0 (.recv 101),ob 5 27,ob 8 57,ax 9 3,.o 10 (.bL 57 [(5,5),(6,6),(11,7)]),ad 14,ax 2010005 3,ax 2010006 140,ax 2010011 5] [aE 0 0,aE 5 1,aE 8 2,a8 9 3,aE 10 4] [1,1,1,1,1,1,1,1] (b3 [a6 168]) [0,5,8,9,10,14]) λ(_,_,_,a,_,b,c,_)=>aKk a b c).aS (bi 1111101011111011010010 [.o 0 (.recv 101),ob 5 27,ob 8 57,ax 9 3,.o 10 (.bL 57 [(5,5),(6,6),(11,7)]),ad 14,ax 2010005 3,ax 2010006 140,ax 2010011 5] [aE 0 0,aE 5 1,aE 8 2,a8 9 3,aE 10 4] [1,1,1,1,2,0,1,1] (b3 [.u 4 (.bL 57 [(5,8),(6,6),(11,7)]),ax 2010005 3]) [0,5,8,9,10,14]) λ(_,_,_,a,b,c,d,_)=>aKl a b c d).bE N (bi 1111101011111011010 [.o 0 (.recv 101),ob 5 27,ob 8 57,ax 9 3,.o 10 (.bL 57 [(5,5),(6,6),(11,7)]),ad 14,ax 2010005 3,ax 2010006 140,ax 2010011 5] [aE 0 0,aE 5 1,aE 8 2,a8 9 3,aE 10 4] [1,1,1,1,2,0,1,1] (eD 4 [.u 4 (.bL 57 [(5,8),(6,6),(11,7)]),ax 2010005 3]) [0,5,8,10]) λn (_,_,_,a,b,c,d,_)=>aJz a n b c d).bE N (bi 1111101011111110110 [.o 0 (.recv 101),ob 5 27,ob 8 57,.o 10 (.bL 57 [(5,4),(6,5),(11,6)]),aW 16 3,ad 19,ax 2010005 3,ax 2010006 140,ax 2010011 5] [aE 0 0,aE 5 1,aE 8 2,aE 10 3] [2,1,1,2,1,0,1] (eD 6 [.u 0 (.recv 101),.u 3 (.bL 57 [(5,4),(6,7),(11,6)]),ax 2010006 140]) [0,8,10]) λn (a,b,_,c,d,e,_,f,_)=>aJA b d n a c e f).aS (bi 1111101 [.o 0 (.recv 101),ad 3,ob 5 27,ob 6 46,ob 8 57,ax 9 3,.o 10 (.bL 57 [(5,6),(6,7),(11,8)]),ad 45,ax 2010005 3,ax 2010006 140,ax 2010011 5] [aE 0 0,aE 5 1,aE 6 2,aE 8 3,a8 9 4,aE 10 5] [2,0,0,1,0,2,0,0,0] (b3 [.u 0 (.recv 101),.u 5 (.bL 57 [(5,9),(6,10),(11,11)]),ax 2010005 3,ax 2010006 140,ax 2010011 5]) [0,8,10]) λ(a,b,c,d,_,e,f,g,h,i,j,_)=>EH N a b c d e f g h i j)
def alR(N:Nat):mi cT:=(Zr N).bk.l9 λx b a=>match x,b,a with|.const (.int .i64 34),ae,ae=>3|_,_,_=>0
def air(N:Nat):eS cT:=(Zr N).l7 ⟨74,1,[aW 0 22],[],ae,0,[.o 2 (.ne 22 3)],[a8 2 0],[.tmp 2],ak⟩ (λr x=>Td N x.1) (((ch.nil:ch (alR N) (en Tryz.f74)).bE N ⟨[1,1,0,1,0],[aW 0 22,.o 3 (.ne 22 3),ad 4],[a8 3 0],[0],[⟨.exit 0,[.o 3 (.ne 22 3)],[a8 3 1]⟩],[]⟩ λn x=>Ge x.1 n x.2.1 x.2.2.1).fn Tryz.func74)
def ais(N:Nat):=(air N).go (gS 49 1 [cm 0 46] [cm 1064000000 46,ax 1064000001 92,ax 1064000003 54] [a8 1064000001 0,a8 1064000003 1] [.cell 2 46]) (λr x=>Te N x.1) Tryz.func49 (cd.bE N (bi 11111010 [.o 1 (.bL 46 [(0,3),(1,4)]),ob 2 46,ax 3 54,ad 4,ax 2001000 92,.o 2001001 (.ne 22 3)] [aE 1 0,aE 2 1,a8 3 2] [1,1,0,1,2] [⟨.exit 0,[ax 3 54,.u 4 (.ne 22 3)],[a8 3 5]⟩] [1,2]) λn (a,_,b,c,_,d,_)=>Pj a n b c d)
def ait(N:Nat):=(ais N).go (cx 107 2 [cm 0 27,ad 1] [a6 4]) (λr x=>x9 x.1 x.2.1) Tryz.func107 (cd.aS (bi 110 [ad 1,ob 2 27] [aE 2 0] [1] (b3 [a6 4]) []) λx=>GS x.1 x.2.1)
def aiu(N:Nat):=(ait N).go (cx 108 2 [aW 0 3,ad 1] [a6 4]) (λr x=>Am N x.1 x.2.1) Tryz.func108 (cd.bE N (cV 11010 [aW 0 3,ad 1,ad 5] (dI 0 [a6 4]) []) λn (a,b,c,_)=>OW a b n c)
def aiw(N:Nat):=(aiu N).go (cx 109 2 [cm 0 46,ad 1] [a6 4]) (λr x=>Se N x.1 x.2.1) Tryz.func109 (cd.bE N (bi 11010 [ad 1,ob 2 46,ad 5] [aE 2 0] [1] (dI 0 [a6 4]) []) λn (a,b,c,_)=>Fu a b n c)
def aix(N:Nat):=(aiw N).go (cx 170 1 [aW 0 5] [ad 2]) (λr x=>Tj N x.1) Tryz.func170 (cd.bE N (cV 1111010 [aW 0 5,ad 3,ad 4] [⟨.exit 0,[ad 3],[]⟩,⟨.ret,[ad 2],[]⟩] [0]) λn (a,b,c,_)=>OS a n b c)
def aiy(N:Nat):=(aix N).go (cx 171 1 [aW 0 5] [ad 2]) (λr x=>H8 x.1) Tryz.func171
def aiz(N:Nat):=(aiy N).go (gS 110 1 [aW 0 5] [ax 2 92,ad 3] [a8 2 0] [.tmp 2,.tmp 3]) (λr x=>gy N x.1) Tryz.func110 ((((cd.aS (bi 111111010010011010010000 [ax 5 92,aW 8 5,ad 10] [a8 5 0] [1] (b3 [a6 63]) [0,5,6,7,8,9,10]) λ(_,a,b,_)=>aK' a b).bE N (bi 111111010010011010 [ax 5 92,aW 8 5,vs 9,ad 10] [a8 5 0] [1] [⟨.exit 3,[vs 9],[]⟩,⟨.ret,[ad 3],[(2,.c .gE)]⟩] [0,5,6,7,8]) λn (_,a,b,c,_)=>N6 a n b c).aS (bi 111111010010011100 [ax 5 92,aW 8 5] [a8 5 0] [1] (b3 [a6 95]) [0,5,6,7,8,9]) λx=>aLa x.2.1).bE N (bi 111111010 [aW 0 5,ax 5 92,ad 6,ad 7] [a8 5 0] [0] [⟨.exit 1,[ax 5 92],[a8 5 1]⟩,⟨.ret,[ad 3],[(2,.c .gE)]⟩] []) λn (a,b,c,d,_)=>N5 N a n b c d)
def aiA(N:Nat):=(aiz N).go (cx 37 2 [aW 0 22,ad 1] [ad 4,ad 5]) (λr x=>H3 N x.1 x.2.1) Tryz.func37 ((cd.bE N (cV 11010010010 [aW 0 22,ad 1,ad 6,ad 7] (dI 2 [ad 4,ad 5]) [0,1,6]) λn (a,b,c,d,_)=>GP a b c n d).bE N (cV 11010 [aW 0 22,ad 1,ad 6] (dI 0 [ad 4,ad 5]) []) λn (a,b,c,_)=>GO N a b n c)
def aiB(N:Nat):=(aiA N).go (gS 27 1 [aW 0 92] [ax 2 3] [a8 2 0] [.tmp 2]) (λr x=>Sd N x.1) Tryz.func27 (cd.bE N (bi 111010 [aW 0 92,ax 3 3,ad 4] [a8 3 0] [0] [⟨.exit 0,[ax 3 3],[a8 3 1]⟩] []) λn (a,b,c,_)=>Ft a n b c)
def aiC(N:Nat):=(aiB N).go (cx 73 2 [aW 0 3,aW 1 3] [ad 4]) (λr x=>Ib N x.1 x.2.1) Tryz.func73 (cd.bE N (cV 111010 [aW 0 3,aW 1 3,ad 5,ad 6] (eD 0 [ad 5]) []) λn (a,b,c,d,_)=>aEB a b n c d)
def Zs(N:Nat):=(aiC N).go (cx 26 3 [aW 0 107,aW 1 3,aW 2 22] [a6 6]) (λr (a,b,c,_)=>S1 N a b c) Tryz.func26 (((((((cd.aS (cV 1100 [aW 0 107,aW 1 3,aW 2 22] (b3 [a6 26]) [0,1,2]) λ(a,b,c,_)=>GN a b c).aS (cV 11101001000 [aW 1 3,ad 7] (b3 [a6 44]) [0,1,2,7]) λx=>aI4 x.1 x.2.1).bE N (cV 111010 [aW 1 3,ad 7] (dI 0 [a6 6]) [0,1,2]) λn x=>aBb x.1 n x.2.1).aS (bi 1111101001000100100100 [aW 1 3,ax 8 4,ad 11] [a8 8 0] [1] (b3 [a6 83]) [0,1,2,8,9,10,11]) λ(a,b,c,_)=>aI5 a b c).bE N (bi 111110100100010 [aW 1 3,aW 2 22,ax 8 4,ad 9,ad 10] [a8 8 0] [2] [⟨.exit 4,[.u 0 (.bh 4)],[]⟩,⟨.ret,[a6 6],[]⟩] [0,1,2,8,9]) λn (a,b,c,d,e,_)=>aIY a b d n c e).aS (bi 11111010010010 [aW 0 107,aW 1 3,aW 2 22,ax 8 4,ad 9] [a8 8 0] [1] (b3 [a6 114]) [0,1,2,8,9]) λ(a,b,c,_,d,_)=>aI6 N a b c d).bE N (bi 11111010 [aW 0 107,aW 1 3,aW 2 22,ax 8 4,ad 9] [a8 8 0] [0] (dI 2 [a6 6]) []) λn (a,b,c,d,e,_)=>aIX N a b c n d e)
def alS(N:Nat):mi cT:=(Zs N).bk.l9 λx b a=>match x,b,a with|.tmp 86,ae,ae=>7|.tmp 81,ae,J (.tmp 82)=>1|.tmp 87,J (.tmp 89),ae=>1|_,_,_=>0
def TO(N:Nat):eS cT:=(Zs N).l7 ⟨75,4,[aW 0 107,aW 1 3,aW 2 22,cm 3 149],[],ae,0,[aW 8 22,ad 9],[],[.tmp 8,.tmp 9],ak⟩ (λr x=>Ag N x.1 x.2.1 x.2.2.1 x.2.2.2.1) ((((((ch.nil:ch (alS N) (en Tryz.f75)).aS ⟨[1,1,0,0],[aW 1 3,aW 2 22,ob 7 149],[aE 7 0],[1],[⟨.normal,[a6 51],[]⟩],[0,1,2,7]⟩ λx=>GK x.1 x.2.1 x.2.2.1).aS ⟨[1,1,1,1,0,0],[ob 7 149,ad 10],[aE 7 0],[1],[⟨.normal,[a6 71],[]⟩],[0,1,2,7,10,11]⟩ λx=>PL x.1 x.2.1).aS ⟨[1,1,1,1,1,1,0,1],[ob 7 149,ad 10,ad 11,.o 12 (.ne 22 3),a6 75],[aE 7 0,a8 12 1],[1,2],[⟨.normal,[.u 1 (.ne 22 3)],[]⟩],[0,1,7,12]⟩ λx=>GL x.2.1 x.2.2.1 x.2.2.2.1 x.2.2.2.2.1).aS ⟨[1,1,1,1,1,1,1,1,0,1],[ob 7 149,.o 12 (.ne 22 3),a6 98],[aE 7 0,a8 12 1],[1,2],[⟨.normal,[.u 1 (.ne 22 3)],[]⟩],[0,1,7,12]⟩ λx=>GM x.1 x.2.1 x.2.2.1).fn Tryz.func75)
def UA:e7 D:=⟨111,3,[aX 0 46,aX 1 46,aX 2 67,ax 100000003 92,.o 0 (.bL 121 [(32,5)]),ad 1,ad 2,ax 2000032 149],[aE 0 4],[1,1,1,1,2,0],[a6 6,ax 2000032 149,.u 4 (.bL 121 [(32,6)])],[],[6],ak⟩
def yi(N:Nat):UA.gA.F:=λx=>HH N x.2.2.2.2.1 x.2.2.2.2.2.1 x.2.2.2.2.2.2.1 x.2.2.2.2.2.2.2.1
def awO(N:Nat):fR cT UA (yi N):=ch.iu (ch.nil:ch (TO N).bk (en Tryz.f111)) Tryz.func111
def aiD(N:Nat):eS cT:=(TO N).ir UA (yi N) (awO N)
def aMu:e7 D:=⟨111,3,[aX 0 46,aX 1 46,aX 2 67,ax 100000004 92,.o 0 (.bL 121 [(32,5)]),ad 1,ad 2,ax 2000032 149],[aE 0 4],[1,1,1,1,2,0],[a6 6,ax 2000032 149,.u 4 (.bL 121 [(32,6)])],[],[6],ak⟩
def aNL(N:Nat):fR cT aMu (yi N):=ch.iu (ch.nil:ch (TO N).bk (en Tryz.f111)) Tryz.func111
def aiF(N:Nat):eS cT:=(aiD N).ir aMu (yi N) (aNL N)
def aiG(N:Nat):=(aiF N).mx ⟨50,1,[aX 0 46,aX 1 46,aX 2 67,.o 0 (.bL 121 [(5,4),(32,5)]),ax 2000005 92,ax 2000032 149],[aE 0 3],[1,1,1,2,0,0],[ad 2,ax 2000032 149,.u 3 (.bL 121 [(32,6)])],[],[2],ak⟩ (λ(_,_,_,a,b,c,_)=>RC N a b c) Tryz.func50 (((((cd.aS (bi 11100110 [aX 0 46,aX 1 46,aX 2 67,.o 0 (.bL 121 [(5,5),(32,6)]),ad 3,ob 4 44,ax 2000005 92,ax 2000032 149] [aE 0 3,aE 4 4] [1,1,1,1,1,1,1] (b3 [a6 31]) [0,3]) λ(_,_,_,a,b,c,_)=>Es N a b c).aS (bi 1111111010010010010010 [aX 0 46,aX 1 46,aX 2 67,.o 0 (.bL 121 [(5,5),(32,6)]),ax 5 92,ad 8,ad 9,ad 10,ax 2000005 92,ax 2000032 149] [aE 0 3,a8 5 4] [1,1,1,1,1,1,1] (b3 [a6 120]) [0,3,5,7,8,9]) λ(_,_,_,_,a,b,c,d,e,_)=>aAU a b c d e).bE N (bi 1111111010010010 [aX 0 46,aX 1 46,aX 2 67,.o 0 (.bL 121 [(5,5),(32,6)]),ax 5 92,ad 7,ad 8,ad 9,ax 2000005 92,ax 2000032 149] [aE 0 3,a8 5 4] [1,1,1,1,1,1,1] (dI 3 [ad 2]) [0,3,5,7,8]) λn (_,_,_,a,b,c,d,e,f,_)=>Et N a b c d f n e).bE N (bi 1111111010 [aX 0 46,aX 1 46,aX 2 67,.o 0 (.bL 121 [(5,5),(32,6)]),ax 5 92,ad 7,ad 8,ax 2000005 92,ax 2000032 149] [aE 0 3,a8 5 4] [1,1,1,1,1,1,1] (dI 1 [ad 2]) [0,3,5,7]) λn (_,_,_,a,b,c,d,e,_)=>NE N a b c e n d).bE N (bi 1111111111010 [aX 0 46,aX 1 46,aX 2 67,.o 0 (.bL 121 [(32,5)]),ad 3,ax 5 92,ad 7,ad 12,ax 2000032 149] [aE 0 3,a8 5 4] [1,1,1,2,1,0] [⟨.exit 5,[.u 3 (.bL 121 [(32,6)]),ax 2000032 149],[]⟩,⟨.ret,[.u 3 (.bL 121 [(32,6)]),ad 2,ax 2000032 149],[]⟩] [0]) λn (_,_,_,a,b,c,d,e,f,_)=>aJp N b c d n a e f)
def aiH(N:Nat):=(aiG N).go (cx 35 2 [cm 0 54,vs 1] [ad 4]) (λr x=>SZ N x.1 x.2.1) Tryz.func35 (cd.bE N (bi 11010 [vs 1,ob 2 54,ad 5] [aE 2 0] [1] (dI 0 [ad 4]) []) λn (a,b,c,_)=>GG a b n c)
def aiI(N:Nat):=(aiH N).go (cx 112 2 [cm 0 27,cm 1 54] [a6 4]) (λr x=>Rn N x.1 x.2.1) Tryz.func112 (((cd.aS (bi 1100 [ob 2 27,ob 3 54] [aE 2 0,aE 3 1] [1,1] (b3 [a6 34]) [3]) λx=>Dg N x.1 x.2.1).aS (bi 11101001000 [ob 3 54,ad 5] [aE 3 0] [1] (b3 [a6 59]) [3,5]) λx=>aKB N x.1 x.2.1).bE N (bi 111010 [ob 3 54,ad 5] [aE 3 0] [1] (dI 0 [a6 4]) []) λn x=>Nn N x.1 n x.2.1)
def aiJ(N:Nat):=(aiI N).mx ⟨51,1,[aX 0 46,aX 1 46,aX 2 67,.o 0 (.bL 121 [(7,4)]),ax 2000007 54],[aE 0 3],[1,1,1,2,0],[ad 2,ax 2000007 54,.u 3 (.bL 121 [(7,5)])],[],[2],ak⟩ (λ(_,_,_,a,b,_)=>R4 N a b) Tryz.func51 (((cd.aS (bi 111110100100100 [aX 0 46,aX 1 46,aX 2 67,.o 0 (.bL 121 [(7,6)]),ob 3 54,ob 5 54,ax 2000007 54] [aE 0 3,aE 3 4,aE 5 5] [1,1,1,1,1,1,1] (b3 [a6 53]) [0,3,4,5]) λ(_,_,_,_,a,b,_)=>aKU a b).bE N (bi 1111101001001110 [aX 0 46,aX 1 46,aX 2 67,.o 0 (.bL 121 [(7,6)]),ob 3 54,ob 5 54,ad 6,ax 2000007 54] [aE 0 3,aE 3 4,aE 5 5] [1,1,1,1,1,1,1] (dI 2 [ad 2]) [0,3,4]) λn (_,_,_,_,a,b,c,_)=>aJy N a b n c).bE N (bi 11111010 [aX 0 46,aX 1 46,aX 2 67,.o 0 (.bL 121 [(7,5)]),ob 3 54,ad 4,ax 2000007 54] [aE 0 3,aE 3 4] [1,1,1,1,1,1] (dI 0 [ad 2]) [0,3]) λn (_,_,_,_,a,b,c,_)=>DQ N a c n b)
def aiK(N:Nat):=(aiJ N).go ⟨113,1,[],[],J (0,121),1,[a6 2],[],[.tmp 2],ak⟩ (λr x=>HG N r) Tryz.func113 (((cd.aS (bi 110 [.o 0 (.recv 121)] [aE 0 0] [1] (b3 [a6 3]) [0]) λx=>aLx x.1).aS (bi 1110100100 [.o 0 (.recv 121),a6 3,ad 4] [aE 0 0] [1] (b3 [a6 3]) [0,4]) λ(a,b,c,_)=>aLy a b c).bE N (bi 111010 [.o 0 (.recv 121),a6 3,ad 4] [aE 0 0] [1] (eD 0 [a6 3]) [0]) λn (a,b,c,_)=>aJ5 a n b c)
def aiL(N:Nat):=(aiK N).go ⟨114,1,[],[],J (0,121),1,[a6 2],[],[.tmp 2],ak⟩ (λr x=>SI N r) Tryz.func114 ((cd.aS (bi 1110100100 [.o 0 (.recv 121),a6 3,ad 4] [aE 0 0] [1] (b3 [a6 3]) [0,4]) λ(a,b,c,_)=>aLz N a b c).bE N (bi 111010 [.o 0 (.recv 121),a6 3,ad 4] [aE 0 0] [1] (eD 0 [a6 3]) [0]) λn (a,b,c,_)=>aJ6 N a n b c)
def aiM(N:Nat):=(aiL N).go (cx 36 2 [aW 0 54,vs 1] [ad 4,ad 5]) (λr x=>S3 N x.1 x.2.1) Tryz.func36 (cd.bE N (cV 11010 [aW 0 54,vs 1,ad 6] (dI 0 [ad 4,ad 5]) []) λn (a,b,c,_)=>O0 N a b n c)
def aiN(N:Nat):=(aiM N).go (sX 31 2 [aW 0 54,cm 1 92] [cm 1000000 89] [.cell 4 89]) (λr x=>H5 N x.1 x.2.1) Tryz.func31
def aiO(N:Nat):=(aiN N).go (cx 131 1 [cm 0 38] [ad 2]) (λr x=>SP N x.1) Tryz.func131 ((((cd.aS (bi 11100 [ob 1 38] [aE 1 0] [1] (b3 [a6 16]) [1]) λx=>Pq x.1).aS (bi 11110100100100 [ob 1 38,ob 4 89] [aE 1 0,aE 4 1] [1,1] (b3 [a6 66]) [1,3,4]) λx=>aLi x.2.1).aS (bi 11110100100110 [ob 1 38,ad 3,ob 4 89] [aE 1 0,aE 4 1] [1,1] (b3 [a6 80]) [1,3]) λ(a,b,c,_)=>aLj a b c).bE N (bi 1111010 [ob 1 38,ad 3] [aE 1 0] [1] (dI 0 [ad 2]) []) λn x=>aJD x.1 n x.2.1)
def aiQ(N:Nat):=(aiO N).go (cx 77 3 [cm 0 38,ad 1,ad 2] [ad 6]) (λr (a,b,c,_)=>H4 a b c) Tryz.func77 (cd.aS (bi 111000 [ob 7 89,ob 8 89] [aE 7 0,aE 8 1] [1,1] (b3 [a6 19]) [1,2]) λx=>aEq x.1 x.2.1)
def aiR(N:Nat):=(aiQ N).go (cx 78 3 [cm 0 38,ad 1,ad 2] [ad 6]) (λr (a,b,c,_)=>Sy a b c) Tryz.func78
def aiS(N:Nat):=(aiR N).go (cx 233 3 [cm 0 38,aW 1 3,ad 2] [ad 6]) (λr (a,b,c,_)=>tT N a b c) Tryz.func233 ((cd.aS (bi 111010010 [aW 1 3,ad 2,ob 3 38,ad 7,ad 8] [aE 3 0] [1] (b3 [ad 7]) [1,2,3,8]) λ(a,b,c,d,e,_)=>aKY N a b c d e).bE N (bi 111010 [aW 1 3,ad 2,ob 3 38,ad 7,ad 8] [aE 3 0] [1] (eD 0 [ad 7]) []) λn (a,b,c,d,e,_)=>aJR N a b c n d e)
def aiT(N:Nat):=(aiS N).go (cx 198 2 [ad 0,ad 1] [a6 4]) (λr x=>Ta x.1 x.2.1) Tryz.func198 (cd.aS (cV 110 [ad 0,ad 1] (b3 [a6 4]) []) λx=>XO x.1 x.2.1)
def aiU(N:Nat):=(aiT N).go (cx 132 3 [ad 0,ad 1,ad 2] [a6 6]) (λr (a,b,c,_)=>Tk N a b c) Tryz.func132 ((cd.aS (cV 1100 [ad 0,ad 1,ad 2] (b3 [a6 30]) [0,1,2]) λ(a,b,c,_)=>FV a b c).bE N (cV 1111010 [ad 7,ad 8] (eD 0 [ad 7]) [2]) λn x=>aJ0 n x.1 x.2.1)
def aiV(N:Nat):=(aiU N).go (cx 133 3 [ad 0,ad 1,ad 2] [ad 6,ad 7]) (λr (a,b,c,_)=>qA N a b c) Tryz.func133 ((cd.aS (cV 1100 [ad 0,ad 1,ad 2] (b3 [a6 16]) [0,1,2]) λ(a,b,c,_)=>F8 a b c).bE N (cV 111010 [ad 1,ad 2,ad 8] (dI 0 [ad 6,ad 7]) []) λn (a,b,c,_)=>aFZ N a b n c)
def aiW(N:Nat):=(aiV N).go (cx 80 1 [ad 0] [ad 2]) (λr x=>tU N x.1) Tryz.func80 (cd.bE N (cV 11100 [ad 0,ad 3] (eD 0 [ad 3]) []) λn x=>O9 n x.1 x.2.1)
def aiX(N:Nat):=(aiW N).go (gS 172 1 [cm 0 38] [cm 1000000 40,ad 3] [] [.cell 2 40,.tmp 3]) (λr x=>Af N x.1) Tryz.func172 (((cd.aS (bi 11111010010010010 [ob 1 38,ob 2 40,ax 5 3,ad 6,ad 7,ad 8] [aE 1 0,aE 2 1,a8 5 2] [1,2,2] [⟨.normal,[eJ 1 40,.u 2 (.bh 3),ad 6],[]⟩,⟨.ret,[eJ 1 40,ad 3],[]⟩] [1,2,5,7,8]) λ(a,b,c,d,e,f,_)=>Ps N a b c d e f).bE N (bi 11111010010010 [ob 1 38,ob 2 40,ax 5 3,ad 6,ad 7,ad 8] [aE 1 0,aE 2 1,a8 5 2] [1,2,0] [⟨.exit 2,[eJ 1 40,ax 5 3,ad 6],[a8 5 3]⟩,⟨.ret,[eJ 1 40,ad 3],[]⟩] [1,2,5,7]) λn (a,b,c,d,e,f,_)=>Pr N a e n b c d f).bE N (bi 11111010 [ob 1 38,ob 2 40,ax 5 3,ad 6,ad 7] [aE 1 0,aE 2 1,a8 5 2] [1,2,0] [⟨.exit 0,[eJ 1 40,ax 5 3,ad 6],[a8 5 3]⟩,⟨.ret,[eJ 1 40,ad 3],[]⟩] [2,5]) λn (a,b,c,d,e,_)=>EO N a n b c d e)
def aiY(N:Nat):=(aiX N).go (gS 234 2 [cm 0 38,aW 1 3] [ax 4 3] [a8 4 0] [.tmp 4]) (λr x=>afI N x.1 x.2.1) Tryz.func234 (((((cd.aS (bi 1111010010 [aW 1 3,ob 2 38,ad 5,ad 6] [aE 2 0] [1] (b3 [ad 5]) [1,2,6]) λ(a,_,b,c,_)=>XN a b c).bE N (bi 1111010 [aW 1 3,ob 2 38,ad 5,ad 6] [aE 2 0] [1] (eD 0 [ad 5]) [1,2]) λn (a,_,b,c,_)=>afc a n b c).aS (bi 1111110100100100000 [aW 1 3,ob 2 38,ad 5,ax 7 3,ad 8,ad 9] [aE 2 0,a8 7 1] [1,1] (b3 [a6 58]) [1,2,5,7,8,9]) λ(a,b,c,_,d,e,_)=>aKX N a b c d e).bE N (bi 1111110100100100 [aW 1 3,ob 2 38,ad 5,ax 7 3,ad 8,ad 9] [aE 2 0,a8 7 1] [1,1] (eD 4 [ad 9]) [1,2,7]) λn (a,b,c,_,d,e,_)=>aJQ N a b c d n e).bE N (bi 111111010 [aW 1 3,ob 2 38,ad 5,ax 7 3,ad 8] [aE 2 0,a8 7 1] [1,0] [⟨.exit 2,[ax 7 3],[a8 7 2]⟩] []) λn (a,b,c,d,e,_)=>aJP N a b n c d e)
def aiZ(N:Nat):=(aiY N).go (gS 173 1 [cm 0 38] [ax 2 3,ad 3] [a8 2 0] [.tmp 2,.tmp 3]) (λr x=>HJ N x.1) Tryz.func173
def ai1(N:Nat):=(aiZ N).go (gS 115 1 [cm 0 38] [cm 1000000 42,ad 3] [] [.cell 2 42,.tmp 3]) (λr x=>Tb N x.1) Tryz.func115
def ai2(N:Nat):=(ai1 N).go (cx 121 2 [cm 0 46,aW 1 3] [ad 4]) (λr x=>Tg N x.1 x.2.1) Tryz.func121 (cd.bE N (bi 111010 [aW 1 3,ob 2 46,ad 5,ad 6] [aE 2 0] [1] (eD 0 [ad 5]) []) λn (a,b,c,d,_)=>Gh a b n c d)
def I2(N:Nat):=(ai2 N).go (cx 116 6 [cm 0 27,cm 1 46,cm 2 38,cm 3 40,aW 4 3,aW 5 22] [a6 12]) (λr (a,b,c,d,e,f,_)=>Th N a b c d e f) Tryz.func116 ((((((cd.aS (bi 11101001001010010 [ob 6 27,ob 7 46,ob 8 38,ob 9 40,ad 13,ad 14,ad 15] [aE 6 0,aE 7 1,aE 8 2,aE 9 3] [1,1,1,1] (b3 [ad 14]) [4,5,6,7,8,9,13,15]) λ(_,_,a,b,c,d,e,_)=>aK4 a b c d e).bE N (bi 11101001001010 [ob 6 27,ob 7 46,ob 8 38,ob 9 40,ad 13,ad 14,ad 15] [aE 6 0,aE 7 1,aE 8 2,aE 9 3] [1,1,1,1] (eD 2 [ad 14]) [4,5,6,7,8,9,13]) λn (_,_,a,b,c,d,e,_)=>aJX a b c n d e).bE N (bi 111010 [aW 4 3,ob 6 27,ob 7 46,ob 8 38,ob 9 40,ad 13] [aE 6 0,aE 7 1,aE 8 2,aE 9 3] [1,1,1,1] (dI 0 [a6 12]) [5,6,7,8]) λn (a,b,_,c,d,e,_)=>aBh N a b c d n e).aS (bi 111101001001010010 [ob 6 27,ob 7 46,ob 8 38,ad 16,ad 17,ad 18] [aE 6 0,aE 7 1,aE 8 2] [1,1,1] (b3 [ad 17]) [5,6,7,8,16,18]) λ(_,_,a,b,c,d,_)=>aK5 a b c d).bE N (bi 111101001001010 [ob 6 27,ob 7 46,ob 8 38,ad 16,ad 17,ad 18] [aE 6 0,aE 7 1,aE 8 2] [1,1,1] (eD 6 [ad 17]) [5,6,7,8,16]) λn (_,_,a,b,c,d,_)=>aJZ a b n c d).bE N (bi 1111010 [aW 5 22,ob 6 27,ob 7 46,ob 8 38,ad 16] [aE 6 0,aE 7 1,aE 8 2] [1,1,1] (dI 4 [a6 12]) []) λn (a,b,c,d,e,_)=>aJY N a b c d n e)
def aLP:e7 D:=⟨117,4,[aX 0 46,aX 1 46,aX 2 67,aX 3 38,aX 4 42,ob 0 121,aW 1 3,cm 2 38,cm 3 42],[aE 0 5],[1,1,1,1,1,2],[ax 2000016 3,ax 2000034 3,ax 2000035 3,.u 5 (.bL 121 [(16,6),(34,7),(35,8)])],[],[],ak⟩
def aI0(N:Nat):aLP.gA.F:=λx=>vC x.2.2.2.2.2.1 x.2.2.2.2.2.2.1 x.2.2.2.2.2.2.2.1 x.2.2.2.2.2.2.2.2.1
def aN2(N:Nat):fR cT aLP (aI0 N):=ch.iu (ch.nil:ch (I2 N).bk (en Tryz.f117)) Tryz.func117
def ai3(N:Nat):eS cT:=(I2 N).ir aLP (aI0 N) (aN2 N)
def aMp:e7 D:=⟨117,4,[aX 0 46,aX 1 46,aX 2 67,aX 6 38,aX 9 42,ob 0 121,aW 1 3,cm 2 38,cm 3 42],[aE 0 5],[1,1,1,1,1,2],[ax 2000016 3,ax 2000034 3,ax 2000035 3,.u 5 (.bL 121 [(16,6),(34,7),(35,8)])],[],[],ak⟩
def aNv(N:Nat):fR cT aMp (aI0 N):=ch.iu (ch.nil:ch (I2 N).bk (en Tryz.f117)) Tryz.func117
def ai4(N:Nat):eS cT:=(ai3 N).ir aMp (aI0 N) (aNv N)
def TP(N:Nat):=(ai4 N).mx ⟨52,1,[aX 0 46,aX 1 46,aX 2 67,ob 0 121],[aE 0 3],[1,1,1,2],[ad 2,eJ 3 121],[],[2],ak⟩ (λx=>Sq N x.2.2.2.1) Tryz.func52 (((((cd.aS (bi 111110100100 [aX 0 46,aX 1 46,aX 2 67,ob 0 121,a6 3,ad 4] [aE 0 3] [1,1,1,1] (b3 [a6 3]) [0,4]) λ(_,_,_,a,b,c,_)=>NT a b c).bE N (bi 11111010 [aX 0 46,aX 1 46,aX 2 67,ob 0 121,a6 3,ad 4] [aE 0 3] [1,1,1,1] (eD 0 [a6 3]) [0]) λn (_,_,_,a,b,c,_)=>FG a n b c).bE N (bi 111111111010 [aX 0 46,aX 1 46,aX 2 67,ob 0 121,ax 5 3,.o 6 (.bL 38 [(0,6)]),ad 7,ax 2006000 89] [aE 0 3,a8 5 4,aE 6 5] [1,1,1,1,1,2,0] [⟨.exit 2,[.u 5 (.bL 38 [(0,7)]),ax 2006000 89],[]⟩,⟨.ret,[ad 2],[]⟩] [0,5,6]) λn (_,_,_,a,b,c,d,e,_)=>aEj N a b n c d e).aS (bi 111111111110100100110 [aX 0 46,aX 1 46,aX 2 67,ob 0 121,ax 5 3,.o 6 (.bL 38 [(0,6)]),ad 8,aW 9 3,ad 10,ax 2006000 89] [aE 0 3,a8 5 4,aE 6 5] [1,1,1,1,1,1,1] (b3 [a6 171]) [0,5,6,8]) λ(_,_,_,a,_,_,b,c,d,e,_)=>aKv N a b c d e).bE N (bi 11111111111010 [aX 0 46,aX 1 46,aX 2 67,ob 0 121,ax 5 3,.o 6 (.bL 38 [(0,6)]),ad 8,ax 2006000 89] [aE 0 3,a8 5 4,aE 6 5] [1,1,1,1,1,1,1] (dI 4 [ad 2]) [0,5,6]) λn (_,_,_,a,b,_,c,d,_)=>aB9 N a b d n c)
def aLN:e7 D:=⟨111,3,[aX 0 46,aX 1 46,aX 2 67,ax 100000003 3,ax 100000004 3,.o 0 (.bL 121 [(32,6)]),ad 1,ad 2,ax 2000032 149],[aE 0 5],[1,1,1,1,1,2,0],[a6 6,ax 2000032 149,.u 5 (.bL 121 [(32,7)])],[],[6],ak⟩
def aKd(N:Nat):aLN.gA.F:=λx=>RH N x.2.2.2.2.2.1 x.2.2.2.2.2.2.1 x.2.2.2.2.2.2.2.1 x.2.2.2.2.2.2.2.2.1
def aN0(N:Nat):fR cT aLN (aKd N):=ch.iu (ch.nil:ch (TP N).bk (en Tryz.f111)) Tryz.func111
def ai5(N:Nat):eS cT:=(TP N).ir aLN (aKd N) (aN0 N)
def aMs:e7 D:=⟨111,3,[aX 0 46,aX 1 46,aX 2 67,ax 100000004 3,ax 100000005 3,.o 0 (.bL 121 [(32,6)]),ad 1,ad 2,ax 2000032 149],[aE 0 5],[1,1,1,1,1,2,0],[a6 6,ax 2000032 149,.u 5 (.bL 121 [(32,7)])],[],[6],ak⟩
def aNJ(N:Nat):fR cT aMs (aKd N):=ch.iu (ch.nil:ch (TP N).bk (en Tryz.f111)) Tryz.func111
def ai6(N:Nat):eS cT:=(ai5 N).ir aMs (aKd N) (aNJ N)
def ai7(N:Nat):=(ai6 N).mx ⟨118,1,[aX 0 46,aX 1 46,aX 2 67,ob 0 121],[aE 0 3],[1,1,1,2],[eJ 3 121],[],[],ak⟩ (λx=>RE x.2.2.2.1) Tryz.func118
def ai8(N:Nat):=(ai7 N).mx ⟨53,1,[aX 0 46,aX 1 46,aX 2 67,.o 0 (.bL 121 [(32,4)]),ax 2000032 149],[aE 0 3],[1,1,1,2,0],[ad 2,eJ 3 121],[],[2],ak⟩ (λ(_,_,_,a,b,_)=>Sr N a b) Tryz.func53 (((((((((cd.aS (bi 1111111010010010 [aX 0 46,aX 1 46,aX 2 67,.o 0 (.bL 121 [(32,7)]),aW 4 3,ax 5 3,ax 6 3,ob 8 140,ax 2000032 149] [aE 0 3,a8 5 4,a8 6 5,aE 8 6] [1,1,1,1,1,1,1,1] (b3 [a6 95]) [0,3,4,5,6,7]) λ(_,_,_,a,b,_,_,c,_)=>aEk a b c).bE N (bi 1111111010 [aX 0 46,aX 1 46,aX 2 67,.o 0 (.bL 121 [(32,6)]),aW 4 3,ax 5 3,ax 6 3,ad 7,ax 2000032 149] [aE 0 3,a8 5 4,a8 6 5] [1,1,1,1,1,1,1] (dI 1 [ad 2]) [0,3,4,5,6]) λn (_,_,_,a,b,_,_,c,_)=>NU a b n c).bE N (bi 11111111010010010 [aX 0 46,aX 1 46,aX 2 67,.o 0 (.bL 121 [(32,6)]),ax 5 3,ax 6 3,ad 9,ad 10,ax 2000032 149] [aE 0 3,a8 5 4,a8 6 5] [1,1,1,1,1,1,1] (dI 5 [ad 2]) [0,3,4,5,6,9]) λn (_,_,_,a,_,_,b,c,_)=>aBl a b n c).bE N (bi 11111111010 [aX 0 46,aX 1 46,aX 2 67,.o 0 (.bL 121 [(32,6)]),ax 5 3,ax 6 3,ad 9,ax 2000032 149] [aE 0 3,a8 5 4,a8 6 5] [1,1,1,1,1,1,1] (dI 3 [ad 2]) [0,3,4,5,6]) λn (_,_,_,a,_,_,b,_)=>aB' N a n b).bE N (bi 111111111010 [aX 0 46,aX 1 46,aX 2 67,.o 0 (.bL 121 [(32,6)]),ad 3,ax 5 3,ax 6 3,ad 11,ax 2000032 149] [aE 0 3,a8 5 4,a8 6 5] [1,1,1,1,1,2,1] [⟨.exit 7,[.u 5 (.bh 3)],[]⟩,⟨.ret,[ad 2],[]⟩] [0,4,5,6]) λn (_,_,_,a,b,_,c,d,_)=>aDw a b n c d).aS (bi 111111111101001001 [aX 0 46,aX 1 46,aX 2 67,.o 0 (.bL 121 [(32,6)]),ax 5 3,ax 6 3,ad 12,ax 2000032 149] [aE 0 3,a8 5 4,a8 6 5] [1,1,1,2,1,1,1] (b3 [.u 3 (.bL 121 [(32,6)])]) [0,4,5,6,12]) λ(_,_,_,a,b,c,d,_)=>aK6 a b c d).bE N (bi 1111111111010 [aX 0 46,aX 1 46,aX 2 67,.o 0 (.bL 121 [(32,6)]),aW 4 3,ax 5 3,ax 6 3,ad 12,ax 2000032 149] [aE 0 3,a8 5 4,a8 6 5] [1,1,1,2,1,1,0] [⟨.exit 9,[.u 3 (.bL 121 [(32,7)]),ax 2000032 149],[]⟩,⟨.ret,[.u 3 (.bL 121 [(32,7)]),ad 2,ax 2000032 149],[]⟩] [0]) λn (_,_,_,a,b,c,d,e,f,_)=>aJi N b c d n a e f).aS (bi 11111111111100 [aX 0 46,aX 1 46,aX 2 67,.o 0 (.bL 121 [(32,4)]),ax 2000032 149] [aE 0 3] [1,1,1,1,1] (b3 [a6 241]) [0]) λx=>aK7 x.2.2.2.1).aS (bi 11111111111101 [aX 0 46,aX 1 46,aX 2 67,.o 0 (.bL 121 [(32,4)]),a6 241,ax 2000032 149] [aE 0 3] [1,1,1,2,0] (b3 [eJ 3 121]) [0]) λ(_,_,_,a,b,c,_)=>aK8 a b c)
def ai'(N:Nat):=(ai8 N).go (cx 113 1 [e1 0 121] [a6 2]) (λr x=>RF N x.1) Tryz.func113 (((cd.aS (cV 110 [e1 0 121] (b3 [a6 3]) [0]) λx=>NG x.1).aS (cV 1110100100 [e1 0 121,a6 3,ad 4] (b3 [a6 3]) [0,4]) λ(a,b,c,_)=>Ez a b c).bE N (cV 111010 [e1 0 121,a6 3,ad 4] (eD 0 [a6 3]) []) λn (a,b,c,_)=>Ey a n b c)
def aja(N:Nat):=(ai' N).go (cx 114 1 [e1 0 121] [a6 2]) (λr x=>Sn N x.1) Tryz.func114 ((cd.aS (cV 1110100100 [e1 0 121,a6 3,ad 4] (b3 [a6 3]) [0,4]) λ(a,b,c,_)=>FD N a b c).bE N (cV 111010 [e1 0 121,a6 3,ad 4] (eD 0 [a6 3]) []) λn (a,b,c,_)=>FC N a n b c)
def ajb(N:Nat):=(aja N).go (cx 128 2 [aW 0 3,ad 1] [ad 4]) (λr x=>S2 N x.1 x.2.1) Tryz.func128 (cd.bE N (cV 11010 [aW 0 3,ad 1,ad 5] (dI 0 [ad 4]) []) λn (a,b,c,_)=>OX a b n c)
def ajc(N:Nat):=(ajb N).go (gS 67 4 [aW 0 92,aW 1 22,aW 2 54,aW 3 3] [cm 1000000 73,ax 9 3] [a8 9 0] [.cell 8 73,.tmp 9]) (λr (a,b,c,d,_)=>H6 N a b c d) Tryz.func67 (((((((((cd.aS (bi 11110100100110100100 [aW 2 54,ob 8 73,.o 10 (.bL 73 [(0,3),(1,4),(2,5)]),ax 11 3,ad 13,a6 15,ad 16,ax 2010000 89,ax 2010001 3,ax 2010002 22] [aE 8 0,aE 10 1,a8 11 2] [1,1,1,1,1,1] (b3 [a6 15]) [0,1,2,3,8,10,11,12,13,16]) λ(a,_,_,_,b,c,d,_)=>aK1 a b c d).bE N (bi 1111010010011010 [aW 2 54,ob 8 73,.o 10 (.bL 73 [(0,3),(1,4),(2,5)]),ax 11 3,ad 13,a6 15,ad 16,ax 2010000 89,ax 2010001 3,ax 2010002 22] [aE 8 0,aE 10 1,a8 11 2] [1,1,1,1,1,1] (eD 2 [a6 15]) [0,1,2,3,8,10,11,12,13]) λn (a,_,_,_,b,c,d,_)=>aJT a b n c d).aS (bi 111101001001110 [ob 8 73,.o 10 (.bL 73 [(0,3),(1,4),(2,5)]),ax 11 3,ad 13,a6 15,ax 2010000 89,ax 2010001 3,ax 2010002 22] [aE 8 0,aE 10 1,a8 11 2] [1,1,1,1,1,1] (b3 [a6 58]) [0,1,2,3,8,10,11,12]) λ(_,_,_,a,b,_)=>aK2 a b).aS (bi 1111010010 [aW 0 92,aW 1 22,aW 2 54,aW 3 3,ob 8 73,.o 10 (.bL 73 [(0,3),(1,4),(2,5)]),ax 11 3,ad 12,ax 2010000 89,ax 2010001 3,ax 2010002 22] [aE 8 0,aE 10 1,a8 11 2] [1,2,0,0,1,1] [⟨.normal,[.u 1 (.bL 73 [(0,7),(1,4),(2,5)]),ax 11 3,ax 2010000 89],[a8 11 6]⟩] [0,1,2,3,8,10,12]) λ(a,b,c,d,_,_,e,f,g,_)=>aK0 N a b c d e f g).bE N (bi 1111010 [aW 0 92,aW 1 22,aW 2 54,aW 3 3,ob 8 73,.o 10 (.bL 73 [(0,3),(1,4),(2,5)]),ax 11 3,ad 12,ax 2010000 89,ax 2010001 3,ax 2010002 22] [aE 8 0,aE 10 1,a8 11 2] [1,2,0,0,1,1] [⟨.exit 0,[.u 1 (.bL 73 [(0,7),(1,4),(2,5)]),ax 11 3,ax 2010000 89],[a8 11 6]⟩] [1,2,8,10]) λn (a,b,c,d,_,e,f,g,h,_)=>aJS N a b c d n e f g h).bE N (bi 11111010 [aW 2 54,ob 8 73,.o 10 (.bL 73 [(0,3),(1,4),(2,5)]),ax 11 3,ad 17,ax 2010000 89,ax 2010001 3,ax 2010002 22] [aE 8 0,aE 10 1,a8 11 2] [1,2,1,1,0,1] (eD 4 [.u 1 (.bL 73 [(0,3),(1,6),(2,5)]),ax 2010001 3]) [1,8,10,11]) λn (a,_,b,_,c,_,d,_)=>aJU a n b c d).aS (bi 11111101001001010010 [aW 1 22,ob 8 73,.o 10 (.bL 73 [(0,4),(1,5),(2,6)]),ax 11 3,ad 18,ax 19 3,ad 20,ax 2010000 89,ax 2010001 3,ax 2010002 22] [aE 8 0,aE 10 1,a8 11 2,a8 19 3] [1,1,1,0,1,1,1] [⟨.normal,[ax 19 3],[a8 19 7]⟩] [1,8,10,11,18,20]) λ(a,_,_,b,c,d,e,_)=>aK3 N a b c d e).bE N (bi 11111101001001010 [aW 1 22,ob 8 73,.o 10 (.bL 73 [(0,4),(1,5),(2,6)]),ax 11 3,ad 18,ax 19 3,ad 20,ax 2010000 89,ax 2010001 3,ax 2010002 22] [aE 8 0,aE 10 1,a8 11 2,a8 19 3] [1,1,1,0,1,1,1] [⟨.exit 8,[ax 19 3],[a8 19 7]⟩] [1,8,10,11,18]) λn (a,_,_,b,c,d,e,_)=>aJW N a b c n d e).bE N (bi 111111010 [aW 1 22,ob 8 73,.o 10 (.bL 73 [(0,3),(1,4),(2,5)]),ax 11 3,ad 18,ax 2010000 89,ax 2010001 3,ax 2010002 22] [aE 8 0,aE 10 1,a8 11 2] [1,2,1,1,1,0] (eD 6 [.u 1 (.bL 73 [(0,3),(1,4),(2,6)]),ax 2010002 22]) [8,10,11]) λn (a,_,b,c,d,_,_,e,_)=>aJV N a c n b d e)
def ajd(N:Nat):=(ajc N).go (cx 174 1 [cm 0 73] [a6 2]) (λr x=>SQ N x.1) Tryz.func174 ((((((((((cd.aS (bi 1100 [ob 1 73] [aE 1 0] [1] (b3 [a6 27]) [1]) λx=>aDQ x.1).aS (bi 111010010010 [ob 1 73,ob 4 89] [aE 1 0,aE 4 1] [1,1] (b3 [a6 75]) [1,3]) λx=>aLn x.1 x.2.1).bE N (bi 111010 [ob 1 73,ad 3] [aE 1 0] [1] (dI 0 [a6 2]) [1]) λn x=>aDR x.1 n x.2.1).aS (bi 1111010010000 [ob 1 73,ad 5] [aE 1 0] [1] (b3 [a6 99]) [1,5]) λx=>aLo x.1 x.2.1).bE N (bi 11110100100110 [ob 1 73,ad 5,ad 6] [aE 1 0] [1] (dI 4 [a6 2]) [1,5]) λn (a,b,c,_)=>aJI a b n c).bE N (bi 1111010 [ob 1 73,ad 5] [aE 1 0] [1] (dI 2 [a6 2]) [1]) λn x=>aJH N x.1 n x.2.1).aS (bi 1111110100100100100100 [ob 1 73,ax 7 3,ad 10] [aE 1 0,a8 7 1] [1,1] (b3 [a6 152]) [1,7,8,9,10]) λ(_,a,b,_)=>aLp a b).bE N (bi 111111010010010 [ob 1 73,ax 7 3,ad 8,ad 9] [aE 1 0,a8 7 1] [1,2] [⟨.exit 8,[.u 1 (.bh 3)],[]⟩,⟨.ret,[a6 2],[]⟩] [1,7,8]) λn (a,b,c,d,_)=>aJK a c n b d).bE N (bi 111111010 [ob 1 73,ax 7 3,ad 8] [aE 1 0,a8 7 1] [1,0] [⟨.exit 6,[ax 7 3],[a8 7 2]⟩,⟨.ret,[a6 2],[]⟩] [7]) λn (a,b,c,_)=>aJJ N a n b c).bE N (bi 1111111010 [ax 7 3,ad 11] [a8 7 0] [1] (dI 10 [a6 2]) []) λn x=>aJL x.1 n x.2.1)
def aje(N:Nat):=(ajd N).go (gS 175 1 [cm 0 73] [ax 2 291] [a8 2 0] [.tmp 2]) (λr x=>SU N x.1) Tryz.func175 ((cd.bE N (bi 111010010010 [ob 1 73,ax 3 291,ad 4,ad 5] [aE 1 0,a8 3 1] [1,2] (eD 2 [.u 1 (.bh 291)]) [1,3,4]) λn (a,b,c,d,_)=>Pu a c n b d).bE N (bi 111010 [ob 1 73,ax 3 291,ad 4] [aE 1 0,a8 3 1] [1,2] (eD 0 [.u 1 (.bh 291)]) [3]) λn (a,b,c,_)=>Pt N a n b c)
def ajf(N:Nat):=(aje N).go (cx 235 3 [cm 0 73,aW 1 291,ad 2] [a6 6]) (λr (a,b,c,_)=>ya a b c) Tryz.func235
def ajg(N:Nat):=(ajf N).go (cx 237 3 [aW 0 291,ad 1,ad 2] [a6 6]) (λr (a,b,c,_)=>SA a b c) Tryz.func237 (cd.aS (cV 110 [aW 0 291,ad 1,ad 2] (b3 [a6 6]) []) λ(a,b,c,_)=>E4 a b c)
def ajh(N:Nat):=(ajg N).go (cx 238 3 [cm 0 73,ad 1,ad 2] [a6 6]) (λr (a,b,c,_)=>HR a b c) Tryz.func238 (cd.aS (bi 110 [ad 1,ad 2,ob 3 73] [aE 3 0] [1] (b3 [a6 6]) []) λ(a,b,c,_)=>E3 a b c)
def aji(N:Nat):=(ajh N).go (cx 236 4 [cm 0 73,aW 1 291,ad 2,ad 3] [a6 8]) (λr (a,b,c,d,_)=>Ad a b c d) Tryz.func236 (cd.aS (bi 110 [aW 1 291,ad 2,ad 3,ob 4 73] [aE 4 0] [1] (b3 [a6 8]) []) λ(a,b,c,d,_)=>E2 a b c d)
def ajk(N:Nat):=(aji N).go (sX 176 3 [cm 0 73,aW 1 291,ad 2] [cm 1000000 142,a6 7] [.cell 6 142,.tmp 7]) (λr (a,b,c,_)=>HX N a b c) Tryz.func176 (cd.bE N (bi 111010 [aW 1 291,ad 2,ob 3 73,ob 6 142,ad 8] [aE 3 0,aE 6 1] [1,2] [⟨.exit 0,[eJ 1 142],[]⟩,⟨.ret,[eJ 1 142,a6 7],[]⟩] [6]) λn (a,b,c,d,e,_)=>EP a b c n d e)
def ajl(N:Nat):=(ajk N).go (sX 177 5 [cm 0 73,aW 1 291,aW 2 3,ad 3,ad 4] [cm 1000000 142,a6 11] [.cell 10 142,.tmp 11]) (λr (a,b,c,d,e,_)=>SS N a b c d e) Tryz.func177 ((((cd.aS (bi 1101001000 [aW 1 291,aW 2 3,ad 3,ad 4,ob 5 73,ob 10 142,ad 12] [aE 5 0,aE 10 1] [1,1] (b3 [a6 39]) [1,2,3,4,5,10,12]) λ(a,b,c,d,_,_,e,_)=>aBC a b c d e).bE N (bi 11010 [aW 1 291,aW 2 3,ad 3,ad 4,ob 5 73,ob 10 142,ad 12] [aE 5 0,aE 10 1] [1,2] [⟨.exit 0,[eJ 1 142],[]⟩,⟨.ret,[eJ 1 142,a6 11],[]⟩] [2,3,4,5,10]) λn (a,b,c,d,e,f,g,_)=>EQ a b c d e n f g).aS (bi 11101001000 [aW 2 3,ad 3,ad 4,ob 5 73,ob 10 142,ad 13] [aE 5 0,aE 10 1] [1,1] (b3 [a6 69]) [2,3,4,5,10,13]) λ(a,b,c,d,_,e,_)=>aLs a b c d e).bE N (bi 111010 [aW 2 3,ad 3,ad 4,ob 5 73,ob 10 142,ad 13] [aE 5 0,aE 10 1] [1,2] [⟨.exit 2,[eJ 1 142],[]⟩,⟨.ret,[eJ 1 142,a6 11],[]⟩] [10]) λn (a,b,c,d,e,f,_)=>aDU a b c d n e f)
def TQ(N:Nat):=(ajl N).go (gS 119 1 [cm 0 73] [ax 2 142,ad 3] [a8 2 0] [.tmp 2,.tmp 3]) (λr x=>afH N x.1) Tryz.func119 (((((((cd.aS (bi 111111010010 [ob 1 73,ax 4 291,ax 5 142,ax 6 3,ad 7] [aE 1 0,a8 4 1,a8 5 2,a8 6 3] [1,1,2,2] (b3 [.u 2 (.bh 142),.u 3 (.bh 3)]) [1,4,5,6,7]) λ(a,b,c,d,e,_)=>aLk N a b c d e).bE N (bi 111111010 [ob 1 73,ax 4 291,ax 5 142,ax 6 3,ad 7] [aE 1 0,a8 4 1,a8 5 2,a8 6 3] [1,1,2,2] (eD 0 [.u 2 (.bh 142),.u 3 (.bh 3)]) [1,4,5,6]) λn (a,b,c,d,e,_)=>XM N a b n c d e).aS (bi 11111110100100110010 [ob 1 73,ax 4 291,ax 5 142,ax 6 3,ad 10,a6 11,ad 12] [aE 1 0,a8 4 1,a8 5 2,a8 6 3] [1,1,2,2] (b3 [.u 2 (.bh 142),.u 3 (.bh 3),a6 11]) [1,4,5,6,10,12]) λ(a,b,c,d,e,f,g,_)=>aLl N a b c d e f g).bE N (bi 11111110100100110 [ob 1 73,ax 4 291,ax 5 142,ax 6 3,ad 10,a6 11,ad 12] [aE 1 0,a8 4 1,a8 5 2,a8 6 3] [1,1,2,2] (eD 4 [.u 2 (.bh 142),.u 3 (.bh 3),a6 11]) [1,4,5,6,10]) λn (a,b,c,d,e,f,g,_)=>aJF N a b e n c d f g).bE N (bi 1111111010 [ob 1 73,ax 4 291,ax 5 142,ax 6 3,ad 10,a6 11] [aE 1 0,a8 4 1,a8 5 2,a8 6 3] [1,1,2,2] (eD 2 [.u 2 (.bh 142),.u 3 (.bh 3)]) [5,6]) λn (a,b,c,d,e,f,_)=>aJE N a b n c d e f).aS (bi 111111111010010 [ax 5 142,ax 6 3,ax 15 142,ad 16] [a8 5 0,a8 6 1,a8 15 2] [1,1,0] [⟨.normal,[ax 15 142],[a8 15 3]⟩] [5,6,16]) λ(a,b,c,d,_)=>aLm a b c d).bE N (bi 111111111010 [ax 5 142,ax 6 3,ax 15 142,ad 16] [a8 5 0,a8 6 1,a8 15 2] [1,1,0] [⟨.exit 6,[ax 15 142],[a8 15 3]⟩] []) λn (a,b,c,d,_)=>aJG a b n c d)
def aLJ:e7 D:=⟨118,1,[aX 0 46,aX 1 46,aX 2 67,ax 100000003 3,aX 4 73,ax 100000005 142,ob 0 121],[aE 0 6],[1,1,1,1,1,1,2],[eJ 6 121],[],[],ak⟩
def aJ'(N:Nat):aLJ.gA.F:=λx=>Ro x.2.2.2.2.2.2.1
def aNW(N:Nat):fR cT aLJ (aJ' N):=ch.iu (ch.nil:ch (TQ N).bk (en Tryz.f118)) Tryz.func118
def ajm(N:Nat):eS cT:=(TQ N).ir aLJ (aJ' N) (aNW N)
def aMk:e7 D:=⟨118,1,[aX 0 46,aX 1 46,aX 2 67,ax 100000006 3,aX 7 73,ax 100000008 142,ob 0 121],[aE 0 6],[1,1,1,1,1,1,2],[eJ 6 121],[],[],ak⟩
def aNq(N:Nat):fR cT aMk (aJ' N):=ch.iu (ch.nil:ch (TQ N).bk (en Tryz.f118)) Tryz.func118
def ajn(N:Nat):eS cT:=(ajm N).ir aMk (aJ' N) (aNq N)
def ajo(N:Nat):=(ajn N).go (cx 239 4 [cm 0 73,aW 1 291,aW 2 3,cm 3 142] [a6 8]) (λr (a,b,c,d,_)=>Hy a b c d) Tryz.func239 (((((cd.aS (bi 110100 [aW 1 291,ob 4 73,ob 7 142] [aE 4 0,aE 7 1] [1,1] (b3 [a6 8]) []) λ(a,b,c,_)=>CT a b c).aS (bi 111100 [ob 4 73,ob 7 142,ad 9] [aE 4 0,aE 7 1] [1,1] (b3 [a6 35]) [1,2,4,7,9]) λx=>aAR x.1 x.2.2.1).aS (bi 111110 [aW 2 3,ob 4 73,ob 7 142,ad 9] [aE 4 0,aE 7 1] [1,1] (b3 [a6 10]) [1,4,7,9]) λ(a,_,b,c,_)=>aKC a b c).aS (bi 111111010100 [aW 1 291,ob 7 142,ad 9,a6 10] [aE 7 0] [1] (b3 [a6 8]) []) λ(a,b,c,d,_)=>aKD a b c d).aS (bi 11111101011100 [aW 1 291,ob 4 73,ob 7 142,ad 9,a6 10] [aE 4 0,aE 7 1] [1,1] (b3 [a6 8]) []) λ(a,b,c,d,e,_)=>aKE a b c d e)
def ajp(N:Nat):=(ajo N).go (cx 178 2 [cm 0 73,aW 1 142] [a6 4]) (λr x=>SR N x.1 x.2.1) Tryz.func178 ((((((((cd.bE N (bi 1111010 [ob 2 73,ax 5 291,ax 6 3,ad 7] [aE 2 0,a8 5 1,a8 6 2] [1,1,2] (eD 0 [.u 2 (.bh 3)]) [1,2,5,6]) λn (_,_,a,b,_)=>aAs n a b).aS (bi 111110100100100 [aW 1 142,ob 2 73,ax 5 291,ax 6 3,ad 8,ad 9] [aE 2 0,a8 5 1,a8 6 2] [1,1,1] (b3 [a6 63]) [1,2,5,6,8,9]) λ(a,_,_,b,c,d,_)=>aAt a b c d).bE N (bi 11111010 [aW 1 142,ob 2 73,ax 5 291,ax 6 3,ad 8] [aE 2 0,a8 5 1,a8 6 2] [1,1,2] [⟨.exit 2,[.u 2 (.bh 3)],[]⟩,⟨.ret,[a6 4],[]⟩] [1,2,5,6]) λn (a,_,_,b,c,_)=>aAk a n b c).bE N (bi 111111010 [aW 1 142,ob 2 73,ax 5 291,ax 6 3,ad 10] [aE 2 0,a8 5 1,a8 6 2] [1,1,1] (dI 4 [a6 4]) [2,5,6]) λn (a,b,c,d,e,_)=>aAu a b c d n e).aS (bi 11111110100100111001000 [ob 2 73,ax 5 291,ax 6 3,ad 11,ad 14] [aE 2 0,a8 5 1,a8 6 2] [1,1,1] (b3 [a6 128]) [2,5,6,11,14]) λ(a,b,c,d,e,_)=>aLr a b c d e).bE N (bi 111111101001001110 [ob 2 73,ax 5 291,ax 6 3,ad 11,ad 14] [aE 2 0,a8 5 1,a8 6 2] [1,1,1] (dI 8 [a6 4]) [2,5,6,11]) λn (a,b,c,d,e,_)=>aJN a b c d n e).aS (bi 1111111010010 [ob 2 73,ax 5 291,ax 6 3,ad 11] [aE 2 0,a8 5 1,a8 6 2] [1,1,1] [⟨.normal,[],[]⟩,⟨.ret,[a6 4],[]⟩] [2,5,6,11]) λ(a,b,c,d,_)=>aLq N a b c d).bE N (bi 1111111010 [ob 2 73,ax 5 291,ax 6 3,ad 11] [aE 2 0,a8 5 1,a8 6 2] [1,1,1] (dI 6 [a6 4]) []) λn (a,b,c,d,_)=>aJM N a b c n d)
def ajq(N:Nat):=(ajp N).go (cx 179 2 [aW 0 142,ad 1] [a6 4]) (λr x=>Sz N x.1 x.2.1) Tryz.func179 (cd.bE N (cV 11010 [aW 0 142,ad 1,ad 5] (dI 0 [a6 4]) []) λn (a,b,c,_)=>N7 a b n c)
def TR(N:Nat):=(ajq N).go (gS 120 3 [cm 0 73,aW 1 142,ad 2] [cm 1000000 38,ax 7 3,ad 8] [a8 7 0] [.cell 6 38,.tmp 7,.tmp 8]) (λr (a,b,c,_)=>H9 N a b c) Tryz.func120 ((((cd.aS (bi 1100110 [ad 2,ob 3 73,ob 6 38] [aE 3 0,aE 6 1] [1,1] (b3 [a6 19]) [1,2,3,6]) λx=>Gq x.1).aS (bi 11111010010010010 [aW 1 142,ob 3 73,ob 6 38,.o 9 (.bL 38 [(0,4)]),ax 10 3,ad 11,ad 12,ax 2009000 89] [aE 3 0,aE 6 1,aE 9 2,a8 10 3] [1,1,2,0,0] [⟨.normal,[.u 2 (.bL 38 [(0,6)]),ax 10 3,ax 2009000 89],[a8 10 5]⟩] [1,3,6,9,11,12]) λ(a,b,_,c,d,e,f,g,_)=>aAI N a b c d e f g).bE N (bi 11111010010010 [aW 1 142,ob 3 73,ob 6 38,.o 9 (.bL 38 [(0,4)]),ax 10 3,ad 11,ad 12,ax 2009000 89] [aE 3 0,aE 6 1,aE 9 2,a8 10 3] [1,1,2,0,0] [⟨.exit 3,[.u 2 (.bL 38 [(0,6)]),ax 10 3,ax 2009000 89],[a8 10 5]⟩] [1,3,6,9,11]) λn (a,b,_,c,d,e,f,g,_)=>aEz N a b e n c d f g).bE N (bi 11111010 [aW 1 142,ob 3 73,ob 6 38,.o 9 (.bL 38 [(0,4)]),ax 10 3,ad 11,ax 2009000 89] [aE 3 0,aE 6 1,aE 9 2,a8 10 3] [1,1,2,0,0] [⟨.exit 1,[.u 2 (.bL 38 [(0,6)]),ax 10 3,ax 2009000 89],[a8 10 5]⟩] [6,9]) λn (a,b,_,c,d,e,f,_)=>aAH N a b n c d e f)
def aE3:e7 D:=⟨111,3,[aX 0 46,aX 1 46,aX 2 67,aX 3 38,ax 100000004 3,aX 5 42,.o 0 (.bL 121 [(32,7)]),ad 1,ad 2,ax 2000032 149],[aE 0 6],[1,1,1,1,1,1,2,0],[a6 6,ax 2000032 149,.u 6 (.bL 121 [(32,8)])],[],[6],ak⟩
def aCi(N:Nat):aE3.gA.F:=λx=>Hw N x.2.2.2.2.2.2.1 x.2.2.2.2.2.2.2.1 x.2.2.2.2.2.2.2.2.1 x.2.2.2.2.2.2.2.2.2.1
def aIe(N:Nat):fR cT aE3 (aCi N):=ch.iu (ch.nil:ch (TR N).bk (en Tryz.f111)) Tryz.func111
def ajr(N:Nat):eS cT:=(TR N).ir aE3 (aCi N) (aIe N)
def aQv:e7 D:=⟨111,3,[aX 0 46,aX 1 46,aX 2 67,aX 4 38,ax 100000005 3,aX 6 42,.o 0 (.bL 121 [(32,7)]),ad 1,ad 2,ax 2000032 149],[aE 0 6],[1,1,1,1,1,1,2,0],[a6 6,ax 2000032 149,.u 6 (.bL 121 [(32,8)])],[],[6],ak⟩
def aSe(N:Nat):fR cT aQv (aCi N):=ch.iu (ch.nil:ch (TR N).bk (en Tryz.f111)) Tryz.func111
def ajt(N:Nat):eS cT:=(ajr N).ir aQv (aCi N) (aSe N)
def aMq:e7 D:=⟨117,4,[aX 0 46,aX 1 46,aX 2 67,aX 11 38,aX 16 42,ob 0 121,aW 1 3,cm 2 38,cm 3 42],[aE 0 5],[1,1,1,1,1,2],[ax 2000016 3,ax 2000034 3,ax 2000035 3,.u 5 (.bL 121 [(16,6),(34,7),(35,8)])],[],[],ak⟩
def aNw(N:Nat):fR cT aMq (aI0 N):=ch.iu (ch.nil:ch (I2 N).bk (en Tryz.f117)) Tryz.func117
def aju(N:Nat):eS cT:=(ajt N).ir aMq (aI0 N) (aNw N)
def ajv(N:Nat):=(aju N).mx ⟨54,1,[aX 0 46,aX 1 46,aX 2 67,.o 0 (.bL 121 [(32,4),(36,5)]),ax 2000032 149,ax 2000036 142],[aE 0 3],[1,1,1,2,0,0],[ad 2,eJ 3 121],[],[2],ak⟩ (λ(_,_,_,a,b,c,_)=>RG N a b c) Tryz.func54 (((((((((cd.aS (bi 111111101001001101 [aX 0 46,aX 1 46,aX 2 67,.o 0 (.bL 121 [(32,8),(36,9)]),ob 3 73,ax 4 3,ax 5 142,ob 8 142,a6 94,ax 2000032 149,ax 2000036 142] [aE 0 3,aE 3 4,a8 4 5,a8 5 6,aE 8 7] [1,1,1,1,1,1,1,2,1,1] (b3 [eJ 7 142]) [0,3,4,5,7,8]) λ(_,_,_,_,_,a,_,b,c,_)=>EC a b c).bE N (bi 1111111010 [aX 0 46,aX 1 46,aX 2 67,.o 0 (.bL 121 [(32,7),(36,8)]),ob 3 73,ax 4 3,ax 5 142,ad 7,ax 2000032 149,ax 2000036 142] [aE 0 3,aE 3 4,a8 4 5,a8 5 6] [1,1,1,2,1,1,1,1,0] (eD 1 [.u 3 (.bL 121 [(32,7),(36,9)]),ax 2000036 142]) [0,3,4,5]) λn (_,_,_,a,_,b,c,d,_,e,_)=>EB b c n a d e).bE N (bi 1111111111010 [aX 0 46,aX 1 46,aX 2 67,.o 0 (.bL 121 [(32,8),(36,9)]),ax 4 3,ob 9 38,ax 10 3,ax 12 3,ad 13,ax 2000032 149,ax 2000036 142] [aE 0 3,a8 4 4,aE 9 5,a8 10 6,a8 12 7] [1,1,1,1,1,1,1,0,1,1] [⟨.exit 3,[ax 12 3],[a8 12 10]⟩] [0,9]) λn (_,_,_,_,a,_,b,c,d,_)=>ED a b n c d).aS (bi 11111111111101001001010010 [aX 0 46,aX 1 46,aX 2 67,.o 0 (.bL 121 [(32,8),(36,9)]),ob 9 38,ax 12 3,.o 14 (.ne 22 3),ad 15,ax 16 3,ad 17,ax 2000032 149,ax 2000036 142] [aE 0 3,aE 9 4,a8 12 5,a8 14 6,a8 16 7] [1,1,1,1,1,1,2,0,1,1] [⟨.normal,[.u 6 (.ne 22 3),ax 16 3],[a8 16 10]⟩] [0,9,12,14,15,17]) λ(_,_,_,_,_,a,b,c,d,e,_)=>aKH N a b c d e).bE N (bi 11111111111101001001010 [aX 0 46,aX 1 46,aX 2 67,.o 0 (.bL 121 [(32,8),(36,9)]),ob 9 38,ax 12 3,.o 14 (.ne 22 3),ad 15,ax 16 3,ad 17,ax 2000032 149,ax 2000036 142] [aE 0 3,aE 9 4,a8 12 5,a8 14 6,a8 16 7] [1,1,1,1,1,1,2,0,1,1] [⟨.exit 7,[.u 6 (.ne 22 3),ax 16 3],[a8 16 10]⟩] [0,9,12,14,15]) λn (_,_,_,_,_,a,b,c,d,e,_)=>aJr N a c n b d e).bE N (bi 111111111111010 [aX 0 46,aX 1 46,aX 2 67,.o 0 (.bL 121 [(32,7),(36,8)]),ob 9 38,ax 12 3,.o 14 (.ne 22 3),ad 15,ax 2000032 149,ax 2000036 142] [aE 0 3,aE 9 4,a8 12 5,a8 14 6] [1,1,1,1,1,1,2,1,1] (eD 5 [.u 6 (.ne 22 3)]) [0,9,12,14]) λn (_,_,_,_,_,a,b,c,_)=>aJq N a n b c).aS (bi 111111111111110100100 [aX 0 46,aX 1 46,aX 2 67,.o 0 (.bL 121 [(32,7),(36,8)]),ob 9 38,ax 12 3,.o 14 (.ne 22 3),a6 18,ad 19,ax 2000032 149,ax 2000036 142] [aE 0 3,aE 9 4,a8 12 5,a8 14 6] [1,1,1,1,1,1,2,1,1] (b3 [.u 6 (.ne 22 3),a6 18]) [0,9,12,14,19]) λ(_,_,_,a,_,_,b,c,d,_)=>aKI a b c d).bE N (bi 11111111111111010 [aX 0 46,aX 1 46,aX 2 67,.o 0 (.bL 121 [(32,7),(36,8)]),ob 9 38,ax 12 3,.o 14 (.ne 22 3),a6 18,ad 19,ax 2000032 149,ax 2000036 142] [aE 0 3,aE 9 4,a8 12 5,a8 14 6] [1,1,1,1,1,1,2,1,1] (eD 9 [.u 6 (.ne 22 3),a6 18]) [0,9,12,14]) λn (_,_,_,a,_,_,b,c,d,_)=>aJs a n b c d).bE N (bi 11111111111111111111010 [aX 0 46,aX 1 46,aX 2 67,.o 0 (.bL 121 [(32,7)]),ob 9 38,ax 12 3,ob 20 42,ad 22,ax 2000032 149] [aE 0 3,aE 9 4,a8 12 5,aE 20 6] [1,1,1,2,1,1,1,0] (eD 11 [.u 3 (.bL 121 [(32,8)]),ax 2000032 149]) [0,9,12,20]) λn (_,_,_,a,_,b,_,c,d,_)=>aJt N b n a c d)
def TS(N:Nat):=(ajv N).go (gS 122 4 [aW 0 22,ad 1,ad 2,ad 3] [ax 8 149,ad 9] [a8 8 0] [.tmp 8,.tmp 9]) (λr (a,b,c,d,_)=>x6 N a b c d) Tryz.func122 (((cd.aS (cV 1100 [aW 0 22,ad 1,ad 2] (b3 [a6 34]) [0,1,2,3]) λ(a,b,c,_)=>Od a b c).aS (cV 11100 [aW 0 22,ad 1,ad 3] (b3 [a6 45]) [0,1,2,3]) λ(a,b,c,_)=>aDI a b c).bE N (bi 11111010 [aW 0 22,ad 1,ad 2,ax 10 149,ad 11] [a8 10 0] [0] [⟨.exit 0,[ax 10 149],[a8 10 1]⟩] []) λn (a,b,c,d,e,_)=>aBt a b c n d e)
def aP3:e7 D:=⟨111,3,[aX 0 46,aX 1 46,aX 2 67,ax 100000003 149,.o 0 (.bL 121 [(32,5)]),ad 1,ad 2,ax 2000032 149],[aE 0 4],[1,1,1,1,2,0],[a6 6,ax 2000032 149,.u 4 (.bL 121 [(32,6)])],[],[6],ak⟩
def aPy(N:Nat):aP3.gA.F:=λx=>Ri N x.2.2.2.2.1 x.2.2.2.2.2.1 x.2.2.2.2.2.2.1 x.2.2.2.2.2.2.2.1
def aSi(N:Nat):fR cT aP3 (aPy N):=ch.iu (ch.nil:ch (TS N).bk (en Tryz.f111)) Tryz.func111
def ajw(N:Nat):eS cT:=(TS N).ir aP3 (aPy N) (aSi N)
def aFT:e7 D:=⟨111,3,[aX 0 46,aX 1 46,aX 2 67,ax 100000004 149,.o 0 (.bL 121 [(32,5)]),ad 1,ad 2,ax 2000032 149],[aE 0 4],[1,1,1,1,2,0],[a6 6,ax 2000032 149,.u 4 (.bL 121 [(32,6)])],[],[6],ak⟩
def aH2(N:Nat):fR cT aFT (aPy N):=ch.iu (ch.nil:ch (TS N).bk (en Tryz.f111)) Tryz.func111
def ajx(N:Nat):eS cT:=(ajw N).ir aFT (aPy N) (aH2 N)
def ajy(N:Nat):=(ajx N).mx ⟨55,1,[aX 0 46,aX 1 46,aX 2 67,.o 0 (.bL 121 [(32,4)]),ax 2000032 149],[aE 0 3],[1,1,1,2,0],[ad 2,ax 2000032 149,.u 3 (.bL 121 [(32,5)])],[],[2],ak⟩ (λ(_,_,_,a,b,_)=>Sp N a b) Tryz.func55 ((((cd.aS (bi 1100110 [aX 0 46,aX 1 46,aX 2 67,.o 0 (.bL 121 [(32,4)]),ax 2000032 149] [aE 0 3] [1,1,1,1,1] (b3 [a6 12]) [0]) λx=>FF x.2.2.2.1).aS (bi 110011110 [aX 0 46,aX 1 46,aX 2 67,.o 0 (.bL 121 [(32,4)]),ax 2000032 149] [aE 0 3] [1,1,1,1,1] (b3 [a6 37]) [0]) λx=>OK N x.2.2.2.1).aS (bi 11001111110 [aX 0 46,aX 1 46,aX 2 67,.o 0 (.bL 121 [(32,4)]),ax 2000032 149] [aE 0 3] [1,1,1,1,1] (b3 [a6 73]) [0]) λx=>OL x.2.2.2.1).bE N (bi 1111010 [aX 0 46,aX 1 46,aX 2 67,.o 0 (.bL 121 [(32,5)]),ax 3 149,ad 5,ax 2000032 149] [aE 0 3,a8 3 4] [1,1,1,2,1,0] [⟨.exit 1,[.u 3 (.bL 121 [(32,6)]),ax 2000032 149],[]⟩,⟨.ret,[.u 3 (.bL 121 [(32,6)]),ad 2,ax 2000032 149],[]⟩] [0]) λn (_,_,_,a,b,c,d,_)=>OM N b n a c d)
def ajz(N:Nat):=(ajy N).go (cx 180 3 [cm 0 27,cm 1 54,aW 2 92] [ad 6]) (λr (a,b,c,_)=>S0 N a b c) Tryz.func180
def ajA(N:Nat):=(ajz N).go (gS 181 2 [cm 0 54,aW 1 92] [ax 4 3,ad 5,ad 6] [a8 4 0] [.tmp 4,.tmp 5,.tmp 6]) (λr x=>Ae N x.1 x.2.1) Tryz.func181 (cd.bE N (bi 111010 [aW 1 92,ob 2 54,ax 7 3,ad 8] [aE 2 0,a8 7 1] [1,0] [⟨.exit 0,[ax 7 3],[a8 7 2]⟩,⟨.ret,[ad 5,ad 6],[(4,.c .gE)]⟩] []) λn (a,b,c,d,_)=>Oc N a b n c d)
def ajB(N:Nat):=(ajA N).go (cx 277 1 [aW 0 92] [ad 2,ad 3,ad 4,ad 5]) (λr x=>SO N x.1) Tryz.func277 (cd.bE N (cV 111010 [aW 0 92,ad 2,ad 3,ad 4,ad 7] (eD 0 [ad 2,ad 3,ad 4]) []) λn (a,b,c,d,e,_)=>Fo a n b c d e)
def ajC(N:Nat):=(ajB N).go (cx 278 2 [aW 0 3,ad 1] [a6 4]) (λr x=>Ia N x.1 x.2.1) Tryz.func278 (cd.bE N (cV 11010 [aW 0 3,ad 1,ad 5] (dI 0 [a6 4]) []) λn (a,b,c,_)=>Gr a b n c)
def ajD(N:Nat):=(ajC N).go (cx 279 1 [ad 0] [ad 2]) (λr x=>x5 x.1) Tryz.func279
def ajE(N:Nat):=(ajD N).go (sX 240 2 [aW 0 92,aW 1 3] [cm 1000000 62,ad 5] [.cell 4 62,.tmp 5]) (λr x=>HY N x.1 x.2.1) Tryz.func240 ((((((cd.aS (bi 111101001000 [aW 0 92,aW 1 3,ob 4 62,ad 10] [aE 4 0] [1] (b3 [a6 44]) [0,1,4,6,7,8,10]) λ(a,b,_,c,_)=>ET a b c).bE N (bi 1111010 [aW 0 92,aW 1 3,ob 4 62,ad 10] [aE 4 0] [2] [⟨.exit 0,[eJ 0 62],[]⟩,⟨.ret,[eJ 0 62,ad 5],[]⟩] [0,1,4,6,7,8]) λn (a,b,c,d,_)=>ES a b n c d).bE N (bi 11111010 [aW 1 3,ob 4 62,ad 11] [aE 4 0] [2] [⟨.exit 2,[eJ 0 62],[]⟩,⟨.ret,[eJ 0 62,ad 5],[]⟩] [0,1,4,6,7,8]) λn (a,b,c,_)=>Py N a n b c).aS (bi 1111111010010 [aW 0 92,aW 1 3,ob 4 62,ob 12 62,ad 13] [aE 4 0,aE 12 1] [1,2] (b3 [eJ 1 62]) [0,1,4,6,7,12,13]) λ(a,b,_,c,d,_)=>aDm N a b c d).bE N (bi 1111111010 [aW 0 92,aW 1 3,ob 4 62,ob 12 62,ad 13] [aE 4 0,aE 12 1] [1,2] (eD 4 [eJ 1 62]) [4,6,7,12]) λn (a,b,_,c,d,_)=>aBD N a b n c d).aS (bi 11111111101 [ob 4 62,ad 7,ob 12 62,a6 92] [aE 4 0,aE 12 1] [1,2] (b3 [eJ 1 62]) [4,12]) λ(_,a,b,c,_)=>aBE a b c)
def ajF(N:Nat):=(ajE N).go (cx 280 3 [aW 0 104,ad 1,ad 2] [ad 6,a6 7]) (λr (a,b,c,_)=>Ai N a b c) Tryz.func280 (((cd.aS (cV 11101001000 [aW 0 104,ad 1,ad 2,ad 8,a6 9,ad 10] (b3 [a6 45]) [0,1,2,8,9,10]) λ(a,b,c,d,e,f,_)=>aKZ a b c d e f).aS (cV 111010010 [aW 0 104,ad 1,ad 2,ad 8,a6 9,ad 10] (b3 [ad 8,a6 9]) [0,1,2,10]) λ(a,b,c,d,e,f,_)=>Pg a b c d e f).bE N (cV 111010 [aW 0 104,ad 1,ad 2,ad 8,a6 9,ad 10] (eD 0 [ad 8,a6 9]) []) λn (a,b,c,d,e,f,_)=>Gd a b c n d e f)
def ajG(N:Nat):=(ajF N).go (cx 241 3 [aW 0 104,ad 1,ad 2] [ad 6,ad 7]) (λr (a,b,c,_)=>RR N a b c) Tryz.func241 (cd.aS (cV 11100 [ad 1,ad 2] (b3 [a6 26]) [0,1,2]) λx=>aBT x.1 x.2.1)
def ajH(N:Nat):=(ajG N).go (sX 182 5 [aW 0 92,aW 1 3,aW 2 104,ad 3,ad 4] [cm 1000000 62,ad 11] [.cell 10 62,.tmp 11]) (λr (a,b,c,d,e,_)=>SV N a b c d e) Tryz.func182
def ajI(N:Nat):=(ajH N).go (cx 322 2 [ad 0,cm 1 92] [ad 4]) (λr x=>vH x.1 x.2.1) Tryz.func322
def ajJ(N:Nat):=(ajI N).go (cx 323 4 [cm 0 92,cm 1 92,ad 2,ad 3] [a6 8]) (λr (a,b,c,d,_)=>HK a b c d) Tryz.func323 (cd.aS (bi 110 [ad 2,ad 3,ob 4 92,ob 5 92] [aE 4 0,aE 5 1] [1,1] (b3 [a6 8]) []) λ(a,b,c,d,_)=>aKq a b c d)
def ajK(N:Nat):=(ajJ N).go (cx 281 3 [cm 0 156,aW 1 92,ad 2] [a6 6]) (λr (a,b,c,_)=>SB N a b c) Tryz.func281 ((((((((cd.aS (bi 11101001 [ob 3 156,ad 12,a6 13] [aE 3 0] [1] (b3 [a6 13]) [1,2,3,7,12]) λ(_,a,b,_)=>aDH a b).bE N (bi 11101010010 [aW 1 92,ad 2,ob 3 156,ad 7,ad 8] [aE 3 0] [1] (eD 1 [ad 7]) [3]) λn (a,b,c,d,e,_)=>aJj a b c n d e).aS (bi 11101011101001000 [aW 1 92,ad 2,ob 3 156,ad 9] [aE 3 0] [1] (b3 [a6 63]) [1,2,3,9]) λ(a,b,c,d,_)=>aLc a b c d).bE N (bi 111010111010 [aW 1 92,ad 2,ob 3 156,ad 9] [aE 3 0] [1] (dI 3 [a6 6]) []) λn (a,b,c,d,_)=>aJk a b c n d).aS (bi 1110101111100 [aW 1 92,ad 2,ob 3 156] [aE 3 0] [1] (b3 [a6 6]) []) λ(a,b,c,_)=>aLd a b c).bE N (bi 1110101111111110010 [aW 1 92,ob 3 156,ad 7,ad 10] [aE 3 0] [1] (eD 5 [ad 7]) [1,2,3]) λn (a,_,b,c,_)=>aJB a n b c).aS (bi 111010111111111010 [aW 1 92,ad 2,ob 3 156,ad 7] [aE 3 0] [1] (b3 [a6 6]) []) λ(a,b,c,d,_)=>aLe a b c d).aS (bi 11101 [aW 1 92,ad 2,ob 3 156,ad 7,ad 12] [aE 3 0] [1] [⟨.normal,[],[]⟩,⟨.ret,[a6 6],[]⟩] []) λ(a,b,c,d,e,_)=>E8 N a b c d e)
def ajL(N:Nat):=(ajK N).go (cx 242 3 [cm 0 156,aW 1 92,aW 2 3] [ad 6]) (λr (a,b,c,_)=>SY N a b c) Tryz.func242 (((((cd.aS (bi 11101010010 [ob 3 156,ad 7,ob 8 62] [aE 3 0,aE 8 1] [1,1] (b3 [a6 34]) [7]) λ(a,b,c,_)=>Gz a b c).aS (bi 11101011101101001000 [aW 1 92,aW 2 3,ob 3 156,ad 12] [aE 3 0] [1] (b3 [a6 61]) [1,2,3,7,10,11,12]) λ(a,b,_,c,_)=>GB N a b c).aS (bi 111010111011010010 [aW 1 92,aW 2 3,ob 3 156,ad 11,ad 12] [aE 3 0] [1] (b3 [ad 11]) [1,2,3,7,10,12]) λ(a,b,_,c,d,_)=>PG N a b c d).bE N (bi 111010111011010 [aW 1 92,aW 2 3,ob 3 156,ad 7,ad 11,ad 12] [aE 3 0] [1] (eD 1 [ad 11]) [3,7,10]) λn (a,b,_,c,d,e,_)=>GA N a b c n d e).bE N (bi 1111010 [aW 1 92,ob 3 156,ad 7,ad 13] [aE 3 0] [1] (dI 3 [ad 6]) []) λn (a,b,c,d,_)=>GC N a b c n d)
def ajM(N:Nat):=(ajL N).go (cx 183 3 [aW 0 156,aW 1 92,aW 2 3] [ad 6,ad 7,ad 8]) (λr (a,b,c,_)=>SX N a b c) Tryz.func183 (cd.bE N (cV 1111010 [aW 0 156,aW 1 92,aW 2 3,ad 12] (dI 0 [ad 6,ad 7,ad 8]) []) λn (a,b,c,d,_)=>EU N a b c n d)
def ajN(N:Nat):=(ajM N).go (cx 243 2 [aW 0 3,ad 1] [a6 4]) (λr x=>HS N x.1 x.2.1) Tryz.func243 ((cd.aS (cV 1101001000 [aW 0 3,ad 1,ad 5] (b3 [a6 24]) [0,1,5]) λ(a,b,c,_)=>E7 a b c).bE N (cV 11010 [aW 0 3,ad 1,ad 5] (dI 0 [a6 4]) []) λn (a,b,c,_)=>E6 a b n c)
def ajO(N:Nat):=(ajN N).go (cx 244 2 [aW 0 3,ad 1] [ad 4,ad 5]) (λr x=>yb N x.1 x.2.1) Tryz.func244 (((cd.aS (cV 1110100100010101 [ad 5,a6 24] (b3 [ad 5]) [0,1,4,7]) λx=>aAM x.1 x.2.1).aS (cV 111010010 [aW 0 3,ad 1,ad 4,ad 5,a6 6,ad 7] (b3 [ad 4,ad 5,a6 6]) [0,1,7]) λ(a,b,c,d,e,f,_)=>aAL a b c d e f).bE N (cV 111010 [aW 0 3,ad 1,ad 4,ad 5,a6 6,ad 7] (eD 0 [ad 4,ad 5]) []) λn (a,b,c,d,e,f,_)=>aED a b n c d e f)
def ajP(N:Nat):=(ajO N).go (gS 184 2 [aW 0 3,ad 1] [ax 4 302,ad 5] [a8 4 0] [.tmp 4,.tmp 5]) (λr x=>Tc N x.1 x.2.1) Tryz.func184 (((cd.aS (cV 1100 [ad 1] (b3 [a6 15]) [0,1]) λx=>Ga x.1).aS (bi 111111010010 [aW 0 3,ax 6 302,ad 7] [a8 6 0] [0] [⟨.normal,[ax 6 302],[a8 6 1]⟩] [0,1,7]) λ(a,b,c,_)=>Gb N a b c).bE N (bi 111111010 [aW 0 3,ad 1,ax 6 302,ad 7] [a8 6 0] [0] [⟨.exit 0,[ax 6 302],[a8 6 1]⟩] []) λn (a,b,c,d,_)=>Pe N a b n c d)
def TT(N:Nat):=(ajP N).go (gS 123 3 [cm 0 27,cm 1 54,aW 2 92] [cm 1000000 65,ad 7,ad 8,ad 9] [] [.cell 6 65,.tmp 7,.tmp 8,.tmp 9]) (λr (a,b,c,_)=>H2 N a b c) Tryz.func123 ((cd.aS (bi 1111111010010000 [ob 3 27,ob 4 54,ob 6 65,ax 11 3,ax 14 3,ad 15] [aE 3 0,aE 4 1,aE 6 2,a8 11 3,a8 14 4] [1,1,1,1,1] (b3 [a6 64]) [2,3,4,6,11,14,15]) λ(_,_,_,a,_,b,_)=>GJ a b).bE N (bi 1111111010 [ob 3 27,ob 4 54,ob 6 65,ax 11 3,ax 14 3,ad 15] [aE 3 0,aE 4 1,aE 6 2,a8 11 3,a8 14 4] [1,1,2,1,0] [⟨.exit 0,[eJ 2 65,ax 14 3],[a8 14 5]⟩,⟨.ret,[eJ 2 65,ad 7,ad 8,ad 9],[]⟩] [2,3,4,6]) λn (_,a,b,c,d,e,_)=>GI a c n b d e)
def aE1:e7 D:=⟨111,3,[aX 0 46,aX 1 46,aX 2 67,ax 100000003 3,.o 0 (.bL 121 [(32,5)]),ad 1,ad 2,ax 2000032 149],[aE 0 4],[1,1,1,1,2,0],[a6 6,ax 2000032 149,.u 4 (.bL 121 [(32,6)])],[],[6],ak⟩
def aCf(N:Nat):aE1.gA.F:=λx=>Ra N x.2.2.2.2.1 x.2.2.2.2.2.1 x.2.2.2.2.2.2.1 x.2.2.2.2.2.2.2.1
def aIc(N:Nat):fR cT aE1 (aCf N):=ch.iu (ch.nil:ch (TT N).bk (en Tryz.f111)) Tryz.func111
def ajQ(N:Nat):eS cT:=(TT N).ir aE1 (aCf N) (aIc N)
def aF3:e7 D:=⟨111,3,[aX 0 46,aX 1 46,aX 2 67,ax 100000004 3,.o 0 (.bL 121 [(32,5)]),ad 1,ad 2,ax 2000032 149],[aE 0 4],[1,1,1,1,2,0],[a6 6,ax 2000032 149,.u 4 (.bL 121 [(32,6)])],[],[6],ak⟩
def aHH(N:Nat):fR cT aF3 (aCf N):=ch.iu (ch.nil:ch (TT N).bk (en Tryz.f111)) Tryz.func111
def Zv(N:Nat):eS cT:=(ajQ N).ir aF3 (aCf N) (aHH N)
def alT(N:Nat):mi cT:=(Zv N).bk.l9 λx b a=>match x,b,a with|.tmp 133,J (.tmp 125),J (.tmp 125)=>6|_,_,_=>0
def ajR(N:Nat):eS cT:=(Zv N).ir ⟨56,1,[aX 0 46,aX 1 46,aX 2 67,.o 0 (.bL 121 [(7,4),(32,5)]),ax 2000007 54,ax 2000032 149],[aE 0 3],[1,1,1,2,0,0],[ad 2,ax 2000032 149,.u 3 (.bL 121 [(32,6)])],[],[2],ak⟩ (λx=>RD N x.2.2.2.1 x.2.2.2.2.1 x.2.2.2.2.2.1) (((((ch.nil:ch (alT N) (en Tryz.f56)).bE N ⟨[1,1,0,1,0,0,1,0,0,1,1,1,1,0,1,0],[aX 0 46,aX 1 46,aX 2 67,.o 0 (.bL 121 [(7,7),(32,8)]),ob 4 54,ax 5 92,ax 6 3,ad 7,ax 2000007 54,ax 2000032 149],[aE 0 3,aE 4 4,a8 5 5,a8 6 6],[1,1,1,1,1,0,1,1,1],[⟨.exit 2,[ax 5 92],[a8 5 9]⟩],[0,3,4,6]⟩ λn x=>aAV x.2.2.2.1 x.2.2.2.2.2.2.1 n x.2.2.2.2.2.1 x.2.2.2.2.2.2.2.1).bE N ⟨[1,1,0,1,0,0,1,0,0,1,1,1,1,1,1,1,1,0,1,0],[aX 0 46,aX 1 46,aX 2 67,.o 0 (.bL 121 [(32,5)]),ax 6 3,ad 12,ax 2000032 149],[aE 0 3,a8 6 4],[1,1,1,2,1,0],[⟨.exit 4,[.u 3 (.bL 121 [(32,6)]),ax 2000032 149],[]⟩],[0,3]⟩ λn x=>aAW N x.2.2.2.2.1 n x.2.2.2.1 x.2.2.2.2.2.1 x.2.2.2.2.2.2.1).bE N ⟨[1,1,0,1,0],[aX 0 46,aX 1 46,aX 2 67,.o 0 (.bL 121 [(7,4),(32,5)]),ad 3,ax 2000007 54,ax 2000032 149],[aE 0 3],[1,1,1,2,0,0],[⟨.exit 0,[.u 3 (.bL 121 [(7,6),(32,7)]),ax 2000007 54,ax 2000032 149],[]⟩,⟨.ret,[.u 3 (.bL 121 [(32,6)]),ad 2,ax 2000032 149],[]⟩],[0]⟩ λn x=>Eu N n x.2.2.2.1 x.2.2.2.2.1 x.2.2.2.2.2.1 x.2.2.2.2.2.2.1).iu Tryz.func56)
def ajS(N:Nat):=(ajR N).go (gS 17 3 [cm 0 27,cm 1 46,cm 2 57] [cm 1000000 46,cm 1000001 67] [] [.cell 6 46,.cell 7 67]) (λr (a,b,c,_)=>Tf N a b c) Tryz.func17 (cd.aS (bi 111101 [ob 4 46,ob 6 46,ob 7 67,.o 8 (.bL 121 [(5,4),(7,5),(32,6),(36,7)]),ad 9,ad 17,ax 2008005 92,ax 2008007 54,ax 2008032 149,ax 2008036 142] [aE 4 0,aE 6 1,aE 7 2,aE 8 3] [1,1,1,2,0,0,0,0] (b3 [eJ 3 121,ad 9]) [4,6,7,8]) λ(_,_,_,a,b,c,d,e,f,g,_)=>Pl N a b c d e f g)
def ajT(N:Nat):=(ajS N).go ⟨11,3,[cm 1 27,ad 2],[],J (0,101),2,[ax 6 57,.u 0 (.recv 101)],[a8 6 1],[.tmp 6],ak⟩ (λr x=>Rq N r x.1 x.2.1) Tryz.func11 (((cd.aS (bi 11111010000 [.o 0 (.recv 101),ad 2,ob 4 27,ob 7 46,ax 9 57,ad 10] [aE 0 0,aE 4 1,aE 7 2,a8 9 3] [1,1,1,1] (b3 [a6 26]) [0,2,4,7,9,10]) λ(_,a,_,_,_,b,_)=>aCN a b).bE N (bi 11111010 [.o 0 (.recv 101),ad 2,ob 4 27,ob 7 46,ax 9 57,ad 10] [aE 0 0,aE 4 1,aE 7 2,a8 9 3] [2,1,2,0] [⟨.exit 0,[.u 0 (.recv 101),eJ 2 46,ax 9 57],[a8 9 4]⟩] [0,2,4,7]) λn (a,b,c,d,e,f,_)=>aAN N b c n a d e f).bE N (bi 111111010 [.o 0 (.recv 101),ob 4 27,ob 7 46,ax 9 57,ad 12] [aE 0 0,aE 4 1,aE 7 2,a8 9 3] [2,1,0,0] [⟨.exit 2,[.u 0 (.recv 101),ax 9 57],[a8 9 4]⟩] [0]) λn (a,b,c,d,e,_)=>aCO N b n a c d e)
def aR'(N:Nat):ch (ajT N).bk (en Tryz.f7):=ch.aS ch.nil ⟨[1,1,1,1,1,1,0,1,0,0,1,0,0,1,1,0,1,0,0,1,0,0],[ob 4 27,ax 5 57,ob 6 46,ad 8,ob 9 46,ob 10 67,a6 11,ad 12],[aE 4 0,a8 5 1,aE 6 2,aE 9 3,aE 10 4],[1,1,1,1,1],[⟨.normal,[a6 11],[]⟩],[4,5,6,8,9,10,12]⟩ λx=>aPS x.2.1 x.2.2.1 x.2.2.2.1 x.2.2.2.2.2.2.1 x.2.2.2.2.2.2.2.1
def aR9(N:Nat):ch (ajT N).bk (en Tryz.f7):=ch.bE (aR' N) N ⟨[1,1,1,1,1,1,0,1,0,0,1,0,0,1,1,0,1,0],[ob 4 27,ax 5 57,ob 6 46,ad 8,ob 9 46,ob 10 67,a6 11,ad 12],[aE 4 0,a8 5 1,aE 6 2,aE 9 3,aE 10 4],[1,1,1,1,1],[⟨.exit 2,[a6 11],[]⟩],[4,5,6,8,9,10]⟩ λn x=>aPq x.2.1 x.2.2.1 x.2.2.2.1 n x.2.2.2.2.2.2.1 x.2.2.2.2.2.2.2.1
def aSa(N:Nat):ch (ajT N).bk (en Tryz.f7):=ch.aS (aR9 N) ⟨[1,1,1,1,1,1,0,1,0,0,1,0,0,1,1,1,0,0],[ob 4 27,ax 5 57,ob 6 46,ad 8,ob 9 46,ob 10 67,a6 11],[aE 4 0,a8 5 1,aE 6 2,aE 9 3,aE 10 4],[1,1,1,1,1],[⟨.normal,[a6 88],[]⟩],[4,5,6,8,9]⟩ λx=>aPT x.2.1 x.2.2.2.1 x.2.2.2.2.2.1 x.2.2.2.2.2.2.1
def aSc(N:Nat):ch (ajT N).bk (en Tryz.f7):=ch.aS (aSa N) ⟨[1,1,1,1,1,1,0,1,0,0,1,0,0,1,1,1,1,0,1,0,0,0,0],[ob 4 27,ax 5 57,ob 6 46,ob 9 46,ad 13],[aE 4 0,a8 5 1,aE 6 2,aE 9 3],[1,1,1,1],[⟨.normal,[a6 98],[]⟩],[4,5,6,8,9,13]⟩ λx=>aPU x.2.2.2.1 x.2.2.2.2.1
def aSd(N:Nat):ch (ajT N).bk (en Tryz.f7):=ch.bE (aSc N) N ⟨[1,1,1,1,1,1,0,1,0,0,1,0,0,1,1,1,1,0,1,0,0,1,0,0,1,1,1,0],[ob 4 27,ax 5 57,ob 6 46,ob 9 46,ad 13,ad 14,aW 15 3,ad 16],[aE 4 0,a8 5 1,aE 6 2,aE 9 3],[1,1,1,1],[⟨.exit 6,[],[]⟩,⟨.ret,[a6 2],[]⟩],[4,5,6,8,9,13]⟩ λn x=>aPs N x.2.2.2.1 x.2.2.2.2.1 x.2.2.2.2.2.2.1 n x.2.2.2.2.2.1 x.2.2.2.2.2.2.2.1
def aSb(N:Nat):ch (ajT N).bk (en Tryz.f7):=ch.bE (aSd N) N ⟨[1,1,1,1,1,1,0,1,0,0,1,0,0,1,1,1,1,0,1,0],[ob 4 27,ax 5 57,ob 6 46,ob 9 46,ad 13],[aE 4 0,a8 5 1,aE 6 2,aE 9 3],[1,1,1,1],[⟨.exit 4,[],[]⟩,⟨.ret,[a6 2],[]⟩],[4,5,6,8,9]⟩ λn x=>aPr N x.2.2.2.1 n x.2.2.2.2.1
def aR8(N:Nat):ch (ajT N).bk (en Tryz.f7):=ch.bE (aSb N) N ⟨[1,1,1,1,1,1,0,1,0],[ob 4 27,ax 5 57,ob 6 46,ad 8],[aE 4 0,a8 5 1,aE 6 2],[1,1,0],[⟨.exit 0,[],[]⟩,⟨.ret,[a6 2],[]⟩],[]⟩ λn x=>Nj N x.1 x.2.1 n x.2.2.1 x.2.2.2.1
def aPM:fS D:=⟨7,1,[aW 0 3],[],ae,0,[a6 2],[],[.tmp 2],aa⟩
def aPz(N:Nat):aPM.F:=λr x=>Rl N x.1
def aQE(N:Nat):gL cT aPM (aPz N):=ch.fn (aR8 N) Tryz.func7
def ajV(N:Nat):eS cT:=(ajT N).l7 aPM (aPz N) (aQE N)
end
end
section
open Go.aF
abbrev Ok{a:Type}(e:Option a)(P:a->Prop):Prop:=¬e=ae/\∀r,e=J r->P r
def amc{a b:Type}{e:Option a}{f:a->Option b}{P:b->Prop}(h:e≠ae)(k:∀y,e=J y->Ok (f y) P):Ok (ab e f) P:=by
 cases e with
 |none=>exact absurd rfl h
 |some y=>exact k y rfl
def amg{a d b:Type}{e:Option (Sum a d)}{f:Sum a d->Option b}{P:b->Prop}(h:e≠ae)(k:∀y,e=J (.inl y)->Ok (f (.inl y)) P)(l:∀y,e=J (.inr y)->Ok (f (.inr y)) P):Ok (ab e f) P:=by
 cases e with
 |none=>exact absurd rfl h
 |some y=>cases y with
  |inl y=>exact k y rfl
  |inr y=>exact l y rfl
def amf{a:Type}{n:Int}{f:UInt8->Option a}{P:a->Prop}(k:∀y,Ok (f y) P):Ok (ab (gW (aO .u8 n)) f) P:=by
 rw[YQ];unfold gW;rw[if_pos (by omega)];exact k _
def al'{d e:Type}{b a:List d}{f:List d->Option e}{P:e->Prop}(h:aN8 b+aN8 a<=4294967296)(k:∀y,y=b++a->Ok (f y) P):Ok (ab (cD b a) f) P:=by
 rw[show cD b a=J (b++a) from if_pos h];exact k _ rfl
def ama{e g:Type}{d:List e}{a b:Int}{f:List e->Option g}{P:g->Prop}(h:0<=a/\a<=b/\b<=aN8 d)(k:∀y,y=(d.take b.toNat).drop a.toNat->Ok (f y) P):Ok (ab (gi d a b) f) P:=by
 rw[show gi d a b=_ from if_pos h];exact k _ rfl
def amb{d:Type}{a b:Int}{f:Int->Option d}{P:d->Prop}(h:b≠0)(k:∀y,(0<b->y<b/\ -b<y/\(0<=a->0<=y))->Ok (f y) P):Ok (ab (px a b) f) P:=by
 rw[show px a b=J (a.tmod b) by simp[px,h]];exact k _ λh=>⟨Int.tmod_lt_of_pos a h,Int.lt_tmod_of_pos a h,Int.tmod_nonneg b⟩
def abJ{a:Type}{e:Option a}{Q P:a->Prop}(h:Ok e Q)(k:∀r,Q r->P r):Ok e P:=⟨h.1,λr e=>k r (h.2 r e)⟩
def T5{a:Type}{k:aG}{b:Int}{f:Nat->Option a}{P:a->Prop}(h:0<=b)(g:∀y,Ok (f y) P):Ok (ab (j2 k b) f) P:=by
 rw[show j2 k b=_ from if_pos h];exact g _
def axa{a:Type}{k:aG}{b:Int}{f:Nat->Option a}{P:a->Prop}(g:∀y,Ok (f y) P):Ok (ab (j2 k (aO .u64 b)) f) P:=
 T5 (by rw[aG.wrap_u64];omega) g
def amd{a d:Type}{e:Option a}{f:a->Option d}{Q:a->Prop}{P:d->Prop}(h:Ok e Q)(k:∀y,e=J y->Q y->Ok (f y) P):Ok (ab e f) P:=
 amc h.1 λy b=>k y b (h.2 y b)
def amh{b d g:Type}{e:Option (Sum b d)}{f:Sum b d->Option g}{Q:Sum b d->Prop}{P:g->Prop}(h:Ok e Q)(k:∀y,e=J (.inl y)->Q (.inl y)->Ok (f (.inl y)) P)(l:∀y,e=J (.inr y)->Q (.inr y)->Ok (f (.inr y)) P):Ok (ab e f) P:=
 amg h.1 (λy a=>k y a (h.2 _ a)) λy a=>l y a (h.2 _ a)
def di{a b:Type}{e:a}{f:a->Option b}{P:b->Prop}(k:∀y,y=e->Ok (f y) P):Ok (aF.lt e f) P:=k e rfl
def df{e:Type}{c:Prop}[Decidable c]{a b:Option e}{P:e->Prop}(h:c->Ok a P)(k:¬c->Ok b P):Ok (if c then a else b) P:=by
 by_cases d:c
 ·rw[if_pos d];exact h d
 ·rw[if_neg d];exact k d
def dk{e:Type}{c:Prop}[Decidable c]{a b:Option e}{P:e->Prop}(h:c->Ok a P)(k:¬c->Ok b P):Ok (if decide c=aa then a else b) P:=by
 by_cases d:c
 ·rw[if_pos (by simpa using d)];exact h d
 ·rw[if_neg (by simpa using d)];exact k d
def apc{f:Type}{e:List UInt8}{a b:Option f}{P:f->Prop}(h:e=[]->Ok a P)(k:0<aN8 e->Ok b P):Ok (if(e==[])=aa then a else b) P:=by
 by_cases d:e=[]
 ·rw[if_pos (by simpa using d)];exact h d
 ·rw[if_neg (by simpa using d)];exact k (List.length_pos_iff.mpr d)
def dj{a:Type}{e:Int}{f:Int->Option a}{P:a->Prop}(h: -4611686018427387904<=e/\e<=4611686018427387904)(k:Ok (f e) P):Ok (aF.lt (aO .i64 e) f) P:=by
 unfold aF.lt;rw[vN];rw[show(e+9223372036854775808)%18446744073709551616-9223372036854775808=e by omega];exact k
def dg{a:Type}{v:a}{P:a->Prop}(h:P v):Ok (J v) P:=⟨nofun,λr e=>by cases e;exact h⟩
@[grind=] theorem Qb{x:Int}(a: -4611686018427387904<=x)(b:x<=4611686018427387904):aO .i64 x=x:=by
 rw[vN];omega
@[grind=] theorem aw9{d:Type}{b a:List d}(h:aN8 b+aN8 a<=4294967296):cD b a=J (b++a):=if_pos h
@[grind=] theorem ayI{a:Type}{x:a}{n:Int}(b:0<=n)(h:n<=4294967296):hy x n=J (gb n.toNat x):=if_pos ⟨b,h⟩
@[grind=] theorem axd{e:Type}{d:List e}{a b:Int}(h:0<=a/\a<=b/\b<=aN8 d):gi d a b=J ((d.take b.toNat).drop a.toNat):=if_pos h
@[grind .] theorem amy{a b:Int}(h:b≠0):¬sU a b=ae:=by simp[sU,h]
@[grind .] theorem apK{a b:Int}(h:b≠0):¬px a b=ae/\∀r,px a b=J r->0<b->r<b/\ -b<r/\(0<=a->0<=r):=
 ⟨by simp[px,h],λr e h=>by
  obtain⟨_,rfl⟩:=acD e;exact⟨Int.tmod_lt_of_pos a h,Int.lt_tmod_of_pos a h,Int.tmod_nonneg b⟩⟩
@[grind .] theorem awj{n:Int}:¬gW (aO .u8 n)=ae:=by
 rw[YQ];unfold gW;rw[if_pos (by omega)];simp
attribute [grind=] YQ
@[grind=] theorem awl{n:Int}(h:0<=n/\n<256):gW n=J (UInt8.ofNat n.toNat):=if_pos h
def hT{a:Type}{xs:List a}{i:Int}(h:0<=i)(k:i<aN8 xs):∃t,al xs i=J t:=⟨_,by unfold al;rw[if_pos h];exact List.getElem?_eq_getElem (by omega)⟩
attribute [grind->] List.mem_or_eq_of_mem_set List.mem_of_mem_take List.mem_of_mem_drop
@[grind .] theorem axi{b:Type}{a:List b}{i:Int}(h:aN8 a<=i):a.drop i.toNat=[]:=List.drop_eq_nil_of_le (by omega)
@[grind->] theorem sT{b:Type}{a:List b}{i:Int}{y:b}(e:al a i=J y):a.drop i.toNat=y::a.drop (i+1).toNat:=by
 unfold al at e;split at e
 ·rw[show(i+1).toNat=i.toNat+1 by omega];obtain⟨h,rfl⟩:=List.getElem?_eq_some_iff.mp e;exact List.drop_eq_getElem_cons h
 ·cases e
@[grind->] theorem lP{a:Type}{b:List a}{i:Int}{y:a}(e:al b i=J y):y∈b:=by
 unfold al at e;split at e
 ·exact List.mem_of_getElem? e
 ·cases e
abbrev aN9{a:Type}(l:List a):Prop:=aN8 l<=1000000
abbrev aOf(i k:Int)(n:Nat):Prop:=0<=i/\i<=k/\k-i<n
abbrev aOi{a:Type}(l:List a)(i k:Int)(n:Nat):Prop:=k=aN8 l/\aOf i k n
abbrev aOa{a:Type}(i:Int)(l:List a):Prop:=0<=i/\i<aN8 l
class gM(N:Nat):Prop where
 h:5000000000<N
@[grind->] theorem aw0{N:Nat}(h:gM N):5000000000<N:=h.h
class au{aK:Type}(e:Option aK)(H:outParam Prop)(Q:outParam (aK->Prop)):Prop where
 ok:H->Ok e Q
section
variable {aK cg mI:Type}{P:cg->Prop}{H:Prop}
theorem dh{e:Option aK}{Q:aK->Prop}[i:au e H Q]{f:aK->Option cg}(h:H)(k:∀y,e=J y->Q y->Ok (f y) P):Ok (ab e f) P:=amd (i.ok h) k
theorem dq{e:Option (Sum aK mI)}{Q:Sum aK mI->Prop}[i:au e H Q]{f:Sum aK mI->Option cg}(h:H)(k:∀y,e=J (.inl y)->Q (.inl y)->Ok (f (.inl y)) P)(l:∀y,e=J (.inr y)->Q (.inr y)->Ok (f (.inr y)) P):Ok (ab e f) P:=amh (i.ok h) k l
theorem eC{e:Option (Sum aK mI)}{Q P:Sum aK mI->Prop}[i:au e H Q](h:H)(k:∀r,Q (.inl r)->P (.inl r))(l:∀r,Q (.inr r)->P (.inr r)):Ok e P:=abJ (i.ok h) λr=>match r with|.inl r=>k r|.inr r=>l r
theorem dr{e:Option cg}{Q:cg->Prop}[i:au e H Q](h:H)(k:∀r,Q r->P r):Ok e P:=abJ (i.ok h) k
end
theorem G1{a:Type}{e:Option a}{c:Prop}[Decidable c]{v:a}(h:e=if c then J v else ae):au e c λy=>y=v:=⟨λk=>by rw[h,if_pos k];exact⟨nofun,λ_ e=>(Option.some.inj e).symm⟩⟩
section
variable {aK:Type}{xs b4:List aK}{i a b:Int}{x:aK}{k:aG}
instance :au (al xs i) (0<=i/\i<aN8 xs) λ_=>True:=⟨λh=>by obtain⟨t,e⟩:=hT h.1 h.2;rw[e];exact⟨nofun,λ_ _=>trivial⟩⟩
instance :au (cD xs b4) (aN8 xs+aN8 b4<=4294967296) λy=>y=xs++b4:=G1 rfl
instance :au (gi xs a b) (0<=a/\a<=b/\b<=aN8 xs) λy=>y=(xs.take b.toNat).drop a.toNat:=G1 rfl
instance :au (hy x i) (0<=i/\i<=4294967296) λy=>y=gb i.toNat x:=G1 rfl
instance :au (px a b) (b≠0) λy=>0<b->y<b/\ -b<y/\(0<=a->0<=y):=⟨apK⟩
instance :au (sU a b) (b≠0) λ_=>True:=⟨λh=>⟨amy h,λ_ _=>trivial⟩⟩
instance :au (j2 k b) (0<=b) λ_=>True:=⟨λh=>by rw[show j2 k b=_ from if_pos h];exact⟨nofun,λ_ _=>trivial⟩⟩
instance :au (j2 k (aO .u64 b)) True λ_=>True:=⟨λ_=>by rw[show j2 k (aO .u64 b)=_ from if_pos (by rw[aG.wrap_u64];omega)];exact⟨nofun,λ_ _=>trivial⟩⟩
instance :au (gW i) (0<=i/\i<256) λ_=>True:=⟨λh=>by rw[awl h];exact⟨nofun,λ_ _=>trivial⟩⟩
instance :au (gW (aO .u8 i)) True λ_=>True:=⟨λ_=>⟨awj,λ_ _=>trivial⟩⟩
end
def aC{p:Prop}(h:p:=by(repeat' with_reducible first|intro _|apply dq|apply dh|refine dj (by omega) ?_|apply di|apply dk|apply df|apply eC|apply dr|apply dg)<;>first|grind -mbtc|(with_reducible repeat' apply And.intro)<;>grind -mbtc):p:=h
def aOr{p q:Prop}(k:q)(h:q->p:=by intro k;(repeat' with_reducible first|intro _|apply dq|apply dh|refine dj (by omega) ?_|apply di|apply dk|apply df|apply eC|apply dr|apply dg)<;>grind -mbtc):p:=h k
theorem bJ{a:Type}{e:Option a}{H:Prop}{Q:a->Prop}(h:H->False:=by grind -mbtc):au e H Q:=⟨λk=>(h k).elim⟩
abbrev iX{b d:Type}(r:Sum b d)(P:b->Prop):Prop:=match r with|.inl a=>P a|.inr _=>True
abbrev fh{d b:Type}(r:Sum d b)(P:b->Prop):Prop:=match r with|.inl _=>True|.inr a=>P a
end
end Go.W