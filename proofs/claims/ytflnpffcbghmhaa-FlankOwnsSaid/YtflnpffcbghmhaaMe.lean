/- W1 WLib LBas LPl1 LPl2 LPl3 LPl4 LPlM LFr LFk1 LFk2 LFk3 LFk4 LFk5 LFk6 LFk7 LFk8 LFkP LFkO -/
import Derived.Test.YtflnpffcbghmhaaProg
import Derived.IntWalk
import Derived.Test.YtflnpffcbghmhaaMd
section
set_option linter.unusedVariables false
set_option linter.unusedSimpArgs false
set_option maxRecDepth 100000
set_option maxHeartbeats 1000000
namespace Go.W
noncomputable section
open Go.AM Go.Proofs
def Ty3:Ty Int:=TyOf 3 [.int .i64] fun x=>(x,())
def Ty4:Ty Bool:=TyOf 4 [.bool] fun x=>(x,())
def Ty5:Ty UInt8:=TU8 5
def Ty9:Ty (List UInt8):=TyOf 9 [.str] fun x=>(x,())
def Ty22:Ty (List Int):=TyOf 22 [.sl Int Ty3] fun x=>(x,())
def Ty53:Ty PlantElement:=TyOf 53 [.int .i64, .str, .int .i64, .int .i64, .int .i64, .int .i64] fun x=>(x.kind,x.name,x.a,x.b,x.c,x.length,())
def Ty23:Ty (List PlantElement):=TyOf 23 [.sl PlantElement Ty53] fun x=>(x,())
def Ty33:Ty Setting:=TyOf 33 [.int .i64, .int .i64] fun x=>(x.element,x.position,())
def Ty48:Ty Maker:=TyOf 48 [.sl Int Ty3, .int .i64] fun x=>(x.l,x.n,())
def Ty60:Ty (List (Int×Int)):=TyOf 60 [.mp Int Int ⟨kInt .i64,kInt .i64,60⟩] fun x=>(x,())
def Ty67:Ty (List (Int×Bool)):=TyOf 67 [.mp Int Bool ⟨kInt .i64,qh5,67⟩] fun x=>(x,())
def Ty70:Ty Visit:=TyOf 70 [.int .i64, .int .i64, .int .i64] fun x=>(x.element,x.in_,x.out,())
def Ty71:Ty (List (Spot×Bool)):=TyOf 71 [.mp Spot Bool ⟨fun x=>[.int .i64 x.element, .int .i64 x.node],qh5,71⟩] fun x=>(x,())
def Ty72:Ty (Option Nat):=TyOf 72 [.fn] fun x=>(x,())
def Ty74:Ty Spot:=TyOf 74 [.int .i64, .int .i64] fun x=>(x.element,x.node,())
def Ty88:Ty (Option Nat):=TyOf 88 [.fn] fun x=>(x,())
def Ty91:Ty (List (Step×Int)):=TyOf 91 [.mp Step Int ⟨fun x=>[.int .i64 x.element, .int .i64 x.in_],kInt .i64,91⟩] fun x=>(x,())
def Ty97:Ty Step:=TyOf 97 [.int .i64, .int .i64] fun x=>(x.element,x.in_,())
def Ty98:Ty (Option Nat):=TyOf 98 [.fn] fun x=>(x,())
def qtV:Ty (List ((List UInt8)×Bool)):=TyOf 122 [.mp (List UInt8) Bool ⟨kStr,qh5,122⟩] fun x=>(x,())
structure TE where
 α:Type
 T:Ty α
 kc:α→List Value
def tabL:Nat→TE
 |3=>⟨Int,Ty3,kInt .i64⟩
 |4=>⟨Bool,Ty4,qh5⟩
 |5=>⟨UInt8,Ty5,fun _=>[]⟩
 |9=>⟨(List UInt8),Ty9,kStr⟩
 |22=>⟨(List Int),Ty22,fun _=>[]⟩
 |53=>⟨PlantElement,Ty53,fun _=>[]⟩
 |23=>⟨(List PlantElement),Ty23,fun _=>[]⟩
 |33=>⟨Setting,Ty33,fun _=>[]⟩
 |48=>⟨Maker,Ty48,fun _=>[]⟩
 |60=>⟨(List (Int×Int)),Ty60,fun _=>[]⟩
 |67=>⟨(List (Int×Bool)),Ty67,fun _=>[]⟩
 |70=>⟨Visit,Ty70,fun _=>[]⟩
 |71=>⟨(List (Spot×Bool)),Ty71,fun _=>[]⟩
 |72=>⟨(Option Nat),Ty72,fun _=>[]⟩
 |74=>⟨Spot,Ty74,fun x=>[.int .i64 x.element, .int .i64 x.node]⟩
 |88=>⟨(Option Nat),Ty88,fun _=>[]⟩
 |91=>⟨(List (Step×Int)),Ty91,fun _=>[]⟩
 |97=>⟨Step,Ty97,fun x=>[.int .i64 x.element, .int .i64 x.in_]⟩
 |98=>⟨(Option Nat),Ty98,fun _=>[]⟩
 |122=>⟨(List ((List UInt8)×Bool)),qtV,fun _=>[]⟩
 |_=>⟨Bool,qka 4,qh5⟩
def D (t:Nat):Type:=(tabL t).α
def G:Tab D:=⟨fun t=>(tabL t).T,fun t=>(tabL t).kc⟩
def ti3:TI Try.prog G 3:=tiOf [.int .i64] (fun (x:Int)=>(x,())) (fun y=>(y.1:Int)) (fun _=>rfl) (fun _=>rfl) (0:Int) Try.t3 (.int .i64 0) rfl Try.type3 rfl rfl rfl rfl rfl rfl (fun z=>⟨rfl,trivial⟩) rfl
def ti4:TI Try.prog G 4:=tiOf [.bool] (fun (x:Bool)=>(x,())) (fun y=>(y.1:Bool)) (fun _=>rfl) (fun _=>rfl) (false:Bool) Try.t4 (.bool false) rfl Try.type4 rfl rfl rfl rfl rfl rfl (fun z=>⟨rfl,trivial⟩) rfl
def ti5:TI Try.prog G 5:=tiU8 (fun (x:UInt8)=>x) (fun x=>x) (fun x=>x) (fun o=>by cases o<;>rfl) (fun _=>rfl) (fun _=>rfl) Try.t5 rfl rfl (fun _ _ _=>Iff.rfl) Try.type5 rfl rfl rfl
def ti9:TI Try.prog G 9:=tiOf [.str] (fun (x:(List UInt8))=>(x,())) (fun y=>(y.1:(List UInt8))) (fun _=>rfl) (fun _=>rfl) ([]:(List UInt8)) Try.t9 (.string ⟨#[]⟩) rfl Try.type9 rfl rfl rfl rfl rfl rfl (fun z=>⟨rfl,trivial⟩) rfl
def ti22:TI Try.prog G 22:=tiOf [.sl 3] (fun (x:(List Int))=>(x,())) (fun y=>(y.1:(List Int))) (fun _=>rfl) (fun _=>rfl) ([]:(List Int)) Try.t22 (.slice none 0 0) rfl Try.type22 rfl rfl rfl rfl rfl rfl (fun z=>⟨.inl ⟨rfl,rfl⟩,trivial⟩) rfl
def ti53:TI Try.prog G 53:=tiOf [.int .i64, .str, .int .i64, .int .i64, .int .i64, .int .i64] (fun (x:PlantElement)=>(x.kind,x.name,x.a,x.b,x.c,x.length,())) (fun y=>((PlantElement.mk y.1 y.2.1 y.2.2.1 y.2.2.2.1 y.2.2.2.2.1 y.2.2.2.2.2.1):PlantElement)) (fun _=>rfl) (fun _=>rfl) ((PlantElement.mk 0 [] 0 0 0 0):PlantElement) Try.t53 (.agg #[.int .i64 0, .string ⟨#[]⟩, .int .i64 0, .int .i64 0, .int .i64 0, .int .i64 0]) rfl Try.type53 rfl rfl rfl rfl rfl rfl (fun z=>⟨rfl,rfl,rfl,rfl,rfl,rfl,trivial⟩) rfl
def ti23:TI Try.prog G 23:=tiOf [.sl 53] (fun (x:(List PlantElement))=>(x,())) (fun y=>(y.1:(List PlantElement))) (fun _=>rfl) (fun _=>rfl) ([]:(List PlantElement)) Try.t23 (.slice none 0 0) rfl Try.type23 rfl rfl rfl rfl rfl rfl (fun z=>⟨.inl ⟨rfl,rfl⟩,trivial⟩) rfl
def ti33:TI Try.prog G 33:=tiOf [.int .i64, .int .i64] (fun (x:Setting)=>(x.element,x.position,())) (fun y=>((Setting.mk y.1 y.2.1):Setting)) (fun _=>rfl) (fun _=>rfl) ((Setting.mk 0 0):Setting) Try.t33 (.agg #[.int .i64 0, .int .i64 0]) rfl Try.type33 rfl rfl rfl rfl rfl rfl (fun z=>⟨rfl,rfl,trivial⟩) rfl
def ti48:TI Try.prog G 48:=tiOf [.sl 3, .int .i64] (fun (x:Maker)=>(x.l,x.n,())) (fun y=>((Maker.mk y.1 y.2.1):Maker)) (fun _=>rfl) (fun _=>rfl) ((Maker.mk [] 0):Maker) Try.t48 (.agg #[.slice none 0 0, .int .i64 0]) rfl Try.type48 rfl rfl rfl rfl rfl rfl (fun z=>⟨.inl ⟨rfl,rfl⟩,rfl,trivial⟩) rfl
def ti60:TI Try.prog G 60:=tiOf [.mp 60 3 3] (fun (x:(List (Int×Int)))=>(x,())) (fun y=>(y.1:(List (Int×Int)))) (fun _=>rfl) (fun _=>rfl) ([]:(List (Int×Int))) Try.t60 (.map none) rfl Try.type60 rfl rfl rfl rfl rfl rfl (fun z=>⟨.inl ⟨rfl,rfl⟩,trivial⟩) rfl
def ti67:TI Try.prog G 67:=tiOf [.mp 67 3 4] (fun (x:(List (Int×Bool)))=>(x,())) (fun y=>(y.1:(List (Int×Bool)))) (fun _=>rfl) (fun _=>rfl) ([]:(List (Int×Bool))) Try.t67 (.map none) rfl Try.type67 rfl rfl rfl rfl rfl rfl (fun z=>⟨.inl ⟨rfl,rfl⟩,trivial⟩) rfl
def ti70:TI Try.prog G 70:=tiOf [.int .i64, .int .i64, .int .i64] (fun (x:Visit)=>(x.element,x.in_,x.out,())) (fun y=>((Visit.mk y.1 y.2.1 y.2.2.1):Visit)) (fun _=>rfl) (fun _=>rfl) ((Visit.mk 0 0 0):Visit) Try.t70 (.agg #[.int .i64 0, .int .i64 0, .int .i64 0]) rfl Try.type70 rfl rfl rfl rfl rfl rfl (fun z=>⟨rfl,rfl,rfl,trivial⟩) rfl
def ti71:TI Try.prog G 71:=tiOf [.mp 71 74 4] (fun (x:(List (Spot×Bool)))=>(x,())) (fun y=>(y.1:(List (Spot×Bool)))) (fun _=>rfl) (fun _=>rfl) ([]:(List (Spot×Bool))) Try.t71 (.map none) rfl Try.type71 rfl rfl rfl rfl rfl rfl (fun z=>⟨.inl ⟨rfl,rfl⟩,trivial⟩) rfl
def ti72:TI Try.prog G 72:=tiOf [.fn] (fun (x:(Option Nat))=>(x,())) (fun y=>(y.1:(Option Nat))) (fun _=>rfl) (fun _=>rfl) ((none:Option Nat):(Option Nat)) Try.t72 (.nilFunc) rfl Try.type72 rfl rfl rfl rfl rfl rfl (fun z=>⟨rfl,trivial⟩) rfl
def ti74:TI Try.prog G 74:=tiOf [.int .i64, .int .i64] (fun (x:Spot)=>(x.element,x.node,())) (fun y=>((Spot.mk y.1 y.2.1):Spot)) (fun _=>rfl) (fun _=>rfl) ((Spot.mk 0 0):Spot) Try.t74 (.agg #[.int .i64 0, .int .i64 0]) rfl Try.type74 rfl rfl rfl rfl rfl rfl (fun z=>⟨rfl,rfl,trivial⟩) rfl
def ti88:TI Try.prog G 88:=tiOf [.fn] (fun (x:(Option Nat))=>(x,())) (fun y=>(y.1:(Option Nat))) (fun _=>rfl) (fun _=>rfl) ((none:Option Nat):(Option Nat)) Try.t88 (.nilFunc) rfl Try.type88 rfl rfl rfl rfl rfl rfl (fun z=>⟨rfl,trivial⟩) rfl
def ti91:TI Try.prog G 91:=tiOf [.mp 91 97 3] (fun (x:(List (Step×Int)))=>(x,())) (fun y=>(y.1:(List (Step×Int)))) (fun _=>rfl) (fun _=>rfl) ([]:(List (Step×Int))) Try.t91 (.map none) rfl Try.type91 rfl rfl rfl rfl rfl rfl (fun z=>⟨.inl ⟨rfl,rfl⟩,trivial⟩) rfl
def ti97:TI Try.prog G 97:=tiOf [.int .i64, .int .i64] (fun (x:Step)=>(x.element,x.in_,())) (fun y=>((Step.mk y.1 y.2.1):Step)) (fun _=>rfl) (fun _=>rfl) ((Step.mk 0 0):Step) Try.t97 (.agg #[.int .i64 0, .int .i64 0]) rfl Try.type97 rfl rfl rfl rfl rfl rfl (fun z=>⟨rfl,rfl,trivial⟩) rfl
def ti98:TI Try.prog G 98:=tiOf [.fn] (fun (x:(Option Nat))=>(x,())) (fun y=>(y.1:(Option Nat))) (fun _=>rfl) (fun _=>rfl) ((none:Option Nat):(Option Nat)) Try.t98 (.nilFunc) rfl Try.type98 rfl rfl rfl rfl rfl rfl (fun z=>⟨rfl,trivial⟩) rfl
def quI:TI Try.prog G 122:=tiOf [.mp 122 9 4] (fun (x:(List ((List UInt8)×Bool)))=>(x,())) (fun y=>(y.1:(List ((List UInt8)×Bool)))) (fun _=>rfl) (fun _=>rfl) ([]:(List ((List UInt8)×Bool))) Try.t122 (.map none) rfl Try.type122 rfl rfl rfl rfl rfl rfl (fun z=>⟨.inl ⟨rfl,rfl⟩,trivial⟩) rfl
def qi33:QI Try.prog G 33:=qiOf [.int .i64, .int .i64] (fun (x:Setting)=>(x.element,x.position,())) (fun y=>((Setting.mk y.1 y.2.1):Setting)) (fun _=>rfl) _ (fun (x y:Setting)=>decide (x=y)) rfl (fun (x y:Setting)=>decide_eq_true_iff) Try.underlying33 (by kernel_rfl) (by kernel_rfl) (by kernel_rfl)
def bi5:BI Try.prog G 5:=⟨fun xs=>xs,fun xs=>xs,fun _ _ _ h=>h,fun _ _ _ _ _ _ h=>h,fun _ _ _ _ _ _ h=>h,Try.t5,Try.underlying5,Try.type5,rfl⟩
def ki3:KI Try.prog G 3:=kiI .i64 (fun n=>n) (inferInstance:DecidableEq Int) Try.t3 Try.underlying3 (qqz Try.underlying3 Try.type3 rfl) (fun _=>rfl)
def vi3:VI Try.prog G 3:=viI .i64 (fun n=>n) (fun n=>n) (fun _=>rfl) Try.t3 Try.underlying3 Try.type3 (qtg Try.underlying3 Try.type3 rfl) (fun _=>rfl) rfl
def vi4:VI Try.prog G 4:=viB (fun n=>n) (fun n=>n) (fun _=>rfl) Try.t4 Try.underlying4 Try.type4 (qpp Try.underlying4 Try.type4 rfl) (fun _=>rfl) rfl
def ki74:KI Try.prog G 74:=kiA (inferInstance:DecidableEq Spot) ti74 [.int .i64, .int .i64] (fun (x:Spot)=>(x.element,x.node,())) (fun y=>((Spot.mk y.1 y.2.1):Spot)) (fun _=>rfl) _ Try.t74 rfl Try.underlying74 Try.type74 (by kernel_rfl) rfl (by kernel_rfl) (fun _=>rfl) (fun _=>rfl)
def ki97:KI Try.prog G 97:=kiA (inferInstance:DecidableEq Step) ti97 [.int .i64, .int .i64] (fun (x:Step)=>(x.element,x.in_,())) (fun y=>((Step.mk y.1 y.2.1):Step)) (fun _=>rfl) _ Try.t97 rfl Try.underlying97 Try.type97 (by kernel_rfl) rfl (by kernel_rfl) (fun _=>rfl) (fun _=>rfl)
def ki9:KI Try.prog G 9:=kiS (fun n=>n) (inferInstance:DecidableEq (List UInt8)) Try.underlying9 (qqA Try.underlying9 Try.type9 rfl) (fun _=>rfl)
def qtW:AI Try.prog G 108:=⟨3,64,ti3,Try.t108, .agg #[.int .i64 0, .int .i64 0, .int .i64 0, .int .i64 0, .int .i64 0, .int .i64 0, .int .i64 0, .int .i64 0, .int .i64 0, .int .i64 0, .int .i64 0, .int .i64 0, .int .i64 0, .int .i64 0, .int .i64 0, .int .i64 0, .int .i64 0, .int .i64 0, .int .i64 0, .int .i64 0, .int .i64 0, .int .i64 0, .int .i64 0, .int .i64 0, .int .i64 0, .int .i64 0, .int .i64 0, .int .i64 0, .int .i64 0, .int .i64 0, .int .i64 0, .int .i64 0, .int .i64 0, .int .i64 0, .int .i64 0, .int .i64 0, .int .i64 0, .int .i64 0, .int .i64 0, .int .i64 0, .int .i64 0, .int .i64 0, .int .i64 0, .int .i64 0, .int .i64 0, .int .i64 0, .int .i64 0, .int .i64 0, .int .i64 0, .int .i64 0, .int .i64 0, .int .i64 0, .int .i64 0, .int .i64 0, .int .i64 0, .int .i64 0, .int .i64 0, .int .i64 0, .int .i64 0, .int .i64 0, .int .i64 0, .int .i64 0, .int .i64 0, .int .i64 0],Try.underlying108,Try.type108,rfl,rfl,rfl,rfl,rfl⟩
def qpk:SI Try.prog G:=siOf (t:=33) [.int .i64, .int .i64] (fun (x:Setting)=>(x.element,x.position,())) rfl rfl ((Setting.mk 0 0):Setting) (fun (x:Setting)=>x.element) qlZ 31 32 rfl (by kernel_rfl) Try.isAgg33 Try.sizeOf33 (Go.Proofs.enters_of Try.func32 (by kernel_rfl) rfl) rfl qp9
def si31_56:SI Try.prog G:=siOf (t:=33) [.int .i64, .int .i64] (fun (x:Setting)=>(x.element,x.position,())) rfl rfl ((Setting.mk 0 0):Setting) (fun (x:Setting)=>x.element) qlZ 31 56 rfl (by kernel_rfl) Try.isAgg33 Try.sizeOf33 (Go.Proofs.enters_of Try.func56 (by kernel_rfl) rfl) rfl qqa
def X0:Ev Try.prog D where
 G:=G
 S:=[qpk,si31_56]
 I:=fun t=>match t with|3=>some ti3|4=>some ti4|5=>some ti5|9=>some ti9|22=>some ti22|53=>some ti53|23=>some ti23|33=>some ti33|48=>some ti48|60=>some ti60|67=>some ti67|70=>some ti70|71=>some ti71|72=>some ti72|74=>some ti74|88=>some ti88|91=>some ti91|97=>some ti97|98=>some ti98|122=>some quI|_=>none
 A:=fun t=>match t with|108=>some qtW|_=>none
 J:=fun k v=>match k,v with|3,3=>some (miOf ki3 vi3)|3,4=>some (miOf ki3 vi4)|9,4=>some (miOf ki9 vi4)|74,4=>some (miOf ki74 vi4)|97,3=>some (miOf ki97 vi3)|_,_=>none
 B:=fun t=>match t with|5=>some bi5|_=>none
 Q:=fun t=>match t with|33=>some qi33|_=>none
 F:=fun _ _ _=>false
 C:=fun _ _ _ _ _=>none
def T0 (N:Nat):TT X0:=TT.nil
def dzcO:FD D:=⟨7,1,[.v 0 (.sl 3)],[],none,0,[.o 2 (.box 48)],[(2, .box 0 0)],[.tmp 2],false⟩
def FzcO (N:Nat):dzcO.F:=fun r x=>zcO N x.1
theorem wzcO (N:Nat):CallOk X0 dzcO (FzcO N):=UU.fn (UU.nil:UU (T0 N).ev (qab Try.f7)) Try.func7
def T1 (N:Nat):TT X0:=(T0 N).ad dzcO (FzcO N) (wzcO N)
def dzbF:FD D:=⟨41,1,[.v 0 (.int .i64)],[],none,0,[.v 2 .str],[],[.tmp 2],true⟩
def FzbF (N:Nat):dzbF.F:=fun r x=>zbF N x.1
theorem wzbF (N:Nat):CallOk X0 dzbF (FzbF N):=UU.fn (UU.nil:UU (T1 N).ev (qab Try.f41)) Try.func41
def T2 (N:Nat):TT X0:=(T1 N).ad dzbF (FzbF N) (wzbF N)
def qss (N:Nat):UU (T2 N).ev (qab Try.f10):=UU.st UU.nil ⟨[1,1,0,1],[.o 0 (.recv 48), .v 5 (.int .i64), .v 11 .bool],[(0, .box 0 0)],[1],[⟨.normal,[.v 5 (.int .i64)],[]⟩],[0,1]⟩ fun x=>qnx N x.1 x.2.1 x.2.2.1
def qst (N:Nat):UU (T2 N).ev (qab Try.f10):=UU.st (qss N) ⟨[1,1,1,1,1,0,1],[.o 0 (.recv 48), .v 1 (.int .i64), .v 5 (.int .i64), .v 51 .bool],[(0, .box 0 0)],[1],[⟨.normal,[.v 5 (.int .i64)],[]⟩],[0]⟩ fun x=>qpP N x.2.1 x.2.2.1 x.2.2.2.1
def dzbQ:FD D:=⟨10,2,[.v 1 (.int .i64)],[],some (0,48),2,[.v 4 (.int .i64), .u 0 (.recv 48)],[],[.tmp 4],false⟩
def FzbQ (N:Nat):dzbQ.F:=fun r x=>zbQ N r x.1
theorem wzbQ (N:Nat):CallOk X0 dzbQ (FzbQ N):=UU.fn (qst N) Try.func10
def T3 (N:Nat):TT X0:=(T2 N).ad dzbQ (FzbQ N) (wzbQ N)
def dzbR:FD D:=⟨22,2,[.v 1 (.sl 3)],[],some (0,48),2,[.v 4 (.int .i64), .u 0 (.recv 48)],[],[.tmp 4],false⟩
def FzbR (N:Nat):dzbR.F:=fun r x=>zbR N r x.1
theorem wzbR (N:Nat):CallOk X0 dzbR (FzbR N):=UU.fn (UU.nil:UU (T3 N).ev (qab Try.f22)) Try.func22
def T4 (N:Nat):TT X0:=(T3 N).ad dzbR (FzbR N) (wzbR N)
def Y4 (N:Nat):EV X0:=(T4 N).ev.cuts fun x lo hi=>match x,lo,hi with| .tmp 42,none,some (.tmp 43)=>1| .tmp 45,some (.tmp 47),none=>1| .tmp 80,none,some (.tmp 83)=>2| .tmp 178,some (.const _),none=>2|_,_,_=>0
def qrZ (N:Nat):UU (Y4 N) (qab Try.f19):=UU.st UU.nil ⟨[1,1,1,0,1],[.o 0 (.recv 48), .o 5 (.sl 53), .o 6 (.sl 3), .v 17 .bool],[(0, .box 0 0),(5, .c (.own 1)),(6, .c (.own 2))],[1,1,0],[⟨.normal,[.o 6 (.sl 3)],[(6, .c (.own 3))]⟩],[0,1,5,7]⟩ fun x=>qnp N x.2.2.1 x.2.2.2.1
def qr1 (N:Nat):UU (Y4 N) (qab Try.f19):=UU.st (qrZ N) ⟨[1,1,1,1,0,0,0,0,0],[.o 0 (.recv 48), .v 1 (.int .i64), .o 5 (.sl 53), .o 6 (.sl 3), .v 7 (.int .i64)],[(0, .box 0 0),(5, .c (.own 1)),(6, .c (.own 2))],[1,1,1],[⟨.normal,[.v 33 .bool],[]⟩],[0,1,5,6,7]⟩ fun x=>qnq N x.2.1 x.2.2.1 x.2.2.2.1 x.2.2.2.2.1
def qr3 (N:Nat):UU (Y4 N) (qab Try.f19):=UU.st (qr1 N) ⟨[1,1,1,1,0,0,0,1,0,1,1,1,1,0,1,0,0,1],[.o 0 (.recv 48), .o 5 (.sl 53), .o 6 (.sl 3), .o 10 (.box 53), .v 55 (.int .i64), .v 96 .bool],[(0, .box 0 0),(5, .c (.own 1)),(6, .c (.own 2)),(10, .box 3 0)],[1,1,1,1],[⟨.normal,[.v 96 .bool],[]⟩],[0,1,5,6,7,9,10,55]⟩ fun x=>qns N x.2.2.2.2.1 x.2.2.2.2.2.1
def qr4 (N:Nat):UU (Y4 N) (qab Try.f19):=UU.st (qr3 N) ⟨[1,1,1,1,0,0,0,1,0,1,1,1,1,0,1,0,1,1,1,1,1,1,1,0],[.o 0 (.recv 48), .o 5 (.sl 53), .o 6 (.sl 3), .o 10 (.box 53)],[(0, .box 0 0),(5, .c (.own 1)),(6, .c (.own 2)),(10, .box 3 0)],[2,1,1,1],[⟨.normal,[.u 0 (.recv 48), .v 72 .bool],[]⟩],[0,1,5,6,7,10]⟩ fun x=>qpJ N x.1 x.2.2.1
def qr2 (N:Nat):UU (Y4 N) (qab Try.f19):=UU.st (qr4 N) ⟨[1,1,1,1,0,0,0,1,0,1,1,1,1,0,1],[.o 0 (.recv 48), .o 5 (.sl 53), .o 6 (.sl 3), .v 7 (.int .i64), .v 9 (.int .i64), .o 10 (.box 53), .v 55 (.int .i64)],[(0, .box 0 0),(5, .c (.own 1)),(6, .c (.own 2)),(10, .box 3 0)],[2,1,0,2],[⟨.normal,[.u 0 (.recv 48), .o 6 (.sl 3), .v 7 (.int .i64), .u 3 (.box 53)],[(6, .c (.own 4))]⟩],[0,1,5,10]⟩ fun x=>qnr N x.1 x.2.2.1 x.2.2.2.1 x.2.2.2.2.1 x.2.2.2.2.2.1 x.2.2.2.2.2.2.1
def qr0 (N:Nat):UU (Y4 N) (qab Try.f19):=UU.lp (qr2 N) N ⟨[1,1,1,1,0,0],[.o 0 (.recv 48), .v 1 (.int .i64), .o 5 (.sl 53), .o 6 (.sl 3), .v 7 (.int .i64)],[(0, .box 0 0),(5, .c (.own 1)),(6, .c (.own 2))],[2,0,0],[⟨.exit 0,[.u 0 (.recv 48), .o 5 (.sl 53), .o 6 (.sl 3), .v 7 (.int .i64)],[(5, .c (.own 3)),(6, .c (.own 4))]⟩],[0]⟩ fun n x=>qmc N x.2.1 n x.1 x.2.2.1 x.2.2.2.1 x.2.2.2.2.1
def qr6 (N:Nat):UU (Y4 N) (qab Try.f19):=UU.st (qr0 N) ⟨[1,1,1,1,1,0,0,0,0,0],[.o 0 (.recv 48), .o 5 (.sl 53), .o 6 (.sl 3), .v 7 (.int .i64)],[(0, .box 0 0),(5, .c (.own 1)),(6, .c (.own 2))],[1,1,1],[⟨.normal,[.v 161 .bool],[]⟩],[0,5,6,7]⟩ fun x=>qnt N x.2.1 x.2.2.1 x.2.2.2.1
def qr7 (N:Nat):UU (Y4 N) (qab Try.f19):=UU.st (qr6 N) ⟨[1,1,1,1,1,0,0,0,1,0,0,1],[.o 0 (.recv 48), .o 5 (.sl 53), .o 6 (.sl 3), .v 7 (.int .i64), .v 164 .bool],[(0, .box 0 0),(5, .c (.own 1)),(6, .c (.own 2))],[1,0,1],[⟨.normal,[.o 5 (.sl 53), .v 7 (.int .i64)],[(5, .c (.own 3))]⟩],[0,6]⟩ fun x=>qpK N x.2.1 x.2.2.1 x.2.2.2.1 x.2.2.2.2.1
def qr5 (N:Nat):UU (Y4 N) (qab Try.f19):=UU.lp (qr7 N) N ⟨[1,1,1,1,1,0,0],[.o 0 (.recv 48), .o 5 (.sl 53), .o 6 (.sl 3), .v 7 (.int .i64)],[(0, .box 0 0),(5, .c (.own 1)),(6, .c (.own 2))],[2,0,0],[⟨.exit 3,[.u 0 (.recv 48), .o 5 (.sl 53)],[(5, .c (.own 3))]⟩],[0]⟩ fun n x=>qmd N n x.1 x.2.1 x.2.2.1 x.2.2.2.1
def dzaZ:FD D:=⟨19,2,[.v 1 (.int .i64)],[],some (0,48),2,[.o 4 (.sl 53), .u 0 (.recv 48)],[(4, .c (.own 1))],[.tmp 4],false⟩
def FzaZ (N:Nat):dzaZ.F:=fun r x=>zaZ N r x.1
theorem wzaZ (N:Nat):CallOk X0 dzaZ (FzaZ N):=UU.fn (qr5 N) Try.func19
def T5 (N:Nat):TT X0:=(T4 N).ad dzaZ (FzaZ N) (wzaZ N)
def qru (N:Nat):UU (T5 N).ev (qab Try.f42):=UU.st UU.nil ⟨[1,1,0,1,0,0,1,0],[.v 0 (.sl 53), .o 3 (.sl 3), .v 4 (.int .i64)],[(3, .c (.own 0))],[0],[⟨.normal,[.o 3 (.sl 3)],[(3, .c (.own 1))]⟩],[0,4]⟩ fun x=>qpw N x.1 x.2.1 x.2.2.1
def qrt (N:Nat):UU (T5 N).ev (qab Try.f42):=UU.lp (qru N) N ⟨[1,1,0,1,0],[.v 0 (.sl 53), .o 3 (.sl 3), .v 4 (.int .i64)],[(3, .c (.own 0))],[0],[⟨.exit 0,[.o 3 (.sl 3)],[(3, .c (.own 1))]⟩],[]⟩ fun n x=>qjZ N x.1 n x.2.1 x.2.2.1
def dzaP:FD D:=⟨42,1,[.v 0 (.sl 53)],[],none,0,[.o 2 (.sl 3)],[(2, .c (.own 0))],[.tmp 2],false⟩
def FzaP (N:Nat):dzaP.F:=fun r x=>zaP N x.1
theorem wzaP (N:Nat):CallOk X0 dzaP (FzaP N):=UU.fn (qrt N) Try.func42
def T6 (N:Nat):TT X0:=(T5 N).ad dzaP (FzaP N) (wzaP N)
def qs0 (N:Nat):UU (T6 N).ev (qab Try.f43):=UU.st UU.nil ⟨[1,0,0],[.v 0 (.sl 53), .v 1 (.int .i64)],[],[],[⟨.normal,[.v 12 .bool],[]⟩],[0,1]⟩ fun x=>qp1 N x.1 x.2.1
def qs1 (N:Nat):UU (T6 N).ev (qab Try.f43):=UU.st (qs0 N) ⟨[1,1,0,1,0,0,1],[.v 17 (.int .i64), .v 18 .bool],[],[],[⟨.normal,[.v 18 .bool],[]⟩],[0,1,17]⟩ fun x=>qp2 N x.1 x.2.1
def dzcK:FD D:=⟨43,2,[.v 0 (.sl 53), .v 1 (.int .i64)],[],none,0,[.o 4 (.sl 3)],[(4, .c (.own 0))],[.tmp 4],false⟩
def FzcK (N:Nat):dzcK.F:=fun r x=>zcK N x.1 x.2.1
theorem wzcK (N:Nat):CallOk X0 dzcK (FzcK N):=UU.fn (qs1 N) Try.func43
def T7 (N:Nat):TT X0:=(T6 N).ad dzcK (FzcK N) (wzcK N)
def qtb (N:Nat):UU (T7 N).ev (qab Try.f69):=UU.lp UU.nil N ⟨[1,0,1,0],[.v 0 (.sl 3), .v 1 (.int .i64), .v 5 (.int .i64)],[],[],[⟨.exit 0,[],[]⟩,⟨.ret,[.v 4 .bool],[]⟩],[]⟩ fun n x=>qhM N x.1 x.2.1 n x.2.2.1
def dzcQ:FD D:=⟨69,2,[.v 0 (.sl 3), .v 1 (.int .i64)],[],none,0,[.v 4 .bool],[],[.tmp 4],true⟩
def FzcQ (N:Nat):dzcQ.F:=fun r x=>zcQ N x.1 x.2.1
theorem wzcQ (N:Nat):CallOk X0 dzcQ (FzcQ N):=UU.fn (qtb N) Try.func69
def T8 (N:Nat):TT X0:=(T7 N).ad dzcQ (FzcQ N) (wzcQ N)
def qrS (N:Nat):UU (T8 N).ev (qab Try.f44):=UU.st UU.nil ⟨[1,0,1,0,0,1,0,0,0],[.v 0 (.sl 53), .v 1 (.int .i64), .v 2 (.int .i64), .v 7 (.int .i64)],[],[],[⟨.normal,[.v 23 .bool],[]⟩],[0,1,2,7]⟩ fun x=>qpE N x.1 x.2.1 x.2.2.1 x.2.2.2.1
def qrR (N:Nat):UU (T8 N).ev (qab Try.f44):=UU.lp (qrS N) N ⟨[1,0,1,0],[.v 0 (.sl 53), .v 1 (.int .i64), .v 2 (.int .i64), .v 7 (.int .i64)],[],[],[⟨.exit 0,[],[]⟩,⟨.ret,[.v 6 (.int .i64)],[]⟩],[]⟩ fun n x=>qhE N x.1 x.2.1 x.2.2.1 n x.2.2.2.1
def dzaW:FD D:=⟨44,3,[.v 0 (.sl 53), .v 1 (.int .i64), .v 2 (.int .i64)],[],none,0,[.v 6 (.int .i64)],[],[.tmp 6],true⟩
def FzaW (N:Nat):dzaW.F:=fun r x=>zaW N x.1 x.2.1 x.2.2.1
theorem wzaW (N:Nat):CallOk X0 dzaW (FzaW N):=UU.fn (qrR N) Try.func44
def T9 (N:Nat):TT X0:=(T8 N).ad dzaW (FzaW N) (wzaW N)
def dzbK:FD D:=⟨45,3,[.v 0 (.sl 53), .v 1 (.int .i64), .v 2 (.int .i64)],[],none,0,[.o 6 (.sl 3)],[(6, .c (.own 0))],[.tmp 6],false⟩
def FzbK (N:Nat):dzbK.F:=fun r x=>zbK N x.1 x.2.1 x.2.2.1
theorem wzbK (N:Nat):CallOk X0 dzbK (FzbK N):=UU.fn (UU.nil:UU (T9 N).ev (qab Try.f45)) Try.func45
def T10 (N:Nat):TT X0:=(T9 N).ad dzbK (FzbK N) (wzbK N)
def qsf (N:Nat):UU (T10 N).ev (qab Try.f20):=UU.st UU.nil ⟨[1,1,1,1,1,1,0,1,0,0,1,0,0,1,1,1,1,0,0],[.o 0 (.recv 48), .v 1 (.sl 53), .o 6 (.box 70), .o 8 (.sl 70), .v 10 (.int .i64), .o 11 (.sl 3)],[(0, .box 0 0),(6, .box 1 0),(8, .c (.own 2)),(11, .c (.own 3))],[2,1,1,1],[⟨.normal,[.u 0 (.recv 48), .v 76 .bool],[]⟩],[0,1,6,8,9,11]⟩ fun x=>qnv N x.1 x.2.1 x.2.2.2.2.1 x.2.2.2.2.2.1
def qse (N:Nat):UU (T10 N).ev (qab Try.f20):=UU.lp (qsf N) N ⟨[1,1,1,1,1,1,0,1,0],[.o 0 (.recv 48), .v 1 (.sl 53), .o 6 (.box 70), .o 8 (.sl 70), .v 9 (.int .i64)],[(0, .box 0 0),(6, .box 1 0),(8, .c (.own 2))],[2,0,0],[⟨.exit 0,[.u 0 (.recv 48), .o 8 (.sl 70)],[(8, .c (.own 3))]⟩,⟨.ret,[.u 0 (.recv 48), .o 4 (.sl 70)],[(4, .c (.own 3))]⟩],[0]⟩ fun n x=>qgG N x.2.1 n x.1 x.2.2.1 x.2.2.2.1 x.2.2.2.2.1
def dzbE:FD D:=⟨20,2,[.v 1 (.sl 53)],[],some (0,48),2,[.o 4 (.sl 70), .u 0 (.recv 48)],[(4, .c (.own 1))],[.tmp 4],false⟩
def FzbE (N:Nat):dzbE.F:=fun r x=>zbE N r x.1
theorem wzbE (N:Nat):CallOk X0 dzbE (FzbE N):=UU.fn (qse N) Try.func20
def T11 (N:Nat):TT X0:=(T10 N).ad dzbE (FzbE N) (wzbE N)
def qsY (N:Nat):UU (T11 N).ev (qab Try.f86):=UU.st UU.nil ⟨[1,0,1,0,0,1,0,0,0],[.v 0 .str, .v 3 (.int .i64)],[],[],[⟨.normal,[.v 32 .bool],[]⟩],[0,3]⟩ fun x=>qnG N x.1 x.2.1
def qsX (N:Nat):UU (T11 N).ev (qab Try.f86):=UU.lp (qsY N) N ⟨[1,0,1,0],[.v 0 .str, .v 3 (.int .i64)],[],[],[⟨.exit 0,[],[]⟩,⟨.ret,[.v 2 .bool],[]⟩],[0]⟩ fun n x=>qhL N x.1 n x.2.1
def qsZ (N:Nat):UU (T11 N).ev (qab Try.f86):=UU.st (qsX N) ⟨[1,1,0],[.v 0 .str],[],[],[⟨.normal,[.v 2 .bool],[]⟩],[]⟩ fun x=>qp0 N x.1
def dzcJ:FD D:=⟨86,1,[.v 0 .str],[],none,0,[.v 2 .bool],[],[.tmp 2],true⟩
def FzcJ (N:Nat):dzcJ.F:=fun r x=>zcJ N x.1
theorem wzcJ (N:Nat):CallOk X0 dzcJ (FzcJ N):=UU.fn (qsZ N) Try.func86
def T12 (N:Nat):TT X0:=(T11 N).ad dzcJ (FzcJ N) (wzcJ N)
def qsF (N:Nat):UU (T12 N).ev (qab Try.f70):=UU.st UU.nil ⟨[1,1,0,0],[.o 5 (.box 53), .o 6 (.sl 3)],[(5, .box 0 0),(6, .c (.own 1))],[1,1],[⟨.normal,[.v 23 .bool],[]⟩],[5,6]⟩ fun x=>qpT N x.1 x.2.1
def qsH (N:Nat):UU (T12 N).ev (qab Try.f70):=UU.st (qsF N) ⟨[1,1,1,0,1,0,0,1,0,0,0],[.o 5 (.box 53), .v 6 (.sl 3), .v 7 (.int .i64)],[(5, .box 0 0)],[1],[⟨.normal,[.v 51 .bool],[]⟩],[5,6,7]⟩ fun x=>qpU N x.2.1 x.2.2.1
def qsG (N:Nat):UU (T12 N).ev (qab Try.f70):=UU.lp (qsH N) N ⟨[1,1,1,0,1,0],[.o 5 (.box 53), .v 6 (.sl 3), .v 7 (.int .i64)],[(5, .box 0 0)],[1],[⟨.exit 0,[],[]⟩,⟨.ret,[.v 4 .bool],[]⟩],[5,6]⟩ fun n x=>qgM N x.2.1 n x.2.2.1
def qsI (N:Nat):UU (T12 N).ev (qab Try.f70):=UU.st (qsG N) ⟨[1,1,1,1,0,0],[.o 5 (.box 53), .v 6 (.sl 3)],[(5, .box 0 0)],[1],[⟨.normal,[.v 59 .bool],[]⟩],[5]⟩ fun x=>qpV N x.1 x.2.1
def qsJ (N:Nat):UU (T12 N).ev (qab Try.f70):=UU.st (qsI N) ⟨[1,1,1,1,1,0,1,0,0],[.o 5 (.box 53)],[(5, .box 0 0)],[1],[⟨.normal,[.v 4 .bool],[]⟩],[]⟩ fun x=>qpW N x.1
def dzcC:FD D:=⟨70,2,[.v 0 (.sl 53), .v 1 (.int .i64)],[],none,0,[.v 4 .bool],[],[.tmp 4],true⟩
def FzcC (N:Nat):dzcC.F:=fun r x=>zcC N x.1 x.2.1
theorem wzcC (N:Nat):CallOk X0 dzcC (FzcC N):=UU.fn (qsJ N) Try.func70
def T13 (N:Nat):TT X0:=(T12 N).ad dzcC (FzcC N) (wzcC N)
def qsC (N:Nat):UU (T13 N).ev (qab Try.f46):=UU.lp UU.nil N ⟨[1,1,1,0,1,0,0,1,0,0,1,0,1,0],[.v 0 (.sl 53), .o 3 (.arr 3 108 64), .v 4 (.int .i64), .v 5 (.int .i64)],[(3, .arr 0)],[1],[⟨.exit 2,[],[]⟩,⟨.ret,[.v 2 (.int .i64)],[]⟩],[0,3,4]⟩ fun n x=>qgK N x.1 x.2.2.1 n x.2.2.2.1
def qsD (N:Nat):UU (T13 N).ev (qab Try.f46):=UU.lp (qsC N) N ⟨[1,1,1,0,1,0,0,1,0,0,1,1,1,0,1,0],[.o 3 (.arr 3 108 64), .o 6 (.sl 3), .v 7 (.int .i64)],[(3, .arr 0),(6, .c (.own 1))],[1,1],[⟨.exit 4,[],[]⟩,⟨.ret,[.v 2 (.int .i64)],[]⟩],[0,3,4,6]⟩ fun n x=>qgL N x.1 x.2.1 n x.2.2.1
def qsE (N:Nat):UU (T13 N).ev (qab Try.f46):=UU.lp (qsD N) N ⟨[1,1,1,0,1,0,0,1,0,0,1,1,1,1,1,0],[.o 3 (.arr 3 108 64), .o 6 (.sl 3), .v 8 (.int .i64)],[(3, .arr 0),(6, .c (.own 1))],[2,1],[⟨.exit 6,[.u 0 (.arr 3 108 64)],[]⟩],[0,3,4]⟩ fun n x=>qiA N x.2.1 n x.1 x.2.2.1
def qsB (N:Nat):UU (T13 N).ev (qab Try.f46):=UU.lp (qsE N) N ⟨[1,1,1,0,1,0],[.v 0 (.sl 53), .o 3 (.arr 3 108 64), .v 4 (.int .i64)],[(3, .arr 0)],[0],[⟨.exit 0,[],[]⟩,⟨.ret,[.v 2 (.int .i64)],[]⟩],[]⟩ fun n x=>qj3 N x.1 n x.2.1 x.2.2.1
def dzcB:FD D:=⟨46,1,[.v 0 (.sl 53)],[],none,0,[.v 2 (.int .i64)],[],[.tmp 2],true⟩
def FzcB (N:Nat):dzcB.F:=fun r x=>zcB N x.1
theorem wzcB (N:Nat):CallOk X0 dzcB (FzcB N):=UU.fn (qsB N) Try.func46
def T14 (N:Nat):TT X0:=(T13 N).ad dzcB (FzcB N) (wzcB N)
def qsP (N:Nat):UU (T14 N).ev (qab Try.f47):=UU.st UU.nil ⟨[1,0],[.v 0 (.sl 53), .v 1 (.int .i64)],[],[],[⟨.normal,[.v 4 .bool],[]⟩],[]⟩ fun x=>qpX N x.1 x.2.1
def dzcE:FD D:=⟨47,2,[.v 0 (.sl 53), .v 1 (.int .i64)],[],none,0,[.v 4 .bool],[],[.tmp 4],true⟩
def FzcE (N:Nat):dzcE.F:=fun r x=>zcE N x.1 x.2.1
theorem wzcE (N:Nat):CallOk X0 dzcE (FzcE N):=UU.fn (qsP N) Try.func47
def T15 (N:Nat):TT X0:=(T14 N).ad dzcE (FzcE N) (wzcE N)
def qsA (N:Nat):UU (T15 N).ev (qab Try.f17):=UU.lp UU.nil N ⟨[1,0,1,0],[.v 0 (.sl 70), .v 1 (.int .i64), .v 5 (.int .i64)],[],[],[⟨.exit 0,[],[]⟩,⟨.ret,[.v 4 .bool],[]⟩],[]⟩ fun n x=>qhH N x.1 x.2.1 n x.2.2.1
def dzbX:FD D:=⟨17,2,[.v 0 (.sl 70), .v 1 (.int .i64)],[],none,0,[.v 4 .bool],[],[.tmp 4],true⟩
def FzbX (N:Nat):dzbX.F:=fun r x=>zbX N x.1 x.2.1
theorem wzbX (N:Nat):CallOk X0 dzbX (FzbX N):=UU.fn (qsA N) Try.func17
def T16 (N:Nat):TT X0:=(T15 N).ad dzbX (FzbX N) (wzbX N)
def qtc (N:Nat):UU (T16 N).ev (qab Try.f48):=UU.lp UU.nil N ⟨[1,0,1,0],[.v 0 (.sl 3), .v 1 (.int .i64), .v 5 (.int .i64)],[],[],[⟨.exit 0,[],[]⟩,⟨.ret,[.v 4 .bool],[]⟩],[]⟩ fun n x=>qhN N x.1 x.2.1 n x.2.2.1
def dzcR:FD D:=⟨48,2,[.v 0 (.sl 3), .v 1 (.int .i64)],[],none,0,[.v 4 .bool],[],[.tmp 4],true⟩
def FzcR (N:Nat):dzcR.F:=fun r x=>zcR N x.1 x.2.1
theorem wzcR (N:Nat):CallOk X0 dzcR (FzcR N):=UU.fn (qtc N) Try.func48
def T17 (N:Nat):TT X0:=(T16 N).ad dzcR (FzcR N) (wzcR N)
def qsK (N:Nat):UU (T17 N).ev (qab Try.f21):=UU.st UU.nil ⟨[1,1,0,0],[.v 0 (.sl 53), .v 1 (.sl 70), .v 5 (.int .i64)],[],[],[⟨.normal,[.v 50 .bool],[]⟩],[0,1,5]⟩ fun x=>qhI N x.1 x.2.1 x.2.2.1
def qsM (N:Nat):UU (T17 N).ev (qab Try.f21):=UU.st (qsK N) ⟨[1,1,1,0,1,0,0,1,0,0,0,0],[.v 0 (.sl 53), .v 1 (.sl 70), .v 6 (.int .i64)],[],[],[⟨.normal,[.v 82 .bool],[]⟩],[0,1,5,6]⟩ fun x=>qnA N x.1 x.2.1 x.2.2.1
def qsN (N:Nat):UU (T17 N).ev (qab Try.f21):=UU.st (qsM N) ⟨[1,1,1,0,1,0,0,1,0,0,1,0,0],[.v 0 (.sl 53), .v 1 (.sl 70), .v 5 (.int .i64), .v 6 (.int .i64)],[],[],[⟨.normal,[.v 136 .bool],[]⟩],[0,1,5,6]⟩ fun x=>qnB N x.1 x.2.1 x.2.2.1 x.2.2.2.1
def qsO (N:Nat):UU (T17 N).ev (qab Try.f21):=UU.st (qsN N) ⟨[1,1,1,0,1,0,0,1,0,0,1,1,0],[.v 0 (.sl 53), .v 1 (.sl 70), .v 5 (.int .i64), .v 6 (.int .i64)],[],[],[⟨.normal,[.v 164 .bool],[]⟩],[0,1,5,6]⟩ fun x=>qnC N x.1 x.2.1 x.2.2.1 x.2.2.2.1
def qsL (N:Nat):UU (T17 N).ev (qab Try.f21):=UU.lp (qsO N) N ⟨[1,1,1,0,1,0],[.v 0 (.sl 53), .v 1 (.sl 70), .v 5 (.int .i64), .v 6 (.int .i64)],[],[],[⟨.exit 0,[],[]⟩,⟨.ret,[.v 4 .bool],[]⟩],[]⟩ fun n x=>qhJ N x.1 x.2.1 x.2.2.1 n x.2.2.2.1
def dzcD:FD D:=⟨21,2,[.v 0 (.sl 53), .v 1 (.sl 70)],[],none,0,[.v 4 .bool],[],[.tmp 4],true⟩
def FzcD (N:Nat):dzcD.F:=fun r x=>zcD N x.1 x.2.1
theorem wzcD (N:Nat):CallOk X0 dzcD (FzcD N):=UU.fn (qsL N) Try.func21
def T18 (N:Nat):TT X0:=(T17 N).ad dzcD (FzcD N) (wzcD N)
def qta (N:Nat):UU (T18 N).ev (qab Try.f8):=UU.lp UU.nil N ⟨[1,1,0,1,0],[.o 0 (.recv 48), .v 4 (.sl 53), .v 5 (.int .i64)],[(0, .box 0 0)],[2],[⟨.exit 0,[.u 0 (.recv 48)],[]⟩,⟨.ret,[.u 0 (.recv 48), .v 2 (.sl 53), .o 3 (.sl 70)],[(3, .c (.own 1))]⟩],[0,4]⟩ fun n x=>qgN N x.2.1 n x.1 x.2.2.1
def dzcP:FD D:=⟨8,1,[],[],some (0,48),2,[.v 2 (.sl 53), .o 3 (.sl 70), .u 0 (.recv 48)],[(3, .c (.own 1))],[.tmp 2, .tmp 3],false⟩
def FzcP (N:Nat):dzcP.F:=fun r x=>zcP N r
theorem wzcP (N:Nat):CallOk X0 dzcP (FzcP N):=UU.fn (qta N) Try.func8
def T19 (N:Nat):TT X0:=(T18 N).ad dzcP (FzcP N) (wzcP N)
def qsw (N:Nat):UU (T19 N).ev (qab Try.f67):=UU.st UU.nil ⟨[1,0,1,0,0,1],[.o 1 (.box 53), .v 4 (.int .i64), .v 5 .bool],[(1, .box 0 0)],[1],[⟨.normal,[.v 5 .bool],[]⟩],[1,4]⟩ fun x=>qpR N x.2.1 x.2.2.1
def dzbV:FD D:=⟨67,1,[.v 0 (.agg 53)],[],none,0,[.o 2 (.sl 3)],[(2, .c (.own 0))],[.tmp 2],false⟩
def FzbV (N:Nat):dzbV.F:=fun r x=>zbV N x.1
theorem wzbV (N:Nat):CallOk X0 dzbV (FzbV N):=UU.fn (qsw N) Try.func67
def T20 (N:Nat):TT X0:=(T19 N).ad dzbV (FzbV N) (wzbV N)
def qsx (N:Nat):UU (T20 N).ev (qab Try.f92):=UU.st UU.nil ⟨[1,0,0],[.v 0 .str],[],[],[⟨.normal,[.v 11 .bool],[]⟩],[0]⟩ fun x=>qpS N x.1
def qsz (N:Nat):UU (T20 N).ev (qab Try.f92):=UU.st (qsx N) ⟨[1,1,0,1,0,0,1,1,0,0,1,0],[.v 0 .str, .v 3 (.int .i64)],[],[],[⟨.normal,[.v 38 .bool],[]⟩],[0,13,14]⟩ fun x=>qnz N x.1 x.2.1
def qsy (N:Nat):UU (T20 N).ev (qab Try.f92):=UU.lp (qsz N) N ⟨[1,1,0,1,0],[.v 0 .str, .v 13 (.int .i64), .v 14 (.int .i64)],[],[],[⟨.exit 0,[],[]⟩,⟨.ret,[.v 2 .bool],[]⟩],[]⟩ fun n x=>qhG N x.1 x.2.1 n x.2.2.1
def dzbW:FD D:=⟨92,1,[.v 0 .str],[],none,0,[.v 2 .bool],[],[.tmp 2],true⟩
def FzbW (N:Nat):dzbW.F:=fun r x=>zbW N x.1
theorem wzbW (N:Nat):CallOk X0 dzbW (FzbW N):=UU.fn (qsy N) Try.func92
def T21 (N:Nat):TT X0:=(T20 N).ad dzbW (FzbW N) (wzbW N)
def qrL (N:Nat):UU (T21 N).ev (qab Try.f82):=UU.st UU.nil ⟨[1,1,0,0],[.o 1 (.box 53), .o 3 (.sl 3)],[(1, .box 0 0),(3, .c (.own 1))],[1,1],[⟨.normal,[.v 17 .bool],[]⟩],[1,3]⟩ fun x=>qpA N x.1 x.2.1
def qrN (N:Nat):UU (T21 N).ev (qab Try.f82):=UU.st (qrL N) ⟨[1,1,1,0,1,0,0,1,1,0,0,1,0,0],[.o 1 (.box 53), .v 5 (.int .i64)],[(1, .box 0 0)],[1],[⟨.normal,[.v 30 .bool],[]⟩],[1,3,4,5,18,19,20]⟩ fun x=>qpB N x.2.1
def qrO (N:Nat):UU (T21 N).ev (qab Try.f82):=UU.lp (qrN N) N ⟨[1,1,1,0,1,0,0,1,1,0,0,1,1,1,0],[.o 1 (.box 53), .v 5 (.int .i64), .v 33 (.sl 3), .v 34 (.int .i64), .v 35 (.int .i64)],[(1, .box 0 0)],[1],[⟨.exit 2,[],[]⟩,⟨.ret,[.v 2 .bool],[]⟩],[1,3,18,19,20]⟩ fun n x=>qgF N x.2.1 x.2.2.1 x.2.2.2.1 n x.2.2.2.2.1
def qrM (N:Nat):UU (T21 N).ev (qab Try.f82):=UU.lp (qrO N) N ⟨[1,1,1,0,1,0],[.o 1 (.box 53), .v 3 (.sl 3), .v 18 (.sl 3), .v 19 (.int .i64), .v 20 (.int .i64)],[(1, .box 0 0)],[1],[⟨.exit 0,[],[]⟩,⟨.ret,[.v 2 .bool],[]⟩],[1]⟩ fun n x=>qgE N x.2.1 x.2.2.1 x.2.2.2.1 n x.2.2.2.2.1
def qrP (N:Nat):UU (T21 N).ev (qab Try.f82):=UU.st (qrM N) ⟨[1,1,1,1,0,1,0,0],[.o 1 (.box 53)],[(1, .box 0 0)],[1],[⟨.normal,[.v 2 .bool],[]⟩],[]⟩ fun x=>qpC N x.1
def qrQ (N:Nat):UU (T21 N).ev (qab Try.f82):=UU.st (qrP N) ⟨[1,1,1,1,1,0],[.o 1 (.box 53)],[(1, .box 0 0)],[1],[⟨.normal,[.v 2 .bool],[]⟩],[]⟩ fun x=>qpD N x.1
def dzaV:FD D:=⟨82,1,[.v 0 (.agg 53)],[],none,0,[.v 2 .bool],[],[.tmp 2],true⟩
def FzaV (N:Nat):dzaV.F:=fun r x=>zaV N x.1
theorem wzaV (N:Nat):CallOk X0 dzaV (FzaV N):=UU.fn (qrQ N) Try.func82
def qrp (N:Nat):UU (T21 N).ev (qab Try.f67):=UU.st UU.nil ⟨[1,0,1,0,0,1],[.o 1 (.box 53), .v 4 (.int .i64), .v 5 .bool],[(1, .box 0 0)],[1],[⟨.normal,[.v 5 .bool],[]⟩],[1,4]⟩ fun x=>qpv N x.2.1 x.2.2.1
def dzaN:FD D:=⟨67,1,[.v 0 (.agg 53)],[],none,0,[],[(2, .c .nilS)],[.tmp 2],false⟩
def FzaN (N:Nat):dzaN.F:=fun r x=>zaN N x.1
theorem wzaN (N:Nat):CallOk X0 dzaN (FzaN N):=UU.fn (qrp N) Try.func67
def Y21 (N:Nat):EV X0:=(T21 N).sub dzaN (FzaN N) (wzaN N)
def qrH (N:Nat):UU (Y21 N) (qab Try.f82):=UU.st UU.nil ⟨[1,1,0,0],[.o 1 (.box 53)],[(1, .box 0 0),(3, .c .nilS)],[1],[⟨.normal,[.v 17 .bool],[]⟩],[1,3]⟩ fun x=>qpz N
def qrI (N:Nat):UU (Y21 N) (qab Try.f82):=UU.lp (qrH N) N ⟨[1,1,1,0,1,0],[.o 1 (.box 53), .v 19 (.int .i64), .v 20 (.int .i64)],[(1, .box 0 0),(3, .c .nilS),(18, .c .nilS)],[1],[⟨.exit 0,[],[]⟩],[1]⟩ fun n x=>qtw N x.2.1 n x.2.2.1
def qrJ (N:Nat):UU (Y21 N) (qab Try.f82):=UU.st (qrI N) ⟨[1,1,1,1,0,1,0,0],[.o 1 (.box 53)],[(1, .box 0 0)],[1],[⟨.normal,[.v 2 .bool],[]⟩],[]⟩ fun x=>qtx N x.1
def qrK (N:Nat):UU (Y21 N) (qab Try.f82):=UU.st (qrJ N) ⟨[1,1,1,1,1,0],[.o 1 (.box 53)],[(1, .box 0 0)],[1],[⟨.normal,[.v 2 .bool],[]⟩],[]⟩ fun x=>qty N x.1
def dzaU:FD D:=⟨82,1,[.v 0 (.agg 53)],[],none,0,[.v 2 .bool],[],[.tmp 2],true⟩
def FzaU (N:Nat):dzaU.F:=fun r x=>zaU N x.1
theorem wzaU (N:Nat):CallOk X0 dzaU (FzaU N):=UU.fn (qrK N) Try.func82
def dzbJ:FD D:=dzaV
def FzbJ (N:Nat):dzbJ.F:=fun r x=>orI (FzaU N r x) (FzaV N r x)
theorem wzbJ (N:Nat):CallOk X0 dzbJ (FzbJ N):=CallOk.or (F1:=FzaU N) (F2:=FzaV N) rfl (fun r x y h=>qqU h) (wzaU N) (wzaV N)
def T22 (N:Nat):TT X0:=(T21 N).ad dzbJ (FzbJ N) (wzbJ N)
def qso (N:Nat):UU (T22 N).ev (qab Try.f64):=UU.lp UU.nil N ⟨[1,1,1,1,0,1,0,0,1,1,0,0,1,1,1,1,1,0],[.o 3 (.map 122 9 4), .o 4 (.map 60 3 3), .o 31 (.sl 3), .v 32 (.int .i64), .v 33 (.int .i64)],[(3, .c (.own 0)),(4, .c (.own 1)),(31, .c (.own 2))],[1,2,1],[⟨.exit 2,[.u 1 (.map 60 3 3)],[]⟩,⟨.ret,[.v 2 (.int .i64)],[]⟩],[3,4,14,15,16]⟩ fun n x=>qgI N x.2.2.1 x.2.2.2.1 n x.2.1 x.2.2.2.2.1
def qsn (N:Nat):UU (T22 N).ev (qab Try.f64):=UU.lp (qso N) N ⟨[1,1,1,1,0,1,0],[.o 3 (.map 122 9 4), .o 4 (.map 60 3 3), .v 14 (.sl 53), .v 15 (.int .i64), .v 16 (.int .i64)],[(3, .c (.own 0)),(4, .c (.own 1))],[0,0],[⟨.exit 0,[],[]⟩,⟨.ret,[.v 2 (.int .i64)],[]⟩],[]⟩ fun n x=>qj1 N x.2.2.1 x.2.2.2.1 n x.1 x.2.1 x.2.2.2.2.1
def dzbI:FD D:=⟨64,1,[.v 0 (.sl 53)],[],none,0,[.v 2 (.int .i64)],[],[.tmp 2],true⟩
def FzbI (N:Nat):dzbI.F:=fun r x=>zbI N x.1
theorem wzbI (N:Nat):CallOk X0 dzbI (FzbI N):=UU.fn (qsn N) Try.func64
def T23 (N:Nat):TT X0:=(T22 N).ad dzbI (FzbI N) (wzbI N)
def qsq (N:Nat):UU (T23 N).ev (qab Try.f83):=UU.st UU.nil ⟨[1,0],[.v 0 (.sl 53), .v 1 (.int .i64)],[],[],[⟨.normal,[.v 4 .bool],[]⟩],[]⟩ fun x=>qnw N x.1 x.2.1
def dzbO:FD D:=⟨83,2,[.v 0 (.sl 53), .v 1 (.int .i64)],[],none,0,[.v 4 .bool],[],[.tmp 4],true⟩
def FzbO (N:Nat):dzbO.F:=fun r x=>zbO N x.1 x.2.1
theorem wzbO (N:Nat):CallOk X0 dzbO (FzbO N):=UU.fn (qsq N) Try.func83
def T24 (N:Nat):TT X0:=(T23 N).ad dzbO (FzbO N) (wzbO N)
def qsv (N:Nat):UU (T24 N).ev (qab Try.f85):=UU.st UU.nil ⟨[1,0,0],[.v 0 (.sl 53), .v 1 (.int .i64)],[],[],[⟨.normal,[.v 12 .bool],[]⟩],[0,1]⟩ fun x=>qpQ N x.1 x.2.1
def dzbU:FD D:=⟨85,2,[.v 0 (.sl 53), .v 1 (.int .i64)],[],none,0,[.o 4 (.sl 3)],[(4, .c (.own 0))],[.tmp 4],false⟩
def FzbU (N:Nat):dzbU.F:=fun r x=>zbU N x.1 x.2.1
theorem wzbU (N:Nat):CallOk X0 dzbU (FzbU N):=UU.fn (qsv N) Try.func85
def T25 (N:Nat):TT X0:=(T24 N).ad dzbU (FzbU N) (wzbU N)
def qrh (N:Nat):UU (T25 N).ev (qab Try.f93):=UU.lp UU.nil N ⟨[1,0,1,0],[.v 0 (.sl 3), .v 1 (.int .i64), .v 7 (.int .i64), .v 8 (.int .i64)],[],[],[⟨.exit 0,[],[]⟩,⟨.ret,[.v 4 (.int .i64)],[]⟩],[]⟩ fun n x=>qhB N x.1 x.2.1 x.2.2.1 n x.2.2.2.1
def dzaC:FD D:=⟨93,2,[.v 0 (.sl 3), .v 1 (.int .i64)],[],none,0,[.v 4 (.int .i64)],[],[.tmp 4],true⟩
def FzaC (N:Nat):dzaC.F:=fun r x=>zaC N x.1 x.2.1
theorem wzaC (N:Nat):CallOk X0 dzaC (FzaC N):=UU.fn (qrh N) Try.func93
def T26 (N:Nat):TT X0:=(T25 N).ad dzaC (FzaC N) (wzaC N)
def dzaA:FD D:=⟨84,2,[.v 0 (.sl 3), .v 1 (.int .i64)],[],none,0,[.v 4 .bool],[],[.tmp 4],true⟩
def FzaA (N:Nat):dzaA.F:=fun r x=>zaA N x.1 x.2.1
theorem wzaA (N:Nat):CallOk X0 dzaA (FzaA N):=UU.fn (UU.nil:UU (T26 N).ev (qab Try.f84)) Try.func84
def T27 (N:Nat):TT X0:=(T26 N).ad dzaA (FzaA N) (wzaA N)
def qrn (N:Nat):UU (T27 N).ev (qab Try.f38):=UU.lp UU.nil N ⟨[1,0,1,0,0,1,1,0,0,1,1,1,0],[.v 2 (.int .i64), .v 7 (.int .i64), .o 22 (.sl 3), .v 23 (.int .i64), .v 24 (.int .i64)],[(22, .c (.own 0))],[1],[⟨.exit 2,[],[]⟩,⟨.ret,[.v 6 (.int .i64)],[]⟩],[1,2,11,12,13]⟩ fun n x=>qgD N x.1 x.2.1 x.2.2.1 x.2.2.2.1 n x.2.2.2.2.1
def qrm (N:Nat):UU (T27 N).ev (qab Try.f38):=UU.st (qrn N) ⟨[1,0,1,0,0,1,1,0],[.v 1 (.int .i64), .v 2 (.int .i64), .v 11 (.sl 53), .v 13 (.int .i64)],[],[],[⟨.normal,[],[]⟩,⟨.ret,[.v 6 (.int .i64)],[]⟩],[1,2,11,12,13]⟩ fun x=>qpu N x.1 x.2.1 x.2.2.1 x.2.2.2.1
def qrl (N:Nat):UU (T27 N).ev (qab Try.f38):=UU.lp (qrm N) N ⟨[1,0,1,0],[.v 1 (.int .i64), .v 2 (.int .i64), .v 11 (.sl 53), .v 12 (.int .i64), .v 13 (.int .i64)],[],[],[⟨.exit 0,[],[]⟩,⟨.ret,[.v 6 (.int .i64)],[]⟩],[]⟩ fun n x=>qhC N x.1 x.2.1 x.2.2.1 x.2.2.2.1 n x.2.2.2.2.1
def dzaJ:FD D:=⟨38,3,[.v 0 (.sl 53), .v 1 (.int .i64), .v 2 (.int .i64)],[],none,0,[.v 6 (.int .i64)],[],[.tmp 6],true⟩
def FzaJ (N:Nat):dzaJ.F:=fun r x=>zaJ N x.1 x.2.1 x.2.2.1
theorem wzaJ (N:Nat):CallOk X0 dzaJ (FzaJ N):=UU.fn (qrl N) Try.func38
def T28 (N:Nat):TT X0:=(T27 N).ad dzaJ (FzaJ N) (wzaJ N)
def qrG (N:Nat):UU (T28 N).ev (qab Try.f68):=UU.lp UU.nil N ⟨[1,1,0,1,0],[.v 2 (.int .i64), .o 7 (.sl 3), .v 14 (.int .i64), .v 15 (.int .i64)],[(7, .c (.own 0)),(13, .c (.own 0))],[0],[⟨.exit 0,[],[]⟩,⟨.ret,[.v 6 (.sl 3)],[]⟩],[]⟩ fun n x=>qcG N x.1 x.2.2.1 n x.2.1 x.2.2.2.1
def dzaT:FD D:=⟨68,3,[.v 0 (.sl 53), .v 1 (.int .i64), .v 2 (.int .i64)],[],none,0,[.v 6 (.sl 3)],[],[.tmp 6],false⟩
def FzaT (N:Nat):dzaT.F:=fun r x=>zaT N x.1 x.2.1 x.2.2.1
theorem wzaT (N:Nat):CallOk X0 dzaT (FzaT N):=UU.fn (qrG N) Try.func68
def T29 (N:Nat):TT X0:=(T28 N).ad dzaT (FzaT N) (wzaT N)
def qsQ (N:Nat):UU (T29 N).ev (qab Try.f65):=UU.st UU.nil ⟨[1,1,0,0],[.v 0 (.sl 53), .v 1 (.sl 70), .v 5 (.int .i64)],[],[],[⟨.normal,[.v 47 .bool],[]⟩],[0,1,5]⟩ fun x=>qj4 N x.1 x.2.1 x.2.2.1
def qsR (N:Nat):UU (T29 N).ev (qab Try.f65):=UU.st (qsQ N) ⟨[1,1,1,0,0],[.v 0 (.sl 53), .v 1 (.sl 70), .v 5 (.int .i64)],[],[],[⟨.normal,[.v 75 .bool],[]⟩],[0,1,5]⟩ fun x=>qnD N x.1 x.2.1 x.2.2.1
def qsT (N:Nat):UU (T29 N).ev (qab Try.f65):=UU.st (qsR N) ⟨[1,1,1,1,0,1,0,0,1,1,0,0,1,1,0,0],[.v 0 (.sl 53), .o 7 (.box 70), .o 8 (.box 70)],[(7, .box 0 0),(8, .box 1 0)],[1,1],[⟨.normal,[.v 108 .bool],[]⟩],[0,1,5,6,7,77,78,79]⟩ fun x=>qnE N x.1 x.2.1 x.2.2.1
def qsU (N:Nat):UU (T29 N).ev (qab Try.f65):=UU.st (qsT N) ⟨[1,1,1,1,0,1,0,0,1,1,0,0,1,1,1,0],[.v 0 (.sl 53), .v 5 (.int .i64), .v 6 (.int .i64), .o 7 (.box 70)],[(7, .box 0 0)],[1],[⟨.normal,[.v 124 .bool],[]⟩],[0,1,5,77,78,79]⟩ fun x=>qnF N x.1 x.2.1 x.2.2.1 x.2.2.2.1
def qsS (N:Nat):UU (T29 N).ev (qab Try.f65):=UU.lp (qsU N) N ⟨[1,1,1,1,0,1,0],[.v 0 (.sl 53), .v 1 (.sl 70), .v 5 (.int .i64), .v 77 (.sl 70), .v 78 (.int .i64), .v 79 (.int .i64)],[],[],[⟨.exit 0,[],[]⟩,⟨.ret,[.v 4 .bool],[]⟩],[]⟩ fun n x=>qhK N x.1 x.2.1 x.2.2.1 x.2.2.2.1 x.2.2.2.2.1 n x.2.2.2.2.2.1
def dzcG:FD D:=⟨65,2,[.v 0 (.sl 53), .v 1 (.sl 70)],[],none,0,[.v 4 .bool],[],[.tmp 4],true⟩
def FzcG (N:Nat):dzcG.F:=fun r x=>zcG N x.1 x.2.1
theorem wzcG (N:Nat):CallOk X0 dzcG (FzcG N):=UU.fn (qsS N) Try.func65
def T30 (N:Nat):TT X0:=(T29 N).ad dzcG (FzcG N) (wzcG N)
def qsr (N:Nat):UU (T30 N).ev (qab Try.f66):=UU.lp UU.nil N ⟨[1,1,0,1,0],[.o 3 (.map 67 3 4), .v 7 (.sl 70), .v 8 (.int .i64), .v 9 (.int .i64)],[(3, .c (.own 0))],[0],[⟨.exit 0,[],[]⟩,⟨.ret,[.v 2 .bool],[]⟩],[]⟩ fun n x=>qgJ N x.2.1 x.2.2.1 n x.1 x.2.2.2.1
def dzbP:FD D:=⟨66,1,[.v 0 (.sl 70)],[],none,0,[.v 2 .bool],[],[.tmp 2],true⟩
def FzbP (N:Nat):dzbP.F:=fun r x=>zbP N x.1
theorem wzbP (N:Nat):CallOk X0 dzbP (FzbP N):=UU.fn (qsr N) Try.func66
def T31 (N:Nat):TT X0:=(T30 N).ad dzbP (FzbP N) (wzbP N)
def qsp (N:Nat):UU (T31 N).ev (qab Try.f34):=UU.st UU.nil ⟨[1,0],[.v 0 (.sl 53), .v 1 (.sl 70)],[],[],[⟨.normal,[.v 4 .bool],[]⟩],[]⟩ fun x=>qpO N x.1 x.2.1
def dzbN:FD D:=⟨34,2,[.v 0 (.sl 53), .v 1 (.sl 70)],[],none,0,[.v 4 .bool],[],[.tmp 4],true⟩
def FzbN (N:Nat):dzbN.F:=fun r x=>zbN N x.1 x.2.1
theorem wzbN (N:Nat):CallOk X0 dzbN (FzbN N):=UU.fn (qsp N) Try.func34
def T32 (N:Nat):TT X0:=(T31 N).ad dzbN (FzbN N) (wzbN N)
def qrs (N:Nat):UU (T32 N).ev (qab Try.f29):=UU.st UU.nil ⟨[1,1,1,0,1,0,0,1,1,0,0,1,1,0,1,1,0],[.o 6 (.sl 33), .o 8 (.box 70), .o 9 (.box 53)],[(6, .c (.own 0)),(8, .box 1 0),(9, .box 2 0)],[1,1,1],[⟨.normal,[.v 35 .bool],[]⟩],[0,6,8,9,14,15,16]⟩ fun x=>qjY N x.2.1 x.2.2.1
def qrr (N:Nat):UU (T32 N).ev (qab Try.f29):=UU.st (qrs N) ⟨[1,1,1,0,1,0,0,1,1,0],[.v 0 (.sl 53), .o 6 (.sl 33), .v 14 (.sl 70), .v 16 (.int .i64)],[(6, .c (.own 0))],[0],[⟨.normal,[.o 6 (.sl 33)],[(6, .c (.own 1))]⟩],[0,14,15,16]⟩ fun x=>qnm N x.1 x.2.1 x.2.2.1 x.2.2.2.1
def qrq (N:Nat):UU (T32 N).ev (qab Try.f29):=UU.lp (qrr N) N ⟨[1,1,1,0,1,0],[.v 0 (.sl 53), .o 6 (.sl 33), .v 14 (.sl 70), .v 15 (.int .i64), .v 16 (.int .i64)],[(6, .c (.own 0))],[0],[⟨.exit 0,[.o 6 (.sl 33)],[(6, .c (.own 1))]⟩],[]⟩ fun n x=>qhD N x.1 x.2.2.1 x.2.2.2.1 n x.2.1 x.2.2.2.2.1
def dzaO:FD D:=⟨29,2,[.v 0 (.sl 53), .v 1 (.sl 70)],[],none,0,[.o 4 (.sl 33), .v 5 (.int .i64)],[(4, .c (.own 0))],[.tmp 4, .tmp 5],false⟩
def FzaO (N:Nat):dzaO.F:=fun r x=>zaO N x.1 x.2.1
theorem wzaO (N:Nat):CallOk X0 dzaO (FzaO N):=UU.fn (qrq N) Try.func29
def T33 (N:Nat):TT X0:=(T32 N).ad dzaO (FzaO N) (wzaO N)
def qro (N:Nat):UU (T33 N).ev (qab Try.f36):=UU.lp UU.nil N ⟨[1,1,0,1,0],[.o 3 (.map 67 3 4), .v 7 (.sl 70), .v 8 (.int .i64), .v 9 (.int .i64)],[(3, .c (.own 0))],[2],[⟨.exit 0,[.u 0 (.map 67 3 4)],[]⟩],[3]⟩ fun n x=>qiw N x.2.1 x.2.2.1 n x.1 x.2.2.2.1
def dzaK:FD D:=⟨36,1,[.v 0 (.sl 70)],[],none,0,[.o 2 (.map 67 3 4)],[(2, .c (.own 0))],[.tmp 2],false⟩
def FzaK (N:Nat):dzaK.F:=fun r x=>zaK N x.1
theorem wzaK (N:Nat):CallOk X0 dzaK (FzaK N):=UU.fn (qro N) Try.func36
def T34 (N:Nat):TT X0:=(T33 N).ad dzaK (FzaK N) (wzaK N)
def qsu (N:Nat):UU (T34 N).ev (qab Try.f60):=UU.st UU.nil ⟨[1,0,0],[.o 2 (.box 53), .o 3 (.box 70)],[(2, .box 0 0),(3, .box 1 0)],[1,1],[⟨.normal,[.v 16 .bool],[]⟩],[2]⟩ fun x=>qny N x.1 x.2.1
def dzbT:FD D:=⟨60,2,[.v 0 (.agg 53), .v 1 (.agg 70)],[],none,0,[.v 4 (.int .i64)],[],[.tmp 4],true⟩
def FzbT (N:Nat):dzbT.F:=fun r x=>zbT N x.1 x.2.1
theorem wzbT (N:Nat):CallOk X0 dzbT (FzbT N):=UU.fn (qsu N) Try.func60
def T35 (N:Nat):TT X0:=(T34 N).ad dzbT (FzbT N) (wzbT N)
def dzaE:GD D:=⟨57,3,[.o 100000000 (.box 23), .o 100000001 (.bx 71 [(0,5)]), .o 100000002 (.bx 67 [(0,6)]), .o 100000003 (.fb 88 57 [7]), .o 100000004 (.fb 98 58 [0,1,2,3,4]), .o 100000005 (.map 71 74 4), .o 100000006 (.map 67 3 4), .v 0 (.int .i64), .v 1 (.int .i64), .o 2 (.bx 60 [(0,8)]), .o 2002000 (.map 60 3 3)],[(2, .box 7 0)],[1,1,1,1,1,1,1,1,2],[.v 5 (.int .i64), .u 8 (.map 60 3 3)],[],[5],false⟩
def FzaE (N:Nat):dzaE.pd.F:=fun x=>zaE N x.2.2.2.2.2.2.2.1 x.2.2.2.2.2.2.2.2.1 x.2.2.2.2.2.2.2.2.2.2.1
def qri (N:Nat):UU (T35 N).ev (qab Try.f57):=UU.st UU.nil ⟨[1,0,1,0],[.o 100000000 (.box 23), .o 100000001 (.bx 71 [(0,5)]), .o 100000002 (.bx 67 [(0,6)]), .o 100000003 (.fb 88 57 [7]), .o 100000004 (.fb 98 58 [0,1,2,3,4]), .o 100000005 (.map 71 74 4), .o 100000006 (.map 67 3 4), .v 1 (.int .i64), .o 2 (.bx 60 [(0,8)]), .v 6 (.int .i64), .v 7 .bool, .o 2002000 (.map 60 3 3)],[(2, .box 7 0)],[1,1,1,1,1,1,1,1,1],[⟨.normal,[.v 19 .bool],[]⟩],[0,1,2]⟩ fun x=>qnh N x.2.2.2.2.2.2.2.1 x.2.2.2.2.2.2.2.2.2.1 x.2.2.2.2.2.2.2.2.2.2.1
theorem wzaE (N:Nat):CallG X0 dzaE (FzaE N):=UU.gn (qri N) Try.func57
def T36 (N:Nat):TT X0:=(T35 N).ag dzaE (FzaE N) (wzaE N)
def dzbS:FD D:=⟨59,2,[.v 0 (.agg 53), .v 1 (.int .i64)],[],none,0,[.v 4 (.int .i64)],[],[.tmp 4],true⟩
def FzbS (N:Nat):dzbS.F:=fun r x=>zbS N x.1 x.2.1
theorem wzbS (N:Nat):CallOk X0 dzbS (FzbS N):=UU.fn (UU.nil:UU (T36 N).ev (qab Try.f59)) Try.func59
def T37 (N:Nat):TT X0:=(T36 N).ad dzbS (FzbS N) (wzbS N)
def dzaF:GD D:=⟨58,6,[.v 0 (.agg 74), .o 1 (.box 23), .o 2 (.bx 71 [(0,5)]), .o 3 (.bx 67 [(0,6)]), .o 4 (.fb 88 57 [7]), .o 5 (.fb 98 58 [0,1,2,3,4]), .o 2002000 (.map 71 74 4), .o 2003000 (.map 67 3 4), .o 200016385 (.bx 60 [(0,8)]), .o 201048641 (.map 60 3 3)],[(1, .box 0 0),(2, .box 1 0),(3, .box 2 0),(4, .box 3 0),(5, .box 4 0)],[1,1,1,1,1,2,1,1,2],[.v 7 (.int .i64), .u 5 (.map 71 74 4), .u 8 (.map 60 3 3)],[],[7],true⟩
def FzaF (N rc:Nat):dzaF.pd.F:=fun x=>zaF N rc x.1 x.2.1 x.2.2.1 x.2.2.2.1 x.2.2.2.2.2.2.1 x.2.2.2.2.2.2.2.1 x.2.2.2.2.2.2.2.2.1 x.2.2.2.2.2.2.2.2.2.1
def Tr37 (N rc:Nat) (hr:CallG X0 dzaF (FzaF N rc)):TT X0:=(T37 N).ag dzaF (FzaF N rc) hr
def qrj (N rc:Nat) (hr:CallG X0 dzaF (FzaF N rc)):UU (Tr37 N rc hr).ev (qab Try.f58):=UU.st UU.nil ⟨[1,1,0,0],[.o 1 (.box 23), .o 2 (.bx 71 [(0,5)]), .o 3 (.bx 67 [(0,6)]), .o 4 (.fb 88 57 [7]), .o 5 (.fb 98 58 [0,1,2,3,4]), .v 6 (.rp 74), .v 8 (.int .i64), .o 2002000 (.map 71 74 4), .o 2003000 (.map 67 3 4), .o 200016385 (.bx 60 [(0,8)]), .o 201048641 (.map 60 3 3)],[(1, .box 0 0),(2, .box 1 0),(3, .box 2 0),(4, .box 3 0),(5, .box 4 0)],[1,1,1,1,1,1,1,1,1],[⟨.normal,[.v 28 .bool],[]⟩],[1,2,3,4,5,6,8]⟩ fun x=>qni N (zaF N rc) x.2.2.2.2.2.1 x.2.2.2.2.2.2.1 x.2.2.2.2.2.2.2.1 x.2.2.2.2.2.2.2.2.1
theorem ozaF (N rc:Nat) (hr:CallG X0 dzaF (FzaF N rc)):CallG X0 dzaF (FzaF N (rc+1)):=UU.gn (qrj N rc hr) Try.func58
theorem wzaF (N:Nat):∀rc:Nat,CallG X0 dzaF (FzaF N rc)
 |0=>CallG.none fun x=>rfl
 |rc+1=>ozaF N rc (wzaF N rc)
def T38 (N:Nat):TT X0:=(T37 N).ag dzaF (FzaF N N) (wzaF N N)
def Y38 (N:Nat):EV X0:=(T38 N).ev.cuts fun x lo hi=>match x,lo,hi with| .func 57,none,none=>5| .func 58,none,none=>5|_,_,_=>0
def qsm (N:Nat):UU (Y38 N) (qab Try.f30):=UU.st UU.nil ⟨[1,1,1,1,1,1,1,0,1,0,0,1,1,0],[.o 2 (.box 23), .o 8 (.bx 60 [(0,3)]), .o 10 (.fb 98 58 [0,4,5,6,2]), .v 21 (.sl 70), .v 23 (.int .i64), .o 2008000 (.map 60 3 3), .o 200040962 (.bx 71 [(0,7)]), .o 200040963 (.bx 67 [(0,8)]), .o 200040964 (.fb 88 57 [1]), .o 202621569 (.map 71 74 4), .o 202621633 (.map 67 3 4)],[(2, .box 0 0),(8, .box 1 0),(10, .box 2 0)],[1,1,1,2,1,1,1,2,1],[⟨.normal,[.u 3 (.map 60 3 3), .u 7 (.map 71 74 4)],[]⟩,⟨.ret,[.v 5 (.int .i64)],[(4, .c .nilM)]⟩],[2,8,10,21,22,23]⟩ fun x=>qpM N x.1 x.2.2.2.1 x.2.2.2.2.1 x.2.2.2.2.2.1 x.2.2.2.2.2.2.2.2.2.1 x.2.2.2.2.2.2.2.2.2.2.1
def qsl (N:Nat):UU (Y38 N) (qab Try.f30):=UU.lp (qsm N) N ⟨[1,1,1,1,1,1,1,0,1,0],[.o 2 (.box 23), .o 8 (.bx 60 [(0,3)]), .o 10 (.fb 98 58 [0,4,5,6,2]), .v 21 (.sl 70), .v 22 (.int .i64), .v 23 (.int .i64), .o 2008000 (.map 60 3 3), .o 200040962 (.bx 71 [(0,7)]), .o 200040963 (.bx 67 [(0,8)]), .o 200040964 (.fb 88 57 [1]), .o 202621569 (.map 71 74 4), .o 202621633 (.map 67 3 4)],[(2, .box 0 0),(8, .box 1 0),(10, .box 2 0)],[1,2,1,0,2,1,1,0,1],[⟨.exit 0,[.u 1 (.bx 60 [(0,9)]), .o 2008000 (.map 60 3 3)],[]⟩,⟨.ret,[.v 5 (.int .i64)],[(4, .c .nilM)]⟩],[8]⟩ fun n x=>qgH N x.1 x.2.2.2.1 x.2.2.2.2.1 x.2.2.2.2.2.2.2.2.2.2.2.1 n x.2.1 x.2.2.2.2.2.1 x.2.2.2.2.2.2.1 x.2.2.2.2.2.2.2.1 x.2.2.2.2.2.2.2.2.2.2.1
def dzbH:FD D:=⟨30,2,[.v 0 (.sl 53), .v 1 (.sl 70)],[],none,0,[.v 4 (.mp 60 3 3), .v 5 (.int .i64)],[],[.tmp 4, .tmp 5],false⟩
def FzbH (N:Nat):dzbH.F:=fun r x=>zbH N x.1 x.2.1
theorem wzbH (N:Nat):CallOk X0 dzbH (FzbH N):=UU.fn (qsl N) Try.func30
def T39 (N:Nat):TT X0:=(T38 N).ad dzbH (FzbH N) (wzbH N)
def PzaR_0:PD D:=rngP D [1,1,1,1,1] 33 3 3 60
def qp6 (N:Nat):PzaR_0.F:=fun x=>qma N x.1 x.2.1
def qrz (N:Nat):UU (T39 N).ev (qab Try.f13):=UU.add UU.nil PzaR_0 (qp6 N) (qlO (e:=33) (kt:=3) (vt:=3) (t:=60) (T39 N).ev.ok (by kernel_rfl) .i64 .i64 rfl rfl (fun (a:Int) (b:Int)=>(Setting.mk a b)) ((Setting.mk 0 0):Setting) (fun (x:Setting)=>x.element) (by kernel_rfl) (by kernel_rfl) (by kernel_rfl) (by kernel_rfl) rfl ki3.K vi3.V (fun _=>rfl) (fun _=>rfl) (by kernel_rfl) (fun a b ys wf=>by kernel_rfl) (fun ys wf=>by kernel_rfl) (fun ys wf=>by kernel_rfl) si31_56.hv si31_56.hr si31_56.hf (Nat.le_of_ble_eq_true (by kernel_rfl)) (by kernel_rfl) (by kernel_rfl)) (by kernel_rfl)
def dzaR:FD D:=⟨13,2,[.v 0 (.sl 53), .v 1 (.sl 70)],[],none,0,[.v 4 (.sl 33), .v 5 (.int .i64)],[],[.tmp 4, .tmp 5],false⟩
def FzaR (N:Nat):dzaR.F:=fun r x=>zaR N x.1 x.2.1
theorem wzaR (N:Nat):CallOk X0 dzaR (FzaR N):=UU.fn (qrz N) Try.func13
def T40 (N:Nat):TT X0:=(T39 N).ad dzaR (FzaR N) (wzaR N)
def qsb (N:Nat):UU (T40 N).ev (qab Try.f40):=UU.st UU.nil ⟨[1,1,0,0,1,1,0],[.o 3 (.box 70), .o 5 (.box 53)],[(3, .box 0 0),(5, .box 1 0)],[1,1],[⟨.normal,[.v 15 .bool],[]⟩],[5]⟩ fun x=>qj0 N x.1 x.2.1
def dzbB:FD D:=⟨40,2,[.v 0 (.sl 53), .v 1 (.agg 70)],[],none,0,[.v 4 (.int .i64)],[],[.tmp 4],true⟩
def FzbB (N:Nat):dzbB.F:=fun r x=>zbB N x.1 x.2.1
theorem wzbB (N:Nat):CallOk X0 dzbB (FzbB N):=UU.fn (qsb N) Try.func40
def T41 (N:Nat):TT X0:=(T40 N).ad dzbB (FzbB N) (wzbB N)
def qte (N:Nat):UU (T41 N).ev (qab Try.f14):=UU.st UU.nil ⟨[1,1,0,0,0,0,0],[.v 0 (.sl 33), .o 3 (.box 33), .v 5 (.int .i64)],[(3, .box 0 0)],[1],[⟨.normal,[.v 20 .bool],[]⟩],[0,3,5]⟩ fun x=>qj6 N x.1 x.2.1 x.2.2.1
def qtd (N:Nat):UU (T41 N).ev (qab Try.f14):=UU.lp (qte N) N ⟨[1,1,0,0],[.v 0 (.sl 33), .o 3 (.box 33), .v 5 (.int .i64)],[(3, .box 0 0)],[1],[⟨.exit 0,[.v 5 (.int .i64)],[]⟩],[0,3]⟩ fun n x=>qj5 N x.1 x.2.1 n x.2.2.1
def qtf (N:Nat):UU (T41 N).ev (qab Try.f14):=UU.st (qtd N) ⟨[1,1,1,0,0],[.v 0 (.sl 33), .o 3 (.box 33), .v 5 (.int .i64)],[(3, .box 0 0)],[1],[⟨.normal,[.v 36 .bool],[]⟩],[0,3,5]⟩ fun x=>qj7 N x.1 x.2.1 x.2.2.1
def dzcS:FD D:=⟨14,2,[.v 0 (.sl 33), .v 1 (.agg 33)],[],none,0,[.v 4 (.sl 33)],[],[.tmp 4],false⟩
def FzcS (N:Nat):dzcS.F:=fun r x=>zcS N x.1 x.2.1
theorem wzcS (N:Nat):CallOk X0 dzcS (FzcS N):=UU.fn (qtf N) Try.func14
def T42 (N:Nat):TT X0:=(T41 N).ad dzcS (FzcS N) (wzcS N)
def qsd (N:Nat):UU (T42 N).ev (qab Try.f16):=UU.st UU.nil ⟨[1,1,1,0,1,0,0,1,0],[.v 0 (.sl 53), .v 1 (.sl 70), .v 6 (.sl 33), .v 7 (.int .i64)],[],[],[⟨.normal,[.v 6 (.sl 33)],[]⟩],[0,1,7]⟩ fun x=>qnu N x.1 x.2.1 x.2.2.1 x.2.2.2.1
def qsc (N:Nat):UU (T42 N).ev (qab Try.f16):=UU.lp (qsd N) N ⟨[1,1,1,0,1,0],[.v 0 (.sl 53), .v 1 (.sl 70), .v 6 (.sl 33), .v 7 (.int .i64)],[],[],[⟨.exit 0,[.v 6 (.sl 33)],[]⟩],[]⟩ fun n x=>qiz N x.1 x.2.1 n x.2.2.1 x.2.2.2.1
def dzbC:FD D:=⟨16,2,[.v 0 (.sl 53), .v 1 (.sl 70)],[],none,0,[.v 4 (.sl 33), .v 5 (.int .i64)],[],[.tmp 4, .tmp 5],false⟩
def FzbC (N:Nat):dzbC.F:=fun r x=>zbC N x.1 x.2.1
theorem wzbC (N:Nat):CallOk X0 dzbC (FzbC N):=UU.fn (qsc N) Try.func16
def T43 (N:Nat):TT X0:=(T42 N).ad dzbC (FzbC N) (wzbC N)
def dzcA:FD D:=⟨28,0,[],[],none,0,[.o 0 (.sl 53)],[(0, .c (.own 0))],[.tmp 0],false⟩
def FzcA (N:Nat):dzcA.F:=fun r x=>zcA N
theorem wzcA (N:Nat):CallOk X0 dzcA (FzcA N):=UU.fn (UU.nil:UU (T43 N).ev (qab Try.f28)) Try.func28
def T44 (N:Nat):TT X0:=(T43 N).ad dzcA (FzcA N) (wzcA N)
def dzcN:FD D:=⟨55,2,[.v 0 (.sl 53), .v 1 (.agg 70)],[],none,0,[.o 4 (.sl 3)],[(4, .c (.own 0))],[.tmp 4],false⟩
def FzcN (N:Nat):dzcN.F:=fun r x=>zcN N x.1 x.2.1
theorem wzcN (N:Nat):CallOk X0 dzcN (FzcN N):=UU.fn (UU.nil:UU (T44 N).ev (qab Try.f55)) Try.func55
def T45 (N:Nat):TT X0:=(T44 N).ad dzcN (FzcN N) (wzcN N)
def qs9 (N:Nat):UU (T45 N).ev (qab Try.f54):=UU.st UU.nil ⟨[1,1,1,0,1,0,0,1,0,0,1,0],[.o 5 (.box 70), .v 8 (.int .i64), .v 9 .bool, .o 10 (.sl 3), .v 12 (.int .i64), .v 13 .bool],[(5, .box 0 0),(10, .c (.own 1))],[1,1],[⟨.normal,[.v 50 .bool],[]⟩],[0,1,5,8,9,10,11,12]⟩ fun x=>qtR N x.2.1 x.2.2.1 x.2.2.2.2.1 x.2.2.2.2.2.1
def qs8 (N:Nat):UU (T45 N).ev (qab Try.f54):=UU.st (qs9 N) ⟨[1,1,1,0,1,0,0,1,0],[.v 0 (.sl 53), .v 1 (.mp 91 97 3), .o 5 (.box 70), .v 8 (.int .i64), .v 9 .bool, .o 10 (.sl 3), .v 11 (.int .i64)],[(5, .box 0 0),(10, .c (.own 1))],[1,1],[⟨.normal,[.v 8 (.int .i64), .v 9 .bool],[]⟩],[0,1,5,10,11]⟩ fun x=>qtQ N x.1 x.2.1 x.2.2.1 x.2.2.2.1 x.2.2.2.2.1 x.2.2.2.2.2.1 x.2.2.2.2.2.2.1
def qs7 (N:Nat):UU (T45 N).ev (qab Try.f54):=UU.lp (qs8 N) N ⟨[1,1,1,0,1,0],[.v 0 (.sl 53), .v 1 (.mp 91 97 3), .o 5 (.box 70), .v 8 (.int .i64), .v 9 .bool, .o 10 (.sl 3), .v 11 (.int .i64)],[(5, .box 0 0),(10, .c (.own 1))],[1,1],[⟨.exit 0,[.v 8 (.int .i64), .v 9 .bool],[]⟩],[]⟩ fun n x=>qp5 N x.1 x.2.1 x.2.2.1 x.2.2.2.2.2.1 n x.2.2.2.1 x.2.2.2.2.1 x.2.2.2.2.2.2.1
def dzcM:FD D:=⟨54,3,[.v 0 (.sl 53), .v 1 (.mp 91 97 3), .v 2 (.agg 70)],[],none,0,[.v 6 (.int .i64), .v 7 .bool],[],[.tmp 6, .tmp 7],true⟩
def FzcM (N:Nat):dzcM.F:=fun r x=>zcM N x.1 x.2.1 x.2.2.1
theorem wzcM (N:Nat):CallOk X0 dzcM (FzcM N):=UU.fn (qs7 N) Try.func54
def T46 (N:Nat):TT X0:=(T45 N).ad dzcM (FzcM N) (wzcM N)
def qrT (N:Nat):UU (T46 N).ev (qab Try.f53):=UU.lp UU.nil N ⟨[1,1,1,0,1,0],[.v 1 (.int .i64), .o 5 (.map 91 97 3), .o 6 (.sl 3), .v 7 (.int .i64)],[(5, .c (.own 0)),(6, .c (.own 1))],[2,1],[⟨.exit 0,[.u 0 (.map 91 97 3)],[]⟩],[0,1,5]⟩ fun n x=>qpF N x.1 x.2.2.1 n x.2.1 x.2.2.2.1
def qrY (N:Nat):UU (T46 N).ev (qab Try.f53):=UU.st (qrT N) ⟨[1,1,1,1,0,1,0,0,1,0,1,1,0,0,1,0,0,1,1,0,0,1,0,0,1,1,1,0],[.o 5 (.map 91 97 3), .o 10 (.sl 3), .v 12 (.int .i64), .v 13 .bool, .v 14 (.int .i64), .v 15 .bool],[(5, .c (.own 0)),(10, .c (.own 1))],[1,1],[⟨.normal,[.v 85 .bool],[]⟩],[0,1,5,8,9,10,11,12]⟩ fun x=>qtA N x.2.2.1 x.2.2.2.1 x.2.2.2.2.1 x.2.2.2.2.2.1
def qrX (N:Nat):UU (T46 N).ev (qab Try.f53):=UU.st (qrY N) ⟨[1,1,1,1,0,1,0,0,1,0,1,1,0,0,1,0,0,1,1,0,0,1,0],[.v 0 (.sl 53), .v 1 (.int .i64), .o 5 (.map 91 97 3), .v 8 .bool, .v 9 (.int .i64), .o 10 (.sl 3), .v 11 (.int .i64)],[(5, .c (.own 0)),(10, .c (.own 1))],[2,1],[⟨.normal,[.u 0 (.map 91 97 3), .v 8 .bool],[]⟩],[0,1,5,9,10,11]⟩ fun x=>qtz N x.1 x.2.1 x.2.2.1 x.2.2.2.1 x.2.2.2.2.1 x.2.2.2.2.2.1 x.2.2.2.2.2.2.1
def qrW (N:Nat):UU (T46 N).ev (qab Try.f53):=UU.lp (qrX N) N ⟨[1,1,1,1,0,1,0,0,1,0,1,1,0,0,1,0,0,1,1,0],[.v 0 (.sl 53), .v 1 (.int .i64), .o 5 (.map 91 97 3), .v 8 .bool, .v 9 (.int .i64), .o 10 (.sl 3), .v 11 (.int .i64)],[(5, .c (.own 0)),(10, .c (.own 1))],[2,1],[⟨.exit 6,[.u 0 (.map 91 97 3), .v 8 .bool],[]⟩],[0,1,5,9]⟩ fun n x=>qpI N x.1 x.2.1 x.2.2.2.2.1 x.2.2.2.2.2.1 n x.2.2.1 x.2.2.2.1 x.2.2.2.2.2.2.1
def qrV (N:Nat):UU (T46 N).ev (qab Try.f53):=UU.lp (qrW N) N ⟨[1,1,1,1,0,1,0,0,1,0,1,1,0],[.v 0 (.sl 53), .v 1 (.int .i64), .o 5 (.map 91 97 3), .v 8 .bool, .v 9 (.int .i64)],[(5, .c (.own 0))],[2],[⟨.exit 4,[.u 0 (.map 91 97 3), .v 8 .bool],[]⟩],[0,1,5]⟩ fun n x=>qpH N x.1 x.2.1 n x.2.2.1 x.2.2.2.1 x.2.2.2.2.1
def qrU (N:Nat):UU (T46 N).ev (qab Try.f53):=UU.lp (qrV N) N ⟨[1,1,1,1,0,1,0],[.v 0 (.sl 53), .v 1 (.int .i64), .o 5 (.map 91 97 3), .v 8 .bool],[(5, .c (.own 0))],[2],[⟨.exit 2,[.u 0 (.map 91 97 3)],[]⟩],[5]⟩ fun n x=>qpG N x.1 x.2.1 n x.2.2.1 x.2.2.2.1
def dzaX:FD D:=⟨53,2,[.v 0 (.sl 53), .v 1 (.int .i64)],[],none,0,[.o 4 (.map 91 97 3)],[(4, .c (.own 0))],[.tmp 4],false⟩
def FzaX (N:Nat):dzaX.F:=fun r x=>zaX N x.1 x.2.1
theorem wzaX (N:Nat):CallOk X0 dzaX (FzaX N):=UU.fn (qrU N) Try.func53
def T47 (N:Nat):TT X0:=(T46 N).ad dzaX (FzaX N) (wzaX N)
def qs2 (N:Nat):UU (T47 N).ev (qab Try.f27):=UU.st UU.nil ⟨[1,1,0,0],[.v 0 (.sl 53), .v 1 (.int .i64), .v 2 (.int .i64)],[],[],[⟨.normal,[.v 39 .bool],[]⟩],[0,1,2]⟩ fun x=>qtN N x.1 x.2.1 x.2.2.1
def qs6 (N:Nat):UU (T47 N).ev (qab Try.f27):=UU.st (qs2 N) ⟨[1,1,1,1,1,1,1,1,0,0,0,1,0,0,1,1,1,0,1,0,0,1,0,0,1,1,0],[.o 9 (.map 91 97 3), .o 10 (.box 70), .v 11 (.int .i64), .o 13 (.sl 70), .o 14 (.sl 3), .v 15 (.int .i64), .v 16 (.int .i64), .v 17 (.int .i64), .v 18 (.int .i64), .v 19 .bool],[(9, .c (.own 0)),(10, .box 1 0),(13, .c (.own 2)),(14, .c (.own 3))],[1,1,1,1],[⟨.normal,[.v 115 .bool],[]⟩],[0,2,9,10,11,13,14,15,16,17]⟩ fun x=>qtP N x.2.1 x.2.2.1 x.2.2.2.2.1 x.2.2.2.2.2.1 x.2.2.2.2.2.2.1 x.2.2.2.2.2.2.2.1 x.2.2.2.2.2.2.2.2.1 x.2.2.2.2.2.2.2.2.2.1
def qs5 (N:Nat):UU (T47 N).ev (qab Try.f27):=UU.st (qs6 N) ⟨[1,1,1,1,1,1,1,1,0,0,0,1,0,0,1,1,1,0,1,0,0,1,0],[.v 0 (.sl 53), .o 9 (.map 91 97 3), .o 10 (.box 70), .v 11 (.int .i64), .o 13 (.sl 70), .o 14 (.sl 3), .v 15 (.int .i64), .v 16 (.int .i64)],[(9, .c (.own 0)),(10, .box 1 0),(13, .c (.own 2)),(14, .c (.own 3))],[1,2,1,1],[⟨.normal,[.u 1 (.box 70), .v 15 (.int .i64)],[]⟩],[0,2,9,10,11,13,14,16]⟩ fun x=>qtO N x.1 x.2.1 x.2.2.1 x.2.2.2.1 x.2.2.2.2.2.1 x.2.2.2.2.2.2.1 x.2.2.2.2.2.2.2.1
def qs4 (N:Nat):UU (T47 N).ev (qab Try.f27):=UU.lp (qs5 N) N ⟨[1,1,1,1,1,1,1,1,0,0,0,1,0,0,1,1,1,0,1,0],[.v 0 (.sl 53), .o 9 (.map 91 97 3), .o 10 (.box 70), .v 11 (.int .i64), .o 13 (.sl 70), .o 14 (.sl 3), .v 15 (.int .i64), .v 16 (.int .i64)],[(9, .c (.own 0)),(10, .box 1 0),(13, .c (.own 2)),(14, .c (.own 3))],[1,2,1,1],[⟨.exit 2,[.u 1 (.box 70), .v 15 (.int .i64)],[]⟩],[0,2,9,10,11,13]⟩ fun n x=>qp4 N x.1 x.2.1 x.2.2.2.1 x.2.2.2.2.2.1 n x.2.2.1 x.2.2.2.2.2.2.1 x.2.2.2.2.2.2.2.1
def qs3 (N:Nat):UU (T47 N).ev (qab Try.f27):=UU.lp (qs4 N) N ⟨[1,1,1,1,1,1,1,1,0,0],[.v 0 (.sl 53), .o 9 (.map 91 97 3), .o 10 (.box 70), .v 11 (.int .i64), .o 13 (.sl 70)],[(9, .c (.own 0)),(10, .box 1 0),(13, .c (.own 2))],[1,2,0],[⟨.exit 0,[.u 1 (.box 70), .o 13 (.sl 70)],[(13, .c (.own 3))]⟩,⟨.ret,[.v 7 (.int .i64)],[(6, .c .nilS)]⟩],[2,10]⟩ fun n x=>qp3 N x.1 x.2.1 n x.2.2.1 x.2.2.2.1 x.2.2.2.2.1
def dzcL:FD D:=⟨27,3,[.v 0 (.sl 53), .v 1 (.int .i64), .v 2 (.int .i64)],[],none,0,[.o 6 (.sl 70), .v 7 (.int .i64)],[(6, .c (.own 0))],[.tmp 6, .tmp 7],false⟩
def FzcL (N:Nat):dzcL.F:=fun r x=>zcL N x.1 x.2.1 x.2.2.1
theorem wzcL (N:Nat):CallOk X0 dzcL (FzcL N):=UU.fn (qs3 N) Try.func27
def T48 (N:Nat):TT X0:=(T47 N).ad dzcL (FzcL N) (wzcL N)
def qsh (N:Nat):UU (T48 N).ev (qab Try.f35):=UU.st UU.nil ⟨[1,1,0,1,0,0,1,1,0,0,1,0,0],[.v 0 (.sl 53), .o 6 (.map 60 3 3), .o 8 (.box 33)],[(6, .c (.own 0)),(8, .box 1 0)],[1,1],[⟨.normal,[.v 35 .bool],[]⟩],[0,6,8,13,14,15]⟩ fun x=>qtF N x.1 x.2.1 x.2.2.1
def qsi (N:Nat):UU (T48 N).ev (qab Try.f35):=UU.st (qsh N) ⟨[1,1,0,1,0,0,1,1,0,0,1,1,0],[.o 6 (.map 60 3 3), .o 8 (.box 33)],[(6, .c (.own 0)),(8, .box 1 0)],[1,1],[⟨.normal,[.v 9 .bool],[]⟩],[0,6,8,13,14,15]⟩ fun x=>qtG N x.2.1
def qsj (N:Nat):UU (T48 N).ev (qab Try.f35):=UU.st (qsi N) ⟨[1,1,0,1,0,0,1,1,0,0,1,1,1,0],[.o 6 (.map 60 3 3), .o 8 (.box 33)],[(6, .c (.own 0)),(8, .box 1 0)],[1,1],[⟨.normal,[.v 10 .bool],[]⟩],[0,6,8,9,13,14,15]⟩ fun x=>qtH N x.2.1
def qsk (N:Nat):UU (T48 N).ev (qab Try.f35):=UU.st (qsj N) ⟨[1,1,0,1,0,0,1,1,0,0,1,1,1,1,1,0,0],[.o 6 (.map 60 3 3), .o 8 (.box 33), .v 9 .bool, .v 10 .bool, .v 11 (.int .i64)],[(6, .c (.own 0)),(8, .box 1 0)],[1,1],[⟨.normal,[.v 71 .bool],[]⟩],[0,6,8,13,14,15]⟩ fun x=>qtI N x.2.2.1 x.2.2.2.1 x.2.2.2.2.1
def qsg (N:Nat):UU (T48 N).ev (qab Try.f35):=UU.lp (qsk N) N ⟨[1,1,0,1,0],[.v 0 (.sl 53), .o 6 (.map 60 3 3), .v 13 (.sl 33), .v 14 (.int .i64), .v 15 (.int .i64)],[(6, .c (.own 0))],[2],[⟨.exit 0,[.u 0 (.map 60 3 3)],[]⟩,⟨.ret,[.v 5 .bool],[(4, .c .nilM)]⟩],[6]⟩ fun n x=>qpL N x.1 x.2.2.1 x.2.2.2.1 n x.2.1 x.2.2.2.2.1
def dzbG:FD D:=⟨35,2,[.v 0 (.sl 53), .v 1 (.sl 33)],[],none,0,[.v 4 (.mp 60 3 3), .v 5 .bool],[],[.tmp 4, .tmp 5],false⟩
def FzbG (N:Nat):dzbG.F:=fun r x=>zbG N x.1 x.2.1
theorem wzbG (N:Nat):CallOk X0 dzbG (FzbG N):=UU.fn (qsg N) Try.func35
def T49 (N:Nat):TT X0:=(T48 N).ad dzbG (FzbG N) (wzbG N)
def qr8 (N:Nat):UU (T49 N).ev (qab Try.f39):=UU.st UU.nil ⟨[1,1,0,0,0],[.o 9 (.box 53), .v 10 (.int .i64)],[(9, .box 0 0)],[1],[⟨.normal,[.v 18 .bool],[]⟩],[0,2,3,9,10]⟩ fun x=>qtB N x.1 x.2.1
def qr9 (N:Nat):UU (T49 N).ev (qab Try.f39):=UU.st (qr8 N) ⟨[1,1,0,0,1,1,0],[.v 3 (.int .i64), .o 9 (.box 53), .v 10 (.int .i64)],[(9, .box 0 0)],[1],[⟨.normal,[.v 26 .bool],[]⟩],[0,2,3,9,10]⟩ fun x=>qtC N x.1 x.2.1 x.2.2.1
def qsa (N:Nat):UU (T49 N).ev (qab Try.f39):=UU.st (qr9 N) ⟨[1,1,0,0,1,1,1,1,0],[.v 3 (.int .i64), .o 9 (.box 53), .v 10 (.int .i64)],[(9, .box 0 0)],[1],[⟨.normal,[.v 43 .bool],[]⟩],[0,2,3,9]⟩ fun x=>qtD N x.1 x.2.1 x.2.2.1
def dzbA:FD D:=⟨39,4,[.v 0 (.sl 53), .v 1 (.mp 60 3 3), .v 2 (.int .i64), .v 3 (.int .i64)],[],none,0,[.v 8 (.sl 3)],[],[.tmp 8],false⟩
def FzbA (N:Nat):dzbA.F:=fun r x=>zbA N x.1 x.2.1 x.2.2.1 x.2.2.2.1
theorem wzbA (N:Nat):CallOk X0 dzbA (FzbA N):=UU.fn (qsa N) Try.func39
def T50 (N:Nat):TT X0:=(T49 N).ad dzbA (FzbA N) (wzbA N)
def dzaB:GD D:=⟨37,8,[.o 100000000 (.sl 3), .v 0 (.agg 74), .o 1 (.box 23), .o 2 (.bx 71 [(0,8)]), .o 3 (.bx 67 [(0,9)]), .o 4 (.box 3), .o 5 (.box 3), .o 6 (.box 60), .o 7 (.fb 72 37 [1,2,3,4,5,6,7]), .o 2002000 (.map 71 74 4), .o 2003000 (.map 67 3 4)],[(1, .box 1 0),(2, .box 2 0),(3, .box 3 0),(4, .box 4 0),(5, .box 5 0),(6, .box 6 0),(7, .box 7 0)],[1,1,1,1,1,1,1,1,2,1],[.v 9 .bool, .u 8 (.map 71 74 4)],[],[9],true⟩
def FzaB (N rc:Nat):dzaB.pd.F:=fun x=>zaB N rc x.1 x.2.1 x.2.2.1 x.2.2.2.1 x.2.2.2.2.1 x.2.2.2.2.2.1 x.2.2.2.2.2.2.1 x.2.2.2.2.2.2.2.1 x.2.2.2.2.2.2.2.2.2.1 x.2.2.2.2.2.2.2.2.2.2.1
def Tr50 (N rc:Nat) (hr:CallG X0 dzaB (FzaB N rc)):TT X0:=(T50 N).ag dzaB (FzaB N rc) hr
def qrf (N rc:Nat) (hr:CallG X0 dzaB (FzaB N rc)):UU (Tr50 N rc hr).ev (qab Try.f37):=UU.st UU.nil ⟨[1,1,0,0],[.o 100000000 (.sl 3), .o 1 (.box 23), .o 2 (.bx 71 [(0,8)]), .o 3 (.bx 67 [(0,9)]), .o 4 (.box 3), .o 5 (.box 3), .o 6 (.box 60), .o 7 (.fb 72 37 [1,2,3,4,5,6,7]), .v 8 (.rp 74), .v 10 (.int .i64), .o 2002000 (.map 71 74 4), .o 2003000 (.map 67 3 4)],[(1, .box 1 0),(2, .box 2 0),(3, .box 3 0),(4, .box 4 0),(5, .box 5 0),(6, .box 6 0),(7, .box 7 0)],[1,1,1,1,1,1,1,1,1,1],[⟨.normal,[.v 25 .bool],[]⟩],[1,2,3,4,5,6,7,8,10]⟩ fun x=>qtl N (zaB N rc) x.2.2.2.2.2.2.2.2.1 x.2.2.2.2.2.2.2.2.2.1 x.2.2.2.2.2.2.2.2.2.2.1
def qrg (N rc:Nat) (hr:CallG X0 dzaB (FzaB N rc)):UU (Tr50 N rc hr).ev (qab Try.f37):=UU.st (qrf N rc hr) ⟨[1,1,1,1,0,1,0,0],[.o 100000000 (.sl 3), .o 1 (.box 23), .o 2 (.bx 71 [(0,8)]), .o 3 (.bx 67 [(0,9)]), .o 4 (.box 3), .o 5 (.box 3), .o 6 (.box 60), .o 7 (.fb 72 37 [1,2,3,4,5,6,7]), .v 10 (.int .i64), .o 2002000 (.map 71 74 4), .o 2003000 (.map 67 3 4)],[(1, .box 1 0),(2, .box 2 0),(3, .box 3 0),(4, .box 4 0),(5, .box 5 0),(6, .box 6 0),(7, .box 7 0)],[1,1,1,1,1,1,1,1,1,1],[⟨.normal,[.v 9 .bool],[]⟩],[1,2,3,4,5,6,7]⟩ fun x=>qtm N (zaB N rc) x.2.2.2.2.1 x.2.2.2.2.2.1 x.2.2.2.2.2.2.2.2.1
def qn5 (N rc:Nat) (hr:CallG X0 dzaB (FzaB N rc)):UU (Tr50 N rc hr).ev (qab Try.f37):=UU.lp (qrg N rc hr) N ⟨[1,1,1,1,1,0,1,0],[.o 100000000 (.sl 3), .o 1 (.box 23), .o 2 (.bx 71 [(0,8)]), .o 3 (.bx 67 [(0,9)]), .o 4 (.box 3), .o 5 (.box 3), .o 6 (.box 60), .o 7 (.fb 72 37 [1,2,3,4,5,6,7]), .v 10 (.int .i64), .v 44 (.sl 3), .v 45 (.int .i64), .v 46 (.int .i64), .o 2002000 (.map 71 74 4), .o 2003000 (.map 67 3 4)],[(1, .box 1 0),(2, .box 2 0),(3, .box 3 0),(4, .box 4 0),(5, .box 5 0),(6, .box 6 0),(7, .box 7 0)],[1,1,1,1,1,1,1,1,2,1],[⟨.exit 0,[.u 8 (.map 71 74 4)],[]⟩,⟨.ret,[.v 9 .bool, .u 8 (.map 71 74 4)],[]⟩],[1,2,3,4,5,6,7]⟩ fun n x=>qps N (zaB N rc) x.1 x.2.1 x.2.2.2.2.1 x.2.2.2.2.2.1 x.2.2.2.2.2.2.1 x.2.2.2.2.2.2.2.2.1 x.2.2.2.2.2.2.2.2.2.1 x.2.2.2.2.2.2.2.2.2.2.1 x.2.2.2.2.2.2.2.2.2.2.2.2.2.1 n x.2.2.2.2.2.2.2.2.2.2.2.1 x.2.2.2.2.2.2.2.2.2.2.2.2.1
theorem ozaB (N rc:Nat) (hr:CallG X0 dzaB (FzaB N rc)):CallG X0 dzaB (FzaB N (rc+1)):=UU.gn (qn5 N rc hr) Try.func37
theorem wzaB (N:Nat):∀rc:Nat,CallG X0 dzaB (FzaB N rc)
 |0=>CallG.none fun x=>rfl
 |rc+1=>ozaB N rc (wzaB N rc)
def T51 (N:Nat):TT X0:=(T50 N).ag dzaB (FzaB N N) (wzaB N N)
def qhV:GD D:=⟨37,8,[.o 100000005 (.sl 3), .v 0 (.agg 74), .o 1 (.box 23), .o 2 (.bx 71 [(0,8)]), .o 3 (.bx 67 [(0,9)]), .o 4 (.box 3), .o 5 (.box 3), .o 6 (.box 60), .o 7 (.fb 72 37 [1,2,3,4,5,6,7]), .o 2002000 (.map 71 74 4), .o 2003000 (.map 67 3 4)],[(1, .box 1 0),(2, .box 2 0),(3, .box 3 0),(4, .box 4 0),(5, .box 5 0),(6, .box 6 0),(7, .box 7 0)],[1,1,1,1,1,1,1,1,2,1],[.v 9 .bool, .u 8 (.map 71 74 4)],[],[9],true⟩
theorem qo1 (N rc:Nat) (hr:CallG X0 dzaB (FzaB N rc)):CallG X0 qhV (FzaB N (rc+1)):=UU.gn (qn5 N rc hr) Try.func37
theorem qpr (N:Nat):∀rc:Nat,CallG X0 qhV (FzaB N rc)
 |0=>CallG.none fun x=>rfl
 |rc+1=>qo1 N rc (wzaB N rc)
def T52 (N:Nat):TT X0:=(T51 N).ag qhV (FzaB N N) (qpr N N)
def Y52 (N:Nat):EV X0:=(T52 N).ev.cuts fun x lo hi=>match x,lo,hi with| .func 37,none,none=>5|_,_,_=>0
def qrx (N:Nat):UU (Y52 N) (qab Try.f15):=UU.st UU.nil ⟨[1,1,1,1,1,1,1,0,1,0,0,1,1,0,0,1,0,0],[.o 3 (.box 23), .o 8 (.box 60), .o 10 (.bx 67 [(0,7)]), .o 11 (.box 3), .o 12 (.box 3), .o 13 (.sl 3), .v 14 (.int .i64), .o 15 (.box 53), .o 2010000 (.map 67 3 4)],[(3, .box 0 0),(8, .box 1 0),(10, .box 2 0),(11, .box 3 0),(12, .box 4 0),(13, .c (.own 5)),(15, .box 6 0)],[1,1,1,1,1,1,1,1],[⟨.normal,[.v 57 .bool],[]⟩],[3,8,10,11,12,13,14,15,43,44,45]⟩ fun x=>qtu N x.2.2.2.2.2.2.1 x.2.2.2.2.2.2.2.1 x.2.2.2.2.2.2.2.2.1
def qry (N:Nat):UU (Y52 N) (qab Try.f15):=UU.st (qrx N) ⟨[1,1,1,1,1,1,1,0,1,0,0,1,1,0,0,1,1,1,1,1,0],[.o 3 (.box 23), .o 8 (.box 60), .o 10 (.bx 67 [(0,8)]), .o 11 (.box 3), .o 12 (.box 3), .o 13 (.sl 3), .v 14 (.int .i64), .o 15 (.box 53), .o 17 (.fb 72 37 [0,9,2,3,4,1,7]), .o 2010000 (.map 67 3 4), .o 200069634 (.bx 71 [(0,10)]), .o 204456577 (.map 71 74 4)],[(3, .box 0 0),(8, .box 1 0),(10, .box 2 0),(11, .box 3 0),(12, .box 4 0),(13, .c (.own 5)),(15, .box 6 0),(17, .box 7 0)],[1,1,1,1,1,1,0,1,1,1,2],[⟨.normal,[.v 73 .bool],[]⟩],[3,8,10,11,12,13,14,43,44,45]⟩ fun x=>qtv N x.1 x.2.1 x.2.2.2.1 x.2.2.2.2.1 x.2.2.2.2.2.1 x.2.2.2.2.2.2.1 x.2.2.2.2.2.2.2.1 x.2.2.2.2.2.2.2.2.2.1 x.2.2.2.2.2.2.2.2.2.2.2.1
def qrw (N:Nat):UU (Y52 N) (qab Try.f15):=UU.st (qry N) ⟨[1,1,1,1,1,1,1,0,1,0,0,1,1,0],[.o 3 (.box 23), .o 8 (.box 60), .o 10 (.bx 67 [(0,6)]), .o 11 (.box 3), .o 12 (.box 3), .o 13 (.sl 3), .v 43 (.sl 53), .v 45 (.int .i64), .o 2010000 (.map 67 3 4)],[(3, .box 0 0),(8, .box 1 0),(10, .box 2 0),(11, .box 3 0),(12, .box 4 0),(13, .c (.own 5))],[1,1,1,1,1,0,1],[⟨.normal,[.o 13 (.sl 3)],[(13, .c (.own 7))]⟩],[3,8,10,11,12,43,44,45]⟩ fun x=>qtt N x.1 x.2.1 x.2.2.2.1 x.2.2.2.2.1 x.2.2.2.2.2.1 x.2.2.2.2.2.2.1 x.2.2.2.2.2.2.2.1 x.2.2.2.2.2.2.2.2.1
def qrv (N:Nat):UU (Y52 N) (qab Try.f15):=UU.lp (qrw N) N ⟨[1,1,1,1,1,1,1,0,1,0],[.o 3 (.box 23), .o 8 (.box 60), .o 10 (.bx 67 [(0,6)]), .o 11 (.box 3), .o 12 (.box 3), .o 13 (.sl 3), .v 43 (.sl 53), .v 44 (.int .i64), .v 45 (.int .i64), .o 2010000 (.map 67 3 4)],[(3, .box 0 0),(8, .box 1 0),(10, .box 2 0),(11, .box 3 0),(12, .box 4 0),(13, .c (.own 5))],[1,1,1,1,1,0,1],[⟨.exit 0,[.o 13 (.sl 3)],[(13, .c (.own 7))]⟩],[]⟩ fun n x=>qpx N x.1 x.2.1 x.2.2.2.1 x.2.2.2.2.1 x.2.2.2.2.2.2.1 x.2.2.2.2.2.2.2.1 x.2.2.2.2.2.2.2.2.2.1 n x.2.2.2.2.2.1 x.2.2.2.2.2.2.2.2.1
def dzaQ:FD D:=⟨15,3,[.v 0 (.sl 53), .v 1 (.sl 70), .v 2 (.sl 33)],[],none,0,[.o 6 (.sl 3), .v 7 (.int .i64)],[(6, .c (.own 0))],[.tmp 6, .tmp 7],false⟩
def FzaQ (N:Nat):dzaQ.F:=fun r x=>zaQ N x.1 x.2.1 x.2.2.1
theorem wzaQ (N:Nat):CallOk X0 dzaQ (FzaQ N):=UU.fn (qrv N) Try.func15
def T53 (N:Nat):TT X0:=(T52 N).ad dzaQ (FzaQ N) (wzaQ N)
def qrk (N:Nat):UU (T53 N).ev (qab Try.f52):=UU.lp UU.nil N ⟨[1,1,0,1,0],[.v 0 (.sl 33), .v 1 (.sl 33), .v 5 (.int .i64)],[],[],[⟨.exit 0,[],[]⟩,⟨.ret,[.v 4 .bool],[]⟩],[]⟩ fun n x=>qpt N x.1 x.2.1 n x.2.2.1
def dzaI:FD D:=⟨52,2,[.v 0 (.sl 33), .v 1 (.sl 33)],[],none,0,[.v 4 .bool],[],[.tmp 4],true⟩
def FzaI (N:Nat):dzaI.F:=fun r x=>zaI N x.1 x.2.1
theorem wzaI (N:Nat):CallOk X0 dzaI (FzaI N):=UU.fn (qrk N) Try.func52
def T54 (N:Nat):TT X0:=(T53 N).ad dzaI (FzaI N) (wzaI N)
def dzaD:FD D:=⟨25,2,[.v 0 (.sl 33), .v 1 (.sl 33)],[],none,0,[.v 4 .bool],[],[.tmp 4],true⟩
def FzaD (N:Nat):dzaD.F:=fun r x=>zaD N x.1 x.2.1
theorem wzaD (N:Nat):CallOk X0 dzaD (FzaD N):=UU.fn (UU.nil:UU (T54 N).ev (qab Try.f25)) Try.func25
def T55 (N:Nat):TT X0:=(T54 N).ad dzaD (FzaD N) (wzaD N)
def qsV (N:Nat):UU (T55 N).ev (qab Try.f26):=UU.lp UU.nil N ⟨[1,1,0,1,0],[.v 0 (.sl 3), .v 1 (.sl 3), .v 5 (.int .i64)],[],[],[⟨.exit 0,[],[]⟩,⟨.ret,[.v 4 .bool],[]⟩],[]⟩ fun n x=>qpY N x.1 x.2.1 n x.2.2.1
def dzcH:FD D:=⟨26,2,[.v 0 (.sl 3), .v 1 (.sl 3)],[],none,0,[.v 4 .bool],[],[.tmp 4],true⟩
def FzcH (N:Nat):dzcH.F:=fun r x=>zcH N x.1 x.2.1
theorem wzcH (N:Nat):CallOk X0 dzcH (FzcH N):=UU.fn (qsV N) Try.func26
def T56 (N:Nat):TT X0:=(T55 N).ad dzcH (FzcH N) (wzcH N)
def qsW (N:Nat):UU (T56 N).ev (qab Try.f12):=UU.st UU.nil ⟨[1,1,1,1,1,1,0],[.v 3 (.sl 33), .v 4 (.int .i64), .o 5 (.sl 3), .v 6 (.int .i64), .o 7 (.sl 3), .v 8 (.int .i64), .v 10 (.int .i64)],[(5, .c (.own 0)),(7, .c (.own 1))],[1,1],[⟨.normal,[.v 0 .bool],[]⟩],[]⟩ fun x=>qpZ N x.1 x.2.1 x.2.2.1 x.2.2.2.1 x.2.2.2.2.1 x.2.2.2.2.2.1 x.2.2.2.2.2.2.1
def dzcI:FD D:=⟨12,0,[],[],none,0,[.v 0 .bool],[],[.tmp 0],true⟩
def FzcI (N:Nat):dzcI.F:=fun r x=>zcI N
theorem wzcI (N:Nat):CallOk X0 dzcI (FzcI N):=UU.fn (qsW N) Try.func12
def T57 (N:Nat):TT X0:=(T56 N).ad dzcI (FzcI N) (wzcI N)
def qrC (N:Nat):UU (T57 N).ev (qab Try.f5):=UU.st UU.nil ⟨[1,1,0,1,0,0,1,0,0,1,1,1,0,0],[.o 3 (.box 48), .v 8 (.int .i64), .v 10 (.int .i64)],[(3, .box 0 0)],[1],[⟨.normal,[.v 42 .bool],[]⟩],[3,4,6,7,9]⟩ fun x=>qmb N x.2.1 x.2.2.1
def qrF (N:Nat):UU (T57 N).ev (qab Try.f5):=UU.st (qrC N) ⟨[1,1,0,1,0,0,1,0,0,1,1,1,1,1,0,1,0,0,1,0,0,1,0,0],[.o 3 (.box 48), .v 7 (.sl 33), .v 9 (.sl 33), .v 11 (.int .i64), .v 12 (.int .i64), .v 13 .bool],[(3, .box 0 0)],[1],[⟨.normal,[.v 91 .bool],[]⟩],[3,4,6,7,9,11,12,13]⟩ fun x=>qno N x.2.1 x.2.2.1 x.2.2.2.1 x.2.2.2.2.1 x.2.2.2.2.2.1
def qrE (N:Nat):UU (T57 N).ev (qab Try.f5):=UU.st (qrF N) ⟨[1,1,0,1,0,0,1,0,0,1,1,1,1,1,0,1,0,0,1,0],[.o 3 (.box 48), .v 6 (.sl 70), .v 7 (.sl 33), .v 9 (.sl 33), .v 11 (.int .i64), .v 12 (.int .i64)],[(3, .box 0 0)],[1],[⟨.normal,[.v 11 (.int .i64)],[]⟩,⟨.ret,[.v 2 .bool],[]⟩],[3,4,6,7,9,12]⟩ fun x=>qpy N x.2.1 x.2.2.1 x.2.2.2.1 x.2.2.2.2.1 x.2.2.2.2.2.1
def qrD (N:Nat):UU (T57 N).ev (qab Try.f5):=UU.lp (qrE N) N ⟨[1,1,0,1,0,0,1,0,0,1,1,1,1,1,0,1,0],[.o 3 (.box 48), .v 6 (.sl 70), .v 7 (.sl 33), .v 9 (.sl 33), .v 11 (.int .i64), .v 12 (.int .i64)],[(3, .box 0 0)],[1],[⟨.exit 2,[.v 11 (.int .i64)],[]⟩,⟨.ret,[.v 2 .bool],[]⟩],[3,4,9]⟩ fun n x=>qiy N x.2.1 x.2.2.1 x.2.2.2.1 n x.2.2.2.2.1 x.2.2.2.2.2.1
def qrB (N:Nat):UU (T57 N).ev (qab Try.f5):=UU.st (qrD N) ⟨[1,1,0,1,0,0,1,0],[.o 3 (.box 48)],[(3, .box 0 0)],[2],[⟨.normal,[.u 0 (.box 48)],[]⟩,⟨.ret,[.v 2 .bool],[]⟩],[3,4]⟩ fun x=>qnn N x.1
def qrA (N:Nat):UU (T57 N).ev (qab Try.f5):=UU.lp (qrB N) N ⟨[1,1,0,1,0],[.o 3 (.box 48), .v 4 (.int .i64)],[(3, .box 0 0)],[0],[⟨.exit 0,[],[]⟩,⟨.ret,[.v 2 .bool],[]⟩],[]⟩ fun n x=>qix N n x.1 x.2.1
def dzaS:FD D:=⟨5,1,[.v 0 (.sl 3)],[],none,0,[.v 2 .bool],[],[.tmp 2],true⟩
def FzaS (N:Nat):dzaS.F:=fun r x=>zaS N x.1
theorem wzaS (N:Nat):CallOk X0 dzaS (FzaS N):=UU.fn (qrA N) Try.func5
def T58 (N:Nat):TT X0:=(T57 N).ad dzaS (FzaS N) (wzaS N)
end
end Go.W
end
section
set_option linter.unusedVariables false
set_option linter.unusedSimpArgs false
namespace Go.W
open Go.AM
theorem w64 {n:Int} (h: -9223372036854775808≤n) (h':n≤9223372036854775807):IntKind.wrap .i64 n=n:=by rw[IntKind.wrap_i64];omega
theorem w8 {n:Int} (h:0≤n) (h':n≤255):IntKind.wrap .u8 n=n:=by rw[IntKind.wrap_u8];omega
theorem qac {α β:Type} (x:α) (f:α→Option β):AM.lt x f=f x:=rfl
theorem qaa {α β:Type} (x:α) (f:α→Option β):Option.bind (some x) f=f x:=rfl
theorem qkI {α:Type} {xs:List α} {i:Int} (h0:0≤i) (h1:i<xs.length):∃x,getI xs i=some x∧x∈xs∧xs[i.toNat]? =some x:=by
 have hlt:i.toNat<xs.length:=by omega
 exact ⟨xs[i.toNat],by simp[getI,h0,hlt],by simp,by simp[hlt]⟩
def Mk (c:Int) (s:Maker):Prop:=0≤s.n∧s.n≤c
theorem qbk (N:Nat) {c:Int} {s:Maker} (k:Int) (hk:1≤k) (hk2:k≤1000000) (hs:Mk c s) (hc:c≤1000000000000):∃r s',zbQ N s k=some (r,s')∧0≤r∧r<k∧Mk (c+1) s':=by
 obtain ⟨h0,h1⟩:=hs
 have h15:∃y,qnx N s 0 (decide (0<(s.l.length:Int)))=some y:=by
  unfold qnx
  by_cases hl:0<(s.l.length:Int)
  ·rw[if_pos (by simpa using hl)]
   have hne:(s.l.length:Int)≠0:=by omega
   have hm:modI s.n s.l.length=some (s.n.tmod s.l.length):=by unfold modI;rw[if_neg hne]
   have hd:divI s.n s.l.length=some (s.n.tdiv s.l.length):=by unfold divI;rw[if_neg hne]
   have hr0:0≤s.n.tmod s.l.length:=Int.tmod_nonneg _ h0
   have hr1:s.n.tmod s.l.length<s.l.length:=Int.tmod_lt_of_pos _ hl
   obtain ⟨x,hx,_,_⟩:=qkI hr0 hr1
   rw[hm,qaa,hx,qaa,hd,qaa,qac]
   exact ⟨_,rfl⟩
  ·rw[if_neg (by simpa using hl)]
   exact ⟨_,rfl⟩
 obtain ⟨y,hy⟩:=h15
 unfold zbQ
 rw[hy,qaa]
 have hm:modI y k=some (y.tmod k):=by simp[modI];omega
 have hlt:y.tmod k<k:=Int.tmod_lt_of_pos _ (by omega)
 have hgt: -k<y.tmod k:=by
  have:=Int.lt_tmod_of_pos y (by omega:0<k)
  omega
 have hn:IntKind.wrap .i64 (s.n+1)=s.n+1:=w64 (by omega) (by omega)
 simp only[hm,qaa,hn]
 unfold qpP
 by_cases hneg:y.tmod k<0
 ·rw[if_pos (by simpa using hneg),qac,qaa,w64 (by omega) (by omega)]
  exact ⟨_,_,rfl,by omega,by omega,by constructor<;>simp<;>omega⟩
 ·rw[if_neg (by simpa using hneg),qaa]
  exact ⟨_,_,rfl,by omega,by omega,by constructor<;>simp<;>omega⟩
theorem qo7 (N:Nat) {c:Int} {s:Maker} (l:List Int) (hl:1≤l.length) (hl2:l.length≤1000) (hs:Mk c s) (hc:c≤1000000000000):∃x s',zbR N s l=some (x,s')∧x∈l∧Mk (c+1) s':=by
 obtain ⟨r,s',h1,h2,h3,h4⟩:=qbk N (s:=s) (c:=c) (l.length:Int) (by omega) (by omega) hs hc
 obtain ⟨x,hx,hm,_⟩:=qkI h2 h3
 unfold zbR
 rw[h1,qaa]
 simp only[hx,qaa]
 exact ⟨x,s',rfl,hm,h4⟩
end Go.W
end
section
set_option linter.unusedVariables false
set_option linter.unusedSimpArgs false
namespace Go.W
open Go.AM
theorem qad {α:Type} {xs:List α} {i:Nat} {x:α} (h:xs[i]? =some x):getI xs (i:Int)=some x:=by simp[getI,h]
theorem qam {α:Type} {xs:List α} {i:Nat} (h:i<xs.length):xs[i]? =some xs[i]:=by simp[h]
theorem qbz {α:Type} {xs:List α} {i:Nat} {x:α} (h:xs[i]? =some x):xs.drop i=x::xs.drop (i+1):=by
 obtain ⟨hlt,rfl⟩:=List.getElem?_eq_some_iff.1 h
 exact List.drop_eq_getElem_cons hlt
theorem w64s {i:Nat} (h:i<9223372036854775807):IntKind.wrap .i64 ((i:Int)+1)=((i+1:Nat):Int):=by rw[w64 (by omega) (by omega)];omega
theorem w64p {i:Nat} (h:i<9223372036854775807):IntKind.wrap .i64 (((i+1:Nat):Int) - 1)=(i:Int):=by rw[w64 (by omega) (by omega)];omega
theorem dpos {a b:Int} (h:a<b):decide (a<b)=true:=decide_eq_true h
theorem dneg {a b:Int} (h:¬a<b):¬decide (a<b)=true:=by simpa using h
theorem lpos {a b:Int} (h:a≤b):decide (a≤b)=true:=decide_eq_true h
theorem lneg {a b:Int} (h:¬a≤b):¬decide (a≤b)=true:=by simpa using h
theorem qaR {α:Type} {xs ys:List α} (h:xs.length+ys.length≤4294967296):appI xs ys=some (xs++ys):=if_pos h
theorem qb9 {α:Type} {xs:List α} {i:Nat} (h:i≤xs.length):cutI xs (i:Int) (xs.length:Int)=some (xs.drop i):=by
 unfold cutI;rw[if_pos (by omega)];simp
theorem qca {α:Type} {xs:List α} {i:Nat} (h:i≤xs.length):cutI xs 0 (i:Int)=some (xs.take i):=by
 unfold cutI;rw[if_pos (by omega)];simp
theorem Mk.le {c c':Int} {s:Maker} (h:Mk c s) (hc:c≤c'):Mk c' s:=⟨h.1,Int.le_trans h.2 hc⟩
theorem mk0 (t:List Int):Mk 0 (Maker.mk t 0):=⟨by simp,by simp⟩
def res {α β:Type} (p:Nat→α→Bool) (out:Nat→α→β):Nat→List α→Sum Unit β
 |_,[]=> .inl ()
 |i,x::xs=>if p i x=true then .inr (out i x) else res p out (i+1) xs
theorem qaq {α β:Type} {l:List α} (p:Nat→α→Bool) (out:Nat→α→β) (F:Nat→Int→Option (Sum Unit β)) (h0:∀n,F (n+1) (l.length:Int)=some (.inl ()))
  (h1:∀(n i:Nat) (x:α),l[i]? =some x→F (n+1) (i:Int)=if p i x=true then some (.inr (out i x)) else F n ((i+1:Nat):Int)):∀(k n i:Nat),k<n→i+k=l.length→F n (i:Int)=some (res p out i (l.drop i))
 |k,0,i,hn,_=>by omega
 |0,n+1,i,hn,hi=>by
  obtain rfl:i=l.length:=by omega
  rw[h0,List.drop_length,res]
 |k+1,n+1,i,hn,hi=>by
  have hlt:i<l.length:=by omega
  rw[h1 n i _ (qam hlt),qbz (qam hlt),res]
  split
  ·rfl
  ·exact qaq p out F h0 h1 k n (i+1) (by omega) (by omega)
def qcZ {α:Type} (p:Nat→α→Bool):Nat→List α→Int
 |_,[]=> -1
 |i,x::xs=>if p i x=true then (i:Int) else qcZ p (i+1) xs
theorem qeO {α:Type} (p:Nat→α→Bool):∀(l:List α) (i:Nat),res p (fun i _=>(i:Int)) i l= .inl ()∧qcZ p i l= -1∨res p (fun i _=>(i:Int)) i l= .inr (qcZ p i l)∧0≤qcZ p i l
 |[],i=> .inl ⟨rfl,rfl⟩
 |x::xs,i=>by
  rw[res,qcZ]
  by_cases h:p i x=true
  ·rw[if_pos h,if_pos h];exact .inr ⟨rfl,by omega⟩
  ·rw[if_neg h,if_neg h];exact qeO p xs (i+1)
theorem qeu {α:Type} (p:Nat→α→Bool):∀(l:List α) (i:Nat),(qcZ p i l= -1∧∀(j:Nat) (x:α),l[j]? =some x→p (i+j) x=false)∨
  ∃(j:Nat) (x:α),qcZ p i l=((i+j:Nat):Int)∧l[j]? =some x∧p (i+j) x=true∧∀(j':Nat) (y:α),j'<j→l[j']? =some y→p (i+j') y=false
 |[],i=> .inl ⟨rfl,fun j x h=>by simp at h⟩
 |x::xs,i=>by
  rw[qcZ]
  by_cases h:p i x=true
  ·rw[if_pos h]
   exact .inr ⟨0,x,by simp,by simp,by simpa using h,fun j' y hj=>by omega⟩
  ·rw[if_neg h]
   have h':p i x=false:=by simpa using h
   rcases qeu p xs (i+1) with ⟨h1,h2⟩|⟨j,y,h1,h2,h3,h4⟩
   ·refine .inl ⟨h1,fun j y hj=> ?_⟩
    cases j with
    |zero=>simp at hj;subst hj;exact h'
    |succ j=>have:=h2 j y (by simpa using hj);rwa [show i+1+j=i+(j+1) by omega] at this
   ·refine .inr ⟨j+1,y,by rw[h1];omega,by simpa using h2,by rwa [show i+1+j=i+(j+1) by omega] at h3,fun j' z hj hz=> ?_⟩
    cases j' with
    |zero=>simp at hz;subst hz;exact h'
    |succ j'=>have:=h4 j' z (by omega) (by simpa using hz);rwa [show i+1+j'=i+(j'+1) by omega] at this
theorem qaF {α β:Type} [DecidableEq α] (m:List (α×β)) (a k:α) (b:β):qah (qaC m a b) k=if a=k then some b else qah m k:=by
 induction m with
 |nil=>simp[qaC,qah]
 |cons p m ih=>
  simp only[qaC]
  by_cases h:p.1=a
  ·rw[if_pos h]
   simp only[qah]
   by_cases h2:a=k
   ·simp[h,h2]
   ·simp[h,h2]
  ·rw[if_neg h]
   simp only[qah,ih]
   by_cases h2:p.1=k
   ·have:¬a=k:=fun h3=>h (h2.trans h3.symm)
    simp[h2,this]
   ·simp[h2]
end Go.W
end
section
set_option linter.unusedVariables false
set_option linter.unusedSimpArgs false
namespace Go.W
open Go.AM
theorem qij {α:Type} (p:α→Bool):∀(l:List α) (i:Nat),res (fun _ y=>p y) (fun _ _=>true) i l=if l.any p=true then .inr true else .inl ()
 |[],i=>rfl
 |y::l,i=>by
  rw[res,List.any_cons]
  by_cases h:p y=true
  ·simp[h]
  ·simp only[Bool.not_eq_true] at h
   rw[h,if_neg (by simp),qij p l (i+1),Bool.false_or]
theorem qiE {l:List Int} {x:Int}:(l.any fun y=>y==x)=l.contains x:=by
 induction l with
 |nil=>rfl
 |cons y l ih=>
  rw[List.any_cons,List.contains_cons,ih]
  congr 1
  by_cases h:y=x
  ·rw[h]
  ·have h':¬x=y:=fun hh=>h hh.symm
   have e1:(y==x)=false:=by simpa using h
   have e2:(x==y)=false:=by simpa using h'
   rw[e1,e2]
def qae (x:PlantElement):List Int:=if x.kind=1∨x.kind=3 then [x.a,x.b] else if x.kind=2 then [x.a,x.b,x.c] else []
def eI (l:List PlantElement) (i:Int):List Int:=if 0≤i then (match l[i.toNat]? with|some x=>qae x|none=>[]) else []
theorem qa5 (x:PlantElement):(qae x).length≤3:=by unfold qae;split<;>(try split)<;>simp
theorem qdR (l:List PlantElement) (i:Int):(eI l i).length≤3:=by
 unfold eI
 split
 ·split
  ·exact qa5 _
  ·simp
 ·simp
theorem qff {l:List PlantElement} {i:Nat} {x:PlantElement} (h:l[i]? =some x):eI l (i:Int)=qae x:=by
 unfold eI;rw[if_pos (by omega)];simp[h]
theorem qb2 {l:List PlantElement} {i n:Int} (h:n∈eI l i):0≤i∧i<l.length∧∃x,l[i.toNat]? =some x∧n∈qae x:=by
 unfold eI at h
 split at h
 ·rename_i h0
  split at h
  ·rename_i x hx
   have:=(List.getElem?_eq_some_iff.1 hx).1
   exact ⟨h0,by omega,x,hx,h⟩
  ·simp at h
 ·simp at h
theorem qei (N:Nat) (x:PlantElement):zbV N x=some (qae x):=by
 unfold zbV qae qpR
 simp only[qac]
 by_cases h1:x.kind=1
 ·simp[h1,qaa]
 ·by_cases h3:x.kind=3
  ·simp[h3,qaa]
  ·by_cases h2:x.kind=2
   ·simp[h2,qaa]
   ·simp[h1,h2,h3,qaa]
theorem qja (N:Nat) (l:List PlantElement) (i:Int):zbU N l i=some (eI l i):=by
 unfold zbU qpQ eI
 by_cases h0:i<0
 ·rw[if_pos (dpos h0),qaa,if_pos rfl,if_neg (by omega)]
 ·rw[if_neg (dneg h0),qaa,if_pos (by omega:0≤i)]
  by_cases h1:(l.length:Int)≤i
  ·rw[if_pos (lpos h1),List.getElem?_eq_none (by omega)]
  ·rw[if_neg (lneg h1)]
   have hlt:i.toNat<l.length:=by omega
   have hg:getI l i=some l[i.toNat]:=by simp[getI,hlt];omega
   rw[hg,qaa,qei,qaa,qam hlt]
theorem qcy (N:Nat) (l:List PlantElement) (i:Int):zcK N l i=some (eI l i):=by
 unfold zcK qp1 eI
 by_cases h0:i<0
 ·rw[if_pos (dpos h0),qaa,if_pos rfl,if_neg (by omega)]
 ·rw[if_neg (dneg h0),qaa,if_pos (by omega:0≤i)]
  by_cases h1:(l.length:Int)≤i
  ·rw[if_pos (lpos h1),List.getElem?_eq_none (by omega)]
  ·rw[if_neg (lneg h1)]
   have hlt:i.toNat<l.length:=by omega
   have hg:getI l i=some l[i.toNat]:=by simp[getI,hlt];omega
   rw[hg,qaa,qam hlt]
   generalize l[i.toNat]=x at*
   simp only[hg,qaa,qac]
   unfold qae qp2
   by_cases h1:x.kind=1
   ·simp[h1,qaa]
   ·by_cases h3:x.kind=3
    ·simp[h3,qaa,qac]
    ·by_cases h2:x.kind=2
     ·simp[h2,qaa,qac]
     ·simp[h1,h2,h3,qaa,qac]
theorem qkK {l:List Int} {x:Int} (F:Nat→Int→Option (Sum Unit Bool)) (h0:∀n,F (n+1) (l.length:Int)=some (.inl ())) (h1:∀(n i:Nat) (y:Int),l[i]? =some y→F (n+1) (i:Int)=if (y==x)=true then some (.inr true) else F n ((i+1:Nat):Int))
  {n:Nat} (hn:l.length<n):F n 0=some (if l.contains x=true then .inr true else .inl ()):=by
 have h:=qaq (l:=l) (fun _ y=>y==x) (fun _ _=>true) F h0 h1 l.length n 0 hn (by omega)
 simp only[Int.natCast_zero,List.drop_zero] at h
 rw[h,qij (fun y=>y==x),qiE]
theorem qil (N:Nat) {l:List Int} (hN:l.length<N) (hl:l.length≤1000000) (x:Int):zcQ N l x=some (l.contains x):=by
 have h:=qkK (l:=l) (x:=x) (fun n i=>qhM N l x n i) (fun n=>by
  show qhM N l x (n+1) _=_
  rw[qhM,if_neg (dneg (by omega))]) (fun n i y hy=>by
  show qhM N l x (n+1) _=_
  have hlt:=(List.getElem?_eq_some_iff.1 hy).1
  rw[qhM,if_pos (dpos (by omega)),qad hy,qaa,qac,w64s (by omega)]) hN
 unfold zcQ
 rw[h,qaa]
 cases l.contains x<;>rfl
def nbrB (i n:Int) (k:Nat) (x:PlantElement):Bool:=((k:Int) !=i)&&(qae x).contains n
def nbr (l:List PlantElement) (i n:Int):Int:=qcZ (nbrB i n) 0 l
theorem quB (N:Nat) (hN:4≤N) (x:PlantElement) (n k:Int):qgD N n k (qae x) (qae x).length N 0=some (if (qae x).contains n=true then .inr k else .inl ()):=by
 have h:=qaq (l:=qae x) (fun _ y=>y==n) (fun _ _=>k) (fun m i=>qgD N n k (qae x) (qae x).length m i) (fun m=>by
  show qgD N n k (qae x) (qae x).length (m+1) _=_
  rw[qgD,if_neg (dneg (by omega))]) (fun m i y hy=>by
  show qgD N n k (qae x) (qae x).length (m+1) _=_
  have hlt:=(List.getElem?_eq_some_iff.1 hy).1
  have:=qa5 x
  rw[qgD,if_pos (dpos (by omega)),qad hy]
  simp only[qaa,w64s (show i<9223372036854775807 by omega)]) (qae x).length N 0 (by have:=qa5 x;omega) (by omega)
 simp only[Int.natCast_zero,List.drop_zero] at h
 rw[h]
 congr 1
 rw[←qiE]
 generalize qae x=e
 have key:∀(e:List Int) (i:Nat),res (fun _ y=>y==n) (fun _ _=>k) i e=if (e.any fun y=>y==n)=true then .inr k else .inl ():=by
  intro e
  induction e with
  |nil=>intro i;rfl
  |cons y e ih=>
   intro i
   rw[res,List.any_cons]
   by_cases h:(y==n)=true
   ·simp[h]
   ·simp only[Bool.not_eq_true] at h
    rw[h,if_neg (by simp),ih,Bool.false_or]
 exact key e 0
theorem qk8 {F:Option (Sum Unit Int)} {l:List PlantElement} {i n:Int} (h:F=some (res (nbrB i n) (fun k _=>(k:Int)) 0 l)):(Option.bind F fun y=>match y with| .inl _=>some (-1)| .inr y=>some y)=some (nbr l i n):=by
 rw[h,qaa]
 unfold nbr
 rcases qeO (nbrB i n) l 0 with ⟨h1,h2⟩|⟨h1,h2⟩
 ·rw[h1,h2]
 ·rw[h1]
theorem qlv (N:Nat) {l:List PlantElement} (hN:l.length+4≤N) (hl:l.length≤1000000) (i n:Int):zaJ N l i n=some (nbr l i n):=by
 unfold zaJ
 refine qk8 ?_
 have h:=qaq (l:=l) (nbrB i n) (fun k _=>(k:Int)) (fun m j=>qhC N i n l l.length m j) (fun m=>by
  show qhC N i n l l.length (m+1) _=_
  rw[qhC,if_neg (dneg (by omega))]) (fun m j x hx=>by
  show qhC N i n l l.length (m+1) _=_
  have hlt:=(List.getElem?_eq_some_iff.1 hx).1
  rw[qhC,if_pos (dpos (by omega))]
  unfold qpu nbrB
  rw[qad hx,qaa]
  by_cases hji:(j:Int)=i
  ·rw[if_pos (by simpa using hji)]
   simp only[qaa,hji,bne_self_eq_false,Bool.false_and,Bool.false_eq_true,if_false]
   rw[←hji,w64s (by omega)]
  ·rw[if_neg (by simpa using hji),qei,qaa,quB N (by omega),qaa]
   have hb:((j:Int) !=i)=true:=by simpa using hji
   rw[hb,Bool.true_and]
   by_cases hc:(qae x).contains n=true
   ·rw[if_pos hc,if_pos hc];rfl
   ·rw[if_neg hc,if_neg hc]
    simp only[qaa]
    rw[w64s (by omega)]) l.length N 0 (by omega) (by omega)
 simpa using h
theorem qeQ (N:Nat) {l:List PlantElement} (hN:l.length+4≤N) (hl:l.length≤1000000) (i n:Int):zaW N l i n=some (nbr l i n):=by
 unfold zaW
 refine qk8 ?_
 have h:=qaq (l:=l) (nbrB i n) (fun k _=>(k:Int)) (fun m j=>qhE N l i n m j) (fun m=>by
  show qhE N l i n (m+1) _=_
  rw[qhE,if_neg (dneg (by omega))]) (fun m j x hx=>by
  show qhE N l i n (m+1) _=_
  have hlt:=(List.getElem?_eq_some_iff.1 hx).1
  have hlen:=qa5 x
  rw[qhE,if_pos (dpos (by omega))]
  unfold qpE nbrB
  by_cases hji:(j:Int)=i
  ·have hb:((j:Int) !=i)=false:=by simpa using hji
   rw[hb,Bool.false_and]
   simp only[Bool.false_eq_true,if_false,qaa,qac]
   rw[w64s (by omega)]
  ·have hb:((j:Int) !=i)=true:=by simpa using hji
   rw[hb,if_pos rfl,qcy,qaa,qff hx,qil N (by omega) (by omega),qaa,qaa,Bool.true_and,qac,w64s (by omega)]) l.length N 0 (by omega) (by omega)
 simpa using h
def thrE (e:List Int) (n:Int):List Int:=if e.contains n=true then (if e.head? =some n then e.tail else e.take 1) else []
def thr (l:List PlantElement) (i n:Int):List Int:=thrE (eI l i) n
theorem qlx (N:Nat) (n:Int) {e:List Int} (he:e.length≤3):qcG N n e.length 4 e 0=some (if e.contains n=true then .inr (thrE e n) else .inl ()):=by
 match e,he with
 |[],_=>rfl
 |[a],_=>
  by_cases h:a=n
  ·subst h
   simp[qcG,getI,qaa,qac,cutI,thrE,w64s]
  ·have h':¬n=a:=fun hh=>h hh.symm
   simp[qcG,getI,qaa,qac,cutI,thrE,h,h',w64]
 |[a,b],_=>
  by_cases h:a=n
  ·subst h
   simp[qcG,getI,qaa,qac,cutI,thrE,w64s]
  ·have h':¬n=a:=fun hh=>h hh.symm
   by_cases h2:b=n
   ·subst h2
    simp[qcG,getI,qaa,qac,cutI,thrE,h,h',w64]
   ·have h2':¬n=b:=fun hh=>h2 hh.symm
    simp[qcG,getI,qaa,qac,cutI,thrE,h,h',h2,h2',w64]
 |[a,b,c],_=>
  by_cases h:a=n
  ·subst h
   simp[qcG,getI,qaa,qac,cutI,thrE,w64s]
  ·have h':¬n=a:=fun hh=>h hh.symm
   by_cases h2:b=n
   ·subst h2
    simp[qcG,getI,qaa,qac,cutI,thrE,h,h',w64]
   ·have h2':¬n=b:=fun hh=>h2 hh.symm
    by_cases h3:c=n
    ·subst h3
     simp[qcG,getI,qaa,qac,cutI,thrE,h,h',h2,h2',w64]
    ·have h3':¬n=c:=fun hh=>h3 hh.symm
     simp[qcG,getI,qaa,qac,cutI,thrE,h,h',h2,h2',h3,h3',w64]
 |a::b::c::d::e,h=>simp at h
theorem qfn {N:Nat} {n m:Int}:∀{k k':Nat} {e:List Int} {i:Int} {r:Sum Unit (List Int)},k≤k'→qcG N n m k e i=some r→qcG N n m k' e i=some r
 |0,_,_,_,_,_,h=>by cases h
 |k+1,0,_,_,_,hk,_=>by omega
 |k+1,k'+1,e,i,r,hk,h=>by
  rw[qcG] at h⊢
  split at h
  ·rename_i hc
   rw[if_pos hc]
   cases h1:getI e i with
   |none=>rw[h1] at h;cases h
   |some a=>
    rw[h1] at h
    simp only[qaa] at h⊢
    split at h
    ·rename_i hn
     rw[if_pos hn]
     exact qfn (by omega) h
    ·rename_i hn
     rw[if_neg hn]
     exact h
  ·rename_i hc
   rw[if_neg hc]
   exact h
theorem qpb (N:Nat) (hN:4≤N) (l:List PlantElement) (i n:Int):zaT N l i n=some (thr l i n):=by
 unfold zaT thr
 rw[qja,qaa,qfn hN (qlx N n (qdR l i)),qaa]
 by_cases hc:(eI l i).contains n=true
 ·rw[if_pos hc]
 ·rw[if_neg hc,thrE,if_neg hc]
theorem qlR (N:Nat) (hN:4≤N) (l:List PlantElement) (i n:Int):zbK N l i n=some (thr l i n):=by
 unfold zbK thr
 have hl:=qdR l i
 rw[qcy,qaa,qil N (by omega) (by omega),qaa,qac]
 generalize eI l i=e at*
 unfold thrE
 by_cases hc:e.contains n=true
 ·rw[hc]
  cases e with
  |nil=>simp at hc
  |cons a e=>
   simp only[Bool.not_true,Bool.false_eq_true,if_false,getI,Int.le_refl,if_true,Int.toNat_zero,List.getElem?_cons_zero,qaa,qac,List.head?_cons,List.tail_cons]
   by_cases ha:a=n
   ·subst ha
    have:=qb9 (xs:=a::e) (i:=1) (by simp)
    simp only[beq_self_eq_true,if_true]
    rw[show (1:Int)=((1:Nat):Int) from rfl,this,qaa,qaR (by simp at hl⊢;omega),qaa]
    simp
   ·have:(a==n)=false:=by simpa using ha
    rw[this]
    simp[ha]
 ·simp only[Bool.not_eq_true] at hc
  rw[hc]
  simp
end Go.W
end
section
set_option linter.unusedVariables false
set_option linter.unusedSimpArgs false
namespace Go.W
open Go.AM
def pnCh (u:UInt8):Bool:=(decide (97≤u.toNat)&&decide (u.toNat≤122))||(decide (48≤u.toNat)&&decide (u.toNat≤57))
def pnOk (l:List UInt8):Bool:=l.all pnCh&&(decide (1≤l.length)&&decide (l.length≤12))
theorem qq2 (N:Nat) {l:List UInt8} {i:Nat} {u:UInt8} (h:l[i]? =some u):qnz N l i=some (!pnCh u):=by
 unfold qnz pnCh
 rw[qad h]
 simp only[qaa]
 by_cases a:97≤u.toNat
 ·rw[if_neg (by simp;omega)]
  by_cases b:u.toNat≤122
  ·rw[if_neg (by simp;omega)];simp[a,b]
  ·rw[if_pos (by simp;omega),if_neg (by simp;omega)]
   simp[a,b,show ¬u.toNat≤57 by omega,show (57:Int)<u.toNat by omega]
 ·rw[if_pos (by simp;omega)]
  by_cases c:u.toNat<48
  ·rw[if_pos (by simp;omega)];simp[a,show ¬48≤u.toNat by omega]
  ·rw[if_neg (by simp;omega)]
   by_cases d:u.toNat≤57
   ·simp[a,show 48≤u.toNat by omega,d,show ¬(57:Int)<u.toNat by omega]
   ·simp[a,show 48≤u.toNat by omega,d,show (57:Int)<u.toNat by omega]
theorem qq6 (N:Nat) {l:List UInt8} {i:Nat} {u:UInt8} (h:l[i]? =some u):qnG N l i=some (!pnCh u):=by
 unfold qnG pnCh
 rw[qad h]
 simp only[qaa]
 by_cases a:97≤u.toNat
 ·rw[if_pos (by simp;omega)]
  by_cases b:u.toNat≤122
  ·rw[if_pos (by simp;omega)];simp[a,b]
  ·rw[if_neg (by simp;omega)]
   by_cases c:48≤u.toNat
   ·rw[if_pos (by simp;omega)];simp[a,b,c];omega
   ·omega
 ·rw[if_neg (by simp;omega)]
  by_cases c:48≤u.toNat
  ·rw[if_pos (by simp;omega)]
   simp[a,c]
   omega
  ·rw[if_neg (by simp;omega)];simp[a,c]
theorem qii {α β:Type} (p:α→Bool) (b:β):∀(l:List α) (i:Nat),res (fun _ y=> !p y) (fun _ _=>b) i l=if l.all p=true then .inl () else .inr b
 |[],i=>rfl
 |y::l,i=>by
  rw[res,List.all_cons]
  by_cases h:p y=true
  ·rw[h];simp only[Bool.not_true,Bool.false_eq_true,if_false,Bool.true_and];exact qii p b l (i+1)
  ·simp only[Bool.not_eq_true] at h
   rw[h];simp
theorem qmX (N:Nat) {l:List UInt8} (hN:14≤N):zbW N l=some (pnOk l):=by
 unfold zbW qpS pnOk
 by_cases h1:l.length<1
 ·rw[if_pos (dpos (by omega)),qaa,if_pos rfl]
  simp[show ¬1≤l.length by omega]
 ·rw[if_neg (dneg (by omega)),qaa]
  by_cases h2:12<l.length
  ·rw[if_pos (by simpa using by omega)]
   simp[show ¬l.length≤12 by omega]
  ·rw[if_neg (by simpa using by omega)]
   have h:=qaq (l:=l) (fun _ y=> !pnCh y) (fun _ _=>false) (fun m i=>qhG N l l.length m i) (fun m=>by
    show qhG N l l.length (m+1) _=_
    rw[qhG,if_neg (dneg (by omega))]) (fun m i y hy=>by
    show qhG N l l.length (m+1) _=_
    have hlt:=(List.getElem?_eq_some_iff.1 hy).1
    rw[qhG,if_pos (dpos (by omega)),qq2 N hy,qaa,w64s (by omega)]) l.length N 0 (by omega) (by omega)
   simp only[Int.natCast_zero,List.drop_zero] at h
   rw[h,qii pnCh,qaa]
   by_cases h3:l.all pnCh=true
   ·rw[if_pos h3,h3];simp[show 1≤l.length by omega,show l.length≤12 by omega]
   ·rw[if_neg h3];simp only[Bool.not_eq_true] at h3;rw[h3];simp
theorem qm5 (N:Nat) {l:List UInt8} (hN:l.length<N) (hl:l.length≤9223372036854775807):zcJ N l=some (pnOk l):=by
 unfold zcJ pnOk
 have h:=qaq (l:=l) (fun _ y=> !pnCh y) (fun _ _=>false) (fun m i=>qhL N l m i) (fun m=>by
  show qhL N l (m+1) _=_
  rw[qhL,if_neg (dneg (by omega))]) (fun m i y hy=>by
  show qhL N l (m+1) _=_
  have hlt:=(List.getElem?_eq_some_iff.1 hy).1
  rw[qhL,if_pos (dpos (by omega)),qq6 N hy,qaa,qac,w64s (by omega)]) l.length N 0 (by omega) (by omega)
 simp only[Int.natCast_zero,List.drop_zero] at h
 rw[h,qii pnCh,qaa]
 by_cases h3:l.all pnCh=true
 ·rw[if_pos h3,h3]
  unfold qp0
  by_cases a:1≤l.length
  ·rw[if_pos (lpos (by omega))];simp only[qac,qaa,decide_eq_true a,Bool.true_and];congr 1;rw[decide_eq_decide];omega
  ·rw[if_neg (lneg (by omega))];simp[a,qaa]
 ·rw[if_neg h3];simp only[Bool.not_eq_true] at h3;rw[h3];simp
def pE (e:List Int) (i:Nat) (a:Int):Bool:=(decide (a<0)||decide (64≤a))||(e.take i).contains a
def okE (e:List Int):Bool:=match res (pE e) (fun _ _=>false) 0 e with| .inl _=>true| .inr _=>false
def qaL (x:PlantElement):Bool:=
 (!(qae x).isEmpty&&pnOk x.name)&&(okE (qae x)&&if x.kind=1 then x.c==0&&(decide (1≤x.length)&&decide (x.length≤100000)) else x.length==0&&(x.kind==2||x.c==0))
theorem qbV {α β:Type} {p:Nat→α→Bool} {out:Nat→α→β}:∀{l:List α} {i:Nat},res p out i l= .inl ()↔∀(j:Nat) (x:α),l[j]? =some x→p (i+j) x=false
 |[],i=>by simp[res]
 |x::l,i=>by
  rw[res]
  by_cases h:p i x=true
  ·rw[if_pos h]
   constructor
   ·intro hh;cases hh
   ·intro hh
    have:=hh 0 x rfl
    rw[Nat.add_zero,h] at this;cases this
  ·rw[if_neg h,qbV]
   simp only[Bool.not_eq_true] at h
   constructor
   ·intro hh j y hj
    cases j with
    |zero=>simp at hj;subst hj;exact h
    |succ j=>have:=hh j y (by simpa using hj);rwa [show i+1+j=i+(j+1) by omega] at this
   ·intro hh j y hj
    have:=hh (j+1) y (by simpa using hj)
    rwa [show i+(j+1)=i+1+j by omega] at this
theorem qgc {e:List Int}:okE e=true↔e.Nodup∧∀a∈e,0≤a∧a<64:=by
 have h1:okE e=true↔res (pE e) (fun _ _=>false) 0 e= .inl ():=by
  unfold okE
  split
  ·rename_i u h;simp[h]
  ·rename_i u h;simp[h]
 rw[h1,qbV]
 constructor
 ·intro h
  refine ⟨?_,fun a ha=> ?_⟩
  ·refine List.pairwise_iff_getElem.2 fun i j hi hj hij heq=> ?_
   have hj':=qam hj
   have:=h j _ hj'
   rw[Nat.zero_add] at this
   simp only[pE,Bool.or_eq_false_iff,List.contains_eq_mem,decide_eq_false_iff_not] at this
   apply this.2
   refine List.mem_of_getElem? (i:=i) ?_
   rw[List.getElem?_take,if_pos hij,qam hi,heq]
  ·obtain ⟨j,hj⟩:=List.getElem?_of_mem ha
   have:=h j a hj
   simp only[pE,Bool.or_eq_false_iff,decide_eq_false_iff_not] at this
   omega
 ·rintro ⟨h2,h3⟩ j x hj
  rw[Nat.zero_add]
  have:=h3 x (List.mem_of_getElem? hj)
  simp only[pE,Bool.or_eq_false_iff,decide_eq_false_iff_not]
  refine ⟨⟨by omega,by omega⟩, ?_⟩
  simp only[List.contains_eq_mem,decide_eq_false_iff_not]
  intro hm
  obtain ⟨i,hi⟩:=List.getElem?_of_mem hm
  rw[List.getElem?_take] at hi
  split at hi
  ·rename_i hij
   have hjl:=(List.getElem?_eq_some_iff.1 hj).1
   obtain ⟨hil,hi⟩:=List.getElem?_eq_some_iff.1 hi
   obtain ⟨_,hj⟩:=List.getElem?_eq_some_iff.1 hj
   exact List.pairwise_iff_getElem.1 h2 i j hil hjl hij (by rw[hi,hj])
  ·cases hi
theorem qpa (N:Nat) {e:List Int} (hN:e.length<N) (hl:e.length≤1000000) (a:Int):qgF N a e e.length N 0=some (if e.contains a=true then .inr false else .inl ()):=by
 have h:=qaq (l:=e) (fun _ y=>y==a) (fun _ _=>false) (fun m i=>qgF N a e e.length m i) (fun m=>by
  show qgF N a e e.length (m+1) _=_
  rw[qgF,if_neg (dneg (by omega))]) (fun m i y hy=>by
  show qgF N a e e.length (m+1) _=_
  have hlt:=(List.getElem?_eq_some_iff.1 hy).1
  rw[qgF,if_pos (dpos (by omega)),qad hy,qaa,w64s (by omega)]
  by_cases hay:a=y
  ·rw[if_pos (by simpa using hay),if_pos (by simpa using hay.symm)]
  ·rw[if_neg (by simpa using hay),if_neg (by simpa using fun hh:y=a=>hay hh.symm)]) e.length N 0 hN (by omega)
 simp only[Int.natCast_zero,List.drop_zero] at h
 rw[h]
 congr 1
 have key:∀(e:List Int) (i:Nat),res (fun _ y=>y==a) (fun _ _=>false) i e=if (e.any fun y=>y==a)=true then .inr false else .inl ():=by
  intro e
  induction e with
  |nil=>intro i;rfl
  |cons y e ih=>
   intro i
   rw[res,List.any_cons]
   by_cases h:(y==a)=true
   ·simp[h]
   ·simp only[Bool.not_eq_true] at h
    rw[h,if_neg (by simp),ih,Bool.false_or]
 rw[key,qiE]
theorem qo9 (N:Nat) (hN:10≤N) {e:List Int} (he:e.length≤3):qgE N e e e.length N 0=some (res (pE e) (fun _ _=>false) 0 e):=by
 have h:=qaq (l:=e) (pE e) (fun _ _=>false) (fun m i=>qgE N e e e.length m i) (fun m=>by
  show qgE N e e e.length (m+1) _=_
  rw[qgE,if_neg (dneg (by omega))]) (fun m i a ha=>by
  show qgE N e e e.length (m+1) _=_
  have hlt:=(List.getElem?_eq_some_iff.1 ha).1
  rw[qgE,if_pos (dpos (by omega)),qad ha,qaa]
  unfold qpB pE
  by_cases h0:a<0
  ·rw[if_pos (dpos h0),qaa];simp[h0]
  ·rw[if_neg (dneg h0),qaa]
   by_cases h1:64≤a
   ·simp[h1]
   ·rw[if_neg (by simpa using by omega),qca (by omega),qaa,qpa N (by rw[List.length_take];omega) (by rw[List.length_take];omega),qaa]
    have e1:decide (a<0)=false:=by simpa using by omega
    have e2:decide (64≤a)=false:=by simpa using by omega
    rw[e1,e2,Bool.false_or,Bool.false_or]
    by_cases hc:(e.take i).contains a=true
    ·rw[if_pos hc,if_pos hc]
    ·rw[if_neg hc,if_neg hc]
     simp only[]
     rw[w64s (by omega)]) e.length N 0 (by omega) (by omega)
 simpa using h
theorem qpi (N:Nat) (hN:10≤N) {e:List Int} (he:e.length≤3):qgM N e N 0=some (res (pE e) (fun _ _=>false) 0 e):=by
 have h:=qaq (l:=e) (pE e) (fun _ _=>false) (fun m i=>qgM N e m i) (fun m=>by
  show qgM N e (m+1) _=_
  rw[qgM,if_neg (dneg (by omega))]) (fun m i a ha=>by
  show qgM N e (m+1) _=_
  have hlt:=(List.getElem?_eq_some_iff.1 ha).1
  rw[qgM,if_pos (dpos (by omega))]
  unfold qpU pE
  rw[qad ha]
  simp only[qaa]
  by_cases h0:a<0
  ·rw[if_pos (dpos h0),qaa];simp[h0]
  ·rw[if_neg (dneg h0)]
   by_cases h1:64≤a
   ·rw[if_pos (lpos h1),qaa];simp[h1]
   ·rw[if_neg (lneg h1),qca (by omega),qaa,qil N (by rw[List.length_take];omega) (by rw[List.length_take];omega),qaa,qaa]
    have e1:decide (a<0)=false:=by simpa using by omega
    have e2:decide (64≤a)=false:=by simpa using by omega
    rw[e1,e2,Bool.false_or,Bool.false_or,qac,w64s (by omega)]) e.length N 0 (by omega) (by omega)
 simpa using h
theorem qjP (N:Nat) (hN:20≤N) (x:PlantElement) (hx:qae x≠[]∨pnOk x.name=false):zaV N x=some (qaL x):=by
 unfold zaV qaL qpA
 have he:=qa5 x
 rw[qei,qaa,qmX N (by omega)]
 by_cases hne:qae x=[]
 ·have hn:pnOk x.name=false:=by rcases hx with h|h;exact absurd hne h;exact h
  rw[hne,hn]
  simp[nilT,qaa]
 ·have hnil:∀{β:Type} (f:Bool→Option β),nilT (qae x) f=f false:=fun f=>by unfold nilT;rw[if_neg hne]
  rw[hnil]
  have hie:(qae x).isEmpty=false:=by cases h:qae x with|nil=>exact absurd h hne|cons _ _=>rfl
  simp only[Bool.false_eq_true,if_false,qaa,hie,Bool.not_false,Bool.true_and]
  by_cases hn:pnOk x.name=true
  ·rw[hn]
   simp only[Bool.not_true,Bool.false_eq_true,if_false,Bool.true_and]
   rw[qo9 N (by omega) he,qaa]
   unfold okE
   cases hr:res (pE (qae x)) (fun _ _=>false) 0 (qae x) with
   |inr b=>
    have:b=false:=by
     have key:∀(e:List Int) (i:Nat) (b:Bool),res (pE (qae x)) (fun _ _=>false) i e= .inr b→b=false:=by
      intro e
      induction e with
      |nil=>intro i b h;cases h
      |cons y e ih=>
       intro i b h
       rw[res] at h
       split at h
       ·cases h;rfl
       ·exact ih _ _ h
     exact key _ _ _ hr
    subst this
    simp
   |inl u=>
    simp only[Bool.true_and]
    by_cases h1:x.kind=1
    ·rw[if_pos (by simpa using h1),if_pos h1]
     unfold qpC
     by_cases hc:x.c=0
     ·rw[if_pos (by simpa using hc)]
      by_cases ha:1≤x.length
      ·rw[if_pos (lpos ha)];simp[qac,qaa,hc,ha]
      ·rw[if_neg (lneg ha)];simp[qaa,ha]
     ·rw[if_neg (by simpa using hc)];simp[qaa,hc]
    ·rw[if_neg (by simpa using h1),if_neg h1]
     unfold qpD
     by_cases ha:x.length=0
     ·rw[if_pos (by simpa using ha)]
      by_cases h2:x.kind=2
      ·rw[if_pos (by simpa using h2)];simp[qaa,ha,h2]
      ·rw[if_neg (by simpa using h2)];simp[qac,qaa,ha,h2]
     ·rw[if_neg (by simpa using ha)];simp[qaa,ha]
  ·simp only[Bool.not_eq_true] at hn
   rw[hn];simp
theorem qlu (N:Nat) (x:PlantElement):zaN N x=if qae x=[] then some () else none:=by
 unfold zaN qpv qae
 simp only[qac]
 by_cases h1:x.kind=1
 ·simp[h1,qaa]
 ·by_cases h3:x.kind=3
  ·simp[h3,qaa]
  ·by_cases h2:x.kind=2
   ·simp[h2,qaa]
   ·simp[h1,h2,h3,qaa]
theorem qlw (N:Nat) (hN:20≤N) (x:PlantElement):zbJ N x=some (qaL x):=by
 unfold zbJ zaU
 rw[qlu]
 by_cases he:qae x=[]
 ·rw[if_pos he,qaa]
  have h0:qpz N=some true:=rfl
  rw[h0,qaa,if_pos rfl]
  unfold qaL
  rw[he]
  rfl
 ·rw[if_neg he,qjP N hN x (.inl he)]
  rfl
theorem qlQ (N:Nat) {l:List PlantElement} {i:Nat} {x:PlantElement} (hx:l[i]? =some x) (hN:20≤N) (hn:x.name.length<N) (hn2:x.name.length≤9223372036854775807):zcC N l i=some (qaL x):=by
 unfold zcC qaL qpT
 have he:=qa5 x
 rw[qad hx,qaa,qcy,qff hx,qaa,qm5 N hn hn2]
 by_cases hne:qae x=[]
 ·rw[hne];simp[qaa]
 ·have hie:(qae x).isEmpty=false:=by cases h:qae x with|nil=>exact absurd h hne|cons _ _=>rfl
  have hlen:((qae x).length:Int)≠0:=by cases h:qae x with|nil=>exact absurd h hne|cons _ _=>simp;omega
  rw[if_neg (by simpa using hlen)]
  simp only[qaa,hie,Bool.not_false,Bool.true_and]
  by_cases hnm:pnOk x.name=true
  ·rw[hnm]
   simp only[Bool.not_true,Bool.false_eq_true,if_false,Bool.true_and]
   rw[qpi N (by omega) he,qaa]
   unfold okE
   cases hr:res (pE (qae x)) (fun _ _=>false) 0 (qae x) with
   |inr b=>
    have:b=false:=by
     have key:∀(e:List Int) (i:Nat) (b:Bool),res (pE (qae x)) (fun _ _=>false) i e= .inr b→b=false:=by
      intro e
      induction e with
      |nil=>intro i b h;cases h
      |cons y e ih=>
       intro i b h
       rw[res] at h
       split at h
       ·cases h;rfl
       ·exact ih _ _ h
     exact key _ _ _ hr
    subst this
    simp
   |inl u=>
    simp only[Bool.true_and]
    unfold qpV
    have hl2:((qae x).length:Int)=2↔(x.kind=1∨x.kind=3):=by
     unfold qae
     split
     ·rename_i h;simp[h]
     ·rename_i h
      split
      ·simp[h]
      ·simp[h]
    by_cases h1:x.kind=1
    ·rw[if_pos (by simpa using hl2.2 (.inl h1)),qaa,if_pos h1]
     by_cases hc:x.c=0
     ·unfold qpW
      by_cases ha:1≤x.length
      ·simp[qac,qaa,hc,ha,h1]
      ·simp[qaa,ha,h1,hc]
     ·simp[hc]
    ·by_cases h3:x.kind=3
     ·rw[if_pos (by simpa using hl2.2 (.inr h3)),qaa,if_neg h1]
      by_cases hc:x.c=0
      ·simp[qac,hc,h3]
      ·simp[hc,h3]
     ·have h2:x.kind=2:=by
       have:=hne
       unfold qae at this
       rw[if_neg (by omega)] at this
       split at this
       ·assumption
       ·exact absurd rfl this
      have hl:¬((qae x).length:Int)=2:=by rw[hl2];omega
      rw[if_neg (by simpa using hl),qaa,if_neg h1]
      simp[qac,h2]
  ·simp only[Bool.not_eq_true] at hnm
   rw[hnm];simp
end Go.W
end
section
set_option linter.unusedVariables false
set_option linter.unusedSimpArgs false
namespace Go.W
open Go.AM
def cnt (l:List PlantElement) (n:Int):Int:=((l.filter fun x=>(qae x).contains n).length:Int)
theorem qdu (l:List PlantElement) (n:Int):0≤cnt l n:=by unfold cnt;omega
theorem qnK (l:List PlantElement) (n:Int):cnt l n≤l.length:=by unfold cnt;have:=List.length_filter_le (fun x=>(qae x).contains n) l;omega
theorem qba {α:Type} {l:List α} {i:Nat} {x:α} (h:l[i]? =some x):l.take (i+1)=l.take i++[x]:=by
 rw[List.take_add_one,h];rfl
theorem qb7 (l:List PlantElement) (x:PlantElement) (n:Int):cnt (l++[x]) n=cnt l n+if n∈qae x then 1 else 0:=by
 unfold cnt
 rw[List.filter_append]
 by_cases h:n∈qae x
 ·simp[h]
 ·simp[h]
def qax (l:List PlantElement) (i:Nat) (x:PlantElement):Int:=
 if qaL x=false then 1 else if ((l.take i).any fun y=>y.name==x.name)=true then 8 else if ((qae x).any fun n=>cnt (l.take i) n==2)=true then 17 else 0
def pC (l:List PlantElement) (i:Nat) (x:PlantElement):Bool:=qax l i x !=0
def vErr (l:List PlantElement):Int:=if 96<l.length then 3 else match res (pC l) (qax l) 0 l with| .inl _=>0| .inr c=>c
structure VInv (l:List PlantElement) (i:Nat) (x3:List (List UInt8×Bool)) (x4:List (Int×Int)):Prop where
 nm:∀k,(qah x3 k).getD false=(l.take i).any fun y=>y.name==k
 ct:∀n,(qah x4 n).getD 0=cnt (l.take i) n
theorem pv1 (N:Nat) {e:List Int} (hd:e.Nodup) (hl:e.length≤3):∀(k n i:Nat) (x4:List (Int×Int)),k<n→i+k=e.length→(∀a,0≤(qah x4 a).getD 0∧(qah x4 a).getD 0≤1000+i)→
  (((e.drop i).any fun a=>(qah x4 a).getD 0==2)=true∧qgI N e e.length n x4 i=some (.inr 17))∨
  (((e.drop i).any fun a=>(qah x4 a).getD 0==2)=false∧∃x4',qgI N e e.length n x4 i=some (.inl x4')∧∀m,(qah x4' m).getD 0=(qah x4 m).getD 0+if m∈e.drop i then 1 else 0)
 |k,0,i,x4,hn,_,_=>by omega
 |0,n+1,i,x4,hn,hi,hb=>by
  obtain rfl:i=e.length:=by omega
  rw[qgI,if_neg (dneg (by omega)),List.drop_length]
  exact .inr ⟨rfl,x4,rfl,fun m=>by simp⟩
 |k+1,n+1,i,x4,hn,hi,hb=>by
  have hlt:i<e.length:=by omega
  have ha:=qam hlt
  rw[qgI,if_pos (dpos (by omega)),qad ha,qbz ha,List.any_cons]
  simp only[qaa,qac]
  have hba:=hb e[i]
  by_cases h2:(qah x4 e[i]).getD 0=2
  ·have h2':((qah x4 e[i]).getD 0==2)=true:=by simpa using h2
   rw[if_pos h2',h2']
   exact .inl ⟨rfl,rfl⟩
  ·have h2':((qah x4 e[i]).getD 0==2)=false:=by simpa using h2
   rw[if_neg (by rw[h2'];simp),w64s (by omega),w64 (by omega) (by omega),h2',Bool.false_or]
   have hset:∀m,(qah (qaC x4 e[i] ((qah x4 e[i]).getD 0+1)) m).getD 0=(qah x4 m).getD 0+if m=e[i] then 1 else 0:=by
    intro m
    rw[qaF]
    by_cases hm:m=e[i]
    ·subst hm;simp
    ·rw[if_neg (fun hh=>hm hh.symm),if_neg hm];simp
   have hnot:e[i]∉e.drop (i+1):=by
    intro hm
    obtain ⟨j,hj⟩:=List.getElem?_of_mem hm
    rw[List.getElem?_drop] at hj
    obtain ⟨hjl,hj⟩:=List.getElem?_eq_some_iff.1 hj
    exact List.pairwise_iff_getElem.1 hd i (i+1+j) hlt hjl (by omega) hj.symm
   have hany:((e.drop (i+1)).any fun a=>(qah (qaC x4 e[i] ((qah x4 e[i]).getD 0+1)) a).getD 0==2)=((e.drop (i+1)).any fun a=>(qah x4 a).getD 0==2):=by
    rw[Bool.eq_iff_iff]
    simp only[List.any_eq_true]
    constructor
    ·rintro ⟨a,h1,h3⟩
     refine ⟨a,h1, ?_⟩
     rw[hset,if_neg (fun hh=>hnot (by rw[←hh];exact h1)),Int.add_zero] at h3
     exact h3
    ·rintro ⟨a,h1,h3⟩
     refine ⟨a,h1, ?_⟩
     rw[hset,if_neg (fun hh=>hnot (by rw[←hh];exact h1)),Int.add_zero]
     exact h3
   have ih:=pv1 N hd hl k n (i+1) (qaC x4 e[i] ((qah x4 e[i]).getD 0+1)) (by omega) (by omega) (fun a=>by
    rw[hset]
    have:=hb a
    split
    ·rename_i h;subst h;omega
    ·omega)
   rw[hany] at ih
   rcases ih with ⟨g1,g2⟩|⟨g1,x4',g2,g3⟩
   ·exact .inl ⟨g1,g2⟩
   ·refine .inr ⟨g1,x4',g2,fun m=> ?_⟩
    rw[g3 m,hset m]
    by_cases hm:m=e[i]
    ·subst hm
     rw[if_pos rfl,if_neg hnot,if_pos List.mem_cons_self];omega
    ·rw[if_neg hm]
     by_cases hm2:m∈e.drop (i+1)
     ·rw[if_pos hm2,if_pos (List.mem_cons_of_mem _ hm2)];omega
     ·rw[if_neg hm2,if_neg (by simp only[List.mem_cons,not_or];exact ⟨hm,hm2⟩)];omega
theorem qaw {x:PlantElement} (h:qaL x=true):(qae x).Nodup∧(∀a∈qae x,0≤a∧a<64)∧qae x≠[]∧pnOk x.name=true:=by
 unfold qaL at h
 simp only[Bool.and_eq_true,Bool.not_eq_true'] at h
 obtain ⟨h1,h2⟩:=qgc.1 h.2.1
 exact ⟨h1,h2,fun hh=>by rw[hh] at h;simp at h,h.1.2⟩
theorem qeN (N:Nat) (hN:100≤N) {l:List PlantElement} (hl:l.length≤96):∀(k n i:Nat) (x3:List (List UInt8×Bool)) (x4:List (Int×Int)),k<n→i+k=l.length→VInv l i x3 x4→
  qj1 N l l.length n x3 x4 i=some (res (pC l) (qax l) i (l.drop i))
 |k,0,i,x3,x4,hn,_,_=>by omega
 |0,n+1,i,x3,x4,hn,hi,hI=>by
  obtain rfl:i=l.length:=by omega
  rw[qj1,if_neg (dneg (by omega)),List.drop_length]
  rfl
 |k+1,n+1,i,x3,x4,hn,hi,hI=>by
  have hlt:i<l.length:=by omega
  have hx:=qam hlt
  rw[qj1,if_pos (dpos (by omega)),qad hx,qbz hx,res,qaa,qlw N (by omega) _,qaa]
  unfold pC
  by_cases hsd:qaL l[i]=true
  case neg=>
   simp only[Bool.not_eq_true] at hsd
   have hc:qax l i l[i]=1:=by unfold qax;rw[if_pos hsd]
   rw[hsd,hc];simp
  obtain ⟨e1,e2,e3,e4⟩:=qaw hsd
  rw[hsd]
  simp only[Bool.not_true,Bool.false_eq_true,if_false,qac,hI.nm]
  by_cases hnm:((l.take i).any fun y=>y.name==l[i].name)=true
  ·have hc:qax l i l[i]=8:=by unfold qax;rw[if_neg (by rw[hsd];simp),if_pos hnm]
   rw[if_pos hnm,hc];simp
  ·rw[if_neg hnm,qei,qaa]
   have hb:∀a,0≤(qah x4 a).getD 0∧(qah x4 a).getD 0≤1000+(0:Nat):=fun a=>by
    rw[hI.ct]
    have h1:=qdu (l.take i) a
    have h2:=qnK (l.take i) a
    rw[List.length_take] at h2
    omega
   have hany:((qae l[i]).any fun a=>(qah x4 a).getD 0==2)=((qae l[i]).any fun a=>cnt (l.take i) a==2):=by simp only[hI.ct]
   have h3:=qa5 l[i]
   have:=pv1 N e1 h3 (qae l[i]).length N 0 x4 (by omega) (by omega) hb
   rw[List.drop_zero,hany] at this
   rcases this with ⟨g1,g2⟩|⟨g1,x4',g2,g3⟩
   ·have hc:qax l i l[i]=17:=by unfold qax;rw[if_neg (by rw[hsd];simp),if_neg hnm,if_pos g1]
    have g2:qgI N (qae l[i]) (qae l[i]).length N x4 0=some (.inr 17):=g2
    rw[g2,hc];simp[qaa]
   ·have hc:qax l i l[i]=0:=by unfold qax;rw[if_neg (by rw[hsd];simp),if_neg hnm,if_neg (by rw[g1];simp)]
    have g2:qgI N (qae l[i]) (qae l[i]).length N x4 0=some (.inl x4'):=g2
    rw[g2,hc]
    simp only[qaa,bne_self_eq_false,Bool.false_eq_true,if_false]
    rw[w64s (by omega)]
    refine qeN N hN hl k n (i+1) _ x4' (by omega) (by omega) ⟨fun q=> ?_,fun m=> ?_⟩
    ·rw[qaF,qba hx,List.any_append]
     by_cases hq:l[i].name=q
     ·rw[if_pos hq];simp[hq]
     ·rw[if_neg hq,hI.nm];simp[hq]
    ·rw[g3 m,hI.ct,qba hx,qb7]
theorem qhn (N:Nat) (hN:100≤N) {l:List PlantElement}:zbI N l=some (vErr l):=by
 unfold zbI vErr
 by_cases hl:96<l.length
 ·rw[if_pos (by simpa using by omega),if_pos hl]
 ·rw[if_neg (by simpa using by omega),if_neg hl]
  have h:=qeN N hN (l:=l) (by omega) l.length N 0 [] [] (by omega) (by omega) ⟨fun k=>by simp[qah],fun n=>by simp[qah,cnt]⟩
  simp only[Int.natCast_zero,List.drop_zero] at h
  rw[h,qaa]
  cases res (pC l) (qax l) 0 l<;>rfl
structure RInv (l:List PlantElement) (i:Nat) (x3:List Int):Prop where
 len:x3.length=64
 ct:∀n:Nat,n<64→x3[n]? =some (cnt (l.take i) (n:Int))
theorem RInv.get {l:List PlantElement} {i:Nat} {x3:List Int} (h:RInv l i x3) {a:Int} (h0:0≤a) (h1:a<64):getI x3 a=some (cnt (l.take i) a):=by
 obtain ⟨n,rfl⟩:=Int.eq_ofNat_of_zero_le h0
 have:=h.ct n (by omega)
 exact qad this
theorem rv1 (N:Nat) {l:List PlantElement} {i:Nat} {x:PlantElement} (hx:l[i]? =some x) (hN:l.length<N) (hl:l.length≤96):qgK N l i N 0=some (if ((l.take i).any fun y=>y.name==x.name)=true then .inr 8 else .inl ()):=by
 have hi:=(List.getElem?_eq_some_iff.1 hx).1
 have hlen:(l.take i).length=i:=by rw[List.length_take];omega
 have h:=qaq (l:=l.take i) (fun _ y=>y.name==x.name) (fun _ _=>(8:Int)) (fun m j=>qgK N l i m j) (fun m=>by
  show qgK N l i (m+1) _=_
  rw[hlen,qgK,if_neg (dneg (by omega))]) (fun m j y hy=>by
  show qgK N l i (m+1) _=_
  have hlt:=(List.getElem?_eq_some_iff.1 hy).1
  rw[hlen] at hlt
  rw[List.getElem?_take,if_pos hlt] at hy
  rw[qgK,if_pos (dpos (by omega)),qad hy,qaa,qad hx,qaa,qac,w64s (by omega)]) i N 0 (by omega) (by rw[hlen];omega)
 simp only[Int.natCast_zero,List.drop_zero] at h
 rw[h]
 congr 1
 have key:∀(q:List PlantElement) (j:Nat),res (fun _ y=>y.name==x.name) (fun _ _=>(8:Int)) j q=if (q.any fun y=>y.name==x.name)=true then .inr 8 else .inl ():=by
  intro q
  induction q with
  |nil=>intro j;rfl
  |cons y q ih=>
   intro j
   rw[res,List.any_cons]
   by_cases h:(y.name==x.name)=true
   ·simp[h]
   ·simp only[Bool.not_eq_true] at h
    rw[h,if_neg (by simp),ih,Bool.false_or]
 exact key _ 0
theorem rv2 (N:Nat) (hN:10≤N) {l:List PlantElement} {i:Nat} {x3:List Int} (hI:RInv l i x3) {e:List Int} (he:e.length≤3) (hr:∀a∈e,0≤a∧a<64):qgL N x3 e N 0=some (if (e.any fun a=>cnt (l.take i) a==2)=true then .inr 17 else .inl ()):=by
 have h:=qaq (l:=e) (fun _ a=>cnt (l.take i) a==2) (fun _ _=>(17:Int)) (fun m j=>qgL N x3 e m j) (fun m=>by
  show qgL N x3 e (m+1) _=_
  rw[qgL,if_neg (dneg (by omega))]) (fun m j y hy=>by
  show qgL N x3 e (m+1) _=_
  have hlt:=(List.getElem?_eq_some_iff.1 hy).1
  obtain ⟨h0,h1⟩:=hr y (List.mem_of_getElem? hy)
  rw[qgL,if_pos (dpos (by omega)),qad hy]
  simp only[qaa,hI.get h0 h1,qac]
  rw[w64s (by omega)]) e.length N 0 (by omega) (by omega)
 simp only[Int.natCast_zero,List.drop_zero] at h
 rw[h]
 congr 1
 have key:∀(q:List Int) (j:Nat),res (fun _ a=>cnt (l.take i) a==2) (fun _ _=>(17:Int)) j q=if (q.any fun a=>cnt (l.take i) a==2)=true then .inr 17 else .inl ():=by
  intro q
  induction q with
  |nil=>intro j;rfl
  |cons y q ih=>
   intro j
   rw[res,List.any_cons]
   by_cases h:(cnt (l.take i) y==2)=true
   ·simp[h]
   ·simp only[Bool.not_eq_true] at h
    rw[h,if_neg (by simp),ih,Bool.false_or]
 exact key _ 0
theorem rv3 (N:Nat) {e:List Int} (hd:e.Nodup) (he:e.length≤3) (hr:∀a∈e,0≤a∧a<64):∀(k n i:Nat) (x3:List Int) (f:Int→Int),k<n→i+k=e.length→x3.length=64→(∀m:Nat,m<64→x3[m]? =some (f m))→(∀m,0≤f m∧f m≤1000+i)→
  ∃x3',qiA N e n x3 i=some x3'∧x3'.length=64∧∀m:Nat,m<64→x3'[m]? =some (f m+if (m:Int)∈e.drop i then 1 else 0)
 |k,0,i,x3,f,hn,_,_,_,_=>by omega
 |0,n+1,i,x3,f,hn,hi,h1,h2,h3=>by
  obtain rfl:i=e.length:=by omega
  rw[qiA,if_neg (dneg (by omega)),List.drop_length]
  exact ⟨x3,rfl,h1,fun m hm=>by simpa using h2 m hm⟩
 |k+1,n+1,i,x3,f,hn,hi,h1,h2,h3=>by
  have hlt:i<e.length:=by omega
  have ha:=qam hlt
  obtain ⟨r0,r1⟩:=hr _ (List.getElem_mem hlt)
  obtain ⟨q,hq⟩:=Int.eq_ofNat_of_zero_le r0
  have hq64:q<64:=by omega
  have hg:getI x3 e[i]=some (f q):=by rw[hq];exact qad (h2 q hq64)
  have hf:=h3 q
  rw[qiA,if_pos (dpos (by omega)),qad ha,qbz ha]
  simp only[qaa,qac,hg]
  rw[w64s (by omega),w64 (by omega) (by omega)]
  have hnot:e[i]∉e.drop (i+1):=by
   intro hm
   obtain ⟨j,hj⟩:=List.getElem?_of_mem hm
   rw[List.getElem?_drop] at hj
   obtain ⟨hjl,hj⟩:=List.getElem?_eq_some_iff.1 hj
   exact List.pairwise_iff_getElem.1 hd i (i+1+j) hlt hjl (by omega) hj.symm
  obtain ⟨x3',g1,g2,g3⟩:=rv3 N hd he hr k n (i+1) (x3.set q (f q+1)) (fun m=>if m=(q:Int) then f m+1 else f m) (by omega) (by omega) (by rw[List.length_set];exact h1) (fun m hm=>by
   rw[List.getElem?_set]
   by_cases hmq:q=m
   ·subst hmq;simp[h1,hq64]
   ·rw[if_neg hmq,h2 m hm,if_neg (by omega)]) (fun m=>by have:=h3 m;split<;>omega)
  refine ⟨x3',by rw[hq];exact g1,g2,fun m hm=> ?_⟩
  rw[g3 m hm]
  congr 1
  by_cases hmq:(m:Int)=q
  ·rw[if_pos hmq,if_neg (by rw[hmq,←hq];exact hnot),if_pos (by rw[hmq,←hq];exact List.mem_cons_self)];omega
  ·rw[if_neg hmq]
   by_cases hm2:(m:Int)∈e.drop (i+1)
   ·rw[if_pos hm2,if_pos (List.mem_cons_of_mem _ hm2)]
   ·rw[if_neg hm2,if_neg (by simp only[List.mem_cons,not_or];exact ⟨by rw[hq];exact hmq,hm2⟩)]
theorem qeS (N:Nat) (hN:100≤N) {l:List PlantElement} (hl:l.length≤96) (hnm:∀x∈l,x.name.length<N∧x.name.length≤9223372036854775807):∀(k n i:Nat) (x3:List Int),k<n→i+k=l.length→RInv l i x3→
  qj3 N l n x3 i=some (res (pC l) (qax l) i (l.drop i))
 |k,0,i,x3,hn,_,_=>by omega
 |0,n+1,i,x3,hn,hi,hI=>by
  obtain rfl:i=l.length:=by omega
  rw[qj3,if_neg (dneg (by omega)),List.drop_length]
  rfl
 |k+1,n+1,i,x3,hn,hi,hI=>by
  have hlt:i<l.length:=by omega
  have hx:=qam hlt
  obtain ⟨q1,q2⟩:=hnm _ (List.getElem_mem hlt)
  rw[qj3,if_pos (dpos (by omega)),qlQ N hx (by omega) q1 q2,qbz hx,res,qaa]
  unfold pC
  by_cases hsd:qaL l[i]=true
  case neg=>
   simp only[Bool.not_eq_true] at hsd
   have hc:qax l i l[i]=1:=by unfold qax;rw[if_pos hsd]
   rw[hsd,hc];simp
  obtain ⟨e1,e2,e3,e4⟩:=qaw hsd
  rw[hsd]
  simp only[Bool.not_true,Bool.false_eq_true,if_false]
  rw[rv1 N hx (by omega) hl,qaa]
  by_cases hnm':((l.take i).any fun y=>y.name==l[i].name)=true
  ·have hc:qax l i l[i]=8:=by unfold qax;rw[if_neg (by rw[hsd];simp),if_pos hnm']
   rw[if_pos hnm',hc];simp
  ·have h3:=qa5 l[i]
   rw[if_neg hnm']
   simp only[]
   rw[qcy,qff hx,qaa,rv2 N (by omega) hI h3 e2,qaa]
   by_cases g1:((qae l[i]).any fun a=>cnt (l.take i) a==2)=true
   ·have hc:qax l i l[i]=17:=by unfold qax;rw[if_neg (by rw[hsd];simp),if_neg hnm',if_pos g1]
    rw[if_pos g1,hc];simp
   ·have hc:qax l i l[i]=0:=by unfold qax;rw[if_neg (by rw[hsd];simp),if_neg hnm',if_neg g1]
    rw[if_neg g1,hc]
    simp only[bne_self_eq_false,Bool.false_eq_true,if_false]
    obtain ⟨x3',k1,k2,k3⟩:=rv3 N e1 h3 e2 (qae l[i]).length N 0 x3 (fun m=>cnt (l.take i) m) (by omega) (by omega) hI.len hI.ct (fun m=>by
     have h1:=qdu (l.take i) m
     have h2:=qnK (l.take i) m
     rw[List.length_take] at h2
     omega)
    have k1:qiA N (qae l[i]) N x3 0=some x3':=k1
    rw[k1,qaa,qac,w64s (by omega)]
    refine qeS N hN hl hnm k n (i+1) x3' (by omega) (by omega) ⟨k2,fun m hm=> ?_⟩
    rw[k3 m hm,qba hx,qb7,List.drop_zero]
theorem qdl (N:Nat) (hN:100≤N) {l:List PlantElement} (hnm:l.length≤96→∀x∈l,x.name.length<N∧x.name.length≤9223372036854775807):zcB N l=some (vErr l):=by
 unfold zcB vErr
 by_cases hl:96<l.length
 ·rw[if_pos (by simpa using by omega),if_pos hl]
 ·rw[if_neg (by simpa using by omega),if_neg hl]
  have h:=qeS N hN (by omega) (hnm (by omega)) l.length N 0 (List.replicate 64 0) (by omega) (by omega) ⟨by simp,fun n hn=>by rw[List.getElem?_replicate,if_pos hn];simp[cnt]⟩
  simp only[Int.natCast_zero,List.drop_zero] at h
  rw[h,qaa]
  cases res (pC l) (qax l) 0 l<;>rfl
structure PlOk (l:List PlantElement):Prop where
 len:l.length≤96
 snd:∀x∈l,qaL x=true
 nm:l.Pairwise fun x y=>x.name≠y.name
 ct:∀n,cnt l n≤2
theorem PlOk.err {l:List PlantElement} (h:PlOk l):vErr l=0:=by
 unfold vErr
 rw[if_neg (by have:=h.len;omega)]
 have:res (pC l) (qax l) 0 l= .inl ():=by
  rw[qbV]
  intro j x hj
  rw[Nat.zero_add]
  have hjl:=(List.getElem?_eq_some_iff.1 hj).1
  have hc:qax l j x=0:=by
   unfold qax
   rw[if_neg (by rw[h.snd x (List.mem_of_getElem? hj)];simp),if_neg,if_neg]
   ·intro hh
    obtain ⟨n,hn,hn2⟩:=List.any_eq_true.1 hh
    have h2:cnt (l.take j) n=2:=by simpa using hn2
    have h3:=qb7 (l.take j) x n
    rw[if_pos hn,←qba hj,h2] at h3
    have h4:cnt (l.take (j+1)) n≤cnt l n:=by
     unfold cnt
     have:=(List.take_sublist (j+1) l).filter (fun x=>(qae x).contains n)
     have:=this.length_le
     omega
    have:=h.ct n
    omega
   ·intro hh
    obtain ⟨y,hy,hyn⟩:=List.any_eq_true.1 hh
    obtain ⟨i,hi⟩:=List.getElem?_of_mem hy
    rw[List.getElem?_take] at hi
    split at hi
    ·rename_i hij
     obtain ⟨hil,hi⟩:=List.getElem?_eq_some_iff.1 hi
     obtain ⟨_,hj⟩:=List.getElem?_eq_some_iff.1 hj
     have:=List.pairwise_iff_getElem.1 h.nm i j hil hjl hij
     rw[hi,hj] at this
     exact this (by simpa using hyn)
    ·cases hi
  unfold pC
  rw[hc];rfl
 rw[this]
theorem PlOk.p (N:Nat) (hN:100≤N) {l:List PlantElement} (h:PlOk l):zbI N l=some 0:=by
 rw[qhn N hN,h.err]
theorem PlOk.r (N:Nat) (hN:100≤N) {l:List PlantElement} (h:PlOk l):zcB N l=some 0:=by
 rw[qdl N hN fun _ x hx=>by
  have h1:=(qaw (h.snd x hx)).2.2.2
  unfold pnOk at h1
  simp only[Bool.and_eq_true,decide_eq_true_eq] at h1
  omega,h.err]
end Go.W
end
section
set_option linter.unusedVariables false
set_option linter.unusedSimpArgs false
namespace Go.W
open Go.AM
theorem qcK {l:List PlantElement} {n:Int} {a b:Nat} (h:a≤b):cnt (l.take a) n≤cnt (l.take b) n:=by
 unfold cnt
 have h1:l.take a=(l.take b).take a:=by rw[List.take_take];congr 1;omega
 rw[h1]
 have:=((List.take_sublist a (l.take b)).filter (fun x=>(qae x).contains n)).length_le
 omega
theorem qfN {l:List PlantElement} {n:Int} {i:Nat} {x:PlantElement} (h:l[i]? =some x) (hn:n∈qae x):cnt (l.take (i+1)) n=cnt (l.take i) n+1:=by
 rw[qba h,qb7,if_pos hn]
theorem qoj {l:List PlantElement} {n:Int} {a:Nat}:cnt (l.take a) n≤cnt l n:=by
 have:=qcK (l:=l) (n:=n) (Nat.le_max_left a l.length)
 rw[List.take_of_length_le (Nat.le_max_right _ _)] at this
 exact this
theorem cnt3 {l:List PlantElement} {n:Int} {i j k:Nat} {x y z:PlantElement} (hx:l[i]? =some x) (hy:l[j]? =some y) (hz:l[k]? =some z) (h1:n∈qae x) (h2:n∈qae y) (h3:n∈qae z) (hij:i<j) (hjk:j<k):3≤cnt l n:=by
 have a1:=qfN hx h1
 have a2:=qfN hy h2
 have a3:=qfN hz h3
 have b1:=qcK (l:=l) (n:=n) (show i+1≤j by omega)
 have b2:=qcK (l:=l) (n:=n) (show j+1≤k by omega)
 have b3:=qoj (l:=l) (n:=n) (a:=k+1)
 have b4:=qdu (l.take i) n
 omega
theorem PlOk.of {l:List PlantElement} (h:vErr l=0):PlOk l:=by
 unfold vErr at h
 split at h
 ·cases h
 rename_i hl
 have hres:res (pC l) (qax l) 0 l= .inl ():=by
  cases hr:res (pC l) (qax l) 0 l with
  |inl u=>rfl
  |inr c=>
   rw[hr] at h
   simp only at h
   have key:∀(e:List PlantElement) (i:Nat) (c:Int),res (pC l) (qax l) i e= .inr c→c≠0:=by
    intro e
    induction e with
    |nil=>intro i c h;cases h
    |cons y e ih=>
     intro i c h
     rw[res] at h
     split at h
     ·rename_i hp
      cases h
      unfold pC at hp
      simpa using hp
     ·exact ih _ _ h
   exact absurd h (key _ _ _ hr)
 have hc:∀(j:Nat) (x:PlantElement),l[j]? =some x→qax l j x=0:=fun j x hj=>by
  have:=(qbV.1 hres) j x hj
  rw[Nat.zero_add] at this
  unfold pC at this
  simpa using this
 have h3:∀(j:Nat) (x:PlantElement),l[j]? =some x→qaL x=true∧((l.take j).any fun y=>y.name==x.name)=false∧((qae x).any fun n=>cnt (l.take j) n==2)=false:=fun j x hj=>by
  have:=hc j x hj
  unfold qax at this
  split at this
  ·cases this
  ·rename_i a
   split at this
   ·cases this
   ·rename_i b
    split at this
    ·cases this
    ·rename_i c
     exact ⟨by simpa using a,by simpa using b,by simpa using c⟩
 refine ⟨by omega,fun x hx=> ?_, ?_,fun n=> ?_⟩
 ·obtain ⟨j,hj⟩:=List.getElem?_of_mem hx
  exact (h3 j x hj).1
 ·rw[List.pairwise_iff_getElem]
  intro i j hi hj hij hne
  have hb:=(h3 j _ (qam hj)).2.1
  rw[List.any_eq_false] at hb
  have hm:l[i]∈l.take j:=by
   refine List.mem_of_getElem? (i:=i) ?_
   rw[List.getElem?_take,if_pos hij]
   exact qam hi
  exact hb _ hm (by simpa using hne)
 ·have key:∀(i:Nat),i≤l.length→cnt (l.take i) n≤2:=by
   intro i
   induction i with
   |zero=>intro _;simp[cnt]
   |succ i ih=>
    intro hi
    have hx:=qam (xs:=l) (i:=i) (by omega)
    rw[qba hx,qb7]
    have:=ih (by omega)
    split
    ·rename_i hm
     have hb:=(h3 i _ hx).2.2
     rw[List.any_eq_false] at hb
     have:=hb n hm
     simp at this
     omega
    ·omega
  have:=key l.length (Nat.le_refl _)
  rw[List.take_length] at this
  exact this
theorem PlOk.two {l:List PlantElement} (h:PlOk l) {n:Int} {i j k:Nat} {x y z:PlantElement} (hx:l[i]? =some x) (hy:l[j]? =some y) (hz:l[k]? =some z) (h1:n∈qae x) (h2:n∈qae y) (h3:n∈qae z):i=j∨j=k∨i=k:=by
 have hc:=h.ct n
 rcases Nat.lt_trichotomy i j with a|a|a
 ·rcases Nat.lt_trichotomy j k with b|b|b
  ·have:=cnt3 hx hy hz h1 h2 h3 a b;omega
  ·exact .inr (.inl b)
  ·rcases Nat.lt_trichotomy i k with c|c|c
   ·have:=cnt3 hx hz hy h1 h3 h2 c b;omega
   ·exact .inr (.inr c)
   ·have:=cnt3 hz hx hy h3 h1 h2 c a;omega
 ·exact .inl a
 ·rcases Nat.lt_trichotomy i k with b|b|b
  ·have:=cnt3 hy hx hz h2 h1 h3 a b;omega
  ·exact .inr (.inr b)
  ·rcases Nat.lt_trichotomy j k with c|c|c
   ·have:=cnt3 hy hz hx h2 h3 h1 c b;omega
   ·exact .inr (.inl c)
   ·have:=cnt3 hz hy hx h3 h2 h1 c a;omega
theorem qec (l:List PlantElement) (i n:Int):(nbr l i n= -1∧∀(j:Nat) (x:PlantElement),l[j]? =some x→(j:Int)≠i→n∉qae x)∨
  ∃(j:Nat) (x:PlantElement),nbr l i n=(j:Int)∧l[j]? =some x∧(j:Int)≠i∧n∈qae x:=by
 rcases qeu (nbrB i n) l 0 with ⟨h1,h2⟩|⟨j,x,h1,h2,h3,_⟩
 ·refine .inl ⟨h1,fun j x hj hji hn=> ?_⟩
  have:=h2 j x hj
  rw[Nat.zero_add] at this
  unfold nbrB at this
  have e1:((j:Int) !=i)=true:=by simpa using hji
  rw[e1] at this
  simp[hn] at this
 ·rw[Nat.zero_add] at h1 h3
  unfold nbrB at h3
  simp only[Bool.and_eq_true,bne_iff_ne,ne_eq] at h3
  exact .inr ⟨j,x,h1,h2,h3.1,by simpa using h3.2⟩
theorem qeI {l:List PlantElement} {i n:Int} (h:0≤nbr l i n):n∈eI l (nbr l i n)∧nbr l i n≠i:=by
 rcases qec l i n with ⟨h1,_⟩|⟨j,x,h1,h2,h3,h4⟩
 ·omega
 ·rw[h1,qff h2];exact ⟨h4,h3⟩
theorem PlOk.nbr_sym {l:List PlantElement} (h:PlOk l) {i n:Int} (hn:n∈eI l i) (hk:0≤nbr l i n):nbr l (nbr l i n) n=i:=by
 obtain ⟨h0,h1,x,hx,hxn⟩:=qb2 hn
 obtain ⟨a,rfl⟩:=Int.eq_ofNat_of_zero_le h0
 rw[Int.toNat_natCast] at hx
 rcases qec l (a:Int) n with ⟨g1,_⟩|⟨j,y,g1,g2,g3,g4⟩
 ·omega
 ·rw[g1]
  rcases qec l (j:Int) n with ⟨k1,k2⟩|⟨c,z,k1,k2,k3,k4⟩
  ·exact absurd hxn (k2 a x hx (by omega))
  ·rw[k1]
   rcases h.two hx g2 k2 hxn g4 k4 with e|e|e
   ·omega
   ·omega
   ·omega
theorem PlOk.nodup {l:List PlantElement} (h:PlOk l) (i:Int):(eI l i).Nodup:=by
 unfold eI
 split
 ·split
  ·rename_i x hx
   exact (qaw (h.snd x (List.mem_of_getElem? hx))).1
  ·exact List.nodup_nil
 ·exact List.nodup_nil
theorem qej {e:List Int} {n m:Int} (h:m∈thrE e n):n∈e∧m∈e:=by
 unfold thrE at h
 split at h
 ·rename_i hc
  refine ⟨by simpa using hc, ?_⟩
  split at h
  ·exact List.mem_of_mem_tail h
  ·exact List.mem_of_mem_take h
 ·simp at h
theorem qne {e:List Int} (hd:e.Nodup) {n m:Int} (h:m∈thrE e n):n∈thrE e m∧n≠m:=by
 obtain ⟨h1,h2⟩:=qej h
 unfold thrE at h⊢
 rw[if_pos (by simpa using h1)] at h
 rw[if_pos (by simpa using h2)]
 cases e with
 |nil=>simp at h1
 |cons a e=>
  have hd':=List.nodup_cons.1 hd
  simp only[List.head?_cons,List.tail_cons,Option.some.injEq,List.take_succ_cons,List.take_zero,List.mem_cons,List.not_mem_nil,or_false] at h⊢
  split at h
  ·rename_i ha
   subst ha
   have hne:¬a=m:=fun hh=>hd'.1 (hh▸h)
   rw[if_neg hne]
   exact ⟨by simp,hne⟩
  ·rename_i ha
   simp only[List.mem_cons,List.not_mem_nil,or_false] at h
   subst h
   rw[if_pos rfl]
   refine ⟨?_,fun hh=>ha hh.symm⟩
   rcases List.mem_cons.1 h1 with hh|hh
   ·exact absurd hh.symm ha
   ·exact hh
theorem qit {l:List PlantElement} {i n m:Int} (h:m∈thr l i n):n∈eI l i∧m∈eI l i:=qej h
theorem PlOk.thr_sym {l:List PlantElement} (h:PlOk l) {i n m:Int} (hm:m∈thr l i n):n∈thr l i m∧n≠m:=qne (h.nodup i) hm
theorem qgz (l:List PlantElement) (i n:Int):(thr l i n).length≤3:=by
 have:=qdR l i
 unfold thr thrE
 split
 ·split
  ·rw[List.length_tail];omega
  ·rw[List.length_take];omega
 ·simp
end Go.W
end
section
set_option linter.unusedVariables false
set_option linter.unusedSimpArgs false
namespace Go.W
open Go.AM
def qch (i:Nat):List UInt8:=[112,UInt8.ofNat (48+i / 10%10),UInt8.ofNat (48+i%10)]
theorem qiu {n:Nat} (h:n<256):toU8 (n:Int)=some (UInt8.ofNat n):=by
 unfold toU8
 rw[if_pos (by omega)]
 simp
theorem qgC (N:Nat) {i:Nat} (h:i<1000):zbF N (i:Int)=some (qch i):=by
 unfold zbF qch
 have e1:IntKind.wrap .i64 (Int.tdiv (i:Int) 10)=((i / 10:Nat):Int):=by rw[Int.tdiv_eq_ediv_of_nonneg (by omega),w64 (by omega) (by omega)];omega
 have e2:Int.tmod ((i / 10:Nat):Int) 10=((i / 10%10:Nat):Int):=by rw[Int.tmod_eq_emod_of_nonneg (by omega)];omega
 have e3:Int.tmod (i:Int) 10=((i%10:Nat):Int):=by rw[Int.tmod_eq_emod_of_nonneg (by omega)];omega
 rw[e1,e2,e3,w64 (by omega) (by omega),w64 (by omega) (by omega),w8 (by omega) (by omega),w8 (by omega) (by omega)]
 have f1:=qiu (n:=112) (by omega)
 have f2:=qiu (n:=48+i / 10%10) (by omega)
 have f3:=qiu (n:=48+i%10) (by omega)
 rw[show ((48:Int)+((i / 10%10:Nat):Int))=((48+i / 10%10:Nat):Int) by omega,show ((48:Int)+((i%10:Nat):Int))=((48+i%10:Nat):Int) by omega,f2,f3]
 have f1:toU8 112=some (UInt8.ofNat 112):=f1
 rw[f1]
 rfl
theorem qk7 {i j:Nat} (hi:i<100) (hj:j<100) (h:qch i=qch j):i=j:=by
 unfold qch at h
 simp only[List.cons.injEq,and_true,true_and] at h
 have a1:=congrArg UInt8.toNat h.1
 have a2:=congrArg UInt8.toNat h.2
 simp only[UInt8.toNat_ofNat'] at a1 a2
 omega
theorem qga (i:Nat):pnOk (qch i)=true:=by
 have key:∀d:Nat,d<10→pnCh (UInt8.ofNat (48+d))=true:=by
  intro d hd
  unfold pnCh
  rw[UInt8.toNat_ofNat']
  simp
  omega
 unfold pnOk qch
 simp only[List.all_cons,List.all_nil,key (i / 10%10) (by omega),key (i%10) (by omega)]
 rfl
structure PlI (l:List PlantElement) (op:List Int) (nx:Int):Prop where
 snd:∀x∈l,qaL x=true
 nm:∀(i:Nat) (x:PlantElement),l[i]? =some x→x.name=qch i
 ct:∀n,cnt l n≤2
 op1:∀n∈op,cnt l n≤1
 nd:op.Nodup
 rg:∀n∈op,0≤n∧n<nx
 nw:∀n,nx≤n→cnt l n=0
 ln:(op.length:Int)≤nx
 nx64:nx≤64
 nx0:0≤nx
 fst:∃x,l[0]? =some x∧x.kind=1
theorem PlI.add {l:List PlantElement} {op op':List Int} {nx nx':Int} {x:PlantElement} (h:PlI l op nx) (hs:qaL x=true) (hn:x.name=qch l.length) (h1:∀n∈qae x,n∈op∨(nx≤n∧n<nx')) (h2:∀n∈op',(n∈op∧n∉qae x)∨(nx≤n∧n<nx'))
  (h3:op'.Nodup) (h4:nx≤nx') (h5:nx'≤64) (h6:(op'.length:Int)≤nx'):PlI (l++[x]) op' nx' where
 snd:=fun y hy=>by
  rcases List.mem_append.1 hy with hy|hy
  ·exact h.snd y hy
  ·simp at hy;subst hy;exact hs
 nm:=fun i y hy=>by
  by_cases hi:i<l.length
  ·rw[List.getElem?_append_left hi] at hy;exact h.nm i y hy
  ·rw[List.getElem?_append_right (by omega)] at hy
   have hi2:=(List.getElem?_eq_some_iff.1 hy).1
   simp at hi2
   have:i=l.length:=by omega
   subst this
   simp at hy;subst hy;exact hn
 ct:=fun n=>by
  rw[qb7]
  have a:=h.ct n
  split
  ·rename_i hm
   rcases h1 n hm with hm|⟨hm,_⟩
   ·have:=h.op1 n hm;omega
   ·have:=h.nw n hm;omega
  ·omega
 op1:=fun n hm=>by
  rw[qb7]
  rcases h2 n hm with ⟨a,b⟩|⟨a,b⟩
  ·have:=h.op1 n a;rw[if_neg b];omega
  ·have:=h.nw n a;split<;>omega
 nd:=h3
 rg:=fun n hm=>by
  rcases h2 n hm with ⟨a,b⟩|⟨a,b⟩
  ·have:=h.rg n a;omega
  ·have:=h.nx0;omega
 nw:=fun n hm=>by
  rw[qb7,if_neg,h.nw n (by omega)]
  ·rfl
  ·intro hh
   rcases h1 n hh with a|a
   ·have:=h.rg n a;omega
   ·omega
 ln:=h6
 nx64:=h5
 nx0:=by have:=h.nx0;omega
 fst:=by
  obtain ⟨y,hy,hk⟩:=h.fst
  exact ⟨y,by rw[List.getElem?_append_left (List.getElem?_eq_some_iff.1 hy).1];exact hy,hk⟩
theorem PlI.ok {l:List PlantElement} {op:List Int} {nx:Int} (h:PlI l op nx) (hl:l.length≤96):PlOk l where
 len:=hl
 snd:=h.snd
 nm:=List.pairwise_iff_getElem.2 fun i j hi hj hij hh=>by
  rw[h.nm i _ (qam hi),h.nm j _ (qam hj)] at hh
  have:=qk7 (by omega) (by omega) hh
  omega
 ct:=h.ct
theorem qcs {m:List UInt8} {a b len:Int} (hm:pnOk m=true) (ha:0≤a∧a<64) (hb:0≤b∧b<64) (hab:a≠b) (hl:1≤len∧len≤100000):qaL (PlantElement.mk 1 m a b 0 len)=true:=by
 have he:okE [a,b]=true:=qgc.2 ⟨by simp[hab],by simp;omega⟩
 unfold qaL
 have:qae (PlantElement.mk 1 m a b 0 len)=[a,b]:=by simp[qae]
 rw[this]
 simp[hm,he,hl]
theorem qjU {m:List UInt8} {a b:Int} (hm:pnOk m=true) (ha:0≤a∧a<64) (hb:0≤b∧b<64) (hab:a≠b):qaL (PlantElement.mk 3 m a b 0 0)=true:=by
 have he:okE [a,b]=true:=qgc.2 ⟨by simp[hab],by simp;omega⟩
 unfold qaL
 have:qae (PlantElement.mk 3 m a b 0 0)=[a,b]:=by simp[qae]
 rw[this]
 simp[hm,he]
theorem qfy {m:List UInt8} {a b c:Int} (hm:pnOk m=true) (ha:0≤a∧a<64) (hb:0≤b∧b<64) (hc:0≤c∧c<64) (hab:a≠b) (hac:a≠c) (hbc:b≠c):qaL (PlantElement.mk 2 m a b c 0)=true:=by
 have he:okE [a,b,c]=true:=qgc.2 ⟨by simp[hab,hac,hbc],by simp;omega⟩
 unfold qaL
 have:qae (PlantElement.mk 2 m a b c 0)=[a,b,c]:=by simp[qae]
 rw[this]
 simp[hm,he]
theorem qjp {op:List Int} {r:Nat} {a:Int} (ha:op[r]? =some a) (hd:op.Nodup):a∉op.take r++op.drop (r+1)∧(∀n∈op.take r++op.drop (r+1),n∈op)∧(op.take r++op.drop (r+1)).Nodup∧(op.take r++op.drop (r+1)).length+1=op.length:=by
 have hr:=(List.getElem?_eq_some_iff.1 ha).1
 have hsplit:op=op.take r++a::op.drop (r+1):=by
  conv=>lhs;rw[←List.take_append_drop r op,qbz ha]
 have hd':=hd
 rw[hsplit,List.nodup_append] at hd'
 obtain ⟨d1,d2,d3⟩:=hd'
 have d2':=List.nodup_cons.1 d2
 refine ⟨?_, ?_, ?_, ?_⟩
 ·intro hm
  rcases List.mem_append.1 hm with hm|hm
  ·exact d3 a hm a List.mem_cons_self rfl
  ·exact d2'.1 hm
 ·intro n hn
  rcases List.mem_append.1 hn with hn|hn
  ·exact List.mem_of_mem_take hn
  ·exact List.mem_of_mem_drop hn
 ·rw[List.nodup_append]
  exact ⟨d1,d2'.2,fun x hx y hy=>d3 x hx y (List.mem_cons_of_mem _ hy)⟩
 ·rw[List.length_append,List.length_take,List.length_drop];omega
theorem pl4 (N:Nat) (k:Int) (b:Bool):qns N k b=some (b||(k==1)):=by
 unfold qns
 cases b<;>simp[qac]
theorem qo8 (N:Nat) {c:Int} {s:Maker} {l:List PlantElement} {op:List Int} {nx:Int} {r:Nat} {a:Int} {k:Int} (hI:PlI l op nx) (hl:l.length<96) (hs:Mk c s) (hc:c≤1000000) (hnx:nx<62) (ha:op[r]? =some a) (hk0:0≤k) (hk:k<6):
  ∃s' op' nx' x,qnr N s (op.take r++op.drop (r+1)) nx a (PlantElement.mk 0 (qch l.length) 0 0 0 0) k=some (s',op',nx',x)∧Mk (c+5) s'∧PlI (l++[x]) op' nx':=by
 obtain ⟨t1,t2,t3,t4⟩:=qjp ha hI.nd
 generalize hop:op.take r++op.drop (r+1)=q at*
 have hnm:=qga l.length
 have ham:=List.mem_of_getElem? ha
 obtain ⟨a0,a1⟩:=hI.rg a ham
 have hq:(q.length:Int)+1≤nx:=by have:=hI.ln;omega
 have hnx0:=hI.nx0
 have fresh:∀n∈q,n<nx:=fun n hn=>(hI.rg n (t2 n hn)).2
 have f1:nx∉q:=fun h=>by have:=fresh _ h;omega
 have f2:nx+1∉q:=fun h=>by have:=fresh _ h;omega
 have w1:IntKind.wrap .i64 (nx+1)=nx+1:=w64 (by omega) (by omega)
 have w2:IntKind.wrap .i64 (nx+2)=nx+2:=w64 (by omega) (by omega)
 have nd1:(q++[nx]).Nodup:=by
  rw[List.nodup_append]
  exact ⟨t3,by simp,fun x hx y hy=>by simp at hy;subst hy;exact fun hh=>f1 (hh▸hx)⟩
 have nd2:(q++[nx,nx+1]).Nodup:=by
  rw[List.nodup_append]
  refine ⟨t3,by simp;omega,fun x hx y hy=> ?_⟩
  simp at hy
  rcases hy with rfl|rfl
  ·exact fun hh=>f1 (hh▸hx)
  ·exact fun hh=>f2 (hh▸hx)
 have ap1:appI q [nx]=some (q++[nx]):=qaR (by simp;omega)
 have ap2:appI q [nx,nx+1]=some (q++[nx,nx+1]):=qaR (by simp;omega)
 have old:∀n∈q,n∈op∧n≠a:=fun n hn=>⟨t2 n hn,fun hh=>t1 (hh▸hn)⟩
 have hMk:Mk (c+5) s:=hs.le (by omega)
 unfold qnr
 simp only[qac,pl4,qaa,w1,w2,ap1,ap2]
 by_cases k01:k=0∨k=1
 ·have hb:((k==0)||(k==1))=true:=by simpa using k01
  rw[if_pos hb]
  refine ⟨s,_,_,_,rfl,hMk,hI.add (qfy hnm ⟨a0,by omega⟩ ⟨hnx0,by omega⟩ ⟨by omega,by omega⟩ (by omega) (by omega) (by omega)) rfl ?_ ?_ nd2 (by omega) (by omega) (by simp;omega)⟩
  ·intro n hn
   simp[qae] at hn
   rcases hn with rfl|rfl|rfl
   ·exact .inl ham
   ·exact .inr (by omega)
   ·exact .inr (by omega)
  ·intro n hn
   rcases List.mem_append.1 hn with hn|hn
   ·obtain ⟨o1,o2⟩:=old n hn
    have:=fresh n hn
    refine .inl ⟨o1, ?_⟩
    simp[qae];omega
   ·simp at hn;right;omega
 ·have hb:((k==0)||(k==1))=false:=by simp;omega
  rw[if_neg (by rw[hb];simp)]
  by_cases k2:k=2
  ·rw[if_pos (by simpa using k2)]
   refine ⟨s,_,_,_,rfl,hMk,hI.add (qfy hnm ⟨hnx0,by omega⟩ ⟨a0,by omega⟩ ⟨by omega,by omega⟩ (by omega) (by omega) (by omega)) rfl ?_ ?_ nd2 (by omega) (by omega) (by simp;omega)⟩
   ·intro n hn
    simp[qae] at hn
    rcases hn with rfl|rfl|rfl
    ·exact .inr (by omega)
    ·exact .inl ham
    ·exact .inr (by omega)
   ·intro n hn
    rcases List.mem_append.1 hn with hn|hn
    ·obtain ⟨o1,o2⟩:=old n hn
     have:=fresh n hn
     refine .inl ⟨o1, ?_⟩
     simp[qae];omega
    ·simp at hn;right;omega
  ·rw[if_neg (by simpa using k2)]
   by_cases k3:k=3
   ·rw[if_pos (by simpa using k3)]
    refine ⟨s,_,_,_,rfl,hMk,hI.add (qjU hnm ⟨a0,by omega⟩ ⟨hnx0,by omega⟩ (by omega)) rfl ?_ ?_ nd1 (by omega) (by omega) (by simp;omega)⟩
    ·intro n hn
     simp[qae] at hn
     rcases hn with rfl|rfl
     ·exact .inl ham
     ·exact .inr (by omega)
    ·intro n hn
     rcases List.mem_append.1 hn with hn|hn
     ·obtain ⟨o1,o2⟩:=old n hn
      have:=fresh n hn
      refine .inl ⟨o1, ?_⟩
      simp[qae];omega
     ·simp at hn;right;omega
   ·rw[if_neg (by simpa using k3)]
    obtain ⟨len,s1,g1,g2,g3⟩:=qo7 N (s:=s) (c:=c) [1,300,100000] (by simp) (by simp) hs (by omega)
    have hlen:1≤len∧len≤100000:=by simp at g2;omega
    rw[g1,qaa]
    unfold qpJ
    obtain ⟨y,s2,h1,h2,h3,h4⟩:=qbk N (s:=s1) (c:=c+1) 3 (by omega) (by omega) g3 (by omega)
    simp only[h1,qaa]
    by_cases hy:y=0∧0<q.length
    ·obtain ⟨hy,hq0⟩:=hy
     rw[if_pos (by simpa using hy),qaa,if_pos (dpos (by omega))]
     obtain ⟨p,hp⟩:∃p,q.length=p+1:=⟨q.length - 1,by omega⟩
     have hw:IntKind.wrap .i64 ((q.length:Int) - 1)=(p:Int):=by rw[w64 (by omega) (by omega)];omega
     have hpl:p<q.length:=by omega
     rw[hw,qad (qam hpl)]
     simp only[qaa]
     rw[qca (by omega),qaa]
     have hbm:=List.getElem_mem hpl
     obtain ⟨b0,b1⟩:=old _ hbm
     obtain ⟨r0,r1⟩:=hI.rg _ b0
     have hqs:q=q.take p++[q[p]]:=by
      conv=>lhs;rw[←List.take_append_drop p q,qbz (qam hpl)]
      rw[List.drop_of_length_le (by omega)]
     have hnot:q[p]∉q.take p:=by
      intro hh
      have hd:=t3
      rw[hqs,List.nodup_append] at hd
      exact hd.2.2 _ hh q[p] (by simp) rfl
     refine ⟨s2,_,_,_,rfl,h4.le (by omega),hI.add (qcs hnm ⟨a0,by omega⟩ ⟨r0,by omega⟩ (fun hh=>b1 hh.symm) hlen) rfl ?_ ?_ (t3.sublist (List.take_sublist p q)) (by omega) (by omega) (by rw[List.length_take];omega)⟩
     ·intro n hn
      simp[qae] at hn
      rcases hn with rfl|rfl
      ·exact .inl ham
      ·exact .inl b0
     ·intro n hn
      obtain ⟨o1,o2⟩:=old n (List.mem_of_mem_take hn)
      refine .inl ⟨o1, ?_⟩
      simp[qae]
      exact ⟨o2,fun hh=>hnot (hh▸hn)⟩
    ·have hgo:∀{β:Type} (f:Maker×Bool→Option β),(Option.bind (if (y==0)=true then some (s2,decide (0<(q.length:Int))) else some (s2,false)) f)=f (s2,false):=by
      intro β f
      by_cases h0:y=0
      ·rw[if_pos (by simpa using h0),qaa]
       have h00:¬0<q.length:=fun h=>hy ⟨h0,h⟩
       have:decide (0<(q.length:Int))=false:=by rw[decide_eq_false_iff_not];omega
       rw[this]
      ·rw[if_neg (by simpa using h0),qaa]
     rw[hgo]
     simp only[Bool.false_eq_true,if_false]
     obtain ⟨y2,s3,i1,i2,i3,i4⟩:=qbk N (s:=s2) (c:=c+1+1) 2 (by omega) (by omega) h4 (by omega)
     rw[i1,qaa]
     have hend:∀n∈qae (PlantElement.mk 1 (qch l.length) a nx 0 len),n∈op∨(nx≤n∧n<nx+1):=by
      intro n hn
      simp[qae] at hn
      rcases hn with rfl|rfl
      ·exact .inl ham
      ·exact .inr (by omega)
     have hold:∀n∈q,n∈op∧n∉qae (PlantElement.mk 1 (qch l.length) a nx 0 len):=by
      intro n hn
      obtain ⟨o1,o2⟩:=old n hn
      have:=fresh n hn
      refine ⟨o1, ?_⟩
      simp[qae];omega
     by_cases hy2:y2=0
     ·rw[if_pos (by simpa using hy2)]
      refine ⟨s3,_,_,_,rfl,i4.le (by omega),hI.add (qcs hnm ⟨a0,by omega⟩ ⟨hnx0,by omega⟩ (by omega) hlen) rfl hend ?_ nd1 (by omega) (by omega) (by simp;omega)⟩
      intro n hn
      rcases List.mem_append.1 hn with hn|hn
      ·exact .inl (hold n hn)
      ·simp at hn;right;omega
     ·rw[if_neg (by simpa using hy2)]
      exact ⟨s3,_,_,_,rfl,i4.le (by omega),hI.add (qcs hnm ⟨a0,by omega⟩ ⟨hnx0,by omega⟩ (by omega) hlen) rfl hend (fun n hn=> .inl (hold n hn)) t3 (by omega) (by omega) (by omega)⟩
theorem pl2 (N:Nat) (k:Int) (l:List PlantElement) (op:List Int) (nx:Int):qnq N k l op nx=some (decide ((l.length:Int)<k∧0<op.length∧nx<62)):=by
 unfold qnq
 by_cases h1:(l.length:Int)<k
 ·rw[if_pos (dpos h1)]
  by_cases h2:0<op.length
  ·rw[if_pos (dpos (by omega))];simp[h1,h2]
  ·rw[if_neg (dneg (by omega))];simp[h2]
 ·rw[if_neg (dneg h1)];simp[h1]
theorem qjc (N:Nat) {b:Int} (hb0:0≤b) (hb:b≤900000) {k:Int} (hk:k≤60):∀(f n:Nat) (c:Int) (s:Maker) (l:List PlantElement) (op:List Int) (nx:Int),f<n→k≤(l.length:Int)+f→(l.length:Int)≤61→c≤b+10000→(l.length:Int)*100+c≤b+9000+(l.length:Int)*107→Mk c s→PlI l op nx→
  ∃s' l' op' nx',qmc N k n s l op nx=some (s',l',op',nx')∧Mk (b+20000) s'∧(l'.length:Int)≤61∧PlI l' op' nx'
 |f,0,c,s,l,op,nx,hn,_,_,_,_,_,_=>by omega
 |f,n+1,c,s,l,op,nx,hn,hf,hl,hc,hc2,hs,hI=>by
  rw[qmc,pl2,qaa]
  by_cases hcond:(l.length:Int)<k∧0<op.length∧nx<62
  ·rw[decide_eq_true hcond,if_pos rfl]
   obtain ⟨c1,c2,c3⟩:=hcond
   have hol:=hI.ln
   obtain ⟨r,s1,h1,h2,h3,h4⟩:=qbk N (s:=s) (c:=c) (op.length:Int) (by omega) (by omega) hs (by omega)
   obtain ⟨q,rfl⟩:=Int.eq_ofNat_of_zero_le h2
   have hq:q<op.length:=by omega
   have ha:=qam hq
   rw[h1,qaa]
   simp only[]
   rw[qad ha,qaa,qaa,qca (by omega),qaa,w64s (by omega),qb9 (by omega),qaa]
   have e1:List.take (Int.toNat (op.length:Int)) op=op:=by rw[Int.toNat_natCast,List.take_length]
   rw[e1,Int.toNat_natCast,Int.toNat_natCast,qaR (by rw[List.length_take,List.length_drop];omega),qaa,qgC N (by omega),qaa]
   obtain ⟨kd,s2,g1,g2,g3,g4⟩:=qbk N (s:=s1) (c:=c+1) 6 (by omega) (by omega) h4 (by omega)
   rw[g1,qaa]
   simp only[]
   obtain ⟨s3,op',nx',x,p1,p2,p3⟩:=qo8 N (c:=c+1+1) hI (by omega) g4 (by omega) c3 ha g2 g3
   rw[p1,qaa]
   simp only[]
   rw[qaR (by simp;omega),qaa]
   cases f with
   |zero=>omega
   |succ f=>
    exact qjc N hb0 hb hk f n (c+7) s3 (l++[x]) op' nx' (by omega) (by simp;omega) (by simp;omega) (by simp at*;omega) (by simp;omega) (p2.le (by omega)) p3
  ·rw[decide_eq_false hcond,if_neg (by simp)]
   exact ⟨s,l,op,nx,rfl,hs.le (by omega),hl,hI⟩
theorem pl7 (N:Nat) (l:List PlantElement) (op:List Int) (nx:Int):qnt N l op nx=some (decide (0<op.length∧l.length<96∧nx<64)):=by
 unfold qnt
 by_cases h1:0<op.length
 ·rw[if_pos (dpos (by omega))]
  by_cases h2:l.length<96
  ·rw[if_pos (dpos (by omega))];simp[h1,h2]
  ·rw[if_neg (dneg (by omega))];simp[h2]
 ·rw[if_neg (dneg (by omega))];simp[h1]
theorem qgh (N:Nat) {b:Int} (hb0:0≤b) (hb:b≤900000):∀(f n:Nat) (c:Int) (s:Maker) (l:List PlantElement) (op:List Int) (nx:Int),f<n→op.length≤f→l.length≤96→c+op.length≤b+30000→Mk c s→PlI l op nx→
  ∃s' l',qmd N n s l op nx=some (s',l')∧Mk (b+30000) s'∧l'.length≤96∧∃op' nx',PlI l' op' nx'
 |f,0,c,s,l,op,nx,hn,_,_,_,_,_=>by omega
 |f,n+1,c,s,l,op,nx,hn,hf,hl,hc,hs,hI=>by
  rw[qmd,pl7,qaa]
  by_cases hcond:0<op.length∧l.length<96∧nx<64
  ·rw[decide_eq_true hcond,if_pos rfl]
   obtain ⟨c1,c2,c3⟩:=hcond
   obtain ⟨r,s1,h1,h2,h3,h4⟩:=qbk N (s:=s) (c:=c) 5 (by omega) (by omega) hs (by omega)
   rw[h1,qaa]
   simp only[]
   have ha:=qam c1
   have hnx0:=hI.nx0
   obtain ⟨t1,t2,t3,t4⟩:=qjp ha hI.nd
   rw[List.take_zero,List.nil_append] at t1 t2 t3 t4
   have hcut:cutI op 1 (op.length:Int)=some (op.drop 1):=qb9 (i:=1) (by omega)
   obtain ⟨a0,a1⟩:=hI.rg _ (List.getElem_mem c1)
   have hln:=hI.ln
   have fresh:∀n∈op.drop 1,n<nx:=fun n hn=>(hI.rg n (t2 n hn)).2
   cases f with
   |zero=>omega
   |succ f=>
    unfold qpK
    by_cases hr:0<r
    ·rw[if_pos (dpos hr),qgC N (by omega),qaa]
     have hg:getI op 0=some op[0]:=qad ha
     rw[hg,qaa,qaa,qaR (by simp;omega),qaa,qac,w64 (by omega) (by omega),qaa,hcut,qaa]
     refine qgh N hb0 hb f n (c+1) s1 _ _ _ (by omega) (by rw[List.length_drop];omega) (by simp;omega) (by rw[List.length_drop];omega) h4 (hI.add (qcs (qga _) ⟨a0,by omega⟩ ⟨hnx0,by omega⟩ (by omega) (by omega)) rfl ?_ ?_ t3 (by omega) (by omega) (by rw[List.length_drop];omega))
     ·intro n hn
      simp[qae] at hn
      rcases hn with rfl|rfl
      ·exact .inl (List.getElem_mem c1)
      ·exact .inr (by omega)
     ·intro n hn
      have:=fresh n hn
      refine .inl ⟨t2 n hn, ?_⟩
      simp[qae]
      exact ⟨fun hh=>t1 (hh▸hn),by omega⟩
    ·rw[if_neg (dneg hr),qaa,hcut,qaa]
     refine qgh N hb0 hb f n (c+1) s1 _ _ _ (by omega) (by rw[List.length_drop];omega) hl (by rw[List.length_drop];omega) h4 ?_
     exact {hI with op1:=fun n hn=>hI.op1 n (t2 n hn),nd:=t3,rg:=fun n hn=>hI.rg n (t2 n hn),ln:=by rw[List.length_drop];omega}
  ·rw[decide_eq_false hcond,if_neg (by simp)]
   exact ⟨s,l,rfl,hs.le (by omega),hl,op,nx,hI⟩
structure MadeP (l:List PlantElement):Prop where
 ok:PlOk l
 fst:∃x,l[0]? =some x∧x.kind=1
theorem qmW (N:Nat) (hN:200≤N) {b:Int} (hb0:0≤b) (hb:b≤900000) {s:Maker} (hs:Mk b s) {k:Int} (hk:k≤60):∃l s',zaZ N s k=some (l,s')∧Mk (b+30000) s'∧MadeP l:=by
 unfold zaZ
 have hnm:zbF N 0=some (qch 0):=qgC N (i:=0) (by omega)
 obtain ⟨y,s1,h1,h2,h3,h4⟩:=qbk N (s:=s) (c:=b) 2 (by omega) (by omega) hs (by omega)
 rw[hnm,qaa,h1,qaa]
 simp only[]
 have hct:∀n,cnt [PlantElement.mk 1 (qch 0) 0 1 0 500] n=if n=0∨n=1 then 1 else 0:=by
  intro n
  unfold cnt
  have:(qae (PlantElement.mk 1 (qch 0) 0 1 0 500))=[0,1]:=by simp[qae]
  rw[List.filter_cons,this]
  by_cases hn:n=0∨n=1
  ·rw[if_pos (by simpa using hn),if_pos hn];rfl
  ·rw[if_neg (by simpa using hn),if_neg hn];rfl
 have h0:∀op:List Int,(∀n∈op,n=0∨n=1)→op.Nodup→op.length≤2→PlI [PlantElement.mk 1 (qch 0) 0 1 0 500] op 2:=fun op ho hd hl=>
  {snd:=fun x hx=>by simp at hx;subst hx;exact qcs (qga 0) (by omega) (by omega) (by omega) (by omega)
   nm:=fun i x hx=>by
    have:=(List.getElem?_eq_some_iff.1 hx).1
    simp at this
    subst this
    simp at hx;subst hx;rfl
   ct:=fun n=>by rw[hct];split<;>omega
   op1:=fun n _=>by rw[hct];split<;>omega
   nd:=hd
   rg:=fun n hn=>by rcases ho n hn with h|h<;>omega
   nw:=fun n hn=>by rw[hct,if_neg (by omega)]
   ln:=by omega
   nx64:=by omega
   nx0:=by omega
   fst:=⟨_,rfl,rfl⟩}
 have hop:∃op,qnp N [1] (y==0)=some op∧PlI [PlantElement.mk 1 (qch 0) 0 1 0 500] op 2:=by
  unfold qnp
  by_cases hy:y=0
  ·rw[if_pos (by simpa using hy),qaR (by simp),qaa]
   exact ⟨_,rfl,h0 _ (by simp) (by simp) (by simp)⟩
  ·rw[if_neg (by simpa using hy)]
   exact ⟨_,rfl,h0 _ (by simp) (by simp) (by simp)⟩
 obtain ⟨op,g1,g2⟩:=hop
 rw[g1,qaa]
 obtain ⟨s2,l2,op2,nx2,p1,p2,p3,p4⟩:=qjc N hb0 hb hk 100 N (b+1) s1 _ op 2 (by omega) (by simp;omega) (by simp) (by omega) (by simp;omega) h4 g2
 rw[p1,qaa]
 simp only[]
 have:=p4.ln
 have:=p4.nx64
 obtain ⟨s3,l3,q1,q2,q3,op3,nx3,q4⟩:=qgh N hb0 hb 64 N (b+20000) s2 l2 op2 nx2 (by omega) (by omega) (by omega) (by omega) p2 p4
 rw[q1,qaa]
 exact ⟨l3,s3,rfl,q2,q4.ok q3,q4.fst⟩
end Go.W
end
section
set_option linter.unusedSimpArgs false
set_option linter.unusedVariables false
set_option maxRecDepth 100000
namespace Go.W
open Go.AM
theorem qhe {α β:Type} [DecidableEq α]:∀{m:List (α×β)} {k:α},(∃v,qah m k=some v)↔k∈m.map Prod.fst
 |[],k=>by simp[qah]
 |p::m,k=>by
  simp only[qah,List.map_cons,List.mem_cons]
  by_cases h:p.1=k
  ·rw[if_pos h];simp[h]
  ·rw[if_neg h,qhe]
   constructor
   ·exact .inr
   ·rintro (hh|hh)
    ·exact absurd hh.symm h
    ·exact hh
theorem qef {α:Type} [DecidableEq α]:∀{a b:List α},a.Nodup→(∀x∈a,x∈b)→a.length≤b.length
 |[],b,_,_=>by simp
 |x::a,b,hd,hs=>by
  have hd':=List.nodup_cons.1 hd
  have hx:=hs x List.mem_cons_self
  have:=qef (a:=a) (b:=b.erase x) hd'.2 fun y hy=>(List.mem_erase_of_ne (by rintro rfl;exact hd'.1 hy)).2 (hs y (List.mem_cons_of_mem _ hy))
  rw[List.length_erase_of_mem hx] at this
  have hpos:=List.length_pos_of_mem hx
  simp only[List.length_cons];omega
open Go.AM
open Go.AM
def trk (l:List PlantElement) (i:Int):Prop:=0≤i∧∃x,l[i.toNat]? =some x∧x.kind=1
instance (l:List PlantElement) (i:Int):Decidable (trk l i):=by
 unfold trk
 cases h:l[i.toNat]? with
 |none=>exact isFalse (by rintro ⟨_,x,hx,_⟩;cases hx)
 |some y=>exact if h2:0≤i∧y.kind=1 then isTrue ⟨h2.1,y,rfl,h2.2⟩ else isFalse (by rintro ⟨a,x,hx,b⟩;cases hx;exact h2 ⟨a,b⟩)
theorem qly (N:Nat) (l:List PlantElement) (i:Int):zbO N l i=some (decide (trk l i)):=by
 unfold zbO qnw
 by_cases h0:0≤i
 ·rw[if_pos (lpos h0)]
  by_cases h1:i<l.length
  ·rw[if_pos (dpos h1)]
   have hlt:i.toNat<l.length:=by omega
   have hg:getI l i=some l[i.toNat]:=by simp[getI,h0,hlt]
   rw[hg,qaa,qac,qaa]
   congr 1
   by_cases hk:l[i.toNat].kind=1
   ·rw[decide_eq_true (show trk l i from ⟨h0,_,qam hlt,hk⟩)];simpa using hk
   ·rw[decide_eq_false (show ¬trk l i from by rintro ⟨_,x,hx,hk'⟩;rw[qam hlt] at hx;cases hx;exact hk hk')];simpa using hk
  ·rw[if_neg (dneg h1),qaa,decide_eq_false (show ¬trk l i from by rintro ⟨_,x,hx,_⟩;have:=(List.getElem?_eq_some_iff.1 hx).1;omega)]
 ·rw[if_neg (lneg h0),qaa,decide_eq_false (show ¬trk l i from fun h=>h0 h.1)]
theorem qpj (N:Nat) (l:List PlantElement) (i:Int):zcE N l i=some (decide (trk l i)):=by
 have h:=qly N l i
 unfold zbO qnw at h
 unfold zcE qpX
 exact h
theorem qcL (N:Nat) {l:List Int} (hN:l.length<N) (hl:l.length≤1000000) (x:Int):zaA N l x=some (l.contains x):=by
 unfold zaA zaC
 have h:=qaq (l:=l) (fun _ y=>x==y) (fun i _=>(i:Int)) (fun m i=>qhB N l x l.length m i) (fun m=>by
  show qhB N l x l.length (m+1) _=_
  rw[qhB,if_neg (dneg (by omega))]) (fun m i y hy=>by
  show qhB N l x l.length (m+1) _=_
  have hlt:=(List.getElem?_eq_some_iff.1 hy).1
  rw[qhB,if_pos (dpos (by omega)),qad hy,qaa,w64s (by omega)]) l.length N 0 hN (by omega)
 simp only[Int.natCast_zero,List.drop_zero] at h
 rw[h,qaa]
 have key:(∃u,res (fun _ y=>x==y) (fun i _=>(i:Int)) 0 l= .inl u)↔l.contains x=false:=by
  have:res (fun _ y=>x==y) (fun i (_:Int)=>(i:Int)) 0 l= .inl ()↔_:=qbV
  constructor
  ·rintro ⟨u,hu⟩
   have h2:=this.1 hu
   rw[Bool.eq_false_iff]
   intro hc
   have hm:x∈l:=by simpa using hc
   obtain ⟨j,hj⟩:=List.getElem?_of_mem hm
   have:=h2 j x hj
   simp at this
  ·intro hc
   refine ⟨(),this.2 fun j y hj=> ?_⟩
   have hm:x∉l:=by simpa using hc
   simp only[beq_eq_false_iff_ne,ne_eq]
   rintro rfl
   exact hm (List.mem_of_getElem? hj)
 rcases qeO (fun _ y=>x==y) l 0 with ⟨h1,h2⟩|⟨h1,h2⟩
 ·rw[h1]
  have:=key.1 ⟨(),h1⟩
  rw[this]
  rfl
 ·rw[h1]
  have:l.contains x=true:=by
   cases hc:l.contains x with
   |true=>rfl
   |false=>obtain ⟨u,hu⟩:=key.2 hc;rw[h1] at hu;cases hu
  rw[this]
  simp only[qaa,qac]
  rw[decide_eq_true h2]
theorem qlB (N:Nat) {l:List Int} (hN:l.length<N) (hl:l.length≤1000000) (x:Int):zcR N l x=some (l.contains x):=by
 have h:=qkK (l:=l) (x:=x) (fun n i=>qhN N l x n i) (fun n=>by
  show qhN N l x (n+1) _=_
  rw[qhN,if_neg (dneg (by omega))]) (fun n i y hy=>by
  show qhN N l x (n+1) _=_
  have hlt:=(List.getElem?_eq_some_iff.1 hy).1
  rw[qhN,if_pos (dpos (by omega)),qad hy,qaa,qac,w64s (by omega)]) hN
 unfold zcR
 rw[h,qaa]
 cases l.contains x<;>rfl
def elems (r:List Visit):List Int:=r.map Visit.element
theorem qds (N:Nat) {r:List Visit} (hN:r.length<N) (hl:r.length≤9223372036854775807) (x:Int):zbX N r x=some ((elems r).contains x):=by
 have h:=qaq (l:=r) (fun _ y=>y.element==x) (fun _ _=>true) (fun n i=>qhH N r x n i) (fun n=>by
  show qhH N r x (n+1) _=_
  rw[qhH,if_neg (dneg (by omega))]) (fun n i y hy=>by
  show qhH N r x (n+1) _=_
  have hlt:=(List.getElem?_eq_some_iff.1 hy).1
  rw[qhH,if_pos (dpos (by omega)),qad hy,qaa,qac,w64s (by omega)]) r.length N 0 hN (by omega)
 simp only[Int.natCast_zero,List.drop_zero] at h
 unfold zbX
 rw[h,qaa,qij (fun y:Visit=>y.element==x)]
 have e:(r.any fun y=>y.element==x)=(elems r).contains x:=by
  unfold elems
  rw[←qiE,List.any_map]
  rfl
 rw[e]
 cases (elems r).contains x<;>rfl
theorem qfF (N:Nat) {r:List Visit} (hl:r.length≤9223372036854775807):∀(k n i:Nat) (x3:List (Int×Bool)),k<n→i+k=r.length→(∀a,(qah x3 a).getD false=(elems (r.take i)).contains a)→(elems (r.take i)).Nodup→
  (qgJ N r r.length n x3 i=some (.inl ())∧(elems r).Nodup)∨(qgJ N r r.length n x3 i=some (.inr true)∧¬(elems r).Nodup)
 |k,0,i,x3,hn,_,_,_=>by omega
 |0,n+1,i,x3,hn,hi,h1,h2=>by
  obtain rfl:i=r.length:=by omega
  rw[qgJ,if_neg (dneg (by omega))]
  rw[List.take_length] at h2
  exact .inl ⟨rfl,h2⟩
 |k+1,n+1,i,x3,hn,hi,h1,h2=>by
  have hlt:i<r.length:=by omega
  have ha:=qam hlt
  rw[qgJ,if_pos (dpos (by omega)),qad ha,qaa,qac,h1]
  have htk:elems (r.take (i+1))=elems (r.take i)++[r[i].element]:=by unfold elems;rw[qba ha,List.map_append];rfl
  by_cases hc:(elems (r.take i)).contains r[i].element=true
  ·rw[if_pos hc]
   refine .inr ⟨rfl,fun hd=> ?_⟩
   have hs:(elems (r.take (i+1))).Nodup:=hd.sublist ((List.take_sublist (i+1) r).map _)
   rw[htk,List.nodup_append] at hs
   exact hs.2.2 _ (by simpa using hc) _ (by simp) rfl
  ·rw[if_neg hc,qac,w64s (by omega)]
   refine qfF N hl k n (i+1) _ (by omega) (by omega) (fun a=> ?_) ?_
   ·rw[qaF,htk]
    by_cases hh:r[i].element=a
    ·rw[if_pos hh];simp[hh]
    ·rw[if_neg hh,h1]
     have hh':¬a=r[i].element:=fun q=>hh q.symm
     simp[hh']
   ·rw[htk,List.nodup_append]
    refine ⟨h2,by simp,fun x hx y hy=> ?_⟩
    simp at hy
    subst hy
    rintro rfl
    exact hc (by simpa using hx)
theorem qng (N:Nat) {r:List Visit} (hN:r.length<N) (hl:r.length≤9223372036854775807):∃b,zbP N r=some b∧(b=false↔(elems r).Nodup):=by
 unfold zbP
 have h:=qfF N hl r.length N 0 [] hN (by omega) (fun a=>by simp[qah,elems]) (by simp[elems])
 rcases h with ⟨h1,h2⟩|⟨h1,h2⟩
 ·have h1:qgJ N r r.length N [] 0=some (.inl ()):=h1
  rw[h1,qaa]
  exact ⟨false,rfl,by simp[h2]⟩
 ·have h1:qgJ N r r.length N [] 0=some (.inr true):=h1
  rw[h1,qaa]
  exact ⟨true,rfl,by simp[h2]⟩
structure WayP (l:List PlantElement) (r:List Visit):Prop where
 two:2≤r.length
 st:∀v,r[0]? =some v→trk l v.element∧v.in_= -1∧v.out∈eI l v.element
 en:∀v,r[r.length - 1]? =some v→trk l v.element∧v.out= -1
 step:∀(i:Nat) v w,r[i]? =some v→r[i+1]? =some w→w.in_=v.out∧0≤w.element∧w.element=nbr l v.element v.out
 mid:∀(i:Nat) v,0<i→i+1<r.length→r[i]? =some v→v.out∈thr l v.element v.in_
theorem WayP.ins {l:List PlantElement} {r:List Visit} (h:WayP l r) {i:Nat} {v:Visit} (hi:0<i) (hv:r[i]? =some v):v.in_∈eI l v.element:=by
 obtain ⟨j,rfl⟩:∃j,i=j+1:=⟨i - 1,by omega⟩
 have hlt:=(List.getElem?_eq_some_iff.1 hv).1
 have hj:=qam (xs:=r) (i:=j) (by omega)
 obtain ⟨a,b,c⟩:=h.step j _ v hj hv
 rw[c,a]
 exact (qeI (by rw[←c];exact b)).1
theorem WayP.outs {l:List PlantElement} {r:List Visit} (h:WayP l r) {i:Nat} {v:Visit} (hi:i+1<r.length) (hv:r[i]? =some v):v.out∈eI l v.element:=by
 cases i with
 |zero=>exact (h.st v hv).2.2
 |succ i=>exact (qit (h.mid (i+1) v (by omega) hi hv)).2
theorem qa1 {a:Bool} {x:Option Bool} {p q:Prop} (ha:a=false↔p) (hx:∃b,x=some b∧(b=false↔q)):∃b,(if a=true then some true else x)=some b∧(b=false↔p∧q):=by
 cases a with
 |true=>exact ⟨true,rfl,by simp at ha;simp[ha]⟩
 |false=>
  obtain ⟨b,h1,h2⟩:=hx
  refine ⟨b,by simpa using h1, ?_⟩
  rw[h2]
  simp at ha
  simp[ha]
theorem qi2 {p:Prop} [Decidable p]:(!decide p)=false↔p:=by simp
theorem qk9 {l:List Int} {x:Int}:(!l.contains x)=false↔x∈l:=by simp
theorem qgT {a b:Int}:(a !=b)=false↔a=b:=by simp
theorem qqb {a b:Int}:decide (a<b)=false↔b≤a:=by simp
theorem qpc (N:Nat) {l:List PlantElement} {r:List Visit} (hN:r.length+l.length+10≤N) (hl:l.length≤1000000) (hr:r.length≤9223372036854775807):∃b,zcG N l r=some b∧(b=true↔WayP l r):=by
 unfold zcG
 rw[qac]
 by_cases h2:r.length<2
 ·have h:qj4 N l r (IntKind.wrap .i64 ((r.length:Int) - 1))=some true:=by
   unfold qj4
   rw[if_pos (dpos (by rw[w64 (by omega) (by omega)];omega))]
  rw[h,qaa,if_pos rfl]
  exact ⟨false,rfl,by simp;intro hw;have:=hw.two;omega⟩
 have hw:IntKind.wrap .i64 ((r.length:Int) - 1)=((r.length - 1:Nat):Int):=by rw[w64 (by omega) (by omega)];omega
 rw[hw]
 have h0:=qam (xs:=r) (i:=0) (by omega)
 have hz:=qam (xs:=r) (i:=r.length - 1) (by omega)
 generalize hv0:r[0]'(by omega)=v at h0
 generalize hvz:r[r.length - 1]'(by omega)=w at hz
 have g0:getI r 0=some v:=qad h0
 have gz:getI r ((r.length - 1:Nat):Int)=some w:=qad hz
 have e1:=qdR l v.element
 have e2:=qdR l w.element
 have c0:∃b,qj4 N l r ((r.length - 1:Nat):Int)=some b∧(b=false↔trk l v.element∧trk l w.element∧v.in_= -1∧w.out= -1):=by
  unfold qj4
  rw[if_neg (dneg (by omega))]
  simp only[g0,gz,qaa,qly]
  exact qa1 qi2 (qa1 qi2 (qa1 qgT ⟨_,rfl,qgT⟩))
 have c1:∃b,qnD N l r ((r.length - 1:Nat):Int)=some b∧(b=false↔v.out∈eI l v.element∧w.in_∈eI l w.element):=by
  unfold qnD
  simp only[g0,gz,qaa,qja]
  rw[qcL N (by omega) (by omega),qcL N (by omega) (by omega)]
  simp only[qaa]
  exact qa1 qk9 ⟨_,rfl,qk9⟩
 obtain ⟨b0,p0,q0⟩:=c0
 obtain ⟨b1,p1,q1⟩:=c1
 rw[p0,qaa]
 have st':∀{x},r[0]? =some x→x=v:=fun hx=>by rw[h0] at hx;cases hx;rfl
 have en':∀{x},r[r.length - 1]? =some x→x=w:=fun hx=>by rw[hz] at hx;cases hx;rfl
 cases b0 with
 |true=>
  rw[if_pos rfl]
  refine ⟨false,rfl, ?_⟩
  simp only[Bool.false_eq_true,false_iff]
  intro hw
  have a:=hw.st v h0
  have b:=hw.en w hz
  have:=q0.2 ⟨a.1,b.1,a.2.1,b.2⟩
  cases this
 |false=>
  rw[if_neg (by simp),p1,qaa]
  have q0:=q0.1 rfl
  cases b1 with
  |true=>
   rw[if_pos rfl]
   refine ⟨false,rfl, ?_⟩
   simp only[Bool.false_eq_true,false_iff]
   intro hw
   have:=q1.2 ⟨(hw.st v h0).2.2,hw.ins (by omega) hz⟩
   cases this
  |false=>
   rw[if_neg (by simp)]
   have q1:=q1.1 rfl
   have hcut:cutI r 1 (r.length:Int)=some (r.drop 1):=qb9 (i:=1) (by omega)
   rw[hcut,qaa]
   have hlen:(r.drop 1).length=r.length - 1:=List.length_drop
   let bad:Nat→Visit→Prop:=fun i y=>¬((y.in_=(r.getD i (Visit.mk 0 0 0)).out∧0≤y.element∧nbr l (r.getD i (Visit.mk 0 0 0)).element (r.getD i (Visit.mk 0 0 0)).out=y.element)∧(i+2<r.length→y.out∈thr l y.element y.in_))
   have hloop:=qaq (l:=r.drop 1) (fun i y=> @decide (bad i y) (Classical.propDecidable _)) (fun _ _=>false) (fun m i=>qhK N l r ((r.length - 1:Nat):Int) (r.drop 1) (r.drop 1).length m i) (fun m=>by
    show qhK N l r _ (r.drop 1) (r.drop 1).length (m+1) _=_
    rw[qhK,if_neg (dneg (by omega))]) (fun m i y hy=>by
    show qhK N l r _ (r.drop 1) (r.drop 1).length (m+1) _=_
    have hlt:=(List.getElem?_eq_some_iff.1 hy).1
    have hi:=qam (xs:=r) (i:=i) (by omega)
    rw[qhK,if_pos (dpos (by omega)),qad hy,qaa,qad hi,qaa]
    have hgd:r.getD i (Visit.mk 0 0 0)=r[i]'(by omega):=by simp[List.getD,hi]
    have d3:∃b,qnE N l y (r[i]'(by omega))=some b∧(b=false↔y.in_=(r.getD i (Visit.mk 0 0 0)).out∧0≤y.element∧nbr l (r.getD i (Visit.mk 0 0 0)).element (r.getD i (Visit.mk 0 0 0)).out=y.element):=by
     unfold qnE
     rw[hgd,qlv N (by omega) (by omega),qaa]
     exact qa1 qgT (qa1 qqb ⟨_,rfl,qgT⟩)
    have d4:∃b,qnF N l ((r.length - 1:Nat):Int) i y=some b∧(b=false↔(i+2<r.length→y.out∈thr l y.element y.in_)):=by
     unfold qnF
     rw[w64s (by omega)]
     by_cases hh:i+2<r.length
     ·rw[if_pos (dpos (by omega)),qpb N (by omega),qaa,qcL N (by have:=qgz l y.element y.in_;omega) (by have:=qgz l y.element y.in_;omega),qaa]
      exact ⟨_,rfl,by rw[qk9];simp[hh]⟩
     ·rw[if_neg (dneg (by omega))]
      exact ⟨false,rfl,by simp[hh]⟩
    obtain ⟨b3,r3,s3⟩:=d3
    obtain ⟨b4,r4,s4⟩:=d4
    rw[r3,qaa]
    cases b3 with
    |true=>
     have hb:bad i y:=fun hh=>by have:=s3.2 hh.1;cases this
     rw[if_pos rfl, @decide_eq_true _ (Classical.propDecidable _) hb,if_pos rfl]
    |false=>
     rw[if_neg (by simp),r4,qaa]
     cases b4 with
     |true=>
      have hb:bad i y:=fun hh=>by have:=s4.2 hh.2;cases this
      rw[if_pos rfl, @decide_eq_true _ (Classical.propDecidable _) hb,if_pos rfl]
     |false=>
      have hb:¬bad i y:=fun hh=>hh ⟨s3.1 rfl,s4.1 rfl⟩
      rw[if_neg (by simp), @decide_eq_false _ (Classical.propDecidable _) hb,if_neg (by simp),w64s (by omega)]) (r.drop 1).length N 0 (by omega) (by omega)
   simp only[Int.natCast_zero,List.drop_zero] at hloop
   rw[hloop,qaa]
   have hiff:WayP l r↔∀(j:Nat) (y:Visit),(r.drop 1)[j]? =some y→¬bad j y:=by
    constructor
    ·intro hw j y hj hb
     rw[List.getElem?_drop,Nat.add_comm] at hj
     have hlt:=(List.getElem?_eq_some_iff.1 hj).1
     have hi:=qam (xs:=r) (i:=j) (by omega)
     have hgd:r.getD j (Visit.mk 0 0 0)=r[j]'(by omega):=by simp[List.getD,hi]
     obtain ⟨a,b,c⟩:=hw.step j _ y hi hj
     refine hb ⟨by rw[hgd];exact ⟨a,b,c.symm⟩,fun hh=>hw.mid (j+1) y (by omega) (by omega) hj⟩
    ·intro hh
     refine ⟨by omega,fun x hx=> ?_,fun x hx=> ?_,fun i x y hx hy=> ?_,fun i x hi hi2 hx=> ?_⟩
     ·rw[st' hx];exact ⟨q0.1,q0.2.2.1,q1.1⟩
     ·rw[en' hx];exact ⟨q0.2.1,q0.2.2.2⟩
     ·have:=Classical.not_not.1 (hh i y (by rw[List.getElem?_drop,Nat.add_comm];exact hy))
      have hgd:r.getD i (Visit.mk 0 0 0)=x:=by simp[List.getD,hx]
      rw[hgd] at this
      exact ⟨this.1.1,this.1.2.1,this.1.2.2.symm⟩
     ·obtain ⟨j,rfl⟩:∃j,i=j+1:=⟨i - 1,by omega⟩
      have:=Classical.not_not.1 (hh j x (by rw[List.getElem?_drop,Nat.add_comm];exact hx))
      exact this.2 (by omega)
   have hres:=qbV (p:=fun i y=> @decide (bad i y) (Classical.propDecidable _)) (out:=fun _ _=>false) (l:=r.drop 1) (i:=0)
   cases hr2:res (fun i y=> @decide (bad i y) (Classical.propDecidable _)) (fun _ _=>false) 0 (r.drop 1) with
   |inl u=>
    refine ⟨true,rfl, ?_⟩
    simp only[true_iff]
    refine hiff.2 fun j y hj=> ?_
    have:=(hres.1 hr2) j y hj
    rw[Nat.zero_add] at this
    exact @of_decide_eq_false _ (Classical.propDecidable _) this
   |inr b=>
    have hbf:b=false:=by
     have key:∀(e:List Visit) (i:Nat) (b:Bool),res (fun i y=> @decide (bad i y) (Classical.propDecidable _)) (fun _ _=>false) i e= .inr b→b=false:=by
      intro e
      induction e with
      |nil=>intro i b h;cases h
      |cons y e ih=>
       intro i b h
       rw[res] at h
       split at h
       ·cases h;rfl
       ·exact ih _ _ h
     exact key _ _ _ hr2
    subst hbf
    refine ⟨false,rfl, ?_⟩
    simp only[Bool.false_eq_true,false_iff]
    intro hw
    have:=hres.2 fun j y hj=>by
     rw[Nat.zero_add]
     exact @decide_eq_false _ (Classical.propDecidable _) (hiff.1 hw j y hj)
    rw[this] at hr2;cases hr2
open Go.AM
def RtP (l:List PlantElement) (r:List Visit):Prop:=vErr l=0∧WayP l r∧(elems r).Nodup
theorem qig (N:Nat) {l:List PlantElement} {r:List Visit} (hN:r.length+l.length+200≤N) (hl:l.length≤1000000) (hr:r.length≤9223372036854775807):∃b,zbN N l r=some b∧(b=true↔RtP l r):=by
 unfold zbN qpO RtP
 rw[qhn N (by omega),qaa]
 by_cases h0:vErr l=0
 ·rw[if_pos (by simpa using h0)]
  obtain ⟨b,h1,h2⟩:=qpc N (l:=l) (r:=r) (by omega) hl hr
  obtain ⟨c,h3,h4⟩:=qng N (r:=r) (by omega) hr
  rw[h1,qaa]
  cases b with
  |true=>
   rw[if_pos rfl,h3]
   simp only[qaa,qac]
   refine ⟨!c,rfl, ?_⟩
   simp only[Bool.not_eq_true',h4]
   exact ⟨fun h=>⟨h0,h2.1 rfl,h⟩,fun h=>h.2.2⟩
  |false=>
   rw[if_neg (by simp),qaa]
   refine ⟨false,rfl, ?_⟩
   simp only[Bool.false_eq_true,false_iff]
   intro h
   have:=h2.2 h.2.1
   cases this
 ·rw[if_neg (by simpa using h0),qaa]
  exact ⟨false,rfl,by simp[h0]⟩
theorem qlC (N:Nat) {l:List PlantElement} {r:List Visit} (hN:r.length+l.length+200≤N) (hl:l.length≤1000000) (hr:r.length≤9223372036854775807) (hnm:l.length≤96→∀x∈l,x.name.length<N∧x.name.length≤9223372036854775807):∃b,zcD N l r=some b∧(b=true↔RtP l r):=by
 unfold zcD
 rw[qac]
 by_cases h0:vErr l=0
 case neg=>
  have h:qhI N l r (IntKind.wrap .i64 ((r.length:Int) - 1))=some true:=by
   unfold qhI
   rw[qdl N (by omega) hnm,qaa,if_pos (by simpa using h0)]
  rw[h,qaa,if_pos rfl]
  exact ⟨false,rfl,by simp[RtP,h0]⟩
 by_cases h2:r.length<2
 ·have h:qhI N l r (IntKind.wrap .i64 ((r.length:Int) - 1))=some true:=by
   unfold qhI
   rw[qdl N (by omega) hnm,qaa,if_neg (by simpa using h0),if_pos (dpos (by rw[w64 (by omega) (by omega)];omega))]
  rw[h,qaa,if_pos rfl]
  refine ⟨false,rfl, ?_⟩
  simp only[Bool.false_eq_true,false_iff]
  intro hw
  have:=hw.2.1.two
  omega
 have hw:IntKind.wrap .i64 ((r.length:Int) - 1)=((r.length - 1:Nat):Int):=by rw[w64 (by omega) (by omega)];omega
 rw[hw]
 have h0':=qam (xs:=r) (i:=0) (by omega)
 have hz:=qam (xs:=r) (i:=r.length - 1) (by omega)
 generalize hv0:r[0]'(by omega)=v at h0'
 generalize hvz:r[r.length - 1]'(by omega)=w at hz
 have g0:getI r 0=some v:=qad h0'
 have gz:getI r ((r.length - 1:Nat):Int)=some w:=qad hz
 have st':∀{x},r[0]? =some x→x=v:=fun hx=>by rw[h0'] at hx;cases hx;rfl
 have en':∀{x},r[r.length - 1]? =some x→x=w:=fun hx=>by rw[hz] at hx;cases hx;rfl
 have c0:∃b,qhI N l r ((r.length - 1:Nat):Int)=some b∧(b=false↔trk l v.element∧trk l w.element∧v.in_= -1∧w.out= -1):=by
  unfold qhI
  rw[qdl N (by omega) hnm,qaa,if_neg (by simpa using h0),if_neg (dneg (by omega))]
  simp only[g0,gz,qaa,qpj]
  exact qa1 qi2 (qa1 qi2 (qa1 qgT ⟨_,rfl,qgT⟩))
 obtain ⟨b0,p0,q0⟩:=c0
 rw[p0,qaa]
 cases b0 with
 |true=>
  rw[if_pos rfl]
  refine ⟨false,rfl, ?_⟩
  simp only[Bool.false_eq_true,false_iff]
  intro hh
  have a:=hh.2.1.st v h0'
  have b:=hh.2.1.en w hz
  have:=q0.2 ⟨a.1,b.1,a.2.1,b.2⟩
  cases this
 |false=>
  rw[if_neg (by simp)]
  have q0:=q0.1 rfl
  let nx:Nat→Visit:=fun i=>r.getD (i+1) (Visit.mk 0 0 0)
  let good:Nat→Visit→Prop:=fun i y=>(0≤y.element∧y.element<l.length∧y.element∉elems (r.take i))∧(i+1<r.length→y.out∈eI l y.element∧(nx i).in_=y.out∧(nx i).element=nbr l y.element y.out)∧(0<i→i+1<r.length→y.out∈thr l y.element y.in_)
  have hloop:=qaq (l:=r) (fun i y=> @decide (¬good i y) (Classical.propDecidable _)) (fun _ _=>false) (fun m i=>qhJ N l r ((r.length - 1:Nat):Int) m i) (fun m=>by
   show qhJ N l r _ (m+1) _=_
   rw[qhJ,if_neg (lneg (by omega))]) (fun m i y hy=>by
   show qhJ N l r _ (m+1) _=_
   have hlt:=(List.getElem?_eq_some_iff.1 hy).1
   rw[qhJ,if_pos (lpos (by omega))]
   have hte:=qgz l y.element y.in_
   have hee:=qdR l y.element
   have d2:∃b,qnA N l r i=some b∧(b=false↔0≤y.element∧y.element<l.length∧y.element∉elems (r.take i)):=by
    unfold qnA
    simp only[qad hy,qaa]
    rw[qca (by omega),qaa,qds N (by rw[List.length_take];omega) (by rw[List.length_take];omega),qaa]
    refine qa1 qqb (qa1 (p:=y.element<l.length) (by simp) ⟨_,rfl,by simp⟩)
   have d3:∃b,qnB N l r ((r.length - 1:Nat):Int) i=some b∧(b=false↔(i+1<r.length→y.out∈eI l y.element∧(nx i).in_=y.out∧(nx i).element=nbr l y.element y.out)):=by
    unfold qnB
    by_cases hh:i+1<r.length
    ·have hx:=qam hh
     have hgd:nx i=r[i+1]:=by show r.getD (i+1) (Visit.mk 0 0 0)=_;simp[List.getD,hx]
     rw[if_pos (dpos (by omega)),w64s (by omega)]
     simp only[qad hy,qad hx,qaa,qcy]
     rw[qlB N (by omega) (by omega),qeQ N (by omega) (by omega)]
     simp only[qaa]
     obtain ⟨b,k1,k2⟩:=qa1 (a:= !(eI l y.element).contains y.out) qk9 (qa1 (a:=r[i+1].in_ !=y.out) qgT (x:=some (r[i+1].element !=nbr l y.element y.out)) ⟨_,rfl,qgT⟩)
     exact ⟨b,k1,by rw[k2,hgd];simp[hh]⟩
    ·rw[if_neg (dneg (by omega))]
     exact ⟨false,rfl,by simp[hh]⟩
   have d4:∃b,qnC N l r ((r.length - 1:Nat):Int) i=some b∧(b=false↔(0<i→i+1<r.length→y.out∈thr l y.element y.in_)):=by
    unfold qnC
    by_cases hi:0<i
    ·rw[if_pos (dpos (by omega))]
     by_cases hh:i+1<r.length
     ·rw[if_pos (dpos (by omega))]
      simp only[qad hy,qaa]
      rw[qlR N (by omega),qaa,qlB N (by omega) (by omega),qaa]
      exact ⟨_,rfl,by rw[qk9];simp[hi,hh]⟩
     ·rw[if_neg (dneg (by omega))]
      exact ⟨false,rfl,by simp[hh]⟩
    ·rw[if_neg (dneg (by omega))]
     exact ⟨false,rfl,by simp[hi]⟩
   obtain ⟨b2,r2,s2⟩:=d2
   obtain ⟨b3,r3,s3⟩:=d3
   obtain ⟨b4,r4,s4⟩:=d4
   rw[r2,qaa]
   cases b2 with
   |true=>
    have hb:¬good i y:=fun hh=>by have:=s2.2 hh.1;cases this
    rw[if_pos rfl, @decide_eq_true _ (Classical.propDecidable _) hb,if_pos rfl]
   |false=>
    rw[if_neg (by simp),r3,qaa]
    cases b3 with
    |true=>
     have hb:¬good i y:=fun hh=>by have:=s3.2 hh.2.1;cases this
     rw[if_pos rfl, @decide_eq_true _ (Classical.propDecidable _) hb,if_pos rfl]
    |false=>
     rw[if_neg (by simp),r4,qaa]
     cases b4 with
     |true=>
      have hb:¬good i y:=fun hh=>by have:=s4.2 hh.2.2;cases this
      rw[if_pos rfl, @decide_eq_true _ (Classical.propDecidable _) hb,if_pos rfl]
     |false=>
      have hb:¬¬good i y:=fun hh=>hh ⟨s2.1 rfl,s3.1 rfl,s4.1 rfl⟩
      rw[if_neg (by simp), @decide_eq_false _ (Classical.propDecidable _) hb,if_neg (by simp),qac,w64s (by omega)]) r.length N 0 (by omega) (by omega)
  simp only[Int.natCast_zero,List.drop_zero] at hloop
  rw[hloop,qaa]
  have hiff:RtP l r↔∀(j:Nat) (y:Visit),r[j]? =some y→good j y:=by
   constructor
   ·rintro ⟨_,hw,hd⟩ j y hj
    have hlt:=(List.getElem?_eq_some_iff.1 hj).1
    refine ⟨?_,fun hh=> ?_,fun h1 h2=>hw.mid j y h1 h2 hj⟩
    ·have hin:0≤y.element∧y.element<l.length:=by
      cases j with
      |zero=>
       obtain ⟨a,x,hx,_⟩:=(hw.st y hj).1
       have:=(List.getElem?_eq_some_iff.1 hx).1
       omega
      |succ j=>
       have:=qb2 (hw.ins (by omega) hj)
       exact ⟨this.1,this.2.1⟩
     refine ⟨hin.1,hin.2,fun hm=> ?_⟩
     unfold elems at hm hd
     obtain ⟨z,hz,hze⟩:=List.mem_map.1 hm
     obtain ⟨i,hi⟩:=List.getElem?_of_mem hz
     rw[List.getElem?_take] at hi
     split at hi
     ·rename_i hij
      obtain ⟨hil,hi⟩:=List.getElem?_eq_some_iff.1 hi
      obtain ⟨_,hj⟩:=List.getElem?_eq_some_iff.1 hj
      have:=List.pairwise_iff_getElem.1 hd i j (by simpa using hil) (by simpa using hlt) hij
      rw[List.getElem_map,List.getElem_map,hi,hj] at this
      exact this hze
     ·cases hi
    ·have hx:=qam hh
     have hgd:nx j=r[j+1]:=by show r.getD (j+1) (Visit.mk 0 0 0)=_;simp[List.getD,hx]
     rw[hgd]
     obtain ⟨a,b,c⟩:=hw.step j y _ hj hx
     exact ⟨hw.outs hh hj,a,c⟩
   ·intro hh
    refine ⟨h0,⟨by omega,fun x hx=> ?_,fun x hx=> ?_,fun i x y hx hy=> ?_,fun i x hi hi2 hx=>(hh i x hx).2.2 hi hi2⟩, ?_⟩
    ·have e:=st' hx
     have:=(hh 0 x hx).2.1 (by omega)
     rw[e] at this⊢
     exact ⟨q0.1,q0.2.2.1,this.1⟩
    ·rw[en' hx];exact ⟨q0.2.1,q0.2.2.2⟩
    ·have hlt:=(List.getElem?_eq_some_iff.1 hy).1
     have:=(hh i x hx).2.1 hlt
     have hgd:nx i=y:=by show r.getD (i+1) (Visit.mk 0 0 0)=_;simp[List.getD,hy]
     rw[hgd] at this
     exact ⟨this.2.1,(hh (i+1) y hy).1.1,this.2.2⟩
    ·unfold elems
     refine List.pairwise_iff_getElem.2 fun i j hi hj hij=> ?_
     rw[List.getElem_map,List.getElem_map]
     intro he
     have hjr:j<r.length:=by simpa using hj
     have hir:i<r.length:=by simpa using hi
     refine (hh j r[j] (qam hjr)).1.2.2 ?_
     rw[←he]
     unfold elems
     refine List.mem_map.2 ⟨r[i],List.mem_of_getElem? (i:=i) ?_,rfl⟩
     rw[List.getElem?_take,if_pos hij,qam hir]
  have hres:=qbV (p:=fun i y=> @decide (¬good i y) (Classical.propDecidable _)) (out:=fun _ _=>false) (l:=r) (i:=0)
  cases hr2:res (fun i y=> @decide (¬good i y) (Classical.propDecidable _)) (fun _ _=>false) 0 r with
  |inl u=>
   refine ⟨true,rfl, ?_⟩
   simp only[true_iff]
   refine hiff.2 fun j y hj=> ?_
   have:=(hres.1 hr2) j y hj
   rw[Nat.zero_add] at this
   exact Classical.not_not.1 (@of_decide_eq_false _ (Classical.propDecidable _) this)
  |inr b=>
   have hbf:b=false:=by
    have key:∀(e:List Visit) (i:Nat) (b:Bool),res (fun i y=> @decide (¬good i y) (Classical.propDecidable _)) (fun _ _=>false) i e= .inr b→b=false:=by
     intro e
     induction e with
     |nil=>intro i b h;cases h
     |cons y e ih=>
      intro i b h
      rw[res] at h
      split at h
      ·cases h;rfl
      ·exact ih _ _ h
    exact key _ _ _ hr2
   subst hbf
   refine ⟨false,rfl, ?_⟩
   simp only[Bool.false_eq_true,false_iff]
   intro hw
   have:=hres.2 fun j y hj=>by
    rw[Nat.zero_add]
    exact @decide_eq_false _ (Classical.propDecidable _) (fun hh=>hh (hiff.1 hw j y hj))
   rw[this] at hr2;cases hr2
open Go.AM
def qmv (v1 e1 n1 v2 e2 n2:Int):Prop:=v1<v2∨(v1=v2∧(e1<e2∨(e1=e2∧n1<n2)))
instance (v1 e1 n1 v2 e2 n2:Int):Decidable (qmv v1 e1 n1 v2 e2 n2):=by unfold qmv;infer_instance
def qqV (l:List PlantElement) (e n:Int):List Int:=if n<0 then eI l e else thr l e n
def Bst (l:List PlantElement) (g:Int→Int→Option Int) (e:Int) (o:List Int) (out:Int):Prop:=out∈o∧∃v,g (nbr l e out) out=some v∧∀m∈o,∀w,g (nbr l e m) m=some w→¬qmv w (nbr l e m) m v (nbr l e out) out
theorem Bst.uniq {l:List PlantElement} {g:Int→Int→Option Int} {e:Int} {o:List Int} {a b:Int} (h:Bst l g e o a) (k:Bst l g e o b):a=b:=by
 obtain ⟨h1,v,h2,h3⟩:=h
 obtain ⟨k1,w,k2,k3⟩:=k
 have p:=h3 b k1 w k2
 have q:=k3 a h1 v h2
 unfold qmv at p q
 omega
structure Pth (l:List PlantElement) (g:Int→Int→Option Int) (fr:Int) (r:List Visit):Prop where
 best:∀(i:Nat) v,i+1<r.length→r[i]? =some v→Bst l g v.element (qqV l v.element v.in_) v.out
 nz:∀(i:Nat) v,0<i→i+1<r.length→r[i]? =some v→g v.element v.in_≠some 0
 ne:1≤r.length
 st:∀v,r[0]? =some v→v.element=fr∧v.in_= -1
 step:∀(i:Nat) v w,r[i]? =some v→r[i+1]? =some w→w.in_=v.out∧0≤w.element∧w.element=nbr l v.element v.out∧v.out∈eI l v.element
 mid:∀(i:Nat) v,0<i→i+1<r.length→r[i]? =some v→v.out∈thr l v.element v.in_
theorem Pth.add {l:List PlantElement} {g:Int→Int→Option Int} {fr:Int} {r:List Visit} {v:Visit} {out:Int} (h:Pth l g fr r) (hv:r[r.length - 1]? =some v) (h0:0≤nbr l v.element out) (ho:out∈eI l v.element) (ht:1<r.length→out∈thr l v.element v.in_) (hb:Bst l g v.element (qqV l v.element v.in_) out) (hz:1<r.length→g v.element v.in_≠some 0):
  Pth l g fr (r.set (r.length - 1) (Visit.mk v.element v.in_ out)++[Visit.mk (nbr l v.element out) out (-1)]):=by
 have hne:=h.ne
 have hlen:(r.set (r.length - 1) (Visit.mk v.element v.in_ out)).length=r.length:=List.length_set
 have get:∀(i:Nat) x,(r.set (r.length - 1) (Visit.mk v.element v.in_ out)++[Visit.mk (nbr l v.element out) out (-1)])[i]? =some x→(i+1<r.length∧r[i]? =some x)∨(i+1=r.length∧x=Visit.mk v.element v.in_ out)∨(i=r.length∧x=Visit.mk (nbr l v.element out) out (-1)):=by
  intro i x hx
  by_cases hi:i<r.length
  ·rw[List.getElem?_append_left (by omega),List.getElem?_set] at hx
   by_cases he:r.length - 1=i
   ·rw[if_pos he,if_pos (by omega)] at hx
    exact .inr (.inl ⟨by omega,by cases hx;rfl⟩)
   ·rw[if_neg he] at hx
    exact .inl ⟨by omega,hx⟩
  ·rw[List.getElem?_append_right (by omega)] at hx
   have:=(List.getElem?_eq_some_iff.1 hx).1
   simp at this
   have hi2:i=r.length:=by omega
   subst hi2
   rw[hlen] at hx
   simp at hx
   exact .inr (.inr ⟨rfl,hx.symm⟩)
 refine ⟨fun i x hi2 hx=> ?_,fun i x hi hi2 hx=> ?_,by simp,fun x hx=> ?_,fun i x y hx hy=> ?_,fun i x hi hi2 hx=> ?_⟩
 ·simp only[List.length_append,List.length_set,List.length_cons,List.length_nil] at hi2
  rcases get i x hx with ⟨a,b⟩|⟨a,rfl⟩|⟨a,_⟩
  ·exact h.best i x a b
  ·exact hb
  ·omega
 ·simp only[List.length_append,List.length_set,List.length_cons,List.length_nil] at hi2
  rcases get i x hx with ⟨a,b⟩|⟨a,rfl⟩|⟨a,_⟩
  ·exact h.nz i x hi a b
  ·exact hz (by omega)
  ·omega
 ·rcases get 0 x hx with ⟨_,a⟩|⟨a,rfl⟩|⟨a,_⟩
  ·exact h.st x a
  ·have:r.length - 1=0:=by omega
   rw[this] at hv
   have:=h.st v hv
   exact this
  ·omega
 ·rcases get i x hx with ⟨a,b⟩|⟨a,rfl⟩|⟨a,_⟩
  ·rcases get (i+1) y hy with ⟨c,dd⟩|⟨c,rfl⟩|⟨c,_⟩
   ·exact h.step i x y b dd
   ·have hv':r[i+1]? =some v:=by rw[←hv];congr 1;omega
    exact h.step i x v b hv'
   ·omega
  ·rcases get (i+1) y hy with ⟨c,_⟩|⟨c,_⟩|⟨c,rfl⟩
   ·omega
   ·omega
   ·exact ⟨rfl,h0,rfl,ho⟩
  ·rcases get (i+1) y hy with ⟨c,_⟩|⟨c,_⟩|⟨c,_⟩<;>omega
 ·simp only[List.length_append,List.length_set,List.length_cons,List.length_nil] at hi2
  rcases get i x hx with ⟨a,b⟩|⟨a,rfl⟩|⟨a,_⟩
  ·exact h.mid i x hi (by omega) b
  ·exact ht (by omega)
  ·omega
theorem Pth.same {l:List PlantElement} {g:Int→Int→Option Int} {fr:Int} {r1 r2:List Visit} (h1:Pth l g fr r1) (h2:Pth l g fr r2) (two:2≤r2.length) (hz:∀z,r2[r2.length - 1]? =some z→g z.element z.in_=some 0):
  ∀i,i<r1.length→i<r2.length∧∀v1 v2,r1[i]? =some v1→r2[i]? =some v2→v1.element=v2.element∧v1.in_=v2.in_∧(i+1<r1.length→i+1<r2.length∧v1.out=v2.out):=by
 have nxt:∀(i:Nat) v1 v2,r1[i]? =some v1→r2[i]? =some v2→v1.element=v2.element→v1.in_=v2.in_→i+1<r1.length→i+1<r2.length∧v1.out=v2.out:=by
  intro i v1 v2 a b e1 e2 hi
  have hi2:=(List.getElem?_eq_some_iff.1 b).1
  have hlt:i+1<r2.length:=by
   by_cases hh:i+1=r2.length
   ·have e:i=r2.length - 1:=by omega
    have b':=b
    rw[e] at b'
    have:=hz v2 b'
    have hne:=h1.nz i v1 (by omega) hi a
    rw[e1,e2] at hne
    exact absurd this hne
   ·omega
  refine ⟨hlt, ?_⟩
  have p:=h1.best i v1 hi a
  have q:=h2.best i v2 hlt b
  rw[e1,e2] at p
  exact p.uniq q
 intro i
 induction i with
 |zero=>
  intro hi
  refine ⟨by omega,fun v1 v2 a b=> ?_⟩
  obtain ⟨p1,p2⟩:=h1.st v1 a
  obtain ⟨q1,q2⟩:=h2.st v2 b
  have e1:v1.element=v2.element:=by rw[p1,q1]
  have e2:v1.in_=v2.in_:=by rw[p2,q2]
  exact ⟨e1,e2,fun hh=>nxt 0 v1 v2 a b e1 e2 hh⟩
 |succ i ih=>
  intro hi
  obtain ⟨g1,g2⟩:=ih (by omega)
  have a:=qam (xs:=r1) (i:=i) (by omega)
  have b:=qam (xs:=r2) (i:=i) g1
  obtain ⟨e1,e2,e3⟩:=g2 _ _ a b
  obtain ⟨e4,e5⟩:=e3 hi
  refine ⟨e4,fun v1 v2 c dd=> ?_⟩
  obtain ⟨p1,p2,p3,p4⟩:=h1.step i _ v1 a c
  obtain ⟨q1,q2,q3,q4⟩:=h2.step i _ v2 b dd
  have f1:v1.element=v2.element:=by rw[p3,q3,e1,e5]
  have f2:v1.in_=v2.in_:=by rw[p1,q1,e5]
  exact ⟨f1,f2,fun hh=>nxt (i+1) v1 v2 c dd f1 f2 hh⟩
theorem Pth.once {l:List PlantElement} {g:Int→Int→Option Int} {fr:Int} {r1 r2:List Visit} (h1:Pth l g fr r1) (h2:Pth l g fr r2) (two:2≤r2.length) (hz:∀z,r2[r2.length - 1]? =some z→g z.element z.in_=some 0) (hd:(elems r2).Nodup):(elems r1).Nodup:=by
 have s1:=h1.same h2 two hz
 have:elems r1=(elems r2).take r1.length:=by
  refine List.ext_getElem? fun i=> ?_
  unfold elems
  rw[List.getElem?_take]
  by_cases hi:i<r1.length
  ·have a:=qam (xs:=r1) (i:=i) hi
   have b:=qam (xs:=r2) (i:=i) (s1 i hi).1
   rw[if_pos hi,List.getElem?_map,List.getElem?_map,a,b]
   simp only[Option.map_some]
   rw[((s1 i hi).2 _ _ a b).1]
  ·rw[if_neg hi,List.getElem?_map,List.getElem?_eq_none (by omega)]
   rfl
 rw[this]
 exact hd.sublist (List.take_sublist _ _)
open Go.AM
def trks (l:List PlantElement):Nat→List PlantElement→List Int
 |_,[]=>[]
 |i,x::xs=>if x.kind=1 then (i:Int)::trks l (i+1) xs else trks l (i+1) xs
theorem qjq (l:List PlantElement):∀(q:List PlantElement) (i:Nat),(trks l i q).length≤q.length
 |[],i=>by simp[trks]
 |x::q,i=>by
  rw[trks]
  have:=qjq l q (i+1)
  split<;>simp<;>omega
theorem qgB {l:List PlantElement} {a:Int}:∀{q:List PlantElement} {i:Nat},a∈trks l i q→∃(j:Nat) (x:PlantElement),a=((i+j:Nat):Int)∧q[j]? =some x∧x.kind=1
 |[],i,h=>by simp[trks] at h
 |x::q,i,h=>by
  rw[trks] at h
  split at h
  ·rename_i hk
   rcases List.mem_cons.1 h with rfl|h
   ·exact ⟨0,x,by simp,rfl,hk⟩
   ·obtain ⟨j,y,h1,h2,h3⟩:=qgB h
    exact ⟨j+1,y,by rw[h1];omega,by simpa using h2,h3⟩
  ·obtain ⟨j,y,h1,h2,h3⟩:=qgB h
   exact ⟨j+1,y,by rw[h1];omega,by simpa using h2,h3⟩
theorem qcR (N:Nat) {l:List PlantElement} (hl:l.length≤1000000):∀(k n i:Nat) (q:List Int),k<n→i+k=l.length→q.length≤i→qjZ N l n q i=some (q++trks l i (l.drop i))
 |k,0,i,q,hn,_,_=>by omega
 |0,n+1,i,q,hn,hi,hq=>by
  obtain rfl:i=l.length:=by omega
  rw[qjZ,if_neg (dneg (by omega)),List.drop_length,trks,List.append_nil]
 |k+1,n+1,i,q,hn,hi,hq=>by
  have hlt:i<l.length:=by omega
  have ha:=qam hlt
  rw[qjZ,if_pos (dpos (by omega))]
  unfold qpw
  rw[qad ha,qaa,qbz ha,trks]
  by_cases hk:l[i].kind=1
  ·rw[if_pos (by simpa using hk),if_pos hk,qaR (by simp;omega),qaa,qaa,qac,w64s (by omega),qcR N hl k n (i+1) _ (by omega) (by omega) (by simp;omega)]
   simp
  ·rw[if_neg (by simpa using hk),if_neg hk,qaa,qac,w64s (by omega),qcR N hl k n (i+1) _ (by omega) (by omega) (by omega)]
theorem ql6 (N:Nat) {l:List PlantElement} (hl:l.length≤1000000) (hN:l.length<N):zaP N l=some (trks l 0 l):=by
 unfold zaP
 have h:=qcR N hl l.length N 0 [] hN (by omega) (by simp)
 simp only[Int.natCast_zero,List.drop_zero,List.nil_append] at h
 rw[h,qaa]
open Go.AM
theorem qku {x:PlantElement} (h:qae x≠[]):2≤(qae x).length:=by
 unfold qae at*
 split
 ·simp
 ·split
  ·simp
  ·rename_i h1 h2
   rw[if_neg h1,if_neg h2] at h;exact absurd rfl h
theorem qpn {l:List PlantElement} (hP:PlOk l) {i n:Int} (h:n∈eI l i):0<(thr l i n).length:=by
 obtain ⟨h0,h1,x,hx,hn⟩:=qb2 h
 obtain ⟨j,rfl⟩:=Int.eq_ofNat_of_zero_le h0
 rw[Int.toNat_natCast] at hx
 have h2:=qku (qaw (hP.snd x (List.mem_of_getElem? hx))).2.2.1
 unfold thr thrE
 rw[qff hx,if_pos (by simpa using hn)]
 split
 ·rw[List.length_tail];omega
 ·rw[List.length_take];omega
structure WkI (l:List PlantElement) (w:List Visit) (v:Visit):Prop where
 ne:1≤w.length
 last:w[w.length - 1]? =some v
 st:∀v,w[0]? =some v→trk l v.element∧v.in_= -1∧v.out∈eI l v.element
 out:v.out∈eI l v.element
 step:∀(i:Nat) v w',w[i]? =some v→w[i+1]? =some w'→w'.in_=v.out∧0≤w'.element∧w'.element=nbr l v.element v.out
 mid:∀(i:Nat) v,0<i→w[i]? =some v→v.out∈thr l v.element v.in_
theorem qe9 {α:Type} {w:List α} {y:α} {i:Nat} {x:α} (h:(w++[y])[i]? =some x):(i<w.length∧w[i]? =some x)∨(i=w.length∧x=y):=by
 by_cases hi:i<w.length
 ·rw[List.getElem?_append_left hi] at h;exact .inl ⟨hi,h⟩
 ·have:=(List.getElem?_eq_some_iff.1 h).1
  simp at this
  have:i=w.length:=by omega
  subst this
  simp at h
  exact .inr ⟨rfl,h.symm⟩
theorem WkI.step' {l:List PlantElement} {w:List Visit} {v y:Visit} (h:WkI l w v) (h1:y.in_=v.out) (h0:0≤nbr l v.element v.out) (h2:y.element=nbr l v.element v.out):∀(i:Nat) a b,(w++[y])[i]? =some a→(w++[y])[i+1]? =some b→b.in_=a.out∧0≤b.element∧b.element=nbr l a.element a.out:=by
 intro i a b ha hb
 rcases qe9 hb with ⟨p,q⟩|⟨p,rfl⟩
 ·rcases qe9 ha with ⟨r,s⟩|⟨r,_⟩
  ·exact h.step i a b s q
  ·omega
 ·rcases qe9 ha with ⟨r,s⟩|⟨r,_⟩
  ·have:=h.last
   rw[show w.length - 1=i by omega,s] at this
   cases this
   exact ⟨h1,by rw[h2];exact h0,h2⟩
  ·omega
theorem WkI.st' {l:List PlantElement} {w:List Visit} {v y:Visit} (h:WkI l w v):∀a,(w++[y])[0]? =some a→trk l a.element∧a.in_= -1∧a.out∈eI l a.element:=by
 intro a ha
 rcases qe9 ha with ⟨_,q⟩|⟨p,_⟩
 ·exact h.st a q
 ·have:=h.ne;omega
theorem WkI.add {l:List PlantElement} {w:List Visit} {v:Visit} {o:Int} (h:WkI l w v) (h0:0≤nbr l v.element v.out) (ho:o∈thr l (nbr l v.element v.out) v.out):WkI l (w++[Visit.mk (nbr l v.element v.out) v.out o]) (Visit.mk (nbr l v.element v.out) v.out o) where
 ne:=by simp
 last:=by simp
 st:=h.st'
 out:=(qit ho).2
 step:=h.step' rfl h0 rfl
 mid:=fun i a hi ha=>by
  rcases qe9 ha with ⟨_,q⟩|⟨_,rfl⟩
  ·exact h.mid i a hi q
  ·exact ho
theorem WkI.fin {l:List PlantElement} {w:List Visit} {v:Visit} (h:WkI l w v) (h0:0≤nbr l v.element v.out) (ht:trk l (nbr l v.element v.out)):WayP l (w++[Visit.mk (nbr l v.element v.out) v.out (-1)]) where
 two:=by have:=h.ne;simp;omega
 st:=h.st'
 en:=fun a ha=>by simp at ha;subst ha;exact ⟨ht,rfl⟩
 step:=h.step' rfl h0 rfl
 mid:=fun i a hi hi2 ha=>by
  rcases qe9 ha with ⟨_,q⟩|⟨p,_⟩
  ·exact h.mid i a hi q
  ·simp at hi2;omega
theorem qrd {l:List PlantElement} {i n:Int} (h:0≤nbr l i n):nbr l i n<l.length:=by
 rcases qec l i n with ⟨a,_⟩|⟨j,x,a,b,_⟩
 ·omega
 ·have:=(List.getElem?_eq_some_iff.1 b).1
  omega
theorem quL (N:Nat) (hN:4000≤N) {l:List PlantElement} (hP:PlOk l) {c:Int} {s:Maker} (hs:Mk c s) (hc:c≤1000000) {e n:Int} (h0:0≤e) (h1:e<l.length) {o:List Int} (ho:0<o.length):∃b s',qnv N s l e o=some (s',b)∧Mk (c+1) s'∧(b=true→trk l e):=by
 have hll:=hP.len
 obtain ⟨j,rfl⟩:=Int.eq_ofNat_of_zero_le h0
 have hj:=qam (xs:=l) (i:=j) (by omega)
 have g0:getI o 0=some o[0]:=qad (qam (xs:=o) (i:=0) ho)
 unfold qnv
 rw[qad hj,qaa]
 by_cases hk:l[j].kind=1
 ·have ht:trk l (j:Int):=⟨by omega,_,hj,hk⟩
  rw[if_pos (by simpa using hk)]
  obtain ⟨r,s',p1,p2,p3,p4⟩:=qbk N (s:=s) (c:=c) 2 (by omega) (by omega) hs (by omega)
  rw[p1,qaa]
  by_cases hr:r=0
  ·rw[if_pos (by simpa using hr)];exact ⟨_,_,rfl,p4,fun _=>ht⟩
  ·rw[if_neg (by simpa using hr),g0,qaa,qaa,qeQ N (by omega) (by omega),qaa]
   exact ⟨_,_,rfl,p4,fun _=>ht⟩
 ·rw[if_neg (by simpa using hk)]
  exact ⟨_,_,rfl,hs.le (by omega),fun h=>by cases h⟩
theorem qhz (N:Nat) (hN:4000≤N) {l:List PlantElement} (hP:PlOk l):∀(k n i:Nat) (c:Int) (s:Maker) (v:Visit) (w:List Visit),k<n→i+k=12→Mk c s→c+2*k≤1000000→WkI l w v→w.length=i+1→
  ∃s' w',(qgG N l n s v w i=some (.inl (s',w'))∨qgG N l n s v w i=some (.inr (s',w')))∧Mk (c+2*k) s'∧1≤w'.length∧w'.length≤13∧(WayP l w'∨∀v,w'[w'.length - 1]? =some v→v.out≠ -1)
 |k,0,i,c,s,v,w,hn,_,_,_,_,_=>by omega
 |k,n+1,i,c,s,v,w,hn,hi,hs,hc,hI,hl=>by
  have hll:=hP.len
  have stop:∀v',w[w.length - 1]? =some v'→v'.out≠ -1:=fun v' hv'=>by
   rw[hI.last] at hv';cases hv'
   obtain ⟨_,_,x,hx,hn⟩:=qb2 hI.out
   have:=(qaw (hP.snd x (List.mem_of_getElem? hx))).2.1 _ hn
   omega
  cases k with
  |zero=>
   rw[qgG,if_neg (dneg (by omega))]
   exact ⟨s,w, .inl rfl,hs.le (by omega),by omega,by omega, .inr stop⟩
  |succ k=>
   rw[qgG,if_pos (dpos (by omega)),qeQ N (by omega) (by omega),qaa]
   by_cases h0:nbr l v.element v.out<0
   ·rw[if_pos (dpos h0)]
    exact ⟨s,w, .inl rfl,hs.le (by omega),by omega,by omega, .inr stop⟩
   ·rw[if_neg (dneg h0),qlR N (by omega),qaa]
    have h0':0≤nbr l v.element v.out:=by omega
    have hpos:=qpn hP (qeI h0').1
    have h3:=qgz l (nbr l v.element v.out) v.out
    obtain ⟨b,s1,q1,q2,q3⟩:=quL N hN hP hs (by omega) h0' (qrd h0') (n:=v.out) hpos
    rw[q1,qaa]
    simp only[]
    cases b with
    |true=>
     rw[if_pos rfl,qaR (by simp;omega),qaa]
     exact ⟨_,_, .inr rfl,q2.le (by omega),by simp,by simp;omega, .inl (hI.fin h0' (q3 rfl))⟩
    |false=>
     rw[if_neg (by simp)]
     obtain ⟨r,s2,p1,p2,p3,p4⟩:=qbk N (s:=s1) (c:=c+1) ((thr l (nbr l v.element v.out) v.out).length:Int) (by omega) (by omega) q2 (by omega)
     obtain ⟨r,rfl⟩:=Int.eq_ofNat_of_zero_le p2
     have hr:=qam (xs:=thr l (nbr l v.element v.out) v.out) (i:=r) (by omega)
     rw[p1,qaa]
     simp only[]
     rw[qad hr,qaa,qaa,qaR (by simp;omega),qaa,qac,w64s (by omega)]
     have hI':=hI.add h0' (List.mem_of_getElem? hr)
     obtain ⟨s',w',g1,g2,g3,g4,g5⟩:=qhz N hN hP k n (i+1) (c+1+1) s2 _ _ (by omega) (by omega) p4 (by omega) hI' (by simp;omega)
     exact ⟨s',w',g1,g2.le (by omega),g3,g4,g5⟩
theorem qpq (N:Nat) (hN:4000≤N) {l:List PlantElement} (hP:MadeP l) {c:Int} {s:Maker} (hs:Mk c s) (hc:c≤900000):
  ∃w s',zbE N s l=some (w,s')∧Mk (c+30) s'∧1≤w.length∧w.length≤13∧(WayP l w∨∀v,w[w.length - 1]? =some v→v.out≠ -1):=by
 have hll:=hP.ok.len
 unfold zbE
 rw[ql6 N (by omega) (by omega),qaa]
 have hlen:=qjq l l 0
 have hpos:0<(trks l 0 l).length:=by
  obtain ⟨x,hx,hk⟩:=hP.fst
  cases l with
  |nil=>simp at hx
  |cons y l=>
   simp at hx;subst hx
   rw[trks,if_pos hk];simp
 have htrk:∀a∈trks l 0 l,trk l a:=by
  intro a ha
  obtain ⟨j,x,h1,h2,h3⟩:=qgB ha
  rw[Nat.zero_add] at h1
  subst h1
  exact ⟨by omega,x,by simpa using h2,h3⟩
 obtain ⟨r,s1,p1,p2,p3,p4⟩:=qbk N (s:=s) (c:=c) ((trks l 0 l).length:Int) (by omega) (by omega) hs (by omega)
 obtain ⟨r,rfl⟩:=Int.eq_ofNat_of_zero_le p2
 have hr:=qam (xs:=trks l 0 l) (i:=r) (by omega)
 have ht:=htrk _ (List.mem_of_getElem? hr)
 rw[p1,qaa]
 simp only[]
 rw[qad hr,qaa,qaa,qcy,qaa]
 generalize (trks l 0 l)[r]'(by omega)=e at*
 have hpos2:0<(eI l e).length:=by
  obtain ⟨a,x,b,cc⟩:=ht
  unfold eI
  rw[if_pos a,b]
  simp[qae,cc]
 have h3:=qdR l e
 obtain ⟨q,s2,q1,q2,q3,q4⟩:=qbk N (s:=s1) (c:=c+1) ((eI l e).length:Int) (by omega) (by omega) p4 (by omega)
 obtain ⟨q,rfl⟩:=Int.eq_ofNat_of_zero_le q2
 have hq:=qam (xs:=eI l e) (i:=q) (by omega)
 rw[q1,qaa]
 simp only[]
 rw[qad hq,qaa,qaa]
 have hmem:=List.mem_of_getElem? hq
 generalize (eI l e)[q]'(by omega)=o at*
 have hI:WkI l [Visit.mk e (-1) o] (Visit.mk e (-1) o):=⟨by simp,by simp,fun v hv=>by simp at hv;subst hv;exact ⟨ht,rfl,hmem⟩,hmem,fun i v w hv hw=>by simp at hw,fun i v hi hv=>by
  have:=(List.getElem?_eq_some_iff.1 hv).1
  simp at this;omega⟩
 obtain ⟨s',w',g1,g2,g3,g4,g5⟩:=qhz N hN hP.ok 12 N 0 (c+1+1) s2 _ _ (by omega) (by omega) q4 (by omega) hI rfl
 refine ⟨w',s', ?_,g2.le (by omega),g3,g4,g5⟩
 rcases g1 with g1|g1
 ·have g1:qgG N l N s2 (Visit.mk e (-1) o) [Visit.mk e (-1) o] 0=some (.inl (s',w')):=g1
  rw[g1];rfl
 ·have g1:qgG N l N s2 (Visit.mk e (-1) o) [Visit.mk e (-1) o] 0=some (.inr (s',w')):=g1
  rw[g1];rfl
theorem ql7 (N:Nat) (hN:4000≤N) {l:List PlantElement} (hP:PlOk l) {w:List Visit} (hw:w.length≤3000):∃b,zbN N l w=some b∧zcD N l w=some b∧(b=true↔RtP l w):=by
 have hll:=hP.len
 obtain ⟨b1,p1,p2⟩:=qig N (l:=l) (r:=w) (by omega) (by omega) (by omega)
 obtain ⟨b2,r1,r2⟩:=qlC N (l:=l) (r:=w) (by omega) (by omega) (by omega) fun _ x hx=>by
  have h1:=(qaw (hP.snd x hx)).2.2.2
  unfold pnOk at h1
  simp only[Bool.and_eq_true,decide_eq_true_eq] at h1
  omega
 have:b1=b2:=Bool.eq_iff_iff.2 (p2.trans r2.symm)
 exact ⟨b1,p1,by rw[this];exact r1,p2⟩
open Go.AM
def setE (x:PlantElement) (v:Visit):List Setting:=
 if x.kind=3 then [Setting.mk v.element 3] else if x.kind=2 then (if v.in_=x.b∨v.out=x.b then [Setting.mk v.element 1] else [Setting.mk v.element 2]) else []
def setV (l:List PlantElement) (v:Visit):List Setting:=match l[v.element.toNat]? with|some x=>setE x v|none=>[]
def qaA (l:List PlantElement) (r:List Visit):List Setting:=r.flatMap (setV l)
theorem qm7 (x:PlantElement) (v:Visit):(setE x v).length≤1:=by
 unfold setE
 split
 ·simp
 ·split
  ·split<;>simp
  ·simp
theorem qin {l:List PlantElement} {v:Visit} {s:Setting} (h:s∈setV l v):s.element=v.element:=by
 unfold setV at h
 split at h
 ·unfold setE at h
  split at h
  ·simp at h;subst h;rfl
  ·split at h
   ·split at h<;>(simp at h;subst h;rfl)
   ·simp at h
 ·simp at h
theorem qgu (l:List PlantElement) (v:Visit):(setV l v).length≤1:=by
 unfold setV
 split
 ·exact qm7 _ _
 ·simp
theorem qdK (l:List PlantElement):∀(r:List Visit),(qaA l r).length≤r.length
 |[]=>by simp[qaA]
 |v::r=>by
  have:=qdK l r
  have h1:=qgu l v
  unfold qaA at*
  rw[List.flatMap_cons,List.length_append,List.length_cons]
  omega
theorem quG (N:Nat) {l:List PlantElement} {r:List Visit} {i:Nat} {v:Visit} (hv:r[i]? =some v) (h0:0≤v.element) (h1:v.element<l.length) {acc:List Setting} (ha:acc.length≤1000000):qnm N l acc r i=some (acc++setV l v):=by
 obtain ⟨j,hj⟩:=Int.eq_ofNat_of_zero_le h0
 have hjl:=qam (xs:=l) (i:=j) (by omega)
 unfold qnm setV
 have hg:getI l v.element=some (l[j]'(by omega)):=by rw[hj];exact qad hjl
 have hg2:l[v.element.toNat]? =some (l[j]'(by omega)):=by rw[hj,Int.toNat_natCast];exact hjl
 rw[qad hv,qaa,hg,qaa,qac,hg2]
 generalize l[j]'(by omega)=x at*
 simp only[]
 unfold setE
 by_cases h3:x.kind=3
 ·rw[if_pos (by simpa using h3),if_pos h3,qaR (by simp;omega),qaa]
 ·rw[if_neg (by simpa using h3),if_neg h3]
  by_cases h2:x.kind=2
  ·have hs2:qjY N v x=some (decide (v.in_=x.b∨v.out=x.b)):=by
    unfold qjY
    rw[if_pos (by simpa using h2)]
    by_cases a:v.in_=x.b
    ·rw[if_pos (by simpa using a)];simp[a]
    ·rw[if_neg (by simpa using a),qac]
     congr 1
     exact Bool.eq_iff_iff.2 (by simp[a])
   rw[hs2,qaa,if_pos h2]
   by_cases hb:v.in_=x.b∨v.out=x.b
   ·rw[if_pos (by simpa using hb),if_pos hb,qaR (by simp;omega),qaa]
   ·rw[if_neg (by simpa using hb),if_neg hb,qac,if_pos (by simpa using h2),qaR (by simp;omega),qaa]
  ·have hs2:qjY N v x=some false:=by
    unfold qjY
    rw[if_neg (by simpa using h2)]
   rw[hs2,qaa,if_neg (by simp),qac,if_neg (by simpa using h2),if_neg h2,List.append_nil]
theorem qhs (N:Nat) {l:List PlantElement} {r:List Visit} (hr:∀v∈r,0≤v.element∧v.element<l.length) (hl:r.length≤100000):∀(k n i:Nat) (acc:List Setting),k<n→i+k=r.length→acc.length≤i→qhD N l r r.length n acc i=some (acc++qaA l (r.drop i))
 |k,0,i,acc,hn,_,_=>by omega
 |0,n+1,i,acc,hn,hi,ha=>by
  obtain rfl:i=r.length:=by omega
  rw[qhD,if_neg (dneg (by omega)),List.drop_length]
  simp[qaA]
 |k+1,n+1,i,acc,hn,hi,ha=>by
  have hlt:i<r.length:=by omega
  have hv:=qam hlt
  obtain ⟨h0,h1⟩:=hr _ (List.mem_of_getElem? hv)
  have h2:=qgu l r[i]
  rw[qhD,if_pos (dpos (by omega)),quG N hv h0 h1 (by omega),qaa,w64s (by omega),qhs N hr hl k n (i+1) _ (by omega) (by omega) (by simp;omega),qbz hv]
  unfold qaA
  rw[List.flatMap_cons,List.append_assoc]
theorem WayP.ok {l:List PlantElement} {r:List Visit} (h:WayP l r):∀v∈r,0≤v.element∧v.element<l.length:=by
 intro v hv
 obtain ⟨i,hi⟩:=List.getElem?_of_mem hv
 have hlt:=(List.getElem?_eq_some_iff.1 hi).1
 have two:=h.two
 by_cases h0:i+1<r.length
 ·have:=qb2 (h.outs h0 hi);exact ⟨this.1,this.2.1⟩
 ·have:=qb2 (h.ins (by omega) hi);exact ⟨this.1,this.2.1⟩
instance instSet:Inhabited Setting:=⟨Setting.mk 0 0⟩
noncomputable def qbq (q:List Setting):List Setting:= @srtL Setting instSet (fun (a b:Setting)=>cmpI a.element b.element) q
theorem qcP (N:Nat) (hN:4000≤N) {l:List PlantElement} (hP:PlOk l) {r:List Visit} (hr:RtP l r) (hl:r.length≤3000):zaO N l r=some (qbq (qaA l r),0):=by
 obtain ⟨b,h1,_,h3⟩:=ql7 N hN hP (w:=r) hl
 unfold zaO
 rw[h1,qaa,h3.2 hr,if_neg (by simp)]
 have h:=qhs N (l:=l) (r:=r) hr.2.1.ok (by omega) r.length N 0 [] (by omega) (by omega) (by simp)
 have h:qhD N l r r.length N [] 0=some (qaA l r):=h
 have:=qdK l r
 rw[h,qaa]
 unfold srtI
 rw[if_pos (by omega),qaa]
 rfl
theorem qbJ {q:List Setting} {x:Setting}:x∈qbq q↔x∈q:=(@qbK Setting instSet (fun (a b:Setting)=>cmpI a.element b.element) (qbA Setting.element) q).mem_iff
theorem qfz (q:List Setting):(qbq q).length=q.length:=(@qbK Setting instSet (fun (a b:Setting)=>cmpI a.element b.element) (qbA Setting.element) q).length_eq
theorem qbI {q:List Setting} (h:(q.map Setting.element).Nodup):(qbq q).Pairwise fun a b=>a.element<b.element:=by
 have h1:(qbq q).Pairwise fun a b=>a.element≤b.element:= @qcQ Setting instSet Setting.element q
 have hp:(qbq q).Perm q:= @qbK Setting instSet (fun (a b:Setting)=>cmpI a.element b.element) (qbA Setting.element) q
 have h2:((qbq q).map Setting.element).Nodup:=(hp.map Setting.element).nodup_iff.2 h
 rw[List.nodup_iff_pairwise_ne,List.pairwise_map] at h2
 exact (h1.and h2).imp fun ⟨a,b⟩=>by omega
theorem qbH:∀{a b:List Setting},a.Pairwise (fun x y=>x.element<y.element)→b.Pairwise (fun x y=>x.element<y.element)→(∀x,x∈a↔x∈b)→a=b
 |[],[],_,_,_=>rfl
 |[],y::b,_,_,h=>by have:=(h y).2 List.mem_cons_self;cases this
 |x::a,[],_,_,h=>by have:=(h x).1 List.mem_cons_self;cases this
 |x::a,y::b,h1,h2,h=>by
  rw[List.pairwise_cons] at h1 h2
  have hxy:x=y:=by
   rcases List.mem_cons.1 ((h x).1 List.mem_cons_self) with e|e
   ·exact e
   ·rcases List.mem_cons.1 ((h y).2 List.mem_cons_self) with f|f
    ·exact f.symm
    ·have:=h2.1 _ e;have:=h1.1 _ f;omega
  subst hxy
  congr 1
  refine qbH h1.2 h2.2 fun z=>⟨fun hz=> ?_,fun hz=> ?_⟩
  ·rcases List.mem_cons.1 ((h z).1 (List.mem_cons_of_mem _ hz)) with e|e
   ·have:=h1.1 _ hz;rw[e] at this;omega
   ·exact e
  ·rcases List.mem_cons.1 ((h z).2 (List.mem_cons_of_mem _ hz)) with e|e
   ·have:=h2.1 _ hz;rw[e] at this;omega
   ·exact e
theorem qbp (l:List PlantElement):∀(r:List Visit),((qaA l r).map Setting.element).Sublist (elems r)
 |[]=>by simp[qaA,elems]
 |v::r=>by
  have ih:=qbp l r
  have h1:=qgu l v
  have h2:=fun s=>qin (l:=l) (v:=v) (s:=s)
  unfold qaA elems at*
  rw[List.flatMap_cons,List.map_append,List.map_cons]
  generalize setV l v=q at*
  match q,h1 with
  |[],_=>exact (List.Sublist.cons _ ih)
  |[s],_=>
   have:=h2 s (by simp)
   simp only[List.map_cons,List.map_nil,List.cons_append,List.nil_append]
   rw[this]
   exact List.Sublist.cons_cons _ ih
def swV (v:Visit):Visit:=Visit.mk v.element v.out v.in_
theorem quF (l:List PlantElement) (v:Visit):setV l (swV v)=setV l v:=by
 unfold setV
 show (match l[v.element.toNat]? with|some x=>setE x (swV v)|none=>[])=_
 cases l[v.element.toNat]? with
 |none=>rfl
 |some x=>
  show setE x (swV v)=setE x v
  unfold setE swV
  simp only[Or.comm]
open Go.AM
theorem WayP.inner {l:List PlantElement} {r:List Visit} (h:WayP l r) {i:Nat} {v:Visit} {x:PlantElement} (hv:r[i]? =some v) (hx:l[v.element.toNat]? =some x) (hk:x.kind≠1):v.out∈thrE (qae x) v.in_:=by
 have hlt:=(List.getElem?_eq_some_iff.1 hv).1
 have two:=h.two
 by_cases h0:i=0
 ·subst h0
  obtain ⟨_,y,hy,hk'⟩:=(h.st v hv).1
  rw[hx] at hy;cases hy;exact absurd hk' hk
 ·by_cases h1:i+1<r.length
  ·have hm:=h.mid i v (by omega) h1 hv
   unfold thr at hm
   have he:=(h.ok v (List.mem_of_getElem? hv)).1
   obtain ⟨j,hj⟩:=Int.eq_ofNat_of_zero_le he
   rw[hj] at hx hm
   rw[Int.toNat_natCast] at hx
   rw[qff hx] at hm
   exact hm
  ·have e:i=r.length - 1:=by omega
   rw[e] at hv
   obtain ⟨_,y,hy,hk'⟩:=(h.en v hv).1
   rw[hx] at hy;cases hy;exact absurd hk' hk
theorem qct {x:PlantElement} (hx:qaL x=true) (hk:x.kind=2) {n m:Int} (h:m∈thrE (qae x) n):x.a≠x.b∧x.a≠x.c∧x.b≠x.c∧((n=x.a∧thrE (qae x) n=[x.b,x.c]∧(m=x.b∨m=x.c))∨(n=x.b∧m=x.a)∨(n=x.c∧m=x.a)):=by
 have hd:=(qaw hx).1
 have he:qae x=[x.a,x.b,x.c]:=by unfold qae;rw[if_neg (by omega),if_pos hk]
 rw[he] at h hd⊢
 simp at hd
 refine ⟨hd.1.1,hd.1.2,hd.2, ?_⟩
 obtain ⟨h1,h2⟩:=qej h
 unfold thrE at h⊢
 rw[if_pos (by simpa using h1)] at h
 rw[if_pos (by simpa using h1)]
 simp only[List.head?_cons,Option.some.injEq,List.tail_cons,List.take_succ_cons,List.take_zero] at h⊢
 by_cases ha:x.a=n
 ·rw[if_pos ha] at h⊢
  simp at h
  exact .inl ⟨ha.symm,rfl,h⟩
 ·rw[if_neg ha] at h
  simp at h h1
  rcases h1 with h1|h1|h1
  ·exact absurd h1.symm ha
  ·exact .inr (.inl ⟨h1,h⟩)
  ·exact .inr (.inr ⟨h1,h⟩)
open Go.AM
theorem qgj (N:Nat) {s:List Setting} {x:Setting} (hl:s.length≤100000):∀(k n:Nat),k<n→k≤s.length→(∀(j:Nat) y,k≤j→s[j]? =some y→x.element≤y.element)→
  ∃i:Nat,qj5 N s x n k=some (i:Int)∧i≤s.length∧(∀(j:Nat) y,i≤j→s[j]? =some y→x.element≤y.element)∧(∀y,0<i→s[i - 1]? =some y→y.element<x.element)
 |k,0,hn,_,_=>by omega
 |0,n+1,hn,hk,hg=>by
  rw[qj5]
  have h1:qj6 N s x ((0:Nat):Int)=some false:=by
   unfold qj6
   rw[if_neg (dneg (by omega))]
  rw[h1,qaa,if_neg (by simp)]
  exact ⟨0,rfl,by omega,hg,fun y h=>by omega⟩
 |k+1,n+1,hn,hk,hg=>by
  have hv:=qam (xs:=s) (i:=k) (by omega)
  rw[qj5]
  have h1:qj6 N s x ((k+1:Nat):Int)=some (decide (x.element≤s[k].element)):=by
   unfold qj6
   rw[if_pos (dpos (by omega)),w64p (by omega),qad hv,qaa]
  rw[h1,qaa]
  by_cases hc:x.element≤s[k].element
  ·rw[if_pos (lpos hc),qac,w64p (by omega)]
   refine qgj N hl k n (by omega) (by omega) fun j y hj hy=> ?_
   by_cases hjk:j=k
   ·subst hjk;rw[hv] at hy;cases hy;exact hc
   ·exact hg j y (by omega) hy
  ·rw[if_neg (lneg hc)]
   refine ⟨k+1,rfl,hk,hg,fun y _ hy=> ?_⟩
   rw[Nat.add_sub_cancel,hv] at hy;cases hy
   omega
theorem qlA (N:Nat) {s:List Setting} {x:Setting} (hl:s.length≤100000) (hN:s.length<N) (hs:s.Pairwise fun a b=>a.element<b.element) (hx:∀y∈s,y.element≠x.element):
  ∃s',zcS N s x=some s'∧(s'.Pairwise fun a b=>a.element<b.element)∧(∀y,y∈s'↔y=x∨y∈s)∧s'.length=s.length+1:=by
 obtain ⟨i,h1,h2,h3,h4⟩:=qgj N (s:=s) (x:=x) hl s.length N hN (Nat.le_refl _) (fun j y hj hy=>by
  have:=(List.getElem?_eq_some_iff.1 hy).1
  omega)
 unfold zcS
 rw[qac,h1,qaa]
 have hp2:qj7 N s x i=some false:=by
  unfold qj7
  by_cases hi:i<s.length
  ·have hv:=qam hi
   rw[if_pos (dpos (by omega)),qad hv,qaa]
   congr 1
   simpa using hx _ (List.mem_of_getElem? hv)
  ·rw[if_neg (dneg (by omega))]
 rw[hp2,qaa,if_neg (by simp)]
 have hc3:qko s (i:Int) (i:Int)=some (s.take i):=by
  unfold qko
  rw[if_pos ⟨by omega,by omega,by omega,rfl⟩,Int.toNat_natCast]
 rw[hc3,qaa,qb9 h2,qaa,qaR (by rw[List.length_drop];simp;omega),qaa,if_neg (by simp),qaR (by rw[List.length_take];simp;omega),qaa]
 have hlow:∀y∈s.take i,y.element<x.element:=by
  intro y hy
  obtain ⟨j,hj⟩:=List.getElem?_of_mem hy
  rw[List.getElem?_take] at hj
  split at hj
  ·rename_i hji
   have hi1:=qam (xs:=s) (i:=i - 1) (by omega)
   have hb:=h4 _ (by omega) hi1
   by_cases hj1:j=i - 1
   ·rw[hj1,hi1] at hj;cases hj;exact hb
   ·obtain ⟨hjl,hj⟩:=List.getElem?_eq_some_iff.1 hj
    have:=List.pairwise_iff_getElem.1 hs j (i - 1) hjl (by omega) (by omega)
    rw[hj] at this
    omega
  ·cases hj
 have hhigh:∀y∈s.drop i,x.element<y.element:=by
  intro y hy
  obtain ⟨j,hj⟩:=List.getElem?_of_mem hy
  rw[List.getElem?_drop] at hj
  have:=h3 (i+j) y (by omega) hj
  have:=hx y (List.mem_of_getElem? hj)
  omega
 refine ⟨_,rfl, ?_,fun y=> ?_,by simp;omega⟩
 ·rw[List.pairwise_append]
  refine ⟨hs.sublist (List.take_sublist _ _), ?_,fun a ha b hb=> ?_⟩
  ·rw[List.singleton_append,List.pairwise_cons]
   exact ⟨hhigh,hs.sublist (List.drop_sublist _ _)⟩
  ·have h5:=hlow a ha
   rw[List.singleton_append] at hb
   rcases List.mem_cons.1 hb with rfl|hb
   ·exact h5
   ·have:=hhigh b hb;omega
 ·have:=List.take_append_drop i s
  constructor
  ·intro hy
   rcases List.mem_append.1 hy with hy|hy
   ·exact .inr (List.mem_of_mem_take hy)
   ·rw[List.singleton_append] at hy
    rcases List.mem_cons.1 hy with hy|hy
    ·exact .inl hy
    ·exact .inr (List.mem_of_mem_drop hy)
  ·rintro (rfl|hy)
   ·exact List.mem_append_right _ (by simp)
   ·rw[←this] at hy
    rcases List.mem_append.1 hy with hy|hy
    ·exact List.mem_append_left _ hy
    ·exact List.mem_append_right _ (by simp[hy])
def posE (x:PlantElement) (v:Visit):Int:=if x.kind=3 then 3 else if x.kind=2 then (if v.in_=x.b∨v.out=x.b then 1 else 2) else 0
theorem qm8 (x:PlantElement) (v:Visit):setE x v=if posE x v=0 then [] else [Setting.mk v.element (posE x v)]:=by
 unfold setE posE
 by_cases h3:x.kind=3
 ·simp[h3]
 ·by_cases h2:x.kind=2
  ·by_cases hb:v.in_=x.b∨v.out=x.b
   ·simp[h2,hb]
   ·simp[h2,hb]
  ·simp[h3,h2]
theorem qlP (N:Nat) {l:List PlantElement} {v:Visit} {x:PlantElement} (hx:getI l v.element=some x):zbB N l v=some (posE x v):=by
 unfold zbB posE
 rw[hx,qaa,qac]
 by_cases h3:x.kind=3
 ·rw[if_pos (by simpa using h3),if_pos h3]
 ·rw[if_neg (by simpa using h3),if_neg h3]
  by_cases h2:x.kind=2
  ·have hs2:qj0 N v x=some (decide (v.in_=x.b∨v.out=x.b)):=by
    unfold qj0
    rw[if_pos (by simpa using h2)]
    by_cases a:v.in_=x.b
    ·rw[if_pos (by simpa using a)];simp[a]
    ·rw[if_neg (by simpa using a),qac]
     congr 1
     exact Bool.eq_iff_iff.2 (by simp[a])
   rw[hs2,qaa,if_pos h2]
   by_cases hb:v.in_=x.b∨v.out=x.b
   ·rw[if_pos (by simpa using hb),if_pos hb]
   ·rw[if_neg (by simpa using hb),if_neg hb,qac,if_pos (by simpa using h2)]
  ·have hs2:qj0 N v x=some false:=by
    unfold qj0
    rw[if_neg (by simpa using h2)]
   rw[hs2,qaa,if_neg (by simp),qac,if_neg (by simpa using h2),if_neg h2]
theorem qfq (N:Nat) {l:List PlantElement} {r:List Visit} (hr:∀v∈r,0≤v.element∧v.element<l.length) (hd:(elems r).Nodup) (hl:r.length≤50000) (hN:r.length<N):∀(k n i:Nat) (s:List Setting),k<n→i+k=r.length→s.length≤i→(s.Pairwise fun a b=>a.element<b.element)→(∀y,y∈s↔y∈qaA l (r.take i))→
  ∃s',qiz N l r n s i=some s'∧(s'.Pairwise fun a b=>a.element<b.element)∧∀y,y∈s'↔y∈qaA l r
 |k,0,i,s,hn,_,_,_,_=>by omega
 |0,n+1,i,s,hn,hi,ha,hp,hm=>by
  obtain rfl:i=r.length:=by omega
  rw[qiz,if_neg (dneg (by omega))]
  rw[List.take_length] at hm
  exact ⟨s,rfl,hp,hm⟩
 |k+1,n+1,i,s,hn,hi,ha,hp,hm=>by
  have hlt:i<r.length:=by omega
  have hv:=qam hlt
  obtain ⟨h0,h1⟩:=hr _ (List.mem_of_getElem? hv)
  obtain ⟨q,hq⟩:=Int.eq_ofNat_of_zero_le h0
  have hx:=qam (xs:=l) (i:=q) (by omega)
  have hg:getI l (r[i]).element=some (l[q]'(by omega)):=by rw[hq];exact qad hx
  have hx2:l[(r[i]).element.toNat]? =some (l[q]'(by omega)):=by rw[hq,Int.toNat_natCast];exact hx
  have hset:setV l r[i]=setE (l[q]'(by omega)) r[i]:=by unfold setV;rw[hx2]
  have htk:∀y,y∈qaA l (r.take (i+1))↔y∈qaA l (r.take i)∨y∈setV l r[i]:=fun y=>by
   rw[qba hv]
   unfold qaA
   rw[List.flatMap_append,List.flatMap_cons,List.flatMap_nil,List.append_nil,List.mem_append]
  have key:∃s',qnu N l r s i=some s'∧(s'.Pairwise fun a b=>a.element<b.element)∧(∀y,y∈s'↔y∈qaA l (r.take (i+1)))∧s'.length≤i+1:=by
   unfold qnu
   rw[qad hv,qaa,qlP N hg,qaa]
   rw[qm8] at hset
   by_cases hz:posE (l[q]'(by omega)) r[i]=0
   ·rw[if_neg (by simpa using hz)]
    rw[if_pos hz] at hset
    exact ⟨s,rfl,hp,fun y=>by rw[htk,hset,hm];simp,by omega⟩
   ·rw[if_pos (by simpa using hz),qaa]
    rw[if_neg hz] at hset
    obtain ⟨s',p1,p2,p3,p4⟩:=qlA N (s:=s) (x:=Setting.mk r[i].element (posE (l[q]'(by omega)) r[i])) (by omega) (by omega) hp (fun y hy hh=>by
     have hy:=(hm y).1 hy
     unfold qaA at hy
     obtain ⟨v,hv1,hv2⟩:=List.mem_flatMap.1 hy
     have e:=qin hv2
     have hd2:(elems (r.take (i+1))).Nodup:=hd.sublist ((List.take_sublist (i+1) r).map _)
     unfold elems at hd2
     rw[qba hv,List.map_append,List.nodup_append] at hd2
     exact hd2.2.2 v.element (List.mem_map_of_mem hv1) r[i].element (by simp) (by rw[←e,hh]))
    rw[p1,qaa]
    exact ⟨s',rfl,p2,fun y=>by rw[p3,htk,hset,hm];simp[or_comm],by omega⟩
  obtain ⟨s',g1,g2,g3,g4⟩:=key
  rw[qiz,if_pos (dpos (by omega)),g1,qaa,qac,w64s (by omega)]
  exact qfq N hr hd hl hN k n (i+1) s' (by omega) (by omega) g4 g2 g3
theorem qlY (N:Nat) {l:List PlantElement} {r:List Visit} (hN:r.length+l.length+4000≤N) (hl:l.length≤1000000) (hr:r.length≤9223372036854775807) (hnm:l.length≤96→∀x∈l,x.name.length<N∧x.name.length≤9223372036854775807):
  ∃b s e,zbN N l r=some b∧zcD N l r=some b∧zaO N l r=some (s,e)∧zbC N l r=some (s,e)∧s.length≤96:=by
 obtain ⟨b1,p1,p2⟩:=qig N (l:=l) (r:=r) (by omega) hl hr
 obtain ⟨b2,r1,r2⟩:=qlC N (l:=l) (r:=r) (by omega) hl hr hnm
 have hb:b1=b2:=Bool.eq_iff_iff.2 (p2.trans r2.symm)
 subst hb
 cases b1 with
 |false=>
  refine ⟨false,[],1,p1,r1, ?_, ?_,by simp⟩
  ·unfold zaO
   rw[p1,qaa,if_pos (by simp)]
  ·unfold zbC
   rw[r1,qaa,if_pos (by simp)]
 |true=>
  have hR:=p2.1 rfl
  have hP:=PlOk.of hR.1
  have hll:=hP.len
  have hrl:r.length≤l.length:=by
   have h1:=qef (b:=(List.range l.length).map fun (i:Nat)=>(i:Int)) hR.2.2 fun x hx=>by
    unfold elems at hx
    obtain ⟨v,hv,rfl⟩:=List.mem_map.1 hx
    obtain ⟨a,b⟩:=hR.2.1.ok v hv
    exact List.mem_map.2 ⟨v.element.toNat,List.mem_range.2 (by omega),by omega⟩
   simp[elems] at h1
   exact h1
  have hs:=qcP N (by omega) hP hR (by omega)
  have hsl:=qdK l r
  refine ⟨true,qbq (qaA l r),0,p1,r1,hs, ?_,by rw[qfz];omega⟩
  unfold zbC
  rw[r1,qaa,if_neg (by simp)]
  obtain ⟨s',g1,g2,g3⟩:=qfq N hR.2.1.ok hR.2.2 (by omega) (by omega) r.length N 0 [] (by omega) (by omega) (by simp) (by simp) (by simp[qaA])
  have g1:qiz N l r N [] 0=some s':=g1
  rw[g1,qaa]
  have hlt:=qbI (hR.2.2.sublist (qbp l r))
  rw[qbH g2 hlt fun y=>by rw[g3,qbJ]]
end Go.W
end
section
set_option linter.unusedVariables false
set_option linter.unusedSimpArgs false
set_option linter.unusedSectionVars false
namespace Go.W
open Go.AM
section
variable {V K:Type} [DecidableEq K]
structure Sr (V K:Type) where
 dead:V→Bool
 fin:V→Bool
 hit:V→Bool
 suc:V→List V
 key:V→K
variable (S:Sr V K)
inductive Rch:V→Prop
 |here {v:V}:S.dead v=false→S.fin v=true→S.hit v=true→Rch v
 |step {v u:V}:S.dead v=false→S.fin v=false→u∈S.suc v→Rch u→Rch v
def Sn (s:List (K×Bool)) (v:V):Prop:=(qah s (S.key v)).getD false=true
instance (s:List (K×Bool)) (v:V):Decidable (Sn S s v):=by unfold Sn;infer_instance
def Cl1 (s:List (K×Bool)) (v:V):Prop:=S.dead v=false∧(S.fin v=true→S.hit v=false)∧(S.fin v=false→∀u∈S.suc v,S.dead u=true∨Sn S s u)
variable {S}
theorem Cl1.mono {s s':List (K×Bool)} {v:V} (h:Cl1 S s v) (hs:∀u,Sn S s u→Sn S s' u):Cl1 S s' v:=⟨h.1,h.2.1,fun hf u hu=>(h.2.2 hf u hu).imp id (hs u)⟩
theorem qet {α:Type} {p q:α→Bool} (h:∀y,q y=true→p y=true):∀{l:List α},(l.filter q).length≤(l.filter p).length
 |[]=>by simp
 |y::l=>by
  have ih:=qet h (l:=l)
  rw[List.filter_cons,List.filter_cons]
  cases hy:q y with
  |true=>rw[h y hy];simpa using ih
  |false=>
   cases hy2:p y with
   |true=>simp;omega
   |false=>simpa using ih
theorem filter_lt {α:Type} {p q:α→Bool}:∀{l:List α} {x:α},x∈l→(∀y,q y=true→p y=true)→p x=true→q x=false→(l.filter q).length<(l.filter p).length
 |[],_,h,_,_,_=>by cases h
 |y::l,x,h,hpq,hp,hq=>by
  have hle:(l.filter q).length≤(l.filter p).length:=qet hpq
  rcases List.mem_cons.1 h with rfl|h
  ·rw[List.filter_cons,List.filter_cons,hp,hq]
   simp only[if_true,List.length_cons]
   exact Nat.lt_succ_of_le hle
  ·have ih:=filter_lt h hpq hp hq
   rw[List.filter_cons,List.filter_cons]
   cases hy:q y with
   |true=>rw[hpq y hy];simpa using ih
   |false=>
    cases hy2:p y with
    |true=>simp;omega
    |false=>simpa using ih
structure Out (S:Sr V K) (U:List V) (s:List (K×Bool)) (b:Bool) (s':List (K×Bool)) (P:Prop) (T:Prop):Prop where
 sub:∀u,Sn S s u→Sn S s' u
 yes:b=true→T
 no:b=false→P∧∀u∈U,Sn S s' u→¬Sn S s u→Cl1 S s' u
theorem Rch.live {v:V} (h:Rch S v):S.dead v=false:=by cases h<;>assumption
end
end Go.W
end
section
set_option linter.unusedVariables false
set_option linter.unusedSimpArgs false
namespace Go.W
open Go.AM
def onwE (x:PlantElement) (p n:Int):List Int:=if x.kind=3∧p=4 then [] else if x.kind=2∧n=x.a∧p=1 then [x.b] else if x.kind=2∧n=x.a∧p=2 then [x.c] else thrE (qae x) n
def onw (l:List PlantElement) (p:Int→Int) (i n:Int):List Int:=if 0≤i then (match l[i.toNat]? with|some x=>onwE x (p i) n|none=>[]) else []
def vS {K:Type} (l:List PlantElement) (on:List Int) (p:Int→Int) (fi la:Int) (key:Spot→K):Sr Spot K where
 dead:=fun v=>decide (nbr l v.element v.node<0)
 fin:=fun v=>on.contains (nbr l v.element v.node)
 hit:=fun v=>(nbr l v.element v.node !=fi)&&(nbr l v.element v.node !=la)
 suc:=fun v=>(onw l p (nbr l v.element v.node) v.node).map (Spot.mk (nbr l v.element v.node))
 key:=key
def allS (l:List PlantElement):List Spot:=(List.range l.length).flatMap fun (i:Nat)=>(eI l (i:Int)).map fun n=>Spot.mk (i:Int) n
theorem sum3 (l:List PlantElement):∀(k:List Nat),(k.flatMap fun (i:Nat)=>(eI l (i:Int)).map fun n=>Spot.mk (i:Int) n).length≤3*k.length
 |[]=>by simp
 |i::k=>by
  have:=sum3 l k
  have:=qdR l (i:Int)
  rw[List.flatMap_cons,List.length_append,List.length_map,List.length_cons]
  omega
theorem allS_len (l:List PlantElement):(allS l).length≤3*l.length:=by
 have:=sum3 l (List.range l.length)
 rwa [List.length_range] at this
theorem qfG {l:List PlantElement} {v:Spot}:v∈allS l↔v.node∈eI l v.element:=by
 constructor
 ·intro h
  obtain ⟨i,_,h⟩:=List.mem_flatMap.1 h
  obtain ⟨n,hn,rfl⟩:=List.mem_map.1 h
  exact hn
 ·intro h
  obtain ⟨h0,h1,_⟩:=qb2 h
  refine List.mem_flatMap.2 ⟨v.element.toNat,List.mem_range.2 (by omega),List.mem_map.2 ⟨v.node, ?_, ?_⟩⟩
  ·rw[Int.toNat_of_nonneg h0];exact h
  ·rw[Int.toNat_of_nonneg h0]
theorem qkH {l:List PlantElement} {i:Int} {x:PlantElement} (h0:0≤i) (h:l[i.toNat]? =some x):getI l i=some x:=by
 obtain ⟨a,rfl⟩:=Int.eq_ofNat_of_zero_le h0
 exact qad (by simpa using h)
theorem qqL {l:List PlantElement} {i n:Int} (h:0≤nbr l i n):∃x,l[(nbr l i n).toNat]? =some x∧getI l (nbr l i n)=some x∧n∈qae x∧x∈l:=by
 obtain ⟨h1,_⟩:=qeI h
 obtain ⟨h0,h2,x,hx,hn⟩:=qb2 h1
 exact ⟨x,hx,qkH h0 hx,hn,List.mem_of_getElem? hx⟩
theorem qkr {l:List PlantElement} {i:Int} {x:PlantElement} (h0:0≤i) (h:l[i.toNat]? =some x):eI l i=qae x:=by
 unfold eI;rw[if_pos h0,h]
theorem qmI {x:PlantElement} {p n m:Int} (h:m∈onwE x p n):m∈qae x:=by
 unfold onwE at h
 split at h
 ·cases h
 ·split at h
  ·rename_i h1 h2
   have:=List.mem_singleton.1 h
   subst this
   unfold qae;rw[if_neg (by omega),if_pos h2.1];simp
  ·split at h
   ·rename_i h1 h2 h3
    have:=List.mem_singleton.1 h
    subst this
    unfold qae;rw[if_neg (by omega),if_pos h3.1];simp
   ·exact (qej h).2
abbrev SpS:=List (Spot×Bool)
abbrev OnM:=List (Int×Bool)
def OnR (m:OnM) (on:List Int):Prop:=∀k,(qah m k).getD false=on.contains k
end Go.W
end
section
set_option linter.unusedVariables false
set_option linter.unusedSimpArgs false
namespace Go.W
open Go.AM
def atP (s:List Setting) (a:Int):Int:=match s.find? (fun y=>y.element==a) with|some y=>y.position|none=>0
def ok1 (l:List PlantElement) (y:Setting):Prop:=0≤y.element∧∃x,l[y.element.toNat]? =some x∧((x.kind=2∧(y.position=1∨y.position=2))∨(x.kind=3∧(y.position=3∨y.position=4)))
def KnP (l:List PlantElement) (s:List Setting):Prop:=∀(i:Nat) (y:Setting),s[i]? =some y→ok1 l y∧∀z∈s.take i,z.element≠y.element
theorem qmE {α:Type} {s:List α} {i:Nat} {z:α}:z∈s.take i↔∃j,j<i∧s[j]? =some z:=by
 constructor
 ·intro h
  obtain ⟨j,hj⟩:=List.getElem?_of_mem h
  rw[List.getElem?_take] at hj
  split at hj
  ·exact ⟨j,‹_›,hj⟩
  ·cases hj
 ·rintro ⟨j,hj,h⟩
  refine List.mem_of_getElem? (i:=j) ?_
  rw[List.getElem?_take,if_pos hj];exact h
instance (l:List PlantElement) (y:Setting):Decidable (ok1 l y):=by
 unfold ok1
 cases h:l[y.element.toNat]? with
 |none=>exact isFalse (by simp)
 |some x=>exact decidable_of_iff (0≤y.element∧((x.kind=2∧(y.position=1∨y.position=2))∨(x.kind=3∧(y.position=3∨y.position=4)))) (by simp)
theorem qg2 (N:Nat) {r:List Visit} (hr:r.length≤1000000):∀(k n i:Nat) (m:OnM),k<n→i+k=r.length→OnR m (elems (r.take i))→∃m',qiw N r (r.length:Int) n m i=some m'∧OnR m' (elems r)
 |k,0,i,m,hn,_,_=>by omega
 |0,n+1,i,m,hn,hi,hm=>by
  obtain rfl:i=r.length:=by omega
  rw[qiw,if_neg (dneg (by omega))]
  rw[List.take_length] at hm
  exact ⟨m,rfl,hm⟩
 |k+1,n+1,i,m,hn,hi,hm=>by
  have hv:=qam (xs:=r) (i:=i) (by omega)
  rw[qiw,if_pos (dpos (by omega)),qad hv,qaa,qac,w64s (by omega)]
  refine qg2 N hr k n (i+1) _ (by omega) (by omega) fun a=> ?_
  rw[qaF,qba hv]
  unfold elems
  rw[List.map_append,List.contains_eq_mem]
  by_cases ha:r[i].element=a
  ·rw[if_pos ha];simp[ha]
  ·rw[if_neg ha,hm]
   unfold elems
   rw[List.contains_eq_mem]
   have:a≠r[i].element:=fun h=>ha h.symm
   simp[this]
theorem qop (N:Nat) {r:List Visit} (hr:r.length≤1000000) (hN:r.length<N):∃m,zaK N r=some m∧OnR m (elems r):=by
 unfold zaK
 obtain ⟨m,h1,h2⟩:=qg2 N hr r.length N 0 [] hN (by omega) (fun a=>by simp[elems,qah])
 exact ⟨m,by rw[show qiw N r _ N [] 0=_ from h1];rfl,h2⟩
def endR (r:List Visit):Int×Int:=((r[0]?.map Visit.element).getD 0,(r[r.length - 1]?.map Visit.element).getD 0)
end Go.W
end
section
set_option linter.unusedVariables false
set_option linter.unusedSimpArgs false
namespace Go.W
open Go.AM
theorem qtZ (N:Nat) {s:List Setting} (hs:s.length≤1000000) (hN:s.length<N) (a:Int):zcT N s a=some (atP s a):=by
 have h:=qaq (l:=s) (fun _ y=>y.element==a) (fun _ y=>y.position) (qj8 N s a) (fun n=>by
  rw[qj8,if_neg (dneg (by omega))]) (fun n i y hy=>by
  have hlt:=(List.getElem?_eq_some_iff.1 hy).1
  rw[qj8,if_pos (dpos (by omega)),qad hy,qaa,qaa,qac,w64s (by omega)]) s.length N 0 hN (by omega)
 have hr:∀(q:List Setting) (i:Nat),res (fun _ y=>y.element==a) (fun _ (y:Setting)=>y.position) i q=match q.find? (fun y=>y.element==a) with|some y=> .inr y.position|none=> .inl ():=by
  intro q
  induction q with
  |nil=>intro i;rfl
  |cons y q ih=>
   intro i
   rw[res,List.find?_cons]
   cases hy:(y.element==a) with
   |true=>rfl
   |false=>simpa using ih (i+1)
 unfold zcT
 rw[show qj8 N s a N 0=_ from h,qaa,List.drop_zero,hr]
 unfold atP
 cases s.find? (fun y=>y.element==a)<;>rfl
abbrev SpR:=List (S109×Bool)
end Go.W
end
section
set_option linter.unusedVariables false
set_option linter.unusedSimpArgs false
namespace Go.W
open Go.AM
theorem qm1 (N:Nat) {s:List Setting} {x:Setting} (hl:s.length≤100000) (hN:s.length<N) (hs:s.Pairwise fun a b=>a.element<b.element) {y:Setting} (hy:y∈s) (he:y.element=x.element):zcS N s x=some s:=by
 obtain ⟨i,h1,h2,h3,h4⟩:=qgj N (s:=s) (x:=x) hl s.length N hN (Nat.le_refl _) (fun j y hj hy=>by
  have:=(List.getElem?_eq_some_iff.1 hy).1
  omega)
 obtain ⟨j,hj⟩:=List.getElem?_of_mem hy
 obtain ⟨hjl,hje⟩:=List.getElem?_eq_some_iff.1 hj
 have hij:i≤j:=by
  refine Nat.le_of_not_lt fun hlt=> ?_
  have hi1:=qam (xs:=s) (i:=i - 1) (by omega)
  have hb:=h4 _ (by omega) hi1
  by_cases hji:j=i - 1
  ·rw[hji,hi1] at hj
   have hj:=Option.some.inj hj
   rw[hj] at hb;omega
  ·have:=List.pairwise_iff_getElem.1 hs j (i - 1) hjl (by omega) (by omega)
   rw[hje] at this
   omega
 have hv:=qam (xs:=s) (i:=i) (by omega)
 have hge:=h3 i _ (Nat.le_refl _) hv
 have hle:s[i].element=x.element:=by
  by_cases h:i=j
  ·subst h
   rw[hv] at hj
   have hj:=Option.some.inj hj
   rw[hj];exact he
  ·have:=List.pairwise_iff_getElem.1 hs i j (by omega) hjl (by omega)
   rw[hje] at this
   omega
 unfold zcS
 rw[qac,h1,qaa]
 have hp2:qj7 N s x i=some true:=by
  unfold qj7
  rw[if_pos (dpos (by omega)),qad hv,qaa]
  simp[hle]
 rw[hp2,qaa,if_pos rfl]
abbrev OutM:=List (Int×Int)
structure OutOk (l:List PlantElement) (on:List Int) (out:OutM):Prop where
 nd:(out.map Prod.fst).Nodup
 ok:∀i p,qah out i=some p→0≤i∧i∉on∧∃x,l[i.toNat]? =some x∧((x.kind=2∧(p=1∨p=2))∨(x.kind=3∧p=4))
structure NeedR (out:OutM) (need:List Setting):Prop where
 lt:need.Pairwise fun a b=>a.element<b.element
 mem:∀y,y∈need↔qah out y.element=some y.position
theorem qq3 {s:List Setting} (hs:s.Pairwise fun a b=>a.element<b.element) {n:Nat} (h:∀y∈s,0≤y.element∧y.element<n):s.length≤n:=by
 have hnd:(s.map Setting.element).Nodup:=by
  unfold List.Nodup
  rw[List.pairwise_map]
  exact hs.imp fun h he=>by omega
 have:=qef (b:=(List.range n).map fun (i:Nat)=>(i:Int)) hnd fun a ha=>by
  obtain ⟨y,hy,rfl⟩:=List.mem_map.1 ha
  have:=h y hy
  exact List.mem_map.2 ⟨y.element.toNat,List.mem_range.2 (by omega),by omega⟩
 simpa using this
theorem NeedR.at {l:List PlantElement} {on:List Int} {out:OutM} {need:List Setting} (h:NeedR out need) (ho:OutOk l on out) (i:Int):atP need i=(qah out i).getD 0:=by
 unfold atP
 cases hf:need.find? (fun y=>y.element==i) with
 |none=>
  cases hg:qah out i with
  |none=>rfl
  |some p=>
   have:Setting.mk i p∈need:=(h.mem _).2 hg
   have:=List.find?_eq_none.1 hf _ this
   simp at this
 |some y=>
  have h1:=List.mem_of_find?_eq_some hf
  have h2:=List.find?_some hf
  have h2:y.element=i:=by simpa using h2
  have:=(h.mem y).1 h1
  rw[h2] at this
  rw[this];rfl
theorem OutOk.len {l:List PlantElement} {on:List Int} {out:OutM} {need:List Setting} (ho:OutOk l on out) (h:NeedR out need):need.length≤l.length:=qq3 h.lt fun y hy=>by
 obtain ⟨h0,_,x,hx,_⟩:=ho.ok _ _ ((h.mem y).1 hy)
 have:=(List.getElem?_eq_some_iff.1 hx).1
 omega
theorem qhf {α β:Type} [DecidableEq α]:∀{m:List (α×β)} {k:α} {v:β},(m.map Prod.fst).Nodup→((qaC m k v).map Prod.fst).Nodup∧∀a,a∈(qaC m k v).map Prod.fst→a=k∨a∈m.map Prod.fst
 |[],k,v,_=>by simp[qaC]
 |p::m,k,v,h=>by
  rw[List.map_cons,List.nodup_cons] at h
  simp only[qaC]
  by_cases hk:p.1=k
  ·rw[if_pos hk]
   rw[List.map_cons,List.nodup_cons]
   exact ⟨h,fun a ha=> .inr ha⟩
  ·rw[if_neg hk,List.map_cons,List.nodup_cons]
   obtain ⟨h1,h2⟩:=qhf (k:=k) (v:=v) h.2
   refine ⟨⟨fun hh=> ?_,h1⟩,fun a ha=> ?_⟩
   ·rcases h2 _ hh with h3|h3
    ·exact hk h3
    ·exact h.1 h3
   ·rcases List.mem_cons.1 ha with h3|h3
    ·exact .inr (by rw[h3];simp)
    ·rcases h2 _ h3 with h4|h4
     ·exact .inl h4
     ·exact .inr (by simp[h4])
theorem qoR (N:Nat) (hN:3000≤N) {l:List PlantElement} (hl:l.length≤96) {on:List Int} {out:OutM} {need:List Setting} (ho:OutOk l on out) (hn:NeedR out need) {i p:Int} {x:PlantElement} (h0:0≤i) (hon:i∉on) (hx:l[i.toNat]? =some x) (hp:(x.kind=2∧(p=1∨p=2))∨(x.kind=3∧p=4)):
  (zaE N i p out=some (17,out)∧atP need i≠0∧atP need i≠p)∨
  (∃need',zaE N i p out=some (0,qaC out i p)∧(atP need i=0∨atP need i=p)∧zcS N need (Setting.mk i p)=some need'∧OutOk l on (qaC out i p)∧NeedR (qaC out i p) need'∧∀j q,qah out j=some q→qah (qaC out i p) j=some q):=by
 have hat:=hn.at ho i
 have hlen:=ho.len hn
 have e0:qnh N p ((qah out i).getD 0) (qah out i).isSome=some (decide (∃q,qah out i=some q∧q≠p)):=by
  unfold qnh
  cases hg:qah out i with
  |none=>simp
  |some q=>
   simp only[Option.isSome_some,if_true,Option.getD_some]
   congr 1
   rw[Bool.eq_iff_iff]
   simp
 unfold zaE
 rw[qac,qac,e0,qaa]
 by_cases hc:∃q,qah out i=some q∧q≠p
 ·rw[if_pos (by simpa using hc)]
  obtain ⟨q,hq,hqp⟩:=hc
  have hq0:q≠0:=by
   obtain ⟨_,_,y,_,h|h⟩:=ho.ok i q hq<;>omega
  refine .inl ⟨rfl, ?_, ?_⟩
  ·rw[hat,hq];exact hq0
  ·rw[hat,hq];exact hqp
 ·rw[if_neg (by simpa using hc),qac]
  have hmono:∀j q,qah out j=some q→qah (qaC out i p) j=some q:=fun j q hj=>by
   rw[qaF]
   by_cases h:i=j
   ·subst h
    have hqp:q=p:=Decidable.byContradiction fun hqp=>hc ⟨q,hj,hqp⟩
    rw[if_pos rfl,hqp]
   ·rw[if_neg h];exact hj
  have hout:OutOk l on (qaC out i p):=by
   refine ⟨(qhf ho.nd).1,fun j q hj=> ?_⟩
   rw[qaF] at hj
   split at hj
   ·rename_i h;subst h;cases hj;exact ⟨h0,hon,x,hx,hp⟩
   ·exact ho.ok j q hj
  cases hg:qah out i with
  |none=>
   have hnew:∀y∈need,y.element≠(Setting.mk i p).element:=fun y hy he=>by
    have:=(hn.mem y).1 hy
    rw[show y.element=i from he,hg] at this
    cases this
   obtain ⟨need',h1,h2,h3,h4⟩:=qlA N (by omega) (by omega) hn.lt hnew
   refine .inr ⟨need',rfl, .inl (by rw[hat,hg];rfl),h1,hout,⟨h2,fun y=> ?_⟩,hmono⟩
   rw[h3,qaF]
   constructor
   ·rintro (rfl|hy)
    ·rw[if_pos rfl]
    ·rw[if_neg (fun he=>hnew y hy he.symm)]
     exact (hn.mem y).1 hy
   ·intro h
    split at h
    ·rename_i he
     cases h
     left;cases y;simp only at he;rw[he]
    ·exact .inr ((hn.mem y).2 h)
  |some q=>
   have hqp:q=p:=Decidable.byContradiction fun hqp=>hc ⟨q,hg,hqp⟩
   subst hqp
   have hy:Setting.mk i q∈need:=(hn.mem _).2 hg
   refine .inr ⟨need,rfl, .inr (by rw[hat,hg];rfl),qm1 N (by omega) (by omega) hn.lt hy rfl,hout,⟨hn.lt,fun y=> ?_⟩,hmono⟩
   rw[hn.mem,qaF]
   by_cases h:i=y.element
   ·rw[if_pos h,←h,hg]
   ·rw[if_neg h]
end Go.W
end
section
set_option linter.unusedVariables false
set_option linter.unusedSimpArgs false
namespace Go.W
open Go.AM
def Dn (d:SpS) (v:Spot):Prop:=(qah d v).getD false=true
instance (d:SpS) (v:Spot):Decidable (Dn d v):=by unfold Dn;infer_instance
def Dr (t:SpR) (v:Spot):Prop:=(qah t (S109.mk v.element v.node)).getD false=true
instance (t:SpR) (v:Spot):Decidable (Dr t v):=by unfold Dr;infer_instance
def Tr (l:List PlantElement) (on:List Int) (v:Spot):Prop:=nbr l v.element v.node<0∨nbr l v.element v.node∈on
instance (l:List PlantElement) (on:List Int) (v:Spot):Decidable (Tr l on v):=by unfold Tr;infer_instance
def Hn (l:List PlantElement) (on:List Int) (d:SpS) (v:Spot):Prop:=Tr l on v∨Dn d v
structure GR (l:List PlantElement) (on:List Int) (d:SpS) (o:OutM) (t:SpR) (need:List Setting):Prop where
 fwd:∀v,Dn d v→Dr t v
 bwd:∀v,Dr t v→Dn d v∨Tr l on v
 ok:OutOk l on o
 nd:NeedR o need
def GC (l:List PlantElement) (on:List Int) (d:SpS) (o:OutM) (v:Spot):Prop:=
 ¬Tr l on v∧∃x,l[(nbr l v.element v.node).toNat]? =some x∧x.kind≠1∧(x.kind=3→qah o (nbr l v.element v.node)=some 4)∧(x.kind=2→v.node≠x.a→qah o (nbr l v.element v.node)=some (if v.node=x.b then 2 else 1))∧
  (x.kind=2→v.node=x.a→Hn l on d (Spot.mk (nbr l v.element v.node) x.b)∧Hn l on d (Spot.mk (nbr l v.element v.node) x.c))
theorem GC.mono {l:List PlantElement} {on:List Int} {d d':SpS} {o o':OutM} {v:Spot} (h:GC l on d o v) (hd:∀u,Dn d u→Dn d' u) (ho:∀j q,qah o j=some q→qah o' j=some q):GC l on d' o' v:=by
 obtain ⟨h0,x,h1,h2,h3,h4,h5⟩:=h
 exact ⟨h0,x,h1,h2,fun hk=>ho _ _ (h3 hk),fun hk ha=>ho _ _ (h4 hk ha),fun hk ha=>⟨(h5 hk ha).1.imp id (hd _),(h5 hk ha).2.imp id (hd _)⟩⟩
structure GOut (l:List PlantElement) (on:List Int) (d:SpS) (o:OutM) (d':SpS) (o':OutM):Prop where
 sub:∀u,Dn d u→Dn d' u
 mono:∀j q,qah o j=some q→qah o' j=some q
 clo:∀u,Dn d' u→¬Dn d u→GC l on d' o' u
theorem GOut.refl {l:List PlantElement} {on:List Int} (d:SpS) (o:OutM):GOut l on d o d o:=⟨fun _ h=>h,fun _ _ h=>h,fun u h1 h2=>absurd h1 h2⟩
theorem GOut.trans {l:List PlantElement} {on:List Int} {d d1 d2:SpS} {o o1 o2:OutM} (h:GOut l on d o d1 o1) (k:GOut l on d1 o1 d2 o2):GOut l on d o d2 o2:=
 ⟨fun u hu=>k.sub u (h.sub u hu),fun j q hq=>k.mono j q (h.mono j q hq),fun u h1 h2=>by
  by_cases h3:Dn d1 u
  ·exact (h.clo u h3 h2).mono k.sub k.mono
  ·exact k.clo u h1 h3⟩
theorem qdP {d:SpS} {v u:Spot}:Dn (qaC d v true) u↔(v=u∨Dn d u):=by
 unfold Dn
 rw[qaF]
 by_cases h:v=u<;>simp[h]
theorem qg1 {t:SpR} {v u:Spot}:Dr (qaC t (S109.mk v.element v.node) true) u↔(v=u∨Dr t u):=by
 unfold Dr
 rw[qaF]
 have:S109.mk v.element v.node=S109.mk u.element u.node↔v=u:=by
  cases v;cases u;simp
 by_cases h:v=u
 ·rw[if_pos (this.2 h)];simp[h]
 ·rw[if_neg (fun hh=>h (this.1 hh))];simp[h]
theorem qoJ {x:PlantElement} (h:qaL x=true):x.kind=1∨x.kind=2∨x.kind=3:=by
 have:=(qaw h).2.2.1
 unfold qae at this
 split at this
 ·rename_i h;rcases h with h|h<;>simp[h]
 ·split at this
  ·rename_i h;simp[h]
  ·exact absurd rfl this
def lfD (l:List PlantElement) (d:SpS):Nat:=((allS l).filter fun u=> !decide (Dn d u)).length
theorem qmw {l:List PlantElement} {d d':SpS} (h:∀u,Dn d u→Dn d' u):lfD l d'≤lfD l d:=by
 unfold lfD
 refine qet fun u hu=> ?_
 simp only[Bool.not_eq_true',decide_eq_false_iff_not] at hu⊢
 exact fun hh=>hu (h u hh)
theorem qoK {l:List PlantElement} {d:SpS} {v:Spot} (hv:v∈allS l) (hn:¬Dn d v):lfD l (qaC d v true)<lfD l d:=by
 unfold lfD
 refine filter_lt hv (fun u hu=> ?_) (by simpa using hn) ?_
 ·simp only[Bool.not_eq_true',decide_eq_false_iff_not] at hu⊢
  exact fun h=>hu (qdP.2 (.inr h))
 ·simp only[Bool.not_eq_false',decide_eq_true_eq]
  exact qdP.2 (.inl rfl)
theorem qqF (l:List PlantElement) (hl:l.length≤96) (d:SpS):lfD l d≤288:=by
 have h1:=allS_len l
 have h2:=List.length_filter_le (fun u=> !decide (Dn d u)) (allS l)
 unfold lfD
 omega
def pG (N rc:Nat) (l:List PlantElement) (onm:OnM) (v:Spot) (d:SpS) (o:OutM):Option (Int×SpS×OutM):=zaF N rc v l [] [] d onm [] o
def rG (N rc:Nat) (l:List PlantElement) (r:List Visit) (need:List Setting) (v:Spot) (t:SpR):Option (Int×Guardian×SpR):=zaH N rc (Guardian.mk l r need []) v.element v.node t
def Both (l:List PlantElement) (r:List Visit) (d:SpS) (o:OutM) (v:Spot) (p:Option (Int×SpS×OutM)) (q:Option (Int×Guardian×SpR)):Prop:=
 (∃e d' o' g t',e≠0∧p=some (e,d',o')∧q=some (e,g,t'))∨
 (∃d' o' t' need',p=some (0,d',o')∧q=some (0,Guardian.mk l r need' [],t')∧GR l (elems r) d' o' t' need'∧GOut l (elems r) d o d' o'∧Hn l (elems r) d' v)
theorem qt1 (N:Nat) (self:Guardian→Int→Int→SpR→Option (Int×Guardian×SpR)) (p a:Int):qnl N self p a=some (decide (a≠0∧a≠p)):=by
 unfold qnl
 by_cases h:a=0
 ·rw[if_neg (by simpa using h)];simp[h]
 ·rw[if_pos (by simpa using h)];congr 1;rw[Bool.eq_iff_iff];simp[h]
theorem grd (N:Nat) (hN:3000≤N) {l:List PlantElement} (hP:PlOk l) {r:List Visit} (hr:r.length≤1000) {onm:OnM} (hon:OnR onm (elems r)):
  ∀(rc:Nat) (v:Spot) (d:SpS) (o:OutM) (t:SpR) (need:List Setting),v∈allS l→GR l (elems r) d o t need→lfD l d<rc→Both l r d o v (pG N rc l onm v d o) (rG N rc l r need v t)
 |0,_,_,_,_,_,_,_,h=>by omega
 |rc+1,v,d,o,t,need,hv,hG,hlf=>by
  have hl:=hP.len
  unfold pG rG
  rw[zaF,zaH,qlv N (by omega) (by omega),qaa,qac]
  have e0:qni N (zaF N rc) v (nbr l v.element v.node) d onm=some (decide (Dn d v∨Tr l (elems r) v)):=by
   unfold qni
   rw[qac]
   by_cases h:(qah d v).getD false=true
   ·rw[if_pos h];simp[Dn,h]
   ·rw[if_neg h]
    by_cases h2:nbr l v.element v.node<0
    ·rw[if_pos (dpos h2)];simp[Tr,h2]
    ·rw[if_neg (dneg h2),qac,hon,List.contains_eq_mem]
     congr 1;rw[Bool.eq_iff_iff];simp[Dn,Tr,h,h2]
  rw[e0,qaa]
  by_cases c:Dn d v∨Tr l (elems r) v
  ·rw[if_pos (by simpa using c),qac]
   by_cases hs:(qah t (S109.mk v.element v.node)).getD false=true
   ·rw[if_pos hs]
    exact .inr ⟨d,o,t,need,rfl,rfl,hG, .refl d o,c.symm⟩
   ·rw[if_neg hs,qac]
    dsimp only
    rw[qeQ N (by omega) (by omega),qaa]
    have hT:Tr l (elems r) v:=c.resolve_left fun h=>hs (hG.fwd v h)
    have e1:ql8 N (zaH N rc) (Guardian.mk l r need []) (nbr l v.element v.node)=some true:=by
     unfold ql8
     by_cases h2:nbr l v.element v.node<0
     ·rw[if_pos (dpos h2)]
     ·rw[if_neg (dneg h2)]
      dsimp only
      rw[qds N (by omega) (by omega),qaa,List.contains_eq_mem]
      have:=hT.resolve_left h2
      simp[this]
    rw[e1,qaa,if_pos rfl]
    refine .inr ⟨d,o,_,need,rfl,rfl,⟨fun u hu=>qg1.2 (.inr (hG.fwd u hu)),fun u hu=> ?_,hG.ok,hG.nd⟩, .refl d o, .inl hT⟩
    rcases qg1.1 hu with h|h
    ·subst h;exact .inr hT
    ·exact hG.bwd u h
  ·rw[if_neg (by simpa using c)]
   have hnd:¬Dn d v:=fun h=>c (.inl h)
   have hnt:¬Tr l (elems r) v:=fun h=>c (.inr h)
   have hns:¬(qah t (S109.mk v.element v.node)).getD false=true:=fun h=>c (hG.bwd v h)
   have h0:0≤nbr l v.element v.node:=by unfold Tr at hnt;omega
   have hno:nbr l v.element v.node∉elems r:=fun h=>hnt (.inr h)
   rw[qac,if_neg hns,qac]
   dsimp only
   rw[qeQ N (by omega) (by omega),qaa]
   have e1:ql8 N (zaH N rc) (Guardian.mk l r need []) (nbr l v.element v.node)=some false:=by
    unfold ql8
    rw[if_neg (dneg (by omega))]
    dsimp only
    rw[qds N (by omega) (by omega),qaa,List.contains_eq_mem]
    simp[hno]
   obtain ⟨x,hx,hxI,hnx,hxm⟩:=qqL h0
   rw[e1,qaa,if_neg (by simp),hxI,qaa,qaa,qac]
   obtain ⟨d0,hd0⟩:∃d0,d0=qaC d v true:=⟨_,rfl⟩
   obtain ⟨t0,ht0⟩:∃t0,t0=qaC t (S109.mk v.element v.node) true:=⟨_,rfl⟩
   rw[←hd0,←ht0]
   have hsub0:∀u,Dn d u→Dn d0 u:=fun u hu=>by rw[hd0];exact qdP.2 (.inr hu)
   have hv0:Dn d0 v:=by rw[hd0];exact qdP.2 (.inl rfl)
   have hnew:∀u,Dn d0 u→¬Dn d u→u=v:=fun u h1 h2=>by
    rw[hd0] at h1
    rcases qdP.1 h1 with h|h
    ·exact h.symm
    ·exact absurd h h2
   have hG0:∀{o' need'},OutOk l (elems r) o'→NeedR o' need'→GR l (elems r) d0 o' t0 need':=fun h1 h2=>by
    refine ⟨fun u hu=> ?_,fun u hu=> ?_,h1,h2⟩
    ·rw[hd0] at hu;rw[ht0]
     rcases qdP.1 hu with h|h
     ·exact qg1.2 (.inl h)
     ·exact qg1.2 (.inr (hG.fwd u h))
    ·rw[ht0] at hu;rw[hd0]
     rcases qg1.1 hu with h|h
     ·exact .inl (qdP.2 (.inl h))
     ·exact (hG.bwd u h).imp (fun h=>qdP.2 (.inr h)) id
   have hlf0:lfD l d0<rc:=by
    have:=qoK hv hnd
    rw[←hd0] at this
    omega
   have hsnd:=hP.snd x hxm
   have step:∀p,((x.kind=2∧(p=1∨p=2))∨(x.kind=3∧p=4))→x.kind≠1→(x.kind=3→p=4)→(x.kind=2→v.node≠x.a∧p=if v.node=x.b then 2 else 1)→
     ∀q,(q=Option.bind (zcT N need (nbr l v.element v.node)) fun y17=>Option.bind (qnl N (zaH N rc) p y17) fun y18=>if y18=true then some (17,Guardian.mk l r need [],t0) else Option.bind (zcS N need (Setting.mk (nbr l v.element v.node) p)) fun y19=>some (0,Guardian.mk l r y19 [],t0))→
     Both l r d o v (Option.bind (zaE N (nbr l v.element v.node) p o) fun y9=>some (y9.1,d0,y9.2)) q:=by
    intro p hp hk1 hk3 hk2 q hq
    have hnl:=hG.ok.len hG.nd
    rw[hq,qtZ N (by omega) (by omega),qaa,qt1,qaa]
    rcases qoR N hN hl hG.ok hG.nd h0 hno hx hp with ⟨g1,g2,g3⟩|⟨need',g1,g2,g3,g4,g5,g6⟩
    ·rw[g1,qaa,if_pos (by simpa using ⟨g2,g3⟩)]
     exact .inl ⟨17,_,_,_,_,by omega,rfl,rfl⟩
    ·rw[g1,qaa,if_neg (by rw[decide_eq_true_eq];rintro ⟨h1,h2⟩;rcases g2 with h|h;exact h1 h;exact h2 h),g3,qaa]
     refine .inr ⟨d0,_,t0,need',rfl,rfl,hG0 g4 g5,⟨hsub0,g6,fun u h1 h2=> ?_⟩, .inr hv0⟩
     rw[hnew u h1 h2]
     refine ⟨hnt,x,hx,hk1,fun hk=> ?_,fun hk ha=> ?_,fun hk ha=>absurd ha (hk2 hk).1⟩
     ·rw[qaF,if_pos rfl,hk3 hk]
     ·rw[qaF,if_pos rfl,(hk2 hk).2]
   rcases qoJ hsnd with hk|hk|hk
   ·rw[if_pos (by simpa using hk)]
    unfold ql9
    rw[qac,if_pos (by simpa using hk),qaa]
    exact .inl ⟨22,_,_,_,_,by omega,rfl,rfl⟩
   ·rw[if_neg (by simp[hk]),qac,if_neg (by simp[hk]),qac]
    have e2:qnj N (zaH N rc) v.node x=some (decide (v.node=x.a)):=by
     unfold qnj
     rw[if_pos (by simpa using hk),qac];congr 1
    have e3:qnk N (zaH N rc) v.node x=some (decide (v.node=x.b)):=by
     unfold qnk
     rw[if_pos (by simpa using hk),qac];congr 1
    by_cases ha:v.node=x.a
    ·rw[if_neg (by simpa using ha)]
     unfold ql9
     rw[qac,if_neg (by simp[hk]),e2,qaa,if_pos (by simpa using ha)]
     have he:qae x=[x.a,x.b,x.c]:=by unfold qae;rw[if_neg (by omega),if_pos hk]
     have hub:Spot.mk (nbr l v.element v.node) x.b∈allS l:=by rw[qfG];show x.b∈eI l (nbr l v.element v.node);rw[qkr h0 hx,he];simp
     have huc:Spot.mk (nbr l v.element v.node) x.c∈allS l:=by rw[qfG];show x.c∈eI l (nbr l v.element v.node);rw[qkr h0 hx,he];simp
     rcases grd N hN hP hr hon rc _ d0 o t0 need hub (hG0 hG.ok hG.nd) hlf0 with ⟨e,d',o',g,t',h1,h2,h3⟩|⟨d1,o1,t1,need1,h2,h3,h4,h5,h6⟩
     ·unfold pG at h2
      unfold rG at h3
      simp only at h2 h3
      rw[h2,h3,qaa,qaa,if_pos (by simpa using h1),if_pos (by simpa using h1),qaa]
      exact .inl ⟨e,_,_,_,_,h1,rfl,rfl⟩
     ·unfold pG at h2
      unfold rG at h3
      simp only at h2 h3
      rw[h2,h3,qaa,qaa,if_neg (by simp),if_neg (by simp)]
      dsimp only
      rcases grd N hN hP hr hon rc _ d1 o1 t1 need1 huc h4 (Nat.lt_of_le_of_lt (qmw h5.sub) hlf0) with ⟨e,d',o',g,t',k1,k2,k3⟩|⟨d2,o2,t2,need2,k2,k3,k4,k5,k6⟩
      ·unfold pG at k2
       unfold rG at k3
       simp only at k2 k3
       rw[k2,k3,qaa,qaa,qaa]
       exact .inl ⟨e,_,_,_,_,k1,rfl,rfl⟩
      ·unfold pG at k2
       unfold rG at k3
       simp only at k2 k3
       rw[k2,k3,qaa,qaa,qaa]
       have h12:=h5.trans k5
       refine .inr ⟨d2,o2,t2,need2,rfl,rfl,k4,⟨fun u hu=>h12.sub u (hsub0 u hu),h12.mono,fun u a1 a2=> ?_⟩, .inr (h12.sub v hv0)⟩
       by_cases a3:Dn d0 u
       ·rw[hnew u a3 a2]
        refine ⟨hnt,x,hx,by omega,fun h=>by omega,fun _ h=>absurd ha h,fun _ _=>⟨h6.imp id (k5.sub _),k6⟩⟩
       ·exact h12.clo u a1 a3
    ·rw[if_pos (by simpa using ha)]
     unfold ql9
     rw[qac,if_neg (c:=(x.kind==1)=true) (by simp[hk]),e2,qaa,if_neg (c:=decide (v.node=x.a)=true) (by simpa using ha),e3,qaa]
     unfold zbS
     by_cases hb:v.node=x.b
     ·rw[if_pos (by simpa using hb),if_pos (by simpa using hb),qaa,qaa]
      exact step 2 (.inl ⟨hk, .inr rfl⟩) (by omega) (by omega) (fun _=>⟨ha,by rw[if_pos hb]⟩) _ rfl
     ·rw[if_neg (by simpa using hb),if_neg (by simpa using hb),qaa,qac,if_pos (by simpa using hk),qaa]
      exact step 1 (.inl ⟨hk, .inl rfl⟩) (by omega) (by omega) (fun _=>⟨ha,by rw[if_neg hb]⟩) _ rfl
   ·rw[if_neg (by simp[hk]),qac,if_pos (by simpa using hk)]
    unfold ql9 qnj qnk
    rw[qac,if_neg (by simp[hk]),if_neg (by simp[hk]),qaa,if_neg (by simp),if_neg (by simp[hk]),qaa,if_neg (by simp),qac,if_neg (by simp[hk]),qaa]
    exact step 4 (.inr ⟨hk,rfl⟩) (by omega) (fun _=>rfl) (fun h=>by omega) _ rfl
end Go.W
end
section
set_option linter.unusedVariables false
set_option linter.unusedSimpArgs false
namespace Go.W
open Go.AM
def qeY (x:PlantElement) (v:Visit):Int:=if v.in_=x.b∨v.out=x.b then x.c else x.b
theorem qmU (N:Nat) (x:PlantElement) (v:Visit):zbT N x v=some (qeY x v):=by
 have h:qny N x v=some (decide (v.in_=x.b∨v.out=x.b)):=by
  unfold qny
  by_cases h:v.in_=x.b
  ·rw[if_pos (by simpa using h)];simp[h]
  ·rw[if_neg (by simpa using h)];congr 1;rw[Bool.eq_iff_iff];simp[h]
 unfold zbT qeY
 rw[h,qaa]
 by_cases h:v.in_=x.b∨v.out=x.b
 ·rw[if_pos (by simpa using h),if_pos h]
 ·rw[if_neg (by simpa using h),if_neg h]
structure NI (l:List PlantElement) (r:List Visit) (i:Nat) (d:SpS) (o:OutM):Prop where
 clo:∀u,Dn d u→GC l (elems r) d o u
 han:∀v∈r.take i,∀x,l[v.element.toNat]? =some x→x.kind=2→Hn l (elems r) d (Spot.mk v.element (qeY x v))
theorem qdG (N:Nat) (hN:3000≤N) {l:List PlantElement} (hP:PlOk l) {r:List Visit} (hr:r.length≤1000) (hrv:∀v∈r,0≤v.element∧v.element<l.length) {onm:OnM} (hon:OnR onm (elems r)):
  ∀(k n i:Nat) (d:SpS) (o:OutM) (t:SpR) (need:List Setting),k<n→i+k=r.length→GR l (elems r) d o t need→NI l r i d o→
  (∃e,e≠0∧qgH N l r (r.length:Int) onm n [] i o [] d=some (.inr e)∧qhF N l r n (Guardian.mk l r need []) i t=some (.inr e))∨
  (∃d' o' t' need',qgH N l r (r.length:Int) onm n [] i o [] d=some (.inl ([],o'))∧qhF N l r n (Guardian.mk l r need []) i t=some (.inl (Guardian.mk l r need' [],t'))∧GR l (elems r) d' o' t' need'∧NI l r r.length d' o')
 |k,0,i,d,o,t,need,hn,_,_,_=>by omega
 |0,n+1,i,d,o,t,need,hn,hi,hG,hI=>by
  obtain rfl:i=r.length:=by omega
  rw[qgH,if_neg (dneg (by omega)),qhF,if_neg (dneg (by omega))]
  exact .inr ⟨d,o,t,need,rfl,rfl,hG,hI⟩
 |k+1,n+1,i,d,o,t,need,hn,hi,hG,hI=>by
  have hl:=hP.len
  have hv:=qam (xs:=r) (i:=i) (by omega)
  obtain ⟨v,hve⟩:∃v,v=r[i]:=⟨_,rfl⟩
  rw[←hve] at hv
  have hvm:=List.mem_of_getElem? hv
  obtain ⟨h0,h1⟩:=hrv v hvm
  obtain ⟨a,ha⟩:=Int.eq_ofNat_of_zero_le h0
  have hx:=qam (xs:=l) (i:=a) (by omega)
  obtain ⟨x,hxe⟩:∃x,x=l[a]:=⟨_,rfl⟩
  rw[←hxe] at hx
  have hx':l[v.element.toNat]? =some x:=by rw[ha,Int.toNat_natCast];exact hx
  have hxI:=qkH h0 hx'
  have htk:∀u,u∈r.take (i+1)↔u∈r.take i∨u=v:=fun u=>by rw[qba hv];simp
  rw[qgH,if_pos (dpos (by omega)),qhF,if_pos (dpos (by omega))]
  unfold qpM qtK
  rw[qad hv,qaa,hxI,qaa,qaa,hxI,qaa]
  by_cases hk:x.kind=2
  ·rw[if_pos (by simpa using hk),if_neg (by simp[hk]),qmU,qaa,qaa,qlP N hxI,qaa]
   have hp:posE x v=if v.in_=x.b∨v.out=x.b then 1 else 2:=by unfold posE;rw[if_neg (by omega),if_pos hk]
   have h2:qpN N x x.b (posE x v==1)=some (qeY x v):=by
    unfold qpN qeY
    by_cases h:v.in_=x.b∨v.out=x.b
    ·rw[if_pos (by rw[hp,if_pos h];rfl),if_pos h]
    ·rw[if_neg (by rw[hp,if_neg h];decide),if_neg h]
   rw[h2,qaa,qaa]
   have he:qae x=[x.a,x.b,x.c]:=by unfold qae;rw[if_neg (by omega),if_pos hk]
   have hvs:Spot.mk v.element (qeY x v)∈allS l:=by
    rw[qfG]
    show qeY x v∈eI l v.element
    rw[qkr h0 hx',he]
    unfold qeY
    split<;>simp
   rcases grd N hN hP hr hon N _ d o t need hvs hG (by have:=qqF l hl d;omega) with ⟨e,d',o',g,t',k1,k2,k3⟩|⟨d1,o1,t1,need1,k2,k3,k4,k5,k6⟩
   ·unfold pG at k2
    unfold rG at k3
    simp only at k2 k3
    rw[k2,k3,qaa,qaa,if_pos (by simpa using k1),if_pos (by simpa using k1),qaa,qaa]
    exact .inl ⟨e,k1,rfl,rfl⟩
   ·unfold pG at k2
    unfold rG at k3
    simp only at k2 k3
    rw[k2,k3,qaa,qaa,if_neg (by simp),if_neg (by simp),qaa,qaa]
    dsimp only
    rw[w64s (by omega),qac]
    refine qdG N hN hP hr hrv hon k n (i+1) d1 o1 t1 need1 (by omega) (by omega) k4 ⟨fun u hu=> ?_,fun u hu y hy hky=> ?_⟩
    ·by_cases h:Dn d u
     ·exact (hI.clo u h).mono k5.sub k5.mono
     ·exact k5.clo u hu h
    ·rcases (htk u).1 hu with hu|rfl
     ·exact (hI.han u hu y hy hky).imp id (k5.sub _)
     ·rw[hx'] at hy;cases hy;exact k6
  ·rw[if_neg (by simpa using hk),if_pos (by simpa using hk),qaa,qaa]
   dsimp only
   rw[w64s (by omega),qac]
   refine qdG N hN hP hr hrv hon k n (i+1) d o t need (by omega) (by omega) hG ⟨hI.clo,fun u hu y hy hky=> ?_⟩
   rcases (htk u).1 hu with hu|rfl
   ·exact hI.han u hu y hy hky
   ·rw[hx'] at hy;cases hy;exact absurd hky hk
structure PrP (l:List PlantElement) (r:List Visit) (s:List Setting) (d:SpS) (o:OutM):Prop where
 lt:s.Pairwise fun a b=>a.element<b.element
 mem:∀y,y∈s↔y∈qaA l r∨qah o y.element=some y.position
 ok:OutOk l (elems r) o
 ni:NI l r r.length d o
theorem qjd (N:Nat) (hN:3000≤N) {g:Guardian} (hl:g.need.length≤1000) (hlt:g.need.Pairwise fun a b=>a.element<b.element):∀(k n i:Nat) (s:List Setting),k<n→i+k=g.need.length→s.length≤1000+i→(s.Pairwise fun a b=>a.element<b.element)→(∀y∈s,∀z∈g.need.drop i,y.element≠z.element)→
  ∃s',qj2 N g n s i=some s'∧(s'.Pairwise fun a b=>a.element<b.element)∧∀y,y∈s'↔y∈s∨y∈g.need.drop i
 |k,0,i,s,hn,_,_,_,_=>by omega
 |0,n+1,i,s,hn,hi,hs,hp,hd=>by
  obtain rfl:i=g.need.length:=by omega
  rw[qj2,if_neg (dneg (by omega))]
  exact ⟨s,rfl,hp,fun y=>by rw[List.drop_length];simp⟩
 |k+1,n+1,i,s,hn,hi,hs,hp,hd=>by
  have hv:=qam (xs:=g.need) (i:=i) (by omega)
  obtain ⟨v,hve⟩:∃v,v=g.need[i]:=⟨_,rfl⟩
  rw[←hve] at hv
  have hdr:g.need.drop i=v::g.need.drop (i+1):=qbz hv
  rw[hdr] at hd
  obtain ⟨s1,h1,h2,h3,h4⟩:=qlA N (s:=s) (x:=v) (by omega) (by omega) hp fun y hy=>hd y hy v List.mem_cons_self
  rw[qj2,if_pos (dpos (by omega)),qad hv,qaa,h1,qaa,qac,w64s (by omega)]
  have hnd:(v::g.need.drop (i+1)).Pairwise fun a b=>a.element<b.element:=by rw[←hdr];exact hlt.sublist (List.drop_sublist _ _)
  obtain ⟨s',g1,g2,g3⟩:=qjd N hN hl hlt k n (i+1) s1 (by omega) (by omega) (by omega) h2 fun y hy z hz=>by
   rcases (h3 y).1 hy with rfl|hy
   ·have:=(List.pairwise_cons.1 hnd).1 z hz
    omega
   ·exact hd y hy z (List.mem_cons_of_mem _ hz)
  refine ⟨s',g1,g2,fun y=> ?_⟩
  rw[g3,h3,hdr,List.mem_cons]
  constructor
  ·rintro ((h|h)|h)
   ·exact .inr (.inl h)
   ·exact .inl h
   ·exact .inr (.inr h)
  ·rintro (h|h|h)
   ·exact .inl (.inr h)
   ·exact .inl (.inl h)
   ·exact .inr h
theorem qcg {α β:Type} [DecidableEq α]:∀{m:List (α×β)},(m.map Prod.fst).Nodup→∀{p:α×β},p∈m→qah m p.1=some p.2
 |[],_,p,h=>by cases h
 |q::m,hd,p,h=>by
  rw[List.map_cons,List.nodup_cons] at hd
  simp only[qah]
  rcases List.mem_cons.1 h with rfl|h
  ·rw[if_pos rfl]
  ·rw[if_neg (fun he=>hd.1 (by rw[he];exact List.mem_map.2 ⟨p,h,rfl⟩))]
   exact qcg hd.2 h
theorem qdU {α β:Type} [DecidableEq α]:∀{m:List (α×β)} {a:α} {b:β},qah m a=some b→(a,b)∈m
 |[],a,b,h=>by simp[qah] at h
 |q::m,a,b,h=>by
  simp only[qah] at h
  split at h
  ·rename_i hq;cases h;rw[←hq];simp
  ·exact List.mem_cons_of_mem _ (qdU h)
theorem qhr {l:List PlantElement} {r:List Visit} {y:Setting} (h:y∈qaA l r):y.element∈elems r:=(qbp l r).subset (List.mem_map.2 ⟨y,h,rfl⟩)
theorem qjO (N:Nat) (hN:6000≤N) {l:List PlantElement} (hl:l.length≤96) {r:List Visit} (hr:r.length≤1000) (hnm:∀x∈l,x.name.length<N∧x.name.length≤9223372036854775807):
  (¬RtP l r∧zaR N l r=some ([],1)∧zbM N l r=some ([],1))∨(RtP l r∧∃e,e≠0∧zaR N l r=some ([],e)∧zbM N l r=some ([],e))∨
  (RtP l r∧∃s d o,zaR N l r=some (s,0)∧zbM N l r=some (s,0)∧PrP l r s d o∧s.length≤1000):=by
 obtain ⟨b,s0,e0,p1,p2,p3,p4,p5⟩:=qlY N (l:=l) (r:=r) (by omega) (by omega) (by omega) (fun _=>hnm)
 by_cases hR:RtP l r
 ·have hP:=PlOk.of hR.1
  have hs:=qcP N (by omega) hP hR (by omega)
  rw[p3] at hs
  cases hs
  obtain ⟨own,hown⟩:∃own,own=qbq (qaA l r):=⟨_,rfl⟩
  rw[←hown] at p3 p4 p5
  have hkeys:((qaA l r).map Setting.element).Nodup:=(qbp l r).nodup hR.2.2
  have olt:own.Pairwise fun a b=>a.element<b.element:=by rw[hown];exact qbI hkeys
  have omem:∀y,y∈own↔y∈qaA l r:=fun y=>by rw[hown];exact qbJ
  unfold zaR zbM
  rw[p3,p4,qaa,qaa,if_neg (by simp),if_neg (by simp)]
  unfold zbH
  obtain ⟨onm,o1,o2⟩:=qop N (r:=r) (by omega) (by omega)
  rw[o1,qaa]
  have hG:GR l (elems r) [] [] [] []:=⟨fun v h=>by simp[Dn,qah] at h,fun v h=>by simp[Dr,qah] at h,⟨by simp,fun i p h=>by simp[qah] at h⟩,⟨List.Pairwise.nil,fun y=>by simp[qah]⟩⟩
  rcases qdG N (by omega) hP hr hR.2.1.ok o2 r.length N 0 [] [] [] [] (by omega) (by omega) hG ⟨fun u h=>by simp[Dn,qah] at h,fun v h=>by simp at h⟩ with ⟨e,k1,k2,k3⟩|⟨d,o,t,need,k2,k3,k4,k5⟩
  ·rw[show qgH N l r (r.length:Int) onm N [] 0 [] [] []=_ from k2,show qhF N l r N (Guardian.mk l r [] []) 0 []=_ from k3,qaa,qaa]
   dsimp only
   rw[qaa,if_pos (by simpa using k1)]
   exact .inr (.inl ⟨hR,e,k1,rfl,rfl⟩)
  ·rw[show qgH N l r (r.length:Int) onm N [] 0 [] [] []=_ from k2,show qhF N l r N (Guardian.mk l r [] []) 0 []=_ from k3,qaa,qaa]
   dsimp only
   rw[qaa,if_neg (by simp)]
   have hneed:=k4.ok.len k4.nd
   have hdis:∀y∈own,∀p,qah o y.element≠some p:=fun y hy p hp=>(k4.ok.ok _ _ hp).2.1 (qhr ((omem y).1 hy))
   obtain ⟨s',q1,q2,q3⟩:=qjd N (by omega) (g:=Guardian.mk l r need []) (by show need.length≤1000;omega) k4.nd.lt need.length N 0 own (by omega) (by show 0+need.length=need.length;omega) (by omega) olt fun y hy z hz=>by
    have hz:z∈need:=by simpa using hz
    intro he
    have:=(k4.nd.mem z).1 hz
    rw[←he] at this
    exact hdis y hy _ this
   have q3:∀y,y∈s'↔y∈own∨y∈need:=fun y=>by simpa using q3 y
   dsimp only
   rw[show qj2 N (Guardian.mk l r need []) N own 0=_ from q1,qaa]
   have holen:o.length≤96:=by
    have:=qef (b:=(List.range l.length).map fun (i:Nat)=>(i:Int)) k4.ok.nd fun a ha=>by
     obtain ⟨v,hv⟩:=qhe.2 ha
     obtain ⟨h0,_,x,hx,_⟩:=k4.ok.ok _ _ hv
     have:=(List.getElem?_eq_some_iff.1 hx).1
     exact List.mem_map.2 ⟨a.toNat,List.mem_range.2 this,by omega⟩
    simp at this
    omega
   have hall:((own++o.map fun p=>Setting.mk p.1 p.2).map Setting.element).Nodup:=by
    rw[List.map_append,List.nodup_append]
    refine ⟨?_, ?_, ?_⟩
    ·unfold List.Nodup
     rw[List.pairwise_map]
     exact olt.imp fun h he=>by omega
    ·rw[List.map_map]
     exact k4.ok.nd
    ·intro a ha c hc hac
     obtain ⟨y,hy,rfl⟩:=List.mem_map.1 ha
     obtain ⟨z,hz,rfl⟩:=List.mem_map.1 hc
     obtain ⟨p,hp,rfl⟩:=List.mem_map.1 hz
     have:=qcg k4.ok.nd hp
     exact hdis y hy p.2 (by rw[hac];exact this)
   have hz:qma N own o=some (qbq (own++o.map fun p=>Setting.mk p.1 p.2),0):=by
    unfold qma rngM
    rw[if_pos ⟨by omega,hall⟩]
    unfold srtI
    rw[if_pos (by rw[List.length_append,List.length_map];omega),qaa]
    rfl
   rw[hz,qaa]
   have hmem:∀y,y∈qbq (own++o.map fun p=>Setting.mk p.1 p.2)↔y∈qaA l r∨qah o y.element=some y.position:=fun y=>by
    rw[qbJ,List.mem_append,omem]
    constructor
    ·rintro (h|h)
     ·exact .inl h
     ·obtain ⟨p,hp,rfl⟩:=List.mem_map.1 h
      exact .inr (qcg k4.ok.nd hp)
    ·rintro (h|h)
     ·exact .inl h
     ·exact .inr (List.mem_map.2 ⟨_,qdU h,rfl⟩)
   have heq:qbq (own++o.map fun p=>Setting.mk p.1 p.2)=s':=qbH (qbI hall) q2 fun y=>by
    rw[hmem,q3,omem,k4.nd.mem]
   refine .inr (.inr ⟨hR,_,d,o,rfl,by rw[heq],⟨qbI hall,hmem,k4.ok,k5⟩, ?_⟩)
   rw[qfz,List.length_append,List.length_map]
   omega
 ·have hb:b=false:=by
   obtain ⟨b',h1,h2⟩:=qig N (l:=l) (r:=r) (by omega) (by omega) (by omega)
   rw[p1] at h1;cases h1
   cases b with
   |false=>rfl
   |true=>exact absurd (h2.1 rfl) hR
  subst hb
  have he:s0=[]∧e0=1:=by
   unfold zaO at p3
   rw[p1,qaa,if_pos (by simp)] at p3
   cases p3;exact ⟨rfl,rfl⟩
  obtain ⟨rfl,rfl⟩:=he
  refine .inl ⟨hR, ?_, ?_⟩
  ·unfold zaR;rw[p3,qaa,if_pos (by simp)]
  ·unfold zbM;rw[p4,qaa,if_pos (by simp)]
end Go.W
end
section
set_option linter.unusedVariables false
set_option linter.unusedSimpArgs false
namespace Go.W
open Go.AM
theorem qqO {l:List PlantElement} (hP:PlOk l) {N:Nat} (hN:20≤N):∀x∈l,x.name.length<N∧x.name.length≤9223372036854775807:=fun x hx=>by
 have h1:=(qaw (hP.snd x hx)).2.2.2
 unfold pnOk at h1
 simp only[Bool.and_eq_true,decide_eq_true_eq] at h1
 omega
theorem qjs (N:Nat) (hN:6000≤N) {l:List PlantElement} (hP:MadeP l):∀(k n i:Nat) (c:Int) (s:Maker),k<n→i+k=6→Mk c s→c+30*k≤900000→
  ∃s',Mk (c+30*k) s'∧(qgN N l n s i=some (.inl s')∨∃w,qgN N l n s i=some (.inr (s',l,w))∧w.length≤13∧RtP l w)
 |k,0,i,c,s,hn,_,_,_=>by omega
 |0,n+1,i,c,s,hn,hi,hs,hc=>by
  obtain rfl:i=6:=by omega
  rw[qgN,if_neg (dneg (by omega))]
  exact ⟨s,hs.le (by omega), .inl rfl⟩
 |k+1,n+1,i,c,s,hn,hi,hs,hc=>by
  rw[qgN,if_pos (dpos (by omega))]
  obtain ⟨w,s1,h1,h2,h3,h4,_⟩:=qpq N (by omega) hP hs (by omega)
  obtain ⟨b,_,k2,k3⟩:=ql7 N (by omega) hP.ok (w:=w) (by omega)
  rw[h1,qaa]
  simp only[]
  rw[k2,qaa]
  cases b with
  |true=>exact ⟨s1,h2.le (by omega), .inr ⟨w,rfl,h4,k3.1 rfl⟩⟩
  |false=>
   rw[if_neg (by simp),qac,w64s (by omega)]
   obtain ⟨s',g1,g2⟩:=qjs N hN hP k n (i+1) (c+30) s1 (by omega) (by omega) h2 (by omega)
   exact ⟨s',g1.le (by omega),g2⟩
theorem qtk (N:Nat) (hN:6000≤N) {c:Int} {s:Maker} (hs:Mk c s) (h0:0≤c) (hc:c≤800000):∃l w s',zcP N s=some (l,w,s')∧Mk (c+31000) s'∧PlOk l∧w.length≤13∧(w=[]∨RtP l w):=by
 unfold zcP
 obtain ⟨l,s1,h1,h2,hP⟩:=qmW N (by omega) (b:=c) h0 (by omega) hs (k:=20) (by omega)
 obtain ⟨s',g1,g2⟩:=qjs N hN hP 6 N 0 (c+30000) s1 (by omega) (by omega) h2 (by omega)
 rw[h1,qaa]
 simp only[]
 rcases g2 with g2|⟨w,g2,g3,g4⟩
 ·rw[show qgN N l N s1 0=_ from g2,qaa]
  exact ⟨l,[],s',rfl,g1.le (by omega),hP.ok,by simp, .inl rfl⟩
 ·rw[show qgN N l N s1 0=_ from g2,qaa]
  exact ⟨l,w,s',rfl,g1.le (by omega),hP.ok,g3, .inr g4⟩
theorem KnP.of {l:List PlantElement} {s:List Setting} (h1:∀y∈s,ok1 l y) (h2:s.Pairwise fun a b=>a.element<b.element):KnP l s:=fun i y hy=>by
 refine ⟨h1 y (List.mem_of_getElem? hy),fun z hz he=> ?_⟩
 obtain ⟨j,hj,hz⟩:=qmE.1 hz
 obtain ⟨hil,hie⟩:=List.getElem?_eq_some_iff.1 hy
 obtain ⟨hjl,hje⟩:=List.getElem?_eq_some_iff.1 hz
 have:=List.pairwise_iff_getElem.1 h2 j i hjl hil hj
 rw[hie,hje] at this
 omega
def qb3:List PlantElement:=[(PlantElement.mk 1 [116,49] 0 1 0 9),(PlantElement.mk 2 [119] 1 2 3 0),(PlantElement.mk 1 [116,50] 2 4 0 9),(PlantElement.mk 3 [100] 3 5 0 0),(PlantElement.mk 1 [116,51] 5 6 0 9)]
def smallW:List Visit:=[(Visit.mk 0 (-1) 1),(Visit.mk 1 1 2),(Visit.mk 2 2 (-1))]
theorem qqi (M:Nat):zcL (M+60) qb3 0 2=some (smallW,0):=by kernel_rfl
theorem qov (M:Nat):zbN (M+60) qb3 smallW=some true:=by kernel_rfl
theorem qmq (M:Nat):zbN (M+60) qb3 []=some false:=by kernel_rfl
theorem qql (M:Nat):qhD (M+60) qb3 smallW (smallW.length:Int) (M+60) [] 0=some [Setting.mk 1 1]:=by kernel_rfl
theorem qqj (M:Nat):zbH (M+60) qb3 smallW=some ([(3,4)],0):=by kernel_rfl
theorem qqg (M:Nat):zaQ (M+60) qb3 smallW []=some ([4],0):=by kernel_rfl
theorem qqh (M:Nat):zaQ (M+60) qb3 smallW [Setting.mk 1 1,Setting.mk 3 4]=some ([],0):=by kernel_rfl
theorem qn3 {q:List Setting} (h:q.Pairwise fun a b=>a.element<b.element) (hl:q.length≤1000): @srtI Setting ⟨Setting.mk 0 0⟩ (fun a b=>cmpI a.element b.element) q=some q:=by
 have hn:(q.map Setting.element).Nodup:=by
  unfold List.Nodup
  rw[List.pairwise_map]
  exact h.imp fun h he=>by omega
 have e:qbq q=q:=qbH (qbI hn) h fun x=>qbJ
 unfold srtI
 rw[if_pos (by omega)]
 exact congrArg some e
theorem qqk (M:Nat):zaR (M+60) qb3 smallW=some ([Setting.mk 1 1,Setting.mk 3 4],0):=by
 have hset:zaO (M+60) qb3 smallW=some ([Setting.mk 1 1],0):=by
  unfold zaO
  rw[qov,qaa,if_neg (by simp),qql,qaa,qn3 (by simp) (by simp),qaa]
 unfold zaR
 rw[hset,qaa,if_neg (by simp),qqj,qaa,if_neg (by simp)]
 unfold qma rngM
 rw[if_pos ⟨by simp,by simp⟩]
 simp only[List.map_cons,List.map_nil,List.cons_append,List.nil_append]
 rw[qn3 (by simp) (by simp),qaa,qaa]
theorem qou (M:Nat):zaR (M+60) qb3 []=some ([],1):=by
 have hset:zaO (M+60) qb3 []=some ([],1):=by
  unfold zaO
  rw[qmq,qaa,if_pos (by simp)]
 unfold zaR
 rw[hset,qaa,if_pos (by simp)]
theorem qq8 {N:Nat} (h:60≤N):zcI N=some true:=by
 obtain ⟨M,rfl⟩:∃M,N=M+60:=⟨N - 60,by omega⟩
 unfold zcI
 have h0:zcA (M+60)=some qb3:=rfl
 rw[h0,qaa,qqi,qaa,qaa]
 simp only[]
 rw[qqk,qaa,qaa,qqg,qaa,qaa]
 simp only[]
 rw[qqh,qaa,qaa,qou,qaa]
 have h1:qpZ (M+60) [Setting.mk 1 1,Setting.mk 3 4] 0 [4] 0 [] 0 1=some true:=by kernel_rfl
 rw[h1,qaa]
end Go.W
end
section
set_option linter.unusedVariables false
set_option linter.unusedSimpArgs false
namespace Go.W
open Go.AM
theorem qes {r:List Visit} {k:Int}:k∈elems r↔∃(j:Nat) (v:Visit),r[j]? =some v∧v.element=k:=by
 unfold elems
 rw[List.mem_map]
 constructor
 ·rintro ⟨v,hv,rfl⟩
  obtain ⟨j,hj⟩:=List.getElem?_of_mem hv
  exact ⟨j,v,hj,rfl⟩
 ·rintro ⟨j,v,hj,rfl⟩
  exact ⟨v,List.mem_of_getElem? hj,rfl⟩
theorem qjD {l:List PlantElement} {r:List Visit} (hR:RtP l r) {k n:Int} (hk:k∈elems r) (hf:k≠(endR r).1) (hl:k≠(endR r).2) (hn:n∈eI l k) (ho:nbr l k n∉elems r):∃v∈r,∃x,v.element=k∧l[k.toNat]? =some x∧x.kind=2∧n=qeY x v:=by
 have hP:=PlOk.of hR.1
 have hW:=hR.2.1
 obtain ⟨j,v,hj,rfl⟩:=qes.1 hk
 have hjl:=(List.getElem?_eq_some_iff.1 hj).1
 have e0:=qam (xs:=r) (i:=0) (by omega)
 have e1:=qam (xs:=r) (i:=r.length - 1) (by omega)
 have he:endR r=(r[0].element,r[r.length - 1].element):=by unfold endR;rw[e0,e1];rfl
 rw[he] at hf hl
 have j0:0<j:=by
  refine Nat.pos_of_ne_zero fun h=> ?_
  subst h
  rw[e0] at hj;cases hj;exact hf rfl
 have j1:j+1<r.length:=by
  refine Nat.lt_of_not_le fun h=> ?_
  have:j=r.length - 1:=by omega
  subst this
  rw[e1] at hj;cases hj;exact hl rfl
 have hp:=qam (xs:=r) (i:=j - 1) (by omega)
 have hq:=qam (xs:=r) (i:=j+1) j1
 have s1:=hW.step (j - 1) _ v hp (by rw[show j - 1+1=j by omega];exact hj)
 have s2:=hW.step j v _ hj hq
 have hmid:=hW.mid j v j0 j1 hj
 have hio:=hP.thr_sym hmid
 have hmem:=qit hmid
 have n1:nbr l v.element v.in_∈elems r:=by
  have hin:=hW.outs (i:=j - 1) (by omega) hp
  have h0:0≤nbr l r[j - 1].element r[j - 1].out:=by rw[←s1.2.2];exact s1.2.1
  have:=hP.nbr_sym hin h0
  rw[←s1.2.2,←s1.1] at this
  rw[this]
  exact qes.2 ⟨j - 1,_,hp,rfl⟩
 have n2:nbr l v.element v.out∈elems r:=by
  rw[←s2.2.2]
  exact qes.2 ⟨j+1,_,hq,rfl⟩
 have d1:n≠v.in_:=fun h=>ho (by rw[h];exact n1)
 have d2:n≠v.out:=fun h=>ho (by rw[h];exact n2)
 obtain ⟨h0,h1,x,hx,hnx⟩:=qb2 hn
 have hsnd:=hP.snd x (List.mem_of_getElem? hx)
 have hee:=qkr h0 hx
 unfold thr at hmid
 rw[hee] at hmid hmem
 rcases qoJ hsnd with hk|hk|hk
 ·have:qae x=[x.a,x.b]:=by unfold qae;rw[if_pos (.inl hk)]
  rw[this] at hmem hnx
  simp only[List.mem_cons,List.not_mem_nil,or_false] at hmem hnx
  have:=hio.2
  omega
 ·refine ⟨v,List.mem_of_getElem? hj,x,rfl,hx,hk, ?_⟩
  have:qae x=[x.a,x.b,x.c]:=by unfold qae;rw[if_neg (by omega),if_pos hk]
  obtain ⟨q1,q2,q3,hc⟩:=qct hsnd hk hmid
  rw[this] at hnx
  simp only[List.mem_cons,List.not_mem_nil,or_false] at hnx
  unfold qeY
  rcases hc with ⟨c1,_,c2⟩|⟨c1,c2⟩|⟨c1,c2⟩
  ·split<;>omega
  ·rw[if_pos (.inl c1)];omega
  ·rw[if_neg (by omega)];omega
 ·have:qae x=[x.a,x.b]:=by unfold qae;rw[if_pos (.inr hk)]
  rw[this] at hmem hnx
  simp only[List.mem_cons,List.not_mem_nil,or_false] at hmem hnx
  have:=hio.2
  omega
theorem qt5 {l:List PlantElement} {r:List Visit} (hR:RtP l r) {d:SpS} {o:OutM} (hN:NI l r r.length d o) {p:Int→Int} (hp:∀i q,qah o i=some q→p i=q) {v:Spot} (h:Rch (vS l (elems r) p (endR r).1 (endR r).2 (id:Spot→Spot)) v):
  v.node∈eI l v.element→v.element∉elems r→Dn d (Spot.mk (nbr l v.element v.node) v.node):=by
 have hP:=PlOk.of hR.1
 induction h with
 | @here v hd hf hh=>
  intro hn hno
  have h0:0≤nbr l v.element v.node:=by simpa[vS] using hd
  have hk:nbr l v.element v.node∈elems r:=by simpa[vS] using hf
  have hh:nbr l v.element v.node≠(endR r).1∧nbr l v.element v.node≠(endR r).2:=by simpa[vS] using hh
  have hs:=hP.nbr_sym hn h0
  obtain ⟨w,hw,x,h1,h2,h3,h4⟩:=qjD hR hk hh.1 hh.2 (qeI h0).1 (by rw[hs];exact hno)
  rcases hN.han w (by rw[List.take_length];exact hw) x (by rw[h1];exact h2) h3 with ht|hdn
  ·exfalso
   unfold Tr at ht
   simp only[h1,←h4,hs] at ht
   rcases ht with ht|ht
   ·have:=(qb2 hn).1;omega
   ·exact hno ht
  ·rw[h1,←h4] at hdn;exact hdn
 | @step v u hd hf hu hr ih=>
  intro hn hno
  have h0:0≤nbr l v.element v.node:=by simpa[vS] using hd
  have hkn:nbr l v.element v.node∉elems r:=by simpa[vS] using hf
  have hs:=hP.nbr_sym hn h0
  obtain ⟨m,hm,rfl⟩:=List.mem_map.1 hu
  obtain ⟨k,hk⟩:∃k,k=nbr l v.element v.node:=⟨_,rfl⟩
  rw[←hk] at hm ih h0 hkn hs⊢
  have hnk:v.node∈eI l k:=by rw[hk];exact (qeI (by rw[←hk];exact h0)).1
  obtain ⟨x,hx⟩:∃x,l[k.toNat]? =some x:=by obtain ⟨_,_,x,hx,_⟩:=qb2 hnk;exact ⟨x,hx⟩
  have hee:=qkr h0 hx
  have hm':m∈onwE x (p k) v.node:=by
   unfold onw at hm
   rw[if_pos h0,hx] at hm
   exact hm
  have hmk:m∈eI l k:=by rw[hee];exact qmI hm'
  have hdn:=ih hmk hkn
  simp only at hdn
  obtain ⟨hnt,y,hy,c1,c3,c2,c4⟩:=hN.clo _ hdn
  have hkm:0≤nbr l k m:=by
   have:=hr.live
   rw[←hk] at this
   simpa[vS] using this
  have hsm:=hP.nbr_sym hmk hkm
  simp only[hsm] at hy c3 c2 c4
  rw[hx] at hy;cases hy
  have hsnd:=hP.snd x (List.mem_of_getElem? hx)
  rcases qoJ hsnd with hkd|hkd|hkd
  ·exact absurd hkd c1
  ·have he:qae x=[x.a,x.b,x.c]:=by unfold qae;rw[if_neg (by omega),if_pos hkd]
   have hnd:=(qaw hsnd).1
   rw[he] at hnd
   simp at hnd
   have hnx:v.node∈qae x:=by rw[←hee];exact hnk
   rw[he] at hnx
   simp only[List.mem_cons,List.not_mem_nil,or_false] at hnx
   by_cases ha:m=x.a
   ·have hb:v.node≠x.a:=by
     intro hva
     unfold onwE at hm'
     rw[if_neg (by omega)] at hm'
     split at hm'
     ·have:=List.mem_singleton.1 hm';omega
     ·split at hm'
      ·have:=List.mem_singleton.1 hm';omega
      ·obtain ⟨q1,q2,q3,hc⟩:=qct hsnd hkd hm'
       omega
    have hh:=c4 hkd ha
    have hw:Hn l (elems r) d (Spot.mk k v.node):=by
     rcases hnx with h|h|h
     ·exact absurd h hb
     ·rw[h];exact hh.1
     ·rw[h];exact hh.2
    rcases hw with ht|hw
    ·exfalso
     unfold Tr at ht
     simp only[hs] at ht
     rcases ht with ht|ht
     ·have:=(qb2 hn).1;omega
     ·exact hno ht
    ·exact hw
   ·exfalso
    have hpk:=hp _ _ (c2 hkd ha)
    unfold onwE at hm'
    rw[if_neg (by omega)] at hm'
    split at hm'
    ·rename_i h;have:=List.mem_singleton.1 hm'
     rw[if_pos this] at hpk;omega
    ·split at hm'
     ·rename_i h1 h;have:=List.mem_singleton.1 hm'
      have hcb:m≠x.b:=by omega
      rw[if_neg hcb] at hpk;omega
     ·rename_i h1 h2
      obtain ⟨q1,q2,q3,hc⟩:=qct hsnd hkd hm'
      rcases hc with ⟨e1,_,e2⟩|⟨_,e⟩|⟨_,e⟩
      ·rcases e2 with e2|e2
       ·rw[if_pos e2] at hpk;exact h2 ⟨hkd,e1,hpk⟩
       ·rw[if_neg (by omega)] at hpk;exact h1 ⟨hkd,e1,hpk⟩
      ·exact ha e
      ·exact ha e
  ·exfalso
   have hpk:=hp _ _ (c3 hkd)
   unfold onwE at hm'
   rw[if_pos ⟨hkd,hpk⟩] at hm'
   cases hm'
theorem qlX {l:List PlantElement} {r:List Visit} (hW:WayP l r) {y:Setting} (h:y∈qaA l r):ok1 l y:=by
 obtain ⟨v,hv,hy⟩:=List.mem_flatMap.1 h
 have he:=qin hy
 obtain ⟨h0,h1⟩:=hW.ok v hv
 unfold setV at hy
 split at hy
 ·rename_i x hx
  refine ⟨by rw[he];exact h0,x,by rw[he];exact hx, ?_⟩
  unfold setE at hy
  split at hy
  ·rename_i hk
   have:=List.mem_singleton.1 hy
   subst this
   exact .inr ⟨hk, .inl rfl⟩
  ·split at hy
   ·rename_i hk
    split at hy
    ·have:=List.mem_singleton.1 hy
     subst this
     exact .inl ⟨hk, .inl rfl⟩
    ·have:=List.mem_singleton.1 hy
     subst this
     exact .inl ⟨hk, .inr rfl⟩
   ·cases hy
 ·cases hy
theorem PrP.ok1 {l:List PlantElement} {r:List Visit} (hW:WayP l r) {s:List Setting} {d:SpS} {o:OutM} (h:PrP l r s d o):∀y∈s,ok1 l y:=fun y hy=>by
 rcases (h.mem y).1 hy with hy|hy
 ·exact qlX hW hy
 ·obtain ⟨h0,_,x,hx,hk⟩:=h.ok.ok _ _ hy
  refine ⟨h0,x,hx, ?_⟩
  rcases hk with hk|hk
  ·exact .inl hk
  ·exact .inr ⟨hk.1, .inr hk.2⟩
end Go.W
end
section
set_option linter.unusedVariables false
set_option linter.unusedSimpArgs false
namespace Go.W
open Go.AM
theorem qqW {l:List PlantElement} {r:List Visit} (hR:RtP l r) {s:List Setting} {d:SpS} {o:OutM} (h:PrP l r s d o):s.filter (fun y=>(elems r).contains y.element)=qbq (qaA l r):=by
 refine qbH (h.lt.sublist List.filter_sublist) (qbI ((qbp l r).nodup hR.2.2)) fun y=> ?_
 rw[List.mem_filter,qbJ,h.mem]
 constructor
 ·rintro ⟨h1|h1,h2⟩
  ·exact h1
  ·exact absurd (by simpa using h2) (h.ok.ok _ _ h1).2.1
 ·exact fun h1=>⟨.inl h1,by simpa using qhr h1⟩
theorem qhl (N:Nat) (hN:6000≤N) {r:List Visit} (hr:r.length≤1000) {s own:List Setting} (hs:s.length≤1000) (hlt:s.Pairwise fun a b=>a.element<b.element) (ho:s.filter (fun y=>(elems r).contains y.element)=own):
  ∀(k n j:Nat),k<n→j+k=s.length→qiy N r s own n ((((s.take j).filter fun y=>(elems r).contains y.element).length:Nat):Int) j=some (.inl (own.length:Int))
 |k,0,j,hn,_=>by omega
 |0,n+1,j,hn,hj=>by
  obtain rfl:j=s.length:=by omega
  rw[qiy,if_neg (dneg (by omega)),List.take_length,ho]
 |k+1,n+1,j,hn,hj=>by
  have hv:=qam (xs:=s) (i:=j) (by omega)
  obtain ⟨y,hye⟩:∃y,y=s[j]:=⟨_,rfl⟩
  rw[←hye] at hv
  obtain ⟨m,hm⟩:∃m,m=((s.take j).filter fun y=>(elems r).contains y.element).length:=⟨_,rfl⟩
  rw[←hm]
  have hmle:m≤j:=by
   rw[hm]
   have:=List.length_filter_le (fun y:Setting=>(elems r).contains y.element) (s.take j)
   rw[List.length_take] at this
   omega
  have htk:((s.take (j+1)).filter fun y=>(elems r).contains y.element)=((s.take j).filter fun y=>(elems r).contains y.element)++(if (elems r).contains y.element=true then [y] else []):=by
   rw[qba hv,List.filter_append]
   congr 1
   rw[List.filter_cons,List.filter_nil]
  have hasc:∀z,0<j→s[j - 1]? =some z→¬y.element≤z.element:=fun z h0 hz=>by
   obtain ⟨a1,a2⟩:=List.getElem?_eq_some_iff.1 hz
   have:=List.pairwise_iff_getElem.1 hlt (j - 1) j a1 (by omega) (by omega)
   rw[a2,←hye] at this
   omega
  have hvis:(elems r).contains y.element=true→own[m]? =some y:=fun h=>by
   rw[←ho,←List.take_append_drop (j+1) s,List.filter_append,htk,h]
   simp only[if_true]
   rw[List.getElem?_append_left (by rw[List.length_append,←hm];simp),List.getElem?_append_right (by omega),←hm,Nat.sub_self]
   rfl
  have h5:qno N s own m j ((elems r).contains y.element)=some false:=by
   have hc:(if (elems r).contains y.element=true then (if decide ((own.length:Int)≤m)=true then some true else Option.bind (getI s j) fun a=>Option.bind (getI own m) fun b=>some (!(decide (a=b)))) else some false)=some false:=by
    by_cases h:(elems r).contains y.element=true
    ·have hw:=hvis h
     have:=(List.getElem?_eq_some_iff.1 hw).1
     rw[if_pos h,if_neg (lneg (by omega)),qad hv,qaa,qad hw,qaa]
     simp
    ·rw[if_neg h]
   unfold qno
   by_cases j0:0<j
   ·have hp:=qam (xs:=s) (i:=j - 1) (by omega)
    have hw:IntKind.wrap .i64 ((j:Int) - 1)=((j - 1:Nat):Int):=by rw[w64 (by omega) (by omega)];omega
    rw[if_pos (dpos (by omega)),hw]
    rw[qad hv] at hc⊢
    rw[qaa,qad hp,qaa,if_neg (lneg (hasc _ j0 hp))]
    exact hc
   ·rw[if_neg (dneg (by omega))]
    exact hc
  rw[qiy,if_pos (dpos (by omega))]
  unfold qpy
  rw[qad hv,qaa,qds N (by omega) (by omega),qaa,h5,qaa,if_neg (by simp)]
  have ih:=qhl N hN hr hs hlt ho k n (j+1) (by omega) (by omega)
  rw[htk,List.length_append,←hm] at ih
  by_cases h:(elems r).contains y.element=true
  ·rw[if_pos h,qac,w64s (by omega),qaa]
   dsimp only
   rw[qac,w64s (by omega)]
   rw[if_pos h] at ih
   exact ih
  ·rw[if_neg h,qaa]
   dsimp only
   rw[qac,w64s (by omega)]
   rw[if_neg h] at ih
   exact ih
theorem qoq (N:Nat) (hN:6000≤N) {c:Int} {s:Maker} (hs:Mk c s) (h0:0≤c) (hc:c≤700000):∃s',qnn N s=some (.inl s')∧Mk (c+40000) s':=by
 unfold qnn
 obtain ⟨l,w,s1,h1,h2,hP,h3,_⟩:=qtk N hN hs h0 (by omega)
 have hl:=hP.len
 obtain ⟨b,s0,e0,q1,q2,q3,q4,q5⟩:=qlY N (l:=l) (r:=w) (by omega) (by omega) (by omega) (fun _=>qqO hP (by omega))
 rw[h1,qaa]
 simp only[]
 have bad:∀(a:List Setting) (e:Int),e≠0→qmb N e e0=some true:=fun a e he=>by
  unfold qmb;rw[if_pos (by simpa using he)]
 rcases qjO N hN hl (r:=w) (by omega) (qqO hP (by omega)) with ⟨_,p1,_⟩|⟨_,e,he,p1,_⟩|⟨hR,a,d,o,p1,_,p2,p3⟩
 ·rw[p1,qaa,q4,qaa]
  simp only[]
  rw[bad [] 1 (by omega),qaa,if_pos rfl]
  exact ⟨s1,rfl,h2.le (by omega)⟩
 ·rw[p1,qaa,q4,qaa]
  simp only[]
  rw[bad [] e he,qaa,if_pos rfl]
  exact ⟨s1,rfl,h2.le (by omega)⟩
 ·have hset:=qcP N (by omega) hP hR (by omega)
  rw[q3] at hset
  cases hset
  rw[p1,qaa,q4,qaa]
  simp only[]
  have h22:qmb N 0 0=some false:=rfl
  rw[h22,qaa,if_neg (by simp)]
  have:=qhl N hN (r:=w) (by omega) p3 p2.lt (qqW hR p2) a.length N 0 (by omega) (by omega)
  rw[show qiy N w a (qbq (qaA l w)) N 0 0=_ from this,qaa]
  dsimp only
  rw[if_neg (by simp)]
  exact ⟨s1,rfl,h2.le (by omega)⟩
theorem qiO (N:Nat) (hN:6000≤N):∀(k n i:Nat) (c:Int) (s:Maker),k<n→i+k=4→Mk c s→0≤c→c+40000*k≤700000→qix N n s i=some (.inl ())
 |k,0,i,c,s,hn,_,_,_,_=>by omega
 |0,n+1,i,c,s,hn,hi,hs,hc0,hc=>by
  obtain rfl:i=4:=by omega
  rw[qix,if_neg (dneg (by omega))]
 |k+1,n+1,i,c,s,hn,hi,hs,hc0,hc=>by
  rw[qix,if_pos (dpos (by omega))]
  obtain ⟨s',h1,h2⟩:=qoq N hN hs hc0 (by omega)
  rw[h1,qaa]
  dsimp only
  rw[qac,w64s (by omega)]
  exact qiO N hN k n (i+1) (c+40000) s' (by omega) (by omega) h2 (by omega) (by omega)
theorem qqf (t:List Int):∃N,zaS N t=some true:=by
 refine ⟨6000, ?_⟩
 unfold zaS zcO
 have h0:=qiO 6000 (by omega) 4 6000 0 0 (Maker.mk t 0) (by omega) (by omega) (mk0 t) (by omega) (by omega)
 have h0:qix 6000 6000 (Maker.mk t 0) 0=some (.inl ()):=h0
 rw[qaa,h0,qaa]
 simp only[]
 rw[qq8 (by omega),qaa]
end Go.W
end
