/- W1 WLib LBas LPl1 LPl2 LPl3 LPl4 LPlM LFr LFk1 -/
import Derived.Test.YtflnpffcbghmhaaProg
import Derived.IntWalk
import Derived.Test.YtflnpffcbghmhaaMd
section
set_option linter.unusedVariables false
set_option linter.unusedSimpArgs false
set_option maxRecDepth 100000
set_option maxHeartbeats 1000000
namespace Go.W
noncomputable section
open Go.AM Go.Proofs
def Ty3:Ty Int:=TyOf 3 [.int .i64] fun x=>(x,())
def Ty4:Ty Bool:=TyOf 4 [.bool] fun x=>(x,())
def Ty5:Ty UInt8:=TU8 5
def Ty9:Ty (List UInt8):=TyOf 9 [.str] fun x=>(x,())
def Ty22:Ty (List Int):=TyOf 22 [.sl Int Ty3] fun x=>(x,())
def Ty53:Ty PlantElement:=TyOf 53 [.int .i64, .str, .int .i64, .int .i64, .int .i64, .int .i64] fun x=>(x.kind,x.name,x.a,x.b,x.c,x.length,())
def Ty23:Ty (List PlantElement):=TyOf 23 [.sl PlantElement Ty53] fun x=>(x,())
def Ty33:Ty Setting:=TyOf 33 [.int .i64, .int .i64] fun x=>(x.element,x.position,())
def Ty48:Ty Maker:=TyOf 48 [.sl Int Ty3, .int .i64] fun x=>(x.l,x.n,())
def Ty60:Ty (List (Int×Int)):=TyOf 60 [.mp Int Int ⟨kInt .i64,kInt .i64,60⟩] fun x=>(x,())
def Ty67:Ty (List (Int×Bool)):=TyOf 67 [.mp Int Bool ⟨kInt .i64,qhQ,67⟩] fun x=>(x,())
def Ty70:Ty Visit:=TyOf 70 [.int .i64, .int .i64, .int .i64] fun x=>(x.element,x.in_,x.out,())
def Ty71:Ty (List (Spot×Bool)):=TyOf 71 [.mp Spot Bool ⟨fun x=>[.int .i64 x.element, .int .i64 x.node],qhQ,71⟩] fun x=>(x,())
def Ty72:Ty (Option Nat):=TyOf 72 [.fn] fun x=>(x,())
def Ty74:Ty Spot:=TyOf 74 [.int .i64, .int .i64] fun x=>(x.element,x.node,())
def Ty88:Ty (Option Nat):=TyOf 88 [.fn] fun x=>(x,())
def Ty91:Ty (List (Step×Int)):=TyOf 91 [.mp Step Int ⟨fun x=>[.int .i64 x.element, .int .i64 x.in_],kInt .i64,91⟩] fun x=>(x,())
def Ty97:Ty Step:=TyOf 97 [.int .i64, .int .i64] fun x=>(x.element,x.in_,())
def Ty98:Ty (Option Nat):=TyOf 98 [.fn] fun x=>(x,())
def qDi:Ty (List ((List UInt8)×Bool)):=TyOf 122 [.mp (List UInt8) Bool ⟨kStr,qhQ,122⟩] fun x=>(x,())
structure TE where
 α:Type
 T:Ty α
 kc:α→List Value
def tabL:Nat→TE
 |3=>⟨Int,Ty3,kInt .i64⟩
 |4=>⟨Bool,Ty4,qhQ⟩
 |5=>⟨UInt8,Ty5,fun _=>[]⟩
 |9=>⟨(List UInt8),Ty9,kStr⟩
 |22=>⟨(List Int),Ty22,fun _=>[]⟩
 |53=>⟨PlantElement,Ty53,fun _=>[]⟩
 |23=>⟨(List PlantElement),Ty23,fun _=>[]⟩
 |33=>⟨Setting,Ty33,fun _=>[]⟩
 |48=>⟨Maker,Ty48,fun _=>[]⟩
 |60=>⟨(List (Int×Int)),Ty60,fun _=>[]⟩
 |67=>⟨(List (Int×Bool)),Ty67,fun _=>[]⟩
 |70=>⟨Visit,Ty70,fun _=>[]⟩
 |71=>⟨(List (Spot×Bool)),Ty71,fun _=>[]⟩
 |72=>⟨(Option Nat),Ty72,fun _=>[]⟩
 |74=>⟨Spot,Ty74,fun x=>[.int .i64 x.element, .int .i64 x.node]⟩
 |88=>⟨(Option Nat),Ty88,fun _=>[]⟩
 |91=>⟨(List (Step×Int)),Ty91,fun _=>[]⟩
 |97=>⟨Step,Ty97,fun x=>[.int .i64 x.element, .int .i64 x.in_]⟩
 |98=>⟨(Option Nat),Ty98,fun _=>[]⟩
 |122=>⟨(List ((List UInt8)×Bool)),qDi,fun _=>[]⟩
 |_=>⟨Bool,ql3 4,qhQ⟩
def D (t:Nat):Type:=(tabL t).α
def G:Tab D:=⟨fun t=>(tabL t).T,fun t=>(tabL t).kc⟩
def ti3:TI Try.prog G 3:=tiOf [.int .i64] (fun (x:Int)=>(x,())) (fun y=>(y.1:Int)) (fun _=>rfl) (fun _=>rfl) (0:Int) Try.t3 (.int .i64 0) rfl Try.type3 rfl rfl rfl rfl rfl rfl (fun z=>⟨rfl,trivial⟩) rfl
def ti4:TI Try.prog G 4:=tiOf [.bool] (fun (x:Bool)=>(x,())) (fun y=>(y.1:Bool)) (fun _=>rfl) (fun _=>rfl) (false:Bool) Try.t4 (.bool false) rfl Try.type4 rfl rfl rfl rfl rfl rfl (fun z=>⟨rfl,trivial⟩) rfl
def ti5:TI Try.prog G 5:=tiU8 (fun (x:UInt8)=>x) (fun x=>x) (fun x=>x) (fun o=>by cases o<;>rfl) (fun _=>rfl) (fun _=>rfl) Try.t5 rfl rfl (fun _ _ _=>Iff.rfl) Try.type5 rfl rfl rfl
def ti9:TI Try.prog G 9:=tiOf [.str] (fun (x:(List UInt8))=>(x,())) (fun y=>(y.1:(List UInt8))) (fun _=>rfl) (fun _=>rfl) ([]:(List UInt8)) Try.t9 (.string ⟨#[]⟩) rfl Try.type9 rfl rfl rfl rfl rfl rfl (fun z=>⟨rfl,trivial⟩) rfl
def ti22:TI Try.prog G 22:=tiOf [.sl 3] (fun (x:(List Int))=>(x,())) (fun y=>(y.1:(List Int))) (fun _=>rfl) (fun _=>rfl) ([]:(List Int)) Try.t22 (.slice none 0 0) rfl Try.type22 rfl rfl rfl rfl rfl rfl (fun z=>⟨.inl ⟨rfl,rfl⟩,trivial⟩) rfl
def ti53:TI Try.prog G 53:=tiOf [.int .i64, .str, .int .i64, .int .i64, .int .i64, .int .i64] (fun (x:PlantElement)=>(x.kind,x.name,x.a,x.b,x.c,x.length,())) (fun y=>((PlantElement.mk y.1 y.2.1 y.2.2.1 y.2.2.2.1 y.2.2.2.2.1 y.2.2.2.2.2.1):PlantElement)) (fun _=>rfl) (fun _=>rfl) ((PlantElement.mk 0 [] 0 0 0 0):PlantElement) Try.t53 (.agg #[.int .i64 0, .string ⟨#[]⟩, .int .i64 0, .int .i64 0, .int .i64 0, .int .i64 0]) rfl Try.type53 rfl rfl rfl rfl rfl rfl (fun z=>⟨rfl,rfl,rfl,rfl,rfl,rfl,trivial⟩) rfl
def ti23:TI Try.prog G 23:=tiOf [.sl 53] (fun (x:(List PlantElement))=>(x,())) (fun y=>(y.1:(List PlantElement))) (fun _=>rfl) (fun _=>rfl) ([]:(List PlantElement)) Try.t23 (.slice none 0 0) rfl Try.type23 rfl rfl rfl rfl rfl rfl (fun z=>⟨.inl ⟨rfl,rfl⟩,trivial⟩) rfl
def ti33:TI Try.prog G 33:=tiOf [.int .i64, .int .i64] (fun (x:Setting)=>(x.element,x.position,())) (fun y=>((Setting.mk y.1 y.2.1):Setting)) (fun _=>rfl) (fun _=>rfl) ((Setting.mk 0 0):Setting) Try.t33 (.agg #[.int .i64 0, .int .i64 0]) rfl Try.type33 rfl rfl rfl rfl rfl rfl (fun z=>⟨rfl,rfl,trivial⟩) rfl
def ti48:TI Try.prog G 48:=tiOf [.sl 3, .int .i64] (fun (x:Maker)=>(x.l,x.n,())) (fun y=>((Maker.mk y.1 y.2.1):Maker)) (fun _=>rfl) (fun _=>rfl) ((Maker.mk [] 0):Maker) Try.t48 (.agg #[.slice none 0 0, .int .i64 0]) rfl Try.type48 rfl rfl rfl rfl rfl rfl (fun z=>⟨.inl ⟨rfl,rfl⟩,rfl,trivial⟩) rfl
def ti60:TI Try.prog G 60:=tiOf [.mp 60 3 3] (fun (x:(List (Int×Int)))=>(x,())) (fun y=>(y.1:(List (Int×Int)))) (fun _=>rfl) (fun _=>rfl) ([]:(List (Int×Int))) Try.t60 (.map none) rfl Try.type60 rfl rfl rfl rfl rfl rfl (fun z=>⟨.inl ⟨rfl,rfl⟩,trivial⟩) rfl
def ti67:TI Try.prog G 67:=tiOf [.mp 67 3 4] (fun (x:(List (Int×Bool)))=>(x,())) (fun y=>(y.1:(List (Int×Bool)))) (fun _=>rfl) (fun _=>rfl) ([]:(List (Int×Bool))) Try.t67 (.map none) rfl Try.type67 rfl rfl rfl rfl rfl rfl (fun z=>⟨.inl ⟨rfl,rfl⟩,trivial⟩) rfl
def ti70:TI Try.prog G 70:=tiOf [.int .i64, .int .i64, .int .i64] (fun (x:Visit)=>(x.element,x.in_,x.out,())) (fun y=>((Visit.mk y.1 y.2.1 y.2.2.1):Visit)) (fun _=>rfl) (fun _=>rfl) ((Visit.mk 0 0 0):Visit) Try.t70 (.agg #[.int .i64 0, .int .i64 0, .int .i64 0]) rfl Try.type70 rfl rfl rfl rfl rfl rfl (fun z=>⟨rfl,rfl,rfl,trivial⟩) rfl
def ti71:TI Try.prog G 71:=tiOf [.mp 71 74 4] (fun (x:(List (Spot×Bool)))=>(x,())) (fun y=>(y.1:(List (Spot×Bool)))) (fun _=>rfl) (fun _=>rfl) ([]:(List (Spot×Bool))) Try.t71 (.map none) rfl Try.type71 rfl rfl rfl rfl rfl rfl (fun z=>⟨.inl ⟨rfl,rfl⟩,trivial⟩) rfl
def ti72:TI Try.prog G 72:=tiOf [.fn] (fun (x:(Option Nat))=>(x,())) (fun y=>(y.1:(Option Nat))) (fun _=>rfl) (fun _=>rfl) ((none:Option Nat):(Option Nat)) Try.t72 (.nilFunc) rfl Try.type72 rfl rfl rfl rfl rfl rfl (fun z=>⟨rfl,trivial⟩) rfl
def ti74:TI Try.prog G 74:=tiOf [.int .i64, .int .i64] (fun (x:Spot)=>(x.element,x.node,())) (fun y=>((Spot.mk y.1 y.2.1):Spot)) (fun _=>rfl) (fun _=>rfl) ((Spot.mk 0 0):Spot) Try.t74 (.agg #[.int .i64 0, .int .i64 0]) rfl Try.type74 rfl rfl rfl rfl rfl rfl (fun z=>⟨rfl,rfl,trivial⟩) rfl
def ti88:TI Try.prog G 88:=tiOf [.fn] (fun (x:(Option Nat))=>(x,())) (fun y=>(y.1:(Option Nat))) (fun _=>rfl) (fun _=>rfl) ((none:Option Nat):(Option Nat)) Try.t88 (.nilFunc) rfl Try.type88 rfl rfl rfl rfl rfl rfl (fun z=>⟨rfl,trivial⟩) rfl
def ti91:TI Try.prog G 91:=tiOf [.mp 91 97 3] (fun (x:(List (Step×Int)))=>(x,())) (fun y=>(y.1:(List (Step×Int)))) (fun _=>rfl) (fun _=>rfl) ([]:(List (Step×Int))) Try.t91 (.map none) rfl Try.type91 rfl rfl rfl rfl rfl rfl (fun z=>⟨.inl ⟨rfl,rfl⟩,trivial⟩) rfl
def ti97:TI Try.prog G 97:=tiOf [.int .i64, .int .i64] (fun (x:Step)=>(x.element,x.in_,())) (fun y=>((Step.mk y.1 y.2.1):Step)) (fun _=>rfl) (fun _=>rfl) ((Step.mk 0 0):Step) Try.t97 (.agg #[.int .i64 0, .int .i64 0]) rfl Try.type97 rfl rfl rfl rfl rfl rfl (fun z=>⟨rfl,rfl,trivial⟩) rfl
def ti98:TI Try.prog G 98:=tiOf [.fn] (fun (x:(Option Nat))=>(x,())) (fun y=>(y.1:(Option Nat))) (fun _=>rfl) (fun _=>rfl) ((none:Option Nat):(Option Nat)) Try.t98 (.nilFunc) rfl Try.type98 rfl rfl rfl rfl rfl rfl (fun z=>⟨rfl,trivial⟩) rfl
def qEa:TI Try.prog G 122:=tiOf [.mp 122 9 4] (fun (x:(List ((List UInt8)×Bool)))=>(x,())) (fun y=>(y.1:(List ((List UInt8)×Bool)))) (fun _=>rfl) (fun _=>rfl) ([]:(List ((List UInt8)×Bool))) Try.t122 (.map none) rfl Try.type122 rfl rfl rfl rfl rfl rfl (fun z=>⟨.inl ⟨rfl,rfl⟩,trivial⟩) rfl
def qi33:QI Try.prog G 33:=qiOf [.int .i64, .int .i64] (fun (x:Setting)=>(x.element,x.position,())) (fun y=>((Setting.mk y.1 y.2.1):Setting)) (fun _=>rfl) _ (fun (x y:Setting)=>decide (x=y)) rfl (fun (x y:Setting)=>decide_eq_true_iff) Try.underlying33 (by kernel_rfl) (by kernel_rfl) (by kernel_rfl)
def bi5:BI Try.prog G 5:=⟨fun xs=>xs,fun xs=>xs,fun _ _ _ h=>h,fun _ _ _ _ _ _ h=>h,fun _ _ _ _ _ _ h=>h,Try.t5,Try.underlying5,Try.type5,rfl⟩
def ki3:KI Try.prog G 3:=kiI .i64 (fun n=>n) (inferInstance:DecidableEq Int) Try.t3 Try.underlying3 (qB3 Try.underlying3 Try.type3 rfl) (fun _=>rfl)
def vi3:VI Try.prog G 3:=viI .i64 (fun n=>n) (fun n=>n) (fun _=>rfl) Try.t3 Try.underlying3 Try.type3 (qCG Try.underlying3 Try.type3 rfl) (fun _=>rfl) rfl
def vi4:VI Try.prog G 4:=viB (fun n=>n) (fun n=>n) (fun _=>rfl) Try.t4 Try.underlying4 Try.type4 (qxO Try.underlying4 Try.type4 rfl) (fun _=>rfl) rfl
def ki74:KI Try.prog G 74:=kiA (inferInstance:DecidableEq Spot) ti74 [.int .i64, .int .i64] (fun (x:Spot)=>(x.element,x.node,())) (fun y=>((Spot.mk y.1 y.2.1):Spot)) (fun _=>rfl) _ Try.t74 rfl Try.underlying74 Try.type74 (by kernel_rfl) rfl (by kernel_rfl) (fun _=>rfl) (fun _=>rfl)
def ki97:KI Try.prog G 97:=kiA (inferInstance:DecidableEq Step) ti97 [.int .i64, .int .i64] (fun (x:Step)=>(x.element,x.in_,())) (fun y=>((Step.mk y.1 y.2.1):Step)) (fun _=>rfl) _ Try.t97 rfl Try.underlying97 Try.type97 (by kernel_rfl) rfl (by kernel_rfl) (fun _=>rfl) (fun _=>rfl)
def ki9:KI Try.prog G 9:=kiS (fun n=>n) (inferInstance:DecidableEq (List UInt8)) Try.underlying9 (qB4 Try.underlying9 Try.type9 rfl) (fun _=>rfl)
def qDj:AI Try.prog G 108:=⟨3,64,ti3,Try.t108, .agg #[.int .i64 0, .int .i64 0, .int .i64 0, .int .i64 0, .int .i64 0, .int .i64 0, .int .i64 0, .int .i64 0, .int .i64 0, .int .i64 0, .int .i64 0, .int .i64 0, .int .i64 0, .int .i64 0, .int .i64 0, .int .i64 0, .int .i64 0, .int .i64 0, .int .i64 0, .int .i64 0, .int .i64 0, .int .i64 0, .int .i64 0, .int .i64 0, .int .i64 0, .int .i64 0, .int .i64 0, .int .i64 0, .int .i64 0, .int .i64 0, .int .i64 0, .int .i64 0, .int .i64 0, .int .i64 0, .int .i64 0, .int .i64 0, .int .i64 0, .int .i64 0, .int .i64 0, .int .i64 0, .int .i64 0, .int .i64 0, .int .i64 0, .int .i64 0, .int .i64 0, .int .i64 0, .int .i64 0, .int .i64 0, .int .i64 0, .int .i64 0, .int .i64 0, .int .i64 0, .int .i64 0, .int .i64 0, .int .i64 0, .int .i64 0, .int .i64 0, .int .i64 0, .int .i64 0, .int .i64 0, .int .i64 0, .int .i64 0, .int .i64 0, .int .i64 0],Try.underlying108,Try.type108,rfl,rfl,rfl,rfl,rfl⟩
def qxJ:SI Try.prog G:=siOf (t:=33) [.int .i64, .int .i64] (fun (x:Setting)=>(x.element,x.position,())) rfl rfl ((Setting.mk 0 0):Setting) (fun (x:Setting)=>x.element) qnR 31 32 rfl (by kernel_rfl) Try.isAgg33 Try.sizeOf33 (Go.Proofs.enters_of Try.func32 (by kernel_rfl) rfl) rfl qzi
def si31_56:SI Try.prog G:=siOf (t:=33) [.int .i64, .int .i64] (fun (x:Setting)=>(x.element,x.position,())) rfl rfl ((Setting.mk 0 0):Setting) (fun (x:Setting)=>x.element) qnR 31 56 rfl (by kernel_rfl) Try.isAgg33 Try.sizeOf33 (Go.Proofs.enters_of Try.func56 (by kernel_rfl) rfl) rfl qzj
def X0:Ev Try.prog D where
 G:=G
 S:=[qxJ,si31_56]
 I:=fun t=>match t with|3=>some ti3|4=>some ti4|5=>some ti5|9=>some ti9|22=>some ti22|53=>some ti53|23=>some ti23|33=>some ti33|48=>some ti48|60=>some ti60|67=>some ti67|70=>some ti70|71=>some ti71|72=>some ti72|74=>some ti74|88=>some ti88|91=>some ti91|97=>some ti97|98=>some ti98|122=>some qEa|_=>none
 A:=fun t=>match t with|108=>some qDj|_=>none
 J:=fun k v=>match k,v with|3,3=>some (miOf ki3 vi3)|3,4=>some (miOf ki3 vi4)|9,4=>some (miOf ki9 vi4)|74,4=>some (miOf ki74 vi4)|97,3=>some (miOf ki97 vi3)|_,_=>none
 B:=fun t=>match t with|5=>some bi5|_=>none
 Q:=fun t=>match t with|33=>some qi33|_=>none
 F:=fun _ _ _=>false
 C:=fun _ _ _ _ _=>none
def fs0 (N:Nat):List (FE D):=[]
theorem all0 (N:Nat):∀y∈fs0 N,CallOk X0 y.d y.F:=fun y h=>absurd h (by simp[fs0])
def X00 (N:Nat):Ev Try.prog D:=X0.with (fs0 N)
theorem cok0 (N:Nat):COk (X00 N):=COk.of (all0 N)
def qvC (N:Nat):List (Pc D):=[]
theorem qqV (N:Nat):∀u∈qvC N,PcOk (X00 N) (qab Try.f7) u:=qam
def dzcO:FD D:={f:=7,np:=1,ins:=[.v 0 (.sl 3)],fx:=[],rcv:=none,rk:=0,outs:=[.o 2 (.box 48)],ofx:=[(2, .box 0 0)],rvs:=[.tmp 2],flat:=false}
def FzcO (N:Nat):dzcO.F:=fun r x=>zcO N x.1
theorem ozcO (N:Nat):FOk Try.prog (X00 N) dzcO (FzcO N):=⟨⟨Try.f7,_,Try.func7,rfl,by kernel_rfl,by kernel_rfl,rfl,FC.of (cok0 N) (us:=qvC N) (fun u h _=>qqV N u h) (fun r x=>by kernel_rfl)⟩,by kernel_rfl,by kernel_rfl,by kernel_rfl,by kernel_rfl⟩
def fs1 (N:Nat):List (FE D):=⟨dzcO,FzcO N⟩::fs0 N
theorem all1 (N:Nat):∀y∈fs1 N,CallOk X0 y.d y.F:=all_cons (x:=⟨dzcO,FzcO N⟩) (ozcO N) (all0 N)
def X1 (N:Nat):Ev Try.prog D:=X0.with (fs1 N)
theorem cok1 (N:Nat):COk (X1 N):=COk.of (all1 N)
def qvw (N:Nat):List (Pc D):=[]
theorem qqP (N:Nat):∀u∈qvw N,PcOk (X1 N) (qab Try.f41) u:=qam
def dzbF:FD D:={f:=41,np:=1,ins:=[.v 0 (.int .i64)],fx:=[],rcv:=none,rk:=0,outs:=[.v 2 .str],ofx:=[],rvs:=[.tmp 2],flat:=true}
def FzbF (N:Nat):dzbF.F:=fun r x=>zbF N x.1
theorem ozbF (N:Nat):FOk Try.prog (X1 N) dzbF (FzbF N):=⟨⟨Try.f41,_,Try.func41,rfl,by kernel_rfl,by kernel_rfl,rfl,FC.of (cok1 N) (us:=qvw N) (fun u h _=>qqP N u h) (fun r x=>by kernel_rfl)⟩,by kernel_rfl,by kernel_rfl,by kernel_rfl,by kernel_rfl⟩
def fs2 (N:Nat):List (FE D):=⟨dzbF,FzbF N⟩::fs1 N
theorem all2 (N:Nat):∀y∈fs2 N,CallOk X0 y.d y.F:=all_cons (x:=⟨dzbF,FzbF N⟩) (ozbF N) (all1 N)
def X2 (N:Nat):Ev Try.prog D:=X0.with (fs2 N)
theorem cok2 (N:Nat):COk (X2 N):=COk.of (all2 N)
def qou (N:Nat):List (Pc D):=[]
theorem qjn (N:Nat):∀u∈qou N,PcOk (X2 N) (qab Try.f10) u:=qam
def PzbQ_0:PD D:={path:=[1,1,0,1],ins:=[.o 0 (.recv 48), .v 5 (.int .i64), .v 11 .bool],fx:=[(0, .box 0 0)],ks:=[1],exs:=[⟨.normal,[.v 5 (.int .i64)],[]⟩],keep:=[0,1]}
def qtZ (N:Nat):PzbQ_0.F:=fun x=>qsz N x.1 x.2.1 x.2.2.1
theorem qAR (N:Nat):CC (X2 N) (qab Try.f10) PzbQ_0 (qtZ N):=CC.of (cok2 N) (us:=qou N) (fun u h _=>qjn N u h) (fun x=>by kernel_rfl)
def qpC (N:Nat):List (Pc D):=PzbQ_0.pc (X2 N) (qtZ N)::qou N
theorem qkv (N:Nat):∀u∈qpC N,PcOk (X2 N) (qab Try.f10) u:=qac ((qAR N).pc (by kernel_rfl)) (qjn N)
def PzbQ_1:PD D:={path:=[1,1,1,1,1,0,1],ins:=[.o 0 (.recv 48), .v 1 (.int .i64), .v 5 (.int .i64), .v 51 .bool],fx:=[(0, .box 0 0)],ks:=[1],exs:=[⟨.normal,[.v 5 (.int .i64)],[]⟩],keep:=[0]}
def qt0 (N:Nat):PzbQ_1.F:=fun x=>qye N x.2.1 x.2.2.1 x.2.2.2.1
theorem qAS (N:Nat):CC (X2 N) (qab Try.f10) PzbQ_1 (qt0 N):=CC.of (cok2 N) (us:=qpC N) (fun u h _=>qkv N u h) (fun x=>by kernel_rfl)
def qv5 (N:Nat):List (Pc D):=PzbQ_1.pc (X2 N) (qt0 N)::qpC N
theorem qrn (N:Nat):∀u∈qv5 N,PcOk (X2 N) (qab Try.f10) u:=qac ((qAS N).pc (by kernel_rfl)) (qkv N)
def dzbQ:FD D:={f:=10,np:=2,ins:=[.v 1 (.int .i64)],fx:=[],rcv:=some (0,48),rk:=2,outs:=[.v 4 (.int .i64), .u 0 (.recv 48)],ofx:=[],rvs:=[.tmp 4],flat:=false}
def FzbQ (N:Nat):dzbQ.F:=fun r x=>zbQ N r x.1
theorem ozbQ (N:Nat):FOk Try.prog (X2 N) dzbQ (FzbQ N):=⟨⟨Try.f10,_,Try.func10,rfl,by kernel_rfl,by kernel_rfl,rfl,FC.of (cok2 N) (us:=qv5 N) (fun u h _=>qrn N u h) (fun r x=>by kernel_rfl)⟩,by kernel_rfl,by kernel_rfl,by kernel_rfl,by kernel_rfl⟩
def fs3 (N:Nat):List (FE D):=⟨dzbQ,FzbQ N⟩::fs2 N
theorem all3 (N:Nat):∀y∈fs3 N,CallOk X0 y.d y.F:=all_cons (x:=⟨dzbQ,FzbQ N⟩) (ozbQ N) (all2 N)
def X3 (N:Nat):Ev Try.prog D:=X0.with (fs3 N)
theorem cok3 (N:Nat):COk (X3 N):=COk.of (all3 N)
def qvy (N:Nat):List (Pc D):=[]
theorem qqR (N:Nat):∀u∈qvy N,PcOk (X3 N) (qab Try.f22) u:=qam
def dzbR:FD D:={f:=22,np:=2,ins:=[.v 1 (.sl 3)],fx:=[],rcv:=some (0,48),rk:=2,outs:=[.v 4 (.int .i64), .u 0 (.recv 48)],ofx:=[],rvs:=[.tmp 4],flat:=false}
def FzbR (N:Nat):dzbR.F:=fun r x=>zbR N r x.1
theorem ozbR (N:Nat):FOk Try.prog (X3 N) dzbR (FzbR N):=⟨⟨Try.f22,_,Try.func22,rfl,by kernel_rfl,by kernel_rfl,rfl,FC.of (cok3 N) (us:=qvy N) (fun u h _=>qqR N u h) (fun r x=>by kernel_rfl)⟩,by kernel_rfl,by kernel_rfl,by kernel_rfl,by kernel_rfl⟩
def fs4 (N:Nat):List (FE D):=⟨dzbR,FzbR N⟩::fs3 N
theorem all4 (N:Nat):∀y∈fs4 N,CallOk X0 y.d y.F:=all_cons (x:=⟨dzbR,FzbR N⟩) (ozbR N) (all3 N)
def X4 (N:Nat):Ev Try.prog D:=X0.with (fs4 N)
theorem cok4 (N:Nat):COk (X4 N):=COk.of (all4 N)
def Y4 (N:Nat):Ev Try.prog D:=(X4 N).cuts fun x lo hi=>match x,lo,hi with| .tmp 42,none,some (.tmp 43)=>1| .tmp 45,some (.tmp 47),none=>1| .tmp 80,none,some (.tmp 83)=>2| .tmp 178,some (.const _),none=>2|_,_,_=>0
theorem qeL (N:Nat):COk (Y4 N):=COk.cuts (cok4 N)
def qol (N:Nat):List (Pc D):=[]
theorem qje (N:Nat):∀u∈qol N,PcOk (Y4 N) (qab Try.f19) u:=qam
def PzaZ_0:PD D:={path:=[1,1,1,0,1],ins:=[.o 0 (.recv 48), .o 5 (.sl 53), .o 6 (.sl 3), .v 17 .bool],fx:=[(0, .box 0 0),(5, .c (.own 1)),(6, .c (.own 2))],ks:=[1,1,0],exs:=[⟨.normal,[.o 6 (.sl 3)],[(6, .c (.own 3))]⟩],keep:=[0,1,5,7]}
def qtz (N:Nat):PzaZ_0.F:=fun x=>qsl N x.2.2.1 x.2.2.2.1
theorem qAr (N:Nat):CC (Y4 N) (qab Try.f19) PzaZ_0 (qtz N):=CC.of (qeL N) (us:=qol N) (fun u h _=>qje N u h) (fun x=>by kernel_rfl)
def qpl (N:Nat):List (Pc D):=PzaZ_0.pc (Y4 N) (qtz N)::qol N
theorem qke (N:Nat):∀u∈qpl N,PcOk (Y4 N) (qab Try.f19) u:=qac ((qAr N).pc (by kernel_rfl)) (qje N)
def PzaZ_2:PD D:={path:=[1,1,1,1,0,0,0,0,0],ins:=[.o 0 (.recv 48), .v 1 (.int .i64), .o 5 (.sl 53), .o 6 (.sl 3), .v 7 (.int .i64)],fx:=[(0, .box 0 0),(5, .c (.own 1)),(6, .c (.own 2))],ks:=[1,1,1],exs:=[⟨.normal,[.v 33 .bool],[]⟩],keep:=[0,1,5,6,7]}
def qtB (N:Nat):PzaZ_2.F:=fun x=>qsm N x.2.1 x.2.2.1 x.2.2.2.1 x.2.2.2.2.1
theorem qAt (N:Nat):CC (Y4 N) (qab Try.f19) PzaZ_2 (qtB N):=CC.of (qeL N) (us:=qpl N) (fun u h _=>qke N u h) (fun x=>by kernel_rfl)
def qpn (N:Nat):List (Pc D):=PzaZ_2.pc (Y4 N) (qtB N)::qpl N
theorem qkg (N:Nat):∀u∈qpn N,PcOk (Y4 N) (qab Try.f19) u:=qac ((qAt N).pc (by kernel_rfl)) (qke N)
def PzaZ_4:PD D:={path:=[1,1,1,1,0,0,0,1,0,1,1,1,1,0,1,0,0,1],ins:=[.o 0 (.recv 48), .o 5 (.sl 53), .o 6 (.sl 3), .o 10 (.box 53), .v 55 (.int .i64), .v 96 .bool],fx:=[(0, .box 0 0),(5, .c (.own 1)),(6, .c (.own 2)),(10, .box 3 0)],ks:=[1,1,1,1],exs:=[⟨.normal,[.v 96 .bool],[]⟩],keep:=[0,1,5,6,7,9,10,55]}
def qtD (N:Nat):PzaZ_4.F:=fun x=>qso N x.2.2.2.2.1 x.2.2.2.2.2.1
theorem qAv (N:Nat):CC (Y4 N) (qab Try.f19) PzaZ_4 (qtD N):=CC.of (qeL N) (us:=qpn N) (fun u h _=>qkg N u h) (fun x=>by kernel_rfl)
def qpp (N:Nat):List (Pc D):=PzaZ_4.pc (Y4 N) (qtD N)::qpn N
theorem qki (N:Nat):∀u∈qpp N,PcOk (Y4 N) (qab Try.f19) u:=qac ((qAv N).pc (by kernel_rfl)) (qkg N)
def PzaZ_5:PD D:={path:=[1,1,1,1,0,0,0,1,0,1,1,1,1,0,1,0,1,1,1,1,1,1,1,0],ins:=[.o 0 (.recv 48), .o 5 (.sl 53), .o 6 (.sl 3), .o 10 (.box 53)],fx:=[(0, .box 0 0),(5, .c (.own 1)),(6, .c (.own 2)),(10, .box 3 0)],ks:=[2,1,1,1],exs:=[⟨.normal,[.u 0 (.recv 48), .v 72 .bool],[]⟩],keep:=[0,1,5,6,7,10]}
def qtE (N:Nat):PzaZ_5.F:=fun x=>qya N x.1 x.2.2.1
theorem qAw (N:Nat):CC (Y4 N) (qab Try.f19) PzaZ_5 (qtE N):=CC.of (qeL N) (us:=qpp N) (fun u h _=>qki N u h) (fun x=>by kernel_rfl)
def qpq (N:Nat):List (Pc D):=PzaZ_5.pc (Y4 N) (qtE N)::qpp N
theorem qkj (N:Nat):∀u∈qpq N,PcOk (Y4 N) (qab Try.f19) u:=qac ((qAw N).pc (by kernel_rfl)) (qki N)
def PzaZ_3:PD D:={path:=[1,1,1,1,0,0,0,1,0,1,1,1,1,0,1],ins:=[.o 0 (.recv 48), .o 5 (.sl 53), .o 6 (.sl 3), .v 7 (.int .i64), .v 9 (.int .i64), .o 10 (.box 53), .v 55 (.int .i64)],fx:=[(0, .box 0 0),(5, .c (.own 1)),(6, .c (.own 2)),(10, .box 3 0)],ks:=[2,1,0,2],exs:=[⟨.normal,[.u 0 (.recv 48), .o 6 (.sl 3), .v 7 (.int .i64), .u 3 (.box 53)],[(6, .c (.own 4))]⟩],keep:=[0,1,5,10]}
def qtC (N:Nat):PzaZ_3.F:=fun x=>qsn N x.1 x.2.2.1 x.2.2.2.1 x.2.2.2.2.1 x.2.2.2.2.2.1 x.2.2.2.2.2.2.1
theorem qAu (N:Nat):CC (Y4 N) (qab Try.f19) PzaZ_3 (qtC N):=CC.of (qeL N) (us:=qpq N) (fun u h _=>qkj N u h) (fun x=>by kernel_rfl)
def qpo (N:Nat):List (Pc D):=PzaZ_3.pc (Y4 N) (qtC N)::qpq N
theorem qkh (N:Nat):∀u∈qpo N,PcOk (Y4 N) (qab Try.f19) u:=qac ((qAu N).pc (by kernel_rfl)) (qkj N)
def PzaZ_1:PD D:={path:=[1,1,1,1,0,0],ins:=[.o 0 (.recv 48), .v 1 (.int .i64), .o 5 (.sl 53), .o 6 (.sl 3), .v 7 (.int .i64)],fx:=[(0, .box 0 0),(5, .c (.own 1)),(6, .c (.own 2))],ks:=[2,0,0],exs:=[⟨.exit 0,[.u 0 (.recv 48), .o 5 (.sl 53), .o 6 (.sl 3), .v 7 (.int .i64)],[(5, .c (.own 3)),(6, .c (.own 4))]⟩],keep:=[0]}
def qtA (N:Nat) (n:Nat):PzaZ_1.F:=fun x=>qp7 N x.2.1 n x.1 x.2.2.1 x.2.2.2.1 x.2.2.2.2.1
theorem qAs (N:Nat) (n:Nat):CC (Y4 N) (qab Try.f19) PzaZ_1 (qtA N n):=CC.loop (qeL N) (us:=qpo N) (c:=sub (qab Try.f19) [1,1,1,1,0,0,0]) (by kernel_rfl) (by kernel_rfl) (fun u h _=>qkh N u h) (fun x=>rfl) (fun n x=>by kernel_rfl) n
def qpm (N:Nat):List (Pc D):=PzaZ_1.pc (Y4 N) (qtA N N)::qpo N
theorem qkf (N:Nat):∀u∈qpm N,PcOk (Y4 N) (qab Try.f19) u:=qac ((qAs N N).pc (by kernel_rfl)) (qkh N)
def PzaZ_7:PD D:={path:=[1,1,1,1,1,0,0,0,0,0],ins:=[.o 0 (.recv 48), .o 5 (.sl 53), .o 6 (.sl 3), .v 7 (.int .i64)],fx:=[(0, .box 0 0),(5, .c (.own 1)),(6, .c (.own 2))],ks:=[1,1,1],exs:=[⟨.normal,[.v 161 .bool],[]⟩],keep:=[0,5,6,7]}
def qtG (N:Nat):PzaZ_7.F:=fun x=>qsp N x.2.1 x.2.2.1 x.2.2.2.1
theorem qAy (N:Nat):CC (Y4 N) (qab Try.f19) PzaZ_7 (qtG N):=CC.of (qeL N) (us:=qpm N) (fun u h _=>qkf N u h) (fun x=>by kernel_rfl)
def qpr (N:Nat):List (Pc D):=PzaZ_7.pc (Y4 N) (qtG N)::qpm N
theorem qkk (N:Nat):∀u∈qpr N,PcOk (Y4 N) (qab Try.f19) u:=qac ((qAy N).pc (by kernel_rfl)) (qkf N)
def PzaZ_8:PD D:={path:=[1,1,1,1,1,0,0,0,1,0,0,1],ins:=[.o 0 (.recv 48), .o 5 (.sl 53), .o 6 (.sl 3), .v 7 (.int .i64), .v 164 .bool],fx:=[(0, .box 0 0),(5, .c (.own 1)),(6, .c (.own 2))],ks:=[1,0,1],exs:=[⟨.normal,[.o 5 (.sl 53), .v 7 (.int .i64)],[(5, .c (.own 3))]⟩],keep:=[0,6]}
def qtH (N:Nat):PzaZ_8.F:=fun x=>qyb N x.2.1 x.2.2.1 x.2.2.2.1 x.2.2.2.2.1
theorem qAz (N:Nat):CC (Y4 N) (qab Try.f19) PzaZ_8 (qtH N):=CC.of (qeL N) (us:=qpr N) (fun u h _=>qkk N u h) (fun x=>by kernel_rfl)
def qps (N:Nat):List (Pc D):=PzaZ_8.pc (Y4 N) (qtH N)::qpr N
theorem qkl (N:Nat):∀u∈qps N,PcOk (Y4 N) (qab Try.f19) u:=qac ((qAz N).pc (by kernel_rfl)) (qkk N)
def PzaZ_6:PD D:={path:=[1,1,1,1,1,0,0],ins:=[.o 0 (.recv 48), .o 5 (.sl 53), .o 6 (.sl 3), .v 7 (.int .i64)],fx:=[(0, .box 0 0),(5, .c (.own 1)),(6, .c (.own 2))],ks:=[2,0,0],exs:=[⟨.exit 3,[.u 0 (.recv 48), .o 5 (.sl 53)],[(5, .c (.own 3))]⟩],keep:=[0]}
def qtF (N:Nat) (n:Nat):PzaZ_6.F:=fun x=>qp8 N n x.1 x.2.1 x.2.2.1 x.2.2.2.1
theorem qAx (N:Nat) (n:Nat):CC (Y4 N) (qab Try.f19) PzaZ_6 (qtF N n):=CC.loop (qeL N) (us:=qps N) (c:=sub (qab Try.f19) [1,1,1,1,1,0,0,0]) (by kernel_rfl) (by kernel_rfl) (fun u h _=>qkl N u h) (fun x=>rfl) (fun n x=>by kernel_rfl) n
def qvW (N:Nat):List (Pc D):=PzaZ_6.pc (Y4 N) (qtF N N)::qps N
theorem qre (N:Nat):∀u∈qvW N,PcOk (Y4 N) (qab Try.f19) u:=qac ((qAx N N).pc (by kernel_rfl)) (qkl N)
def dzaZ:FD D:={f:=19,np:=2,ins:=[.v 1 (.int .i64)],fx:=[],rcv:=some (0,48),rk:=2,outs:=[.o 4 (.sl 53), .u 0 (.recv 48)],ofx:=[(4, .c (.own 1))],rvs:=[.tmp 4],flat:=false}
def FzaZ (N:Nat):dzaZ.F:=fun r x=>zaZ N r x.1
theorem ozaZ (N:Nat):FOk Try.prog (Y4 N) dzaZ (FzaZ N):=⟨⟨Try.f19,_,Try.func19,rfl,by kernel_rfl,by kernel_rfl,rfl,FC.of (qeL N) (us:=qvW N) (fun u h _=>qre N u h) (fun r x=>by kernel_rfl)⟩,by kernel_rfl,by kernel_rfl,by kernel_rfl,by kernel_rfl⟩
def fs5 (N:Nat):List (FE D):=⟨dzaZ,FzaZ N⟩::fs4 N
theorem all5 (N:Nat):∀y∈fs5 N,CallOk X0 y.d y.F:=qp9 (x:=⟨dzaZ,FzaZ N⟩) ((ozaZ N).call.cuts) (all4 N)
def X5 (N:Nat):Ev Try.prog D:=X0.with (fs5 N)
theorem cok5 (N:Nat):COk (X5 N):=COk.of (all5 N)
def qod (N:Nat):List (Pc D):=[]
theorem qi6 (N:Nat):∀u∈qod N,PcOk (X5 N) (qab Try.f42) u:=qam
def PzaP_1:PD D:={path:=[1,1,0,1,0,0,1,0],ins:=[.v 0 (.sl 53), .o 3 (.sl 3), .v 4 (.int .i64)],fx:=[(3, .c (.own 0))],ks:=[0],exs:=[⟨.normal,[.o 3 (.sl 3)],[(3, .c (.own 1))]⟩],keep:=[0,4]}
def qs9 (N:Nat):PzaP_1.F:=fun x=>qxX N x.1 x.2.1 x.2.2.1
theorem qz1 (N:Nat):CC (X5 N) (qab Try.f42) PzaP_1 (qs9 N):=CC.of (cok5 N) (us:=qod N) (fun u h _=>qi6 N u h) (fun x=>by kernel_rfl)
def qo3 (N:Nat):List (Pc D):=PzaP_1.pc (X5 N) (qs9 N)::qod N
theorem qjW (N:Nat):∀u∈qo3 N,PcOk (X5 N) (qab Try.f42) u:=qac ((qz1 N).pc (by kernel_rfl)) (qi6 N)
def PzaP_0:PD D:={path:=[1,1,0,1,0],ins:=[.v 0 (.sl 53), .o 3 (.sl 3), .v 4 (.int .i64)],fx:=[(3, .c (.own 0))],ks:=[0],exs:=[⟨.exit 0,[.o 3 (.sl 3)],[(3, .c (.own 1))]⟩],keep:=[]}
def qs8 (N:Nat) (n:Nat):PzaP_0.F:=fun x=>qlY N x.1 n x.2.1 x.2.2.1
theorem qz0 (N:Nat) (n:Nat):CC (X5 N) (qab Try.f42) PzaP_0 (qs8 N n):=CC.loop (cok5 N) (us:=qo3 N) (c:=sub (qab Try.f42) [1,1,0,1,0,0]) (by kernel_rfl) (by kernel_rfl) (fun u h _=>qjW N u h) (fun x=>rfl) (fun n x=>by kernel_rfl) n
def qvN (N:Nat):List (Pc D):=PzaP_0.pc (X5 N) (qs8 N N)::qo3 N
theorem qq5 (N:Nat):∀u∈qvN N,PcOk (X5 N) (qab Try.f42) u:=qac ((qz0 N N).pc (by kernel_rfl)) (qjW N)
def dzaP:FD D:={f:=42,np:=1,ins:=[.v 0 (.sl 53)],fx:=[],rcv:=none,rk:=0,outs:=[.o 2 (.sl 3)],ofx:=[(2, .c (.own 0))],rvs:=[.tmp 2],flat:=false}
def FzaP (N:Nat):dzaP.F:=fun r x=>zaP N x.1
theorem ozaP (N:Nat):FOk Try.prog (X5 N) dzaP (FzaP N):=⟨⟨Try.f42,_,Try.func42,rfl,by kernel_rfl,by kernel_rfl,rfl,FC.of (cok5 N) (us:=qvN N) (fun u h _=>qq5 N u h) (fun r x=>by kernel_rfl)⟩,by kernel_rfl,by kernel_rfl,by kernel_rfl,by kernel_rfl⟩
def fs6 (N:Nat):List (FE D):=⟨dzaP,FzaP N⟩::fs5 N
theorem all6 (N:Nat):∀y∈fs6 N,CallOk X0 y.d y.F:=all_cons (x:=⟨dzaP,FzaP N⟩) (ozaP N) (all5 N)
def X6 (N:Nat):Ev Try.prog D:=X0.with (fs6 N)
theorem cok6 (N:Nat):COk (X6 N):=COk.of (all6 N)
def qoJ (N:Nat):List (Pc D):=[]
theorem qjC (N:Nat):∀u∈qoJ N,PcOk (X6 N) (qab Try.f43) u:=qam
def PzcK_0:PD D:={path:=[1,0,0],ins:=[.v 0 (.sl 53), .v 1 (.int .i64)],fx:=[],ks:=[],exs:=[⟨.normal,[.v 12 .bool],[]⟩],keep:=[0,1]}
def quB (N:Nat):PzcK_0.F:=fun x=>qyr N x.1 x.2.1
theorem qBs (N:Nat):CC (X6 N) (qab Try.f43) PzcK_0 (quB N):=CC.of (cok6 N) (us:=qoJ N) (fun u h _=>qjC N u h) (fun x=>by kernel_rfl)
def qpY (N:Nat):List (Pc D):=PzcK_0.pc (X6 N) (quB N)::qoJ N
theorem qkR (N:Nat):∀u∈qpY N,PcOk (X6 N) (qab Try.f43) u:=qac ((qBs N).pc (by kernel_rfl)) (qjC N)
def PzcK_1:PD D:={path:=[1,1,0,1,0,0,1],ins:=[.v 17 (.int .i64), .v 18 .bool],fx:=[],ks:=[],exs:=[⟨.normal,[.v 18 .bool],[]⟩],keep:=[0,1,17]}
def quC (N:Nat):PzcK_1.F:=fun x=>qys N x.1 x.2.1
theorem qBt (N:Nat):CC (X6 N) (qab Try.f43) PzcK_1 (quC N):=CC.of (cok6 N) (us:=qpY N) (fun u h _=>qkR N u h) (fun x=>by kernel_rfl)
def qwk (N:Nat):List (Pc D):=PzcK_1.pc (X6 N) (quC N)::qpY N
theorem qrC (N:Nat):∀u∈qwk N,PcOk (X6 N) (qab Try.f43) u:=qac ((qBt N).pc (by kernel_rfl)) (qkR N)
def dzcK:FD D:={f:=43,np:=2,ins:=[.v 0 (.sl 53), .v 1 (.int .i64)],fx:=[],rcv:=none,rk:=0,outs:=[.o 4 (.sl 3)],ofx:=[(4, .c (.own 0))],rvs:=[.tmp 4],flat:=false}
def FzcK (N:Nat):dzcK.F:=fun r x=>zcK N x.1 x.2.1
theorem ozcK (N:Nat):FOk Try.prog (X6 N) dzcK (FzcK N):=⟨⟨Try.f43,_,Try.func43,rfl,by kernel_rfl,by kernel_rfl,rfl,FC.of (cok6 N) (us:=qwk N) (fun u h _=>qrC N u h) (fun r x=>by kernel_rfl)⟩,by kernel_rfl,by kernel_rfl,by kernel_rfl,by kernel_rfl⟩
def fs7 (N:Nat):List (FE D):=⟨dzcK,FzcK N⟩::fs6 N
theorem all7 (N:Nat):∀y∈fs7 N,CallOk X0 y.d y.F:=all_cons (x:=⟨dzcK,FzcK N⟩) (ozcK N) (all6 N)
def X7 (N:Nat):Ev Try.prog D:=X0.with (fs7 N)
theorem cok7 (N:Nat):COk (X7 N):=COk.of (all7 N)
def qoN (N:Nat):List (Pc D):=[]
theorem qjG (N:Nat):∀u∈qoN N,PcOk (X7 N) (qab Try.f69) u:=qam
def PzcQ_0:PD D:={path:=[1,0,1,0],ins:=[.v 0 (.sl 3), .v 1 (.int .i64), .v 5 (.int .i64)],fx:=[],ks:=[],exs:=[⟨.exit 0,[],[]⟩,⟨.ret,[.v 4 .bool],[]⟩],keep:=[]}
def quM (N:Nat) (n:Nat):PzcQ_0.F:=fun x=>qhv N x.1 x.2.1 n x.2.2.1
theorem qBD (N:Nat) (n:Nat):CC (X7 N) (qab Try.f69) PzcQ_0 (quM N n):=CC.loop (cok7 N) (us:=qoN N) (c:=sub (qab Try.f69) [1,0,1,0,0]) (by kernel_rfl) (by kernel_rfl) (fun u h _=>qjG N u h) (fun x=>rfl) (fun n x=>by kernel_rfl) n
def qwo (N:Nat):List (Pc D):=PzcQ_0.pc (X7 N) (quM N N)::qoN N
theorem qrG (N:Nat):∀u∈qwo N,PcOk (X7 N) (qab Try.f69) u:=qac ((qBD N N).pc (by kernel_rfl)) (qjG N)
def dzcQ:FD D:={f:=69,np:=2,ins:=[.v 0 (.sl 3), .v 1 (.int .i64)],fx:=[],rcv:=none,rk:=0,outs:=[.v 4 .bool],ofx:=[],rvs:=[.tmp 4],flat:=true}
def FzcQ (N:Nat):dzcQ.F:=fun r x=>zcQ N x.1 x.2.1
theorem ozcQ (N:Nat):FOk Try.prog (X7 N) dzcQ (FzcQ N):=⟨⟨Try.f69,_,Try.func69,rfl,by kernel_rfl,by kernel_rfl,rfl,FC.of (cok7 N) (us:=qwo N) (fun u h _=>qrG N u h) (fun r x=>by kernel_rfl)⟩,by kernel_rfl,by kernel_rfl,by kernel_rfl,by kernel_rfl⟩
def fs8 (N:Nat):List (FE D):=⟨dzcQ,FzcQ N⟩::fs7 N
theorem all8 (N:Nat):∀y∈fs8 N,CallOk X0 y.d y.F:=all_cons (x:=⟨dzcQ,FzcQ N⟩) (ozcQ N) (all7 N)
def X8 (N:Nat):Ev Try.prog D:=X0.with (fs8 N)
theorem cok8 (N:Nat):COk (X8 N):=COk.of (all8 N)
def qoi (N:Nat):List (Pc D):=[]
theorem qjb (N:Nat):∀u∈qoi N,PcOk (X8 N) (qab Try.f44) u:=qam
def PzaW_1:PD D:={path:=[1,0,1,0,0,1,0,0,0],ins:=[.v 0 (.sl 53), .v 1 (.int .i64), .v 2 (.int .i64), .v 7 (.int .i64)],fx:=[],ks:=[],exs:=[⟨.normal,[.v 23 .bool],[]⟩],keep:=[0,1,2,7]}
def qtr (N:Nat):PzaW_1.F:=fun x=>qx4 N x.1 x.2.1 x.2.2.1 x.2.2.2.1
theorem qAj (N:Nat):CC (X8 N) (qab Try.f44) PzaW_1 (qtr N):=CC.of (cok8 N) (us:=qoi N) (fun u h _=>qjb N u h) (fun x=>by kernel_rfl)
def qpf (N:Nat):List (Pc D):=PzaW_1.pc (X8 N) (qtr N)::qoi N
theorem qj8 (N:Nat):∀u∈qpf N,PcOk (X8 N) (qab Try.f44) u:=qac ((qAj N).pc (by kernel_rfl)) (qjb N)
def PzaW_0:PD D:={path:=[1,0,1,0],ins:=[.v 0 (.sl 53), .v 1 (.int .i64), .v 2 (.int .i64), .v 7 (.int .i64)],fx:=[],ks:=[],exs:=[⟨.exit 0,[],[]⟩,⟨.ret,[.v 6 (.int .i64)],[]⟩],keep:=[]}
def qtq (N:Nat) (n:Nat):PzaW_0.F:=fun x=>qho N x.1 x.2.1 x.2.2.1 n x.2.2.2.1
theorem qAi (N:Nat) (n:Nat):CC (X8 N) (qab Try.f44) PzaW_0 (qtq N n):=CC.loop (cok8 N) (us:=qpf N) (c:=sub (qab Try.f44) [1,0,1,0,0]) (by kernel_rfl) (by kernel_rfl) (fun u h _=>qj8 N u h) (fun x=>rfl) (fun n x=>by kernel_rfl) n
def qvT (N:Nat):List (Pc D):=PzaW_0.pc (X8 N) (qtq N N)::qpf N
theorem qrb (N:Nat):∀u∈qvT N,PcOk (X8 N) (qab Try.f44) u:=qac ((qAi N N).pc (by kernel_rfl)) (qj8 N)
def dzaW:FD D:={f:=44,np:=3,ins:=[.v 0 (.sl 53), .v 1 (.int .i64), .v 2 (.int .i64)],fx:=[],rcv:=none,rk:=0,outs:=[.v 6 (.int .i64)],ofx:=[],rvs:=[.tmp 6],flat:=true}
def FzaW (N:Nat):dzaW.F:=fun r x=>zaW N x.1 x.2.1 x.2.2.1
theorem ozaW (N:Nat):FOk Try.prog (X8 N) dzaW (FzaW N):=⟨⟨Try.f44,_,Try.func44,rfl,by kernel_rfl,by kernel_rfl,rfl,FC.of (cok8 N) (us:=qvT N) (fun u h _=>qrb N u h) (fun r x=>by kernel_rfl)⟩,by kernel_rfl,by kernel_rfl,by kernel_rfl,by kernel_rfl⟩
def fs9 (N:Nat):List (FE D):=⟨dzaW,FzaW N⟩::fs8 N
theorem all9 (N:Nat):∀y∈fs9 N,CallOk X0 y.d y.F:=all_cons (x:=⟨dzaW,FzaW N⟩) (ozaW N) (all8 N)
def X9 (N:Nat):Ev Try.prog D:=X0.with (fs9 N)
theorem cok9 (N:Nat):COk (X9 N):=COk.of (all9 N)
def qvx (N:Nat):List (Pc D):=[]
theorem qqQ (N:Nat):∀u∈qvx N,PcOk (X9 N) (qab Try.f45) u:=qam
def dzbK:FD D:={f:=45,np:=3,ins:=[.v 0 (.sl 53), .v 1 (.int .i64), .v 2 (.int .i64)],fx:=[],rcv:=none,rk:=0,outs:=[.o 6 (.sl 3)],ofx:=[(6, .c (.own 0))],rvs:=[.tmp 6],flat:=false}
def FzbK (N:Nat):dzbK.F:=fun r x=>zbK N x.1 x.2.1 x.2.2.1
theorem ozbK (N:Nat):FOk Try.prog (X9 N) dzbK (FzbK N):=⟨⟨Try.f45,_,Try.func45,rfl,by kernel_rfl,by kernel_rfl,rfl,FC.of (cok9 N) (us:=qvx N) (fun u h _=>qqQ N u h) (fun r x=>by kernel_rfl)⟩,by kernel_rfl,by kernel_rfl,by kernel_rfl,by kernel_rfl⟩
def fs10 (N:Nat):List (FE D):=⟨dzbK,FzbK N⟩::fs9 N
theorem qyw (N:Nat):∀y∈fs10 N,CallOk X0 y.d y.F:=all_cons (x:=⟨dzbK,FzbK N⟩) (ozbK N) (all9 N)
def X10 (N:Nat):Ev Try.prog D:=X0.with (fs10 N)
theorem qwG (N:Nat):COk (X10 N):=COk.of (qyw N)
def qon (N:Nat):List (Pc D):=[]
theorem qjg (N:Nat):∀u∈qon N,PcOk (X10 N) (qab Try.f20) u:=qam
def PzbE_1:PD D:={path:=[1,1,1,1,1,1,0,1,0,0,1,0,0,1,1,1,1,0,0],ins:=[.o 0 (.recv 48), .v 1 (.sl 53), .o 6 (.box 70), .o 8 (.sl 70), .v 10 (.int .i64), .o 11 (.sl 3)],fx:=[(0, .box 0 0),(6, .box 1 0),(8, .c (.own 2)),(11, .c (.own 3))],ks:=[2,1,1,1],exs:=[⟨.normal,[.u 0 (.recv 48), .v 76 .bool],[]⟩],keep:=[0,1,6,8,9,11]}
def qtM (N:Nat):PzbE_1.F:=fun x=>qst N x.1 x.2.1 x.2.2.2.2.1 x.2.2.2.2.2.1
theorem qAE (N:Nat):CC (X10 N) (qab Try.f20) PzbE_1 (qtM N):=CC.of (qwG N) (us:=qon N) (fun u h _=>qjg N u h) (fun x=>by kernel_rfl)
def qpv (N:Nat):List (Pc D):=PzbE_1.pc (X10 N) (qtM N)::qon N
theorem qko (N:Nat):∀u∈qpv N,PcOk (X10 N) (qab Try.f20) u:=qac ((qAE N).pc (by kernel_rfl)) (qjg N)
def PzbE_0:PD D:={path:=[1,1,1,1,1,1,0,1,0],ins:=[.o 0 (.recv 48), .v 1 (.sl 53), .o 6 (.box 70), .o 8 (.sl 70), .v 9 (.int .i64)],fx:=[(0, .box 0 0),(6, .box 1 0),(8, .c (.own 2))],ks:=[2,0,0],exs:=[⟨.exit 0,[.u 0 (.recv 48), .o 8 (.sl 70)],[(8, .c (.own 3))]⟩,⟨.ret,[.u 0 (.recv 48), .o 4 (.sl 70)],[(4, .c (.own 3))]⟩],keep:=[0]}
def qtL (N:Nat) (n:Nat):PzbE_0.F:=fun x=>qgs N x.2.1 n x.1 x.2.2.1 x.2.2.2.1 x.2.2.2.2.1
theorem qAD (N:Nat) (n:Nat):CC (X10 N) (qab Try.f20) PzbE_0 (qtL N n):=CC.loop (qwG N) (us:=qpv N) (c:=sub (qab Try.f20) [1,1,1,1,1,1,0,1,0,0]) (by kernel_rfl) (by kernel_rfl) (fun u h _=>qko N u h) (fun x=>rfl) (fun n x=>by kernel_rfl) n
def qvY (N:Nat):List (Pc D):=PzbE_0.pc (X10 N) (qtL N N)::qpv N
theorem qrg (N:Nat):∀u∈qvY N,PcOk (X10 N) (qab Try.f20) u:=qac ((qAD N N).pc (by kernel_rfl)) (qko N)
def dzbE:FD D:={f:=20,np:=2,ins:=[.v 1 (.sl 53)],fx:=[],rcv:=some (0,48),rk:=2,outs:=[.o 4 (.sl 70), .u 0 (.recv 48)],ofx:=[(4, .c (.own 1))],rvs:=[.tmp 4],flat:=false}
def FzbE (N:Nat):dzbE.F:=fun r x=>zbE N r x.1
theorem ozbE (N:Nat):FOk Try.prog (X10 N) dzbE (FzbE N):=⟨⟨Try.f20,_,Try.func20,rfl,by kernel_rfl,by kernel_rfl,rfl,FC.of (qwG N) (us:=qvY N) (fun u h _=>qrg N u h) (fun r x=>by kernel_rfl)⟩,by kernel_rfl,by kernel_rfl,by kernel_rfl,by kernel_rfl⟩
def fs11 (N:Nat):List (FE D):=⟨dzbE,FzbE N⟩::fs10 N
theorem qyx (N:Nat):∀y∈fs11 N,CallOk X0 y.d y.F:=all_cons (x:=⟨dzbE,FzbE N⟩) (ozbE N) (qyw N)
def X11 (N:Nat):Ev Try.prog D:=X0.with (fs11 N)
theorem qqe (N:Nat):COk (X11 N):=COk.of (qyx N)
def qoI (N:Nat):List (Pc D):=[]
theorem qjB (N:Nat):∀u∈qoI N,PcOk (X11 N) (qab Try.f86) u:=qam
def PzcJ_1:PD D:={path:=[1,0,1,0,0,1,0,0,0],ins:=[.v 0 .str, .v 3 (.int .i64)],fx:=[],ks:=[],exs:=[⟨.normal,[.v 32 .bool],[]⟩],keep:=[0,3]}
def quz (N:Nat):PzcJ_1.F:=fun x=>qsI N x.1 x.2.1
theorem qBq (N:Nat):CC (X11 N) (qab Try.f86) PzcJ_1 (quz N):=CC.of (qqe N) (us:=qoI N) (fun u h _=>qjB N u h) (fun x=>by kernel_rfl)
def qpX (N:Nat):List (Pc D):=PzcJ_1.pc (X11 N) (quz N)::qoI N
theorem qkQ (N:Nat):∀u∈qpX N,PcOk (X11 N) (qab Try.f86) u:=qac ((qBq N).pc (by kernel_rfl)) (qjB N)
def PzcJ_0:PD D:={path:=[1,0,1,0],ins:=[.v 0 .str, .v 3 (.int .i64)],fx:=[],ks:=[],exs:=[⟨.exit 0,[],[]⟩,⟨.ret,[.v 2 .bool],[]⟩],keep:=[0]}
def quy (N:Nat) (n:Nat):PzcJ_0.F:=fun x=>qhu N x.1 n x.2.1
theorem qBp (N:Nat) (n:Nat):CC (X11 N) (qab Try.f86) PzcJ_0 (quy N n):=CC.loop (qqe N) (us:=qpX N) (c:=sub (qab Try.f86) [1,0,1,0,0]) (by kernel_rfl) (by kernel_rfl) (fun u h _=>qkQ N u h) (fun x=>rfl) (fun n x=>by kernel_rfl) n
def qpW (N:Nat):List (Pc D):=PzcJ_0.pc (X11 N) (quy N N)::qpX N
theorem qkP (N:Nat):∀u∈qpW N,PcOk (X11 N) (qab Try.f86) u:=qac ((qBp N N).pc (by kernel_rfl)) (qkQ N)
def PzcJ_2:PD D:={path:=[1,1,0],ins:=[.v 0 .str],fx:=[],ks:=[],exs:=[⟨.normal,[.v 2 .bool],[]⟩],keep:=[]}
def quA (N:Nat):PzcJ_2.F:=fun x=>qyq N x.1
theorem qBr (N:Nat):CC (X11 N) (qab Try.f86) PzcJ_2 (quA N):=CC.of (qqe N) (us:=qpW N) (fun u h _=>qkP N u h) (fun x=>by kernel_rfl)
def qwj (N:Nat):List (Pc D):=PzcJ_2.pc (X11 N) (quA N)::qpW N
theorem qrB (N:Nat):∀u∈qwj N,PcOk (X11 N) (qab Try.f86) u:=qac ((qBr N).pc (by kernel_rfl)) (qkP N)
def dzcJ:FD D:={f:=86,np:=1,ins:=[.v 0 .str],fx:=[],rcv:=none,rk:=0,outs:=[.v 2 .bool],ofx:=[],rvs:=[.tmp 2],flat:=true}
def FzcJ (N:Nat):dzcJ.F:=fun r x=>zcJ N x.1
theorem ozcJ (N:Nat):FOk Try.prog (X11 N) dzcJ (FzcJ N):=⟨⟨Try.f86,_,Try.func86,rfl,by kernel_rfl,by kernel_rfl,rfl,FC.of (qqe N) (us:=qwj N) (fun u h _=>qrB N u h) (fun r x=>by kernel_rfl)⟩,by kernel_rfl,by kernel_rfl,by kernel_rfl,by kernel_rfl⟩
def fs12 (N:Nat):List (FE D):=⟨dzcJ,FzcJ N⟩::fs11 N
theorem qyy (N:Nat):∀y∈fs12 N,CallOk X0 y.d y.F:=all_cons (x:=⟨dzcJ,FzcJ N⟩) (ozcJ N) (qyx N)
def X12 (N:Nat):Ev Try.prog D:=X0.with (fs12 N)
theorem qlt (N:Nat):COk (X12 N):=COk.of (qyy N)
def qoC (N:Nat):List (Pc D):=[]
theorem qjv (N:Nat):∀u∈qoC N,PcOk (X12 N) (qab Try.f70) u:=qam
def PzcC_0:PD D:={path:=[1,1,0,0],ins:=[.o 5 (.box 53), .o 6 (.sl 3)],fx:=[(5, .box 0 0),(6, .c (.own 1))],ks:=[1,1],exs:=[⟨.normal,[.v 23 .bool],[]⟩],keep:=[5,6]}
def quf (N:Nat):PzcC_0.F:=fun x=>qyj N x.1 x.2.1
theorem qA7 (N:Nat):CC (X12 N) (qab Try.f70) PzcC_0 (quf N):=CC.of (qlt N) (us:=qoC N) (fun u h _=>qjv N u h) (fun x=>by kernel_rfl)
def qpK (N:Nat):List (Pc D):=PzcC_0.pc (X12 N) (quf N)::qoC N
theorem qkD (N:Nat):∀u∈qpK N,PcOk (X12 N) (qab Try.f70) u:=qac ((qA7 N).pc (by kernel_rfl)) (qjv N)
def PzcC_2:PD D:={path:=[1,1,1,0,1,0,0,1,0,0,0],ins:=[.o 5 (.box 53), .v 6 (.sl 3), .v 7 (.int .i64)],fx:=[(5, .box 0 0)],ks:=[1],exs:=[⟨.normal,[.v 51 .bool],[]⟩],keep:=[5,6,7]}
def quh (N:Nat):PzcC_2.F:=fun x=>qyk N x.2.1 x.2.2.1
theorem qA9 (N:Nat):CC (X12 N) (qab Try.f70) PzcC_2 (quh N):=CC.of (qlt N) (us:=qpK N) (fun u h _=>qkD N u h) (fun x=>by kernel_rfl)
def qpM (N:Nat):List (Pc D):=PzcC_2.pc (X12 N) (quh N)::qpK N
theorem qkF (N:Nat):∀u∈qpM N,PcOk (X12 N) (qab Try.f70) u:=qac ((qA9 N).pc (by kernel_rfl)) (qkD N)
def PzcC_1:PD D:={path:=[1,1,1,0,1,0],ins:=[.o 5 (.box 53), .v 6 (.sl 3), .v 7 (.int .i64)],fx:=[(5, .box 0 0)],ks:=[1],exs:=[⟨.exit 0,[],[]⟩,⟨.ret,[.v 4 .bool],[]⟩],keep:=[5,6]}
def qug (N:Nat) (n:Nat):PzcC_1.F:=fun x=>qgy N x.2.1 n x.2.2.1
theorem qA8 (N:Nat) (n:Nat):CC (X12 N) (qab Try.f70) PzcC_1 (qug N n):=CC.loop (qlt N) (us:=qpM N) (c:=sub (qab Try.f70) [1,1,1,0,1,0,0]) (by kernel_rfl) (by kernel_rfl) (fun u h _=>qkF N u h) (fun x=>rfl) (fun n x=>by kernel_rfl) n
def qpL (N:Nat):List (Pc D):=PzcC_1.pc (X12 N) (qug N N)::qpM N
theorem qkE (N:Nat):∀u∈qpL N,PcOk (X12 N) (qab Try.f70) u:=qac ((qA8 N N).pc (by kernel_rfl)) (qkF N)
def PzcC_3:PD D:={path:=[1,1,1,1,0,0],ins:=[.o 5 (.box 53), .v 6 (.sl 3)],fx:=[(5, .box 0 0)],ks:=[1],exs:=[⟨.normal,[.v 59 .bool],[]⟩],keep:=[5]}
def qui (N:Nat):PzcC_3.F:=fun x=>qyl N x.1 x.2.1
theorem qBa (N:Nat):CC (X12 N) (qab Try.f70) PzcC_3 (qui N):=CC.of (qlt N) (us:=qpL N) (fun u h _=>qkE N u h) (fun x=>by kernel_rfl)
def qpN (N:Nat):List (Pc D):=PzcC_3.pc (X12 N) (qui N)::qpL N
theorem qkG (N:Nat):∀u∈qpN N,PcOk (X12 N) (qab Try.f70) u:=qac ((qBa N).pc (by kernel_rfl)) (qkE N)
def PzcC_4:PD D:={path:=[1,1,1,1,1,0,1,0,0],ins:=[.o 5 (.box 53)],fx:=[(5, .box 0 0)],ks:=[1],exs:=[⟨.normal,[.v 4 .bool],[]⟩],keep:=[]}
def quj (N:Nat):PzcC_4.F:=fun x=>qym N x.1
theorem qBb (N:Nat):CC (X12 N) (qab Try.f70) PzcC_4 (quj N):=CC.of (qlt N) (us:=qpN N) (fun u h _=>qkG N u h) (fun x=>by kernel_rfl)
def qwd (N:Nat):List (Pc D):=PzcC_4.pc (X12 N) (quj N)::qpN N
theorem qrv (N:Nat):∀u∈qwd N,PcOk (X12 N) (qab Try.f70) u:=qac ((qBb N).pc (by kernel_rfl)) (qkG N)
def dzcC:FD D:={f:=70,np:=2,ins:=[.v 0 (.sl 53), .v 1 (.int .i64)],fx:=[],rcv:=none,rk:=0,outs:=[.v 4 .bool],ofx:=[],rvs:=[.tmp 4],flat:=true}
def FzcC (N:Nat):dzcC.F:=fun r x=>zcC N x.1 x.2.1
theorem ozcC (N:Nat):FOk Try.prog (X12 N) dzcC (FzcC N):=⟨⟨Try.f70,_,Try.func70,rfl,by kernel_rfl,by kernel_rfl,rfl,FC.of (qlt N) (us:=qwd N) (fun u h _=>qrv N u h) (fun r x=>by kernel_rfl)⟩,by kernel_rfl,by kernel_rfl,by kernel_rfl,by kernel_rfl⟩
def fs13 (N:Nat):List (FE D):=⟨dzcC,FzcC N⟩::fs12 N
theorem qyz (N:Nat):∀y∈fs13 N,CallOk X0 y.d y.F:=all_cons (x:=⟨dzcC,FzcC N⟩) (ozcC N) (qyy N)
def X13 (N:Nat):Ev Try.prog D:=X0.with (fs13 N)
theorem qmf (N:Nat):COk (X13 N):=COk.of (qyz N)
def qoB (N:Nat):List (Pc D):=[]
theorem qju (N:Nat):∀u∈qoB N,PcOk (X13 N) (qab Try.f46) u:=qam
def PzcB_1:PD D:={path:=[1,1,1,0,1,0,0,1,0,0,1,0,1,0],ins:=[.v 0 (.sl 53), .o 3 (.arr 3 108 64), .v 4 (.int .i64), .v 5 (.int .i64)],fx:=[(3, .arr 0)],ks:=[1],exs:=[⟨.exit 2,[],[]⟩,⟨.ret,[.v 2 (.int .i64)],[]⟩],keep:=[0,3,4]}
def quc (N:Nat) (n:Nat):PzcB_1.F:=fun x=>qgw N x.1 x.2.2.1 n x.2.2.2.1
theorem qA4 (N:Nat) (n:Nat):CC (X13 N) (qab Try.f46) PzcB_1 (quc N n):=CC.loop (qmf N) (us:=qoB N) (c:=sub (qab Try.f46) [1,1,1,0,1,0,0,1,0,0,1,0,1,0,0]) (by kernel_rfl) (by kernel_rfl) (fun u h _=>qju N u h) (fun x=>rfl) (fun n x=>by kernel_rfl) n
def qpH (N:Nat):List (Pc D):=PzcB_1.pc (X13 N) (quc N N)::qoB N
theorem qkA (N:Nat):∀u∈qpH N,PcOk (X13 N) (qab Try.f46) u:=qac ((qA4 N N).pc (by kernel_rfl)) (qju N)
def PzcB_2:PD D:={path:=[1,1,1,0,1,0,0,1,0,0,1,1,1,0,1,0],ins:=[.o 3 (.arr 3 108 64), .o 6 (.sl 3), .v 7 (.int .i64)],fx:=[(3, .arr 0),(6, .c (.own 1))],ks:=[1,1],exs:=[⟨.exit 4,[],[]⟩,⟨.ret,[.v 2 (.int .i64)],[]⟩],keep:=[0,3,4,6]}
def qud (N:Nat) (n:Nat):PzcB_2.F:=fun x=>qgx N x.1 x.2.1 n x.2.2.1
theorem qA5 (N:Nat) (n:Nat):CC (X13 N) (qab Try.f46) PzcB_2 (qud N n):=CC.loop (qmf N) (us:=qpH N) (c:=sub (qab Try.f46) [1,1,1,0,1,0,0,1,0,0,1,1,1,0,1,0,0]) (by kernel_rfl) (by kernel_rfl) (fun u h _=>qkA N u h) (fun x=>rfl) (fun n x=>by kernel_rfl) n
def qpI (N:Nat):List (Pc D):=PzcB_2.pc (X13 N) (qud N N)::qpH N
theorem qkB (N:Nat):∀u∈qpI N,PcOk (X13 N) (qab Try.f46) u:=qac ((qA5 N N).pc (by kernel_rfl)) (qkA N)
def PzcB_3:PD D:={path:=[1,1,1,0,1,0,0,1,0,0,1,1,1,1,1,0],ins:=[.o 3 (.arr 3 108 64), .o 6 (.sl 3), .v 8 (.int .i64)],fx:=[(3, .arr 0),(6, .c (.own 1))],ks:=[2,1],exs:=[⟨.exit 6,[.u 0 (.arr 3 108 64)],[]⟩],keep:=[0,3,4]}
def que (N:Nat) (n:Nat):PzcB_3.F:=fun x=>qim N x.2.1 n x.1 x.2.2.1
theorem qA6 (N:Nat) (n:Nat):CC (X13 N) (qab Try.f46) PzcB_3 (que N n):=CC.loop (qmf N) (us:=qpI N) (c:=sub (qab Try.f46) [1,1,1,0,1,0,0,1,0,0,1,1,1,1,1,0,0]) (by kernel_rfl) (by kernel_rfl) (fun u h _=>qkB N u h) (fun x=>rfl) (fun n x=>by kernel_rfl) n
def qpJ (N:Nat):List (Pc D):=PzcB_3.pc (X13 N) (que N N)::qpI N
theorem qkC (N:Nat):∀u∈qpJ N,PcOk (X13 N) (qab Try.f46) u:=qac ((qA6 N N).pc (by kernel_rfl)) (qkB N)
def PzcB_0:PD D:={path:=[1,1,1,0,1,0],ins:=[.v 0 (.sl 53), .o 3 (.arr 3 108 64), .v 4 (.int .i64)],fx:=[(3, .arr 0)],ks:=[0],exs:=[⟨.exit 0,[],[]⟩,⟨.ret,[.v 2 (.int .i64)],[]⟩],keep:=[]}
def qub (N:Nat) (n:Nat):PzcB_0.F:=fun x=>ql0 N x.1 n x.2.1 x.2.2.1
theorem qA3 (N:Nat) (n:Nat):CC (X13 N) (qab Try.f46) PzcB_0 (qub N n):=CC.loop (qmf N) (us:=qpJ N) (c:=sub (qab Try.f46) [1,1,1,0,1,0,0]) (by kernel_rfl) (by kernel_rfl) (fun u h _=>qkC N u h) (fun x=>rfl) (fun n x=>by kernel_rfl) n
def qwc (N:Nat):List (Pc D):=PzcB_0.pc (X13 N) (qub N N)::qpJ N
theorem qru (N:Nat):∀u∈qwc N,PcOk (X13 N) (qab Try.f46) u:=qac ((qA3 N N).pc (by kernel_rfl)) (qkC N)
def dzcB:FD D:={f:=46,np:=1,ins:=[.v 0 (.sl 53)],fx:=[],rcv:=none,rk:=0,outs:=[.v 2 (.int .i64)],ofx:=[],rvs:=[.tmp 2],flat:=true}
def FzcB (N:Nat):dzcB.F:=fun r x=>zcB N x.1
theorem ozcB (N:Nat):FOk Try.prog (X13 N) dzcB (FzcB N):=⟨⟨Try.f46,_,Try.func46,rfl,by kernel_rfl,by kernel_rfl,rfl,FC.of (qmf N) (us:=qwc N) (fun u h _=>qru N u h) (fun r x=>by kernel_rfl)⟩,by kernel_rfl,by kernel_rfl,by kernel_rfl,by kernel_rfl⟩
def fs14 (N:Nat):List (FE D):=⟨dzcB,FzcB N⟩::fs13 N
theorem qyA (N:Nat):∀y∈fs14 N,CallOk X0 y.d y.F:=all_cons (x:=⟨dzcB,FzcB N⟩) (ozcB N) (qyz N)
def X14 (N:Nat):Ev Try.prog D:=X0.with (fs14 N)
theorem qzk (N:Nat):COk (X14 N):=COk.of (qyA N)
def qoE (N:Nat):List (Pc D):=[]
theorem qjx (N:Nat):∀u∈qoE N,PcOk (X14 N) (qab Try.f47) u:=qam
def PzcE_0:PD D:={path:=[1,0],ins:=[.v 0 (.sl 53), .v 1 (.int .i64)],fx:=[],ks:=[],exs:=[⟨.normal,[.v 4 .bool],[]⟩],keep:=[]}
def quq (N:Nat):PzcE_0.F:=fun x=>qyn N x.1 x.2.1
theorem qBh (N:Nat):CC (X14 N) (qab Try.f47) PzcE_0 (quq N):=CC.of (qzk N) (us:=qoE N) (fun u h _=>qjx N u h) (fun x=>by kernel_rfl)
def qwf (N:Nat):List (Pc D):=PzcE_0.pc (X14 N) (quq N)::qoE N
theorem qrx (N:Nat):∀u∈qwf N,PcOk (X14 N) (qab Try.f47) u:=qac ((qBh N).pc (by kernel_rfl)) (qjx N)
def dzcE:FD D:={f:=47,np:=2,ins:=[.v 0 (.sl 53), .v 1 (.int .i64)],fx:=[],rcv:=none,rk:=0,outs:=[.v 4 .bool],ofx:=[],rvs:=[.tmp 4],flat:=true}
def FzcE (N:Nat):dzcE.F:=fun r x=>zcE N x.1 x.2.1
theorem ozcE (N:Nat):FOk Try.prog (X14 N) dzcE (FzcE N):=⟨⟨Try.f47,_,Try.func47,rfl,by kernel_rfl,by kernel_rfl,rfl,FC.of (qzk N) (us:=qwf N) (fun u h _=>qrx N u h) (fun r x=>by kernel_rfl)⟩,by kernel_rfl,by kernel_rfl,by kernel_rfl,by kernel_rfl⟩
def fs15 (N:Nat):List (FE D):=⟨dzcE,FzcE N⟩::fs14 N
theorem qyB (N:Nat):∀y∈fs15 N,CallOk X0 y.d y.F:=all_cons (x:=⟨dzcE,FzcE N⟩) (ozcE N) (qyA N)
def X15 (N:Nat):Ev Try.prog D:=X0.with (fs15 N)
theorem qzl (N:Nat):COk (X15 N):=COk.of (qyB N)
def qoz (N:Nat):List (Pc D):=[]
theorem qjs (N:Nat):∀u∈qoz N,PcOk (X15 N) (qab Try.f17) u:=qam
def PzbX_0:PD D:={path:=[1,0,1,0],ins:=[.v 0 (.sl 70), .v 1 (.int .i64), .v 5 (.int .i64)],fx:=[],ks:=[],exs:=[⟨.exit 0,[],[]⟩,⟨.ret,[.v 4 .bool],[]⟩],keep:=[]}
def qt7 (N:Nat) (n:Nat):PzbX_0.F:=fun x=>qhq N x.1 x.2.1 n x.2.2.1
theorem qAZ (N:Nat) (n:Nat):CC (X15 N) (qab Try.f17) PzbX_0 (qt7 N n):=CC.loop (qzl N) (us:=qoz N) (c:=sub (qab Try.f17) [1,0,1,0,0]) (by kernel_rfl) (by kernel_rfl) (fun u h _=>qjs N u h) (fun x=>rfl) (fun n x=>by kernel_rfl) n
def qwa (N:Nat):List (Pc D):=PzbX_0.pc (X15 N) (qt7 N N)::qoz N
theorem qrs (N:Nat):∀u∈qwa N,PcOk (X15 N) (qab Try.f17) u:=qac ((qAZ N N).pc (by kernel_rfl)) (qjs N)
def dzbX:FD D:={f:=17,np:=2,ins:=[.v 0 (.sl 70), .v 1 (.int .i64)],fx:=[],rcv:=none,rk:=0,outs:=[.v 4 .bool],ofx:=[],rvs:=[.tmp 4],flat:=true}
def FzbX (N:Nat):dzbX.F:=fun r x=>zbX N x.1 x.2.1
theorem ozbX (N:Nat):FOk Try.prog (X15 N) dzbX (FzbX N):=⟨⟨Try.f17,_,Try.func17,rfl,by kernel_rfl,by kernel_rfl,rfl,FC.of (qzl N) (us:=qwa N) (fun u h _=>qrs N u h) (fun r x=>by kernel_rfl)⟩,by kernel_rfl,by kernel_rfl,by kernel_rfl,by kernel_rfl⟩
def fs16 (N:Nat):List (FE D):=⟨dzbX,FzbX N⟩::fs15 N
theorem qyC (N:Nat):∀y∈fs16 N,CallOk X0 y.d y.F:=all_cons (x:=⟨dzbX,FzbX N⟩) (ozbX N) (qyB N)
def X16 (N:Nat):Ev Try.prog D:=X0.with (fs16 N)
theorem qzm (N:Nat):COk (X16 N):=COk.of (qyC N)
def qoO (N:Nat):List (Pc D):=[]
theorem qjH (N:Nat):∀u∈qoO N,PcOk (X16 N) (qab Try.f48) u:=qam
def PzcR_0:PD D:={path:=[1,0,1,0],ins:=[.v 0 (.sl 3), .v 1 (.int .i64), .v 5 (.int .i64)],fx:=[],ks:=[],exs:=[⟨.exit 0,[],[]⟩,⟨.ret,[.v 4 .bool],[]⟩],keep:=[]}
def quN (N:Nat) (n:Nat):PzcR_0.F:=fun x=>qhw N x.1 x.2.1 n x.2.2.1
theorem qBE (N:Nat) (n:Nat):CC (X16 N) (qab Try.f48) PzcR_0 (quN N n):=CC.loop (qzm N) (us:=qoO N) (c:=sub (qab Try.f48) [1,0,1,0,0]) (by kernel_rfl) (by kernel_rfl) (fun u h _=>qjH N u h) (fun x=>rfl) (fun n x=>by kernel_rfl) n
def qwp (N:Nat):List (Pc D):=PzcR_0.pc (X16 N) (quN N N)::qoO N
theorem qrH (N:Nat):∀u∈qwp N,PcOk (X16 N) (qab Try.f48) u:=qac ((qBE N N).pc (by kernel_rfl)) (qjH N)
def dzcR:FD D:={f:=48,np:=2,ins:=[.v 0 (.sl 3), .v 1 (.int .i64)],fx:=[],rcv:=none,rk:=0,outs:=[.v 4 .bool],ofx:=[],rvs:=[.tmp 4],flat:=true}
def FzcR (N:Nat):dzcR.F:=fun r x=>zcR N x.1 x.2.1
theorem ozcR (N:Nat):FOk Try.prog (X16 N) dzcR (FzcR N):=⟨⟨Try.f48,_,Try.func48,rfl,by kernel_rfl,by kernel_rfl,rfl,FC.of (qzm N) (us:=qwp N) (fun u h _=>qrH N u h) (fun r x=>by kernel_rfl)⟩,by kernel_rfl,by kernel_rfl,by kernel_rfl,by kernel_rfl⟩
def fs17 (N:Nat):List (FE D):=⟨dzcR,FzcR N⟩::fs16 N
theorem qyD (N:Nat):∀y∈fs17 N,CallOk X0 y.d y.F:=all_cons (x:=⟨dzcR,FzcR N⟩) (ozcR N) (qyC N)
def X17 (N:Nat):Ev Try.prog D:=X0.with (fs17 N)
theorem qlu (N:Nat):COk (X17 N):=COk.of (qyD N)
def qoD (N:Nat):List (Pc D):=[]
theorem qjw (N:Nat):∀u∈qoD N,PcOk (X17 N) (qab Try.f21) u:=qam
def PzcD_0:PD D:={path:=[1,1,0,0],ins:=[.v 0 (.sl 53), .v 1 (.sl 70), .v 5 (.int .i64)],fx:=[],ks:=[],exs:=[⟨.normal,[.v 50 .bool],[]⟩],keep:=[0,1,5]}
def quk (N:Nat):PzcD_0.F:=fun x=>qhr N x.1 x.2.1 x.2.2.1
theorem qBc (N:Nat):CC (X17 N) (qab Try.f21) PzcD_0 (quk N):=CC.of (qlu N) (us:=qoD N) (fun u h _=>qjw N u h) (fun x=>by kernel_rfl)
def qpO (N:Nat):List (Pc D):=PzcD_0.pc (X17 N) (quk N)::qoD N
theorem qkH (N:Nat):∀u∈qpO N,PcOk (X17 N) (qab Try.f21) u:=qac ((qBc N).pc (by kernel_rfl)) (qjw N)
def PzcD_2:PD D:={path:=[1,1,1,0,1,0,0,1,0,0,0,0],ins:=[.v 0 (.sl 53), .v 1 (.sl 70), .v 6 (.int .i64)],fx:=[],ks:=[],exs:=[⟨.normal,[.v 82 .bool],[]⟩],keep:=[0,1,5,6]}
def qum (N:Nat):PzcD_2.F:=fun x=>qsC N x.1 x.2.1 x.2.2.1
theorem qBe (N:Nat):CC (X17 N) (qab Try.f21) PzcD_2 (qum N):=CC.of (qlu N) (us:=qpO N) (fun u h _=>qkH N u h) (fun x=>by kernel_rfl)
def qpP (N:Nat):List (Pc D):=PzcD_2.pc (X17 N) (qum N)::qpO N
theorem qkI (N:Nat):∀u∈qpP N,PcOk (X17 N) (qab Try.f21) u:=qac ((qBe N).pc (by kernel_rfl)) (qkH N)
def PzcD_3:PD D:={path:=[1,1,1,0,1,0,0,1,0,0,1,0,0],ins:=[.v 0 (.sl 53), .v 1 (.sl 70), .v 5 (.int .i64), .v 6 (.int .i64)],fx:=[],ks:=[],exs:=[⟨.normal,[.v 136 .bool],[]⟩],keep:=[0,1,5,6]}
def qun (N:Nat):PzcD_3.F:=fun x=>qsD N x.1 x.2.1 x.2.2.1 x.2.2.2.1
theorem qBf (N:Nat):CC (X17 N) (qab Try.f21) PzcD_3 (qun N):=CC.of (qlu N) (us:=qpP N) (fun u h _=>qkI N u h) (fun x=>by kernel_rfl)
def qpQ (N:Nat):List (Pc D):=PzcD_3.pc (X17 N) (qun N)::qpP N
theorem qkJ (N:Nat):∀u∈qpQ N,PcOk (X17 N) (qab Try.f21) u:=qac ((qBf N).pc (by kernel_rfl)) (qkI N)
def PzcD_4:PD D:={path:=[1,1,1,0,1,0,0,1,0,0,1,1,0],ins:=[.v 0 (.sl 53), .v 1 (.sl 70), .v 5 (.int .i64), .v 6 (.int .i64)],fx:=[],ks:=[],exs:=[⟨.normal,[.v 164 .bool],[]⟩],keep:=[0,1,5,6]}
def qup (N:Nat):PzcD_4.F:=fun x=>qsE N x.1 x.2.1 x.2.2.1 x.2.2.2.1
theorem qBg (N:Nat):CC (X17 N) (qab Try.f21) PzcD_4 (qup N):=CC.of (qlu N) (us:=qpQ N) (fun u h _=>qkJ N u h) (fun x=>by kernel_rfl)
def qpR (N:Nat):List (Pc D):=PzcD_4.pc (X17 N) (qup N)::qpQ N
theorem qkK (N:Nat):∀u∈qpR N,PcOk (X17 N) (qab Try.f21) u:=qac ((qBg N).pc (by kernel_rfl)) (qkJ N)
def PzcD_1:PD D:={path:=[1,1,1,0,1,0],ins:=[.v 0 (.sl 53), .v 1 (.sl 70), .v 5 (.int .i64), .v 6 (.int .i64)],fx:=[],ks:=[],exs:=[⟨.exit 0,[],[]⟩,⟨.ret,[.v 4 .bool],[]⟩],keep:=[]}
def qul (N:Nat) (n:Nat):PzcD_1.F:=fun x=>qhs N x.1 x.2.1 x.2.2.1 n x.2.2.2.1
theorem qBd (N:Nat) (n:Nat):CC (X17 N) (qab Try.f21) PzcD_1 (qul N n):=CC.loop (qlu N) (us:=qpR N) (c:=sub (qab Try.f21) [1,1,1,0,1,0,0]) (by kernel_rfl) (by kernel_rfl) (fun u h _=>qkK N u h) (fun x=>rfl) (fun n x=>by kernel_rfl) n
def qwe (N:Nat):List (Pc D):=PzcD_1.pc (X17 N) (qul N N)::qpR N
theorem qrw (N:Nat):∀u∈qwe N,PcOk (X17 N) (qab Try.f21) u:=qac ((qBd N N).pc (by kernel_rfl)) (qkK N)
def dzcD:FD D:={f:=21,np:=2,ins:=[.v 0 (.sl 53), .v 1 (.sl 70)],fx:=[],rcv:=none,rk:=0,outs:=[.v 4 .bool],ofx:=[],rvs:=[.tmp 4],flat:=true}
def FzcD (N:Nat):dzcD.F:=fun r x=>zcD N x.1 x.2.1
theorem ozcD (N:Nat):FOk Try.prog (X17 N) dzcD (FzcD N):=⟨⟨Try.f21,_,Try.func21,rfl,by kernel_rfl,by kernel_rfl,rfl,FC.of (qlu N) (us:=qwe N) (fun u h _=>qrw N u h) (fun r x=>by kernel_rfl)⟩,by kernel_rfl,by kernel_rfl,by kernel_rfl,by kernel_rfl⟩
def fs18 (N:Nat):List (FE D):=⟨dzcD,FzcD N⟩::fs17 N
theorem qyE (N:Nat):∀y∈fs18 N,CallOk X0 y.d y.F:=all_cons (x:=⟨dzcD,FzcD N⟩) (ozcD N) (qyD N)
def X18 (N:Nat):Ev Try.prog D:=X0.with (fs18 N)
theorem qzn (N:Nat):COk (X18 N):=COk.of (qyE N)
def qoM (N:Nat):List (Pc D):=[]
theorem qjF (N:Nat):∀u∈qoM N,PcOk (X18 N) (qab Try.f8) u:=qam
def PzcP_0:PD D:={path:=[1,1,0,1,0],ins:=[.o 0 (.recv 48), .v 4 (.sl 53), .v 5 (.int .i64)],fx:=[(0, .box 0 0)],ks:=[2],exs:=[⟨.exit 0,[.u 0 (.recv 48)],[]⟩,⟨.ret,[.u 0 (.recv 48), .v 2 (.sl 53), .o 3 (.sl 70)],[(3, .c (.own 1))]⟩],keep:=[0,4]}
def quL (N:Nat) (n:Nat):PzcP_0.F:=fun x=>qgz N x.2.1 n x.1 x.2.2.1
theorem qBC (N:Nat) (n:Nat):CC (X18 N) (qab Try.f8) PzcP_0 (quL N n):=CC.loop (qzn N) (us:=qoM N) (c:=sub (qab Try.f8) [1,1,0,1,0,0]) (by kernel_rfl) (by kernel_rfl) (fun u h _=>qjF N u h) (fun x=>rfl) (fun n x=>by kernel_rfl) n
def qwn (N:Nat):List (Pc D):=PzcP_0.pc (X18 N) (quL N N)::qoM N
theorem qrF (N:Nat):∀u∈qwn N,PcOk (X18 N) (qab Try.f8) u:=qac ((qBC N N).pc (by kernel_rfl)) (qjF N)
def dzcP:FD D:={f:=8,np:=1,ins:=[],fx:=[],rcv:=some (0,48),rk:=2,outs:=[.v 2 (.sl 53), .o 3 (.sl 70), .u 0 (.recv 48)],ofx:=[(3, .c (.own 1))],rvs:=[.tmp 2, .tmp 3],flat:=false}
def FzcP (N:Nat):dzcP.F:=fun r x=>zcP N r
theorem ozcP (N:Nat):FOk Try.prog (X18 N) dzcP (FzcP N):=⟨⟨Try.f8,_,Try.func8,rfl,by kernel_rfl,by kernel_rfl,rfl,FC.of (qzn N) (us:=qwn N) (fun u h _=>qrF N u h) (fun r x=>by kernel_rfl)⟩,by kernel_rfl,by kernel_rfl,by kernel_rfl,by kernel_rfl⟩
def fs19 (N:Nat):List (FE D):=⟨dzcP,FzcP N⟩::fs18 N
theorem qyF (N:Nat):∀y∈fs19 N,CallOk X0 y.d y.F:=all_cons (x:=⟨dzcP,FzcP N⟩) (ozcP N) (qyE N)
def X19 (N:Nat):Ev Try.prog D:=X0.with (fs19 N)
theorem qqf (N:Nat):COk (X19 N):=COk.of (qyF N)
def qoA (N:Nat):List (Pc D):=[]
theorem qjt (N:Nat):∀u∈qoA N,PcOk (X19 N) (qab Try.f9) u:=qam
def PzbZ_2:PD D:={path:=[1,1,0,1,0,0,1,0,0,0,0],ins:=[.o 0 (.recv 48), .v 1 (.sl 53), .o 5 (.sl 33), .v 6 (.int .i64)],fx:=[(0, .box 0 0),(5, .c (.own 1))],ks:=[2,1],exs:=[⟨.normal,[.u 0 (.recv 48), .v 21 .bool],[]⟩],keep:=[0,1,5,6]}
def qua (N:Nat):PzbZ_2.F:=fun x=>qsB N x.1 x.2.1 x.2.2.2.1
theorem qA2 (N:Nat):CC (X19 N) (qab Try.f9) PzbZ_2 (qua N):=CC.of (qqf N) (us:=qoA N) (fun u h _=>qjt N u h) (fun x=>by kernel_rfl)
def qpG (N:Nat):List (Pc D):=PzbZ_2.pc (X19 N) (qua N)::qoA N
theorem qkz (N:Nat):∀u∈qpG N,PcOk (X19 N) (qab Try.f9) u:=qac ((qA2 N).pc (by kernel_rfl)) (qjt N)
def PzbZ_1:PD D:={path:=[1,1,0,1,0,0,1,0],ins:=[.o 0 (.recv 48), .v 1 (.sl 53), .o 5 (.sl 33), .v 6 (.int .i64)],fx:=[(0, .box 0 0),(5, .c (.own 1))],ks:=[2,0],exs:=[⟨.normal,[.u 0 (.recv 48), .o 5 (.sl 33)],[(5, .c (.own 2))]⟩],keep:=[0,1,6]}
def qt9 (N:Nat):PzbZ_1.F:=fun x=>qyi N x.1 x.2.1 x.2.2.1 x.2.2.2.1
theorem qA1 (N:Nat):CC (X19 N) (qab Try.f9) PzbZ_1 (qt9 N):=CC.of (qqf N) (us:=qpG N) (fun u h _=>qkz N u h) (fun x=>by kernel_rfl)
def qpF (N:Nat):List (Pc D):=PzbZ_1.pc (X19 N) (qt9 N)::qpG N
theorem qky (N:Nat):∀u∈qpF N,PcOk (X19 N) (qab Try.f9) u:=qac ((qA1 N).pc (by kernel_rfl)) (qkz N)
def PzbZ_0:PD D:={path:=[1,1,0,1,0],ins:=[.o 0 (.recv 48), .v 1 (.sl 53), .o 5 (.sl 33), .v 6 (.int .i64)],fx:=[(0, .box 0 0),(5, .c (.own 1))],ks:=[2,0],exs:=[⟨.exit 0,[.u 0 (.recv 48), .o 5 (.sl 33)],[(5, .c (.own 2))]⟩],keep:=[0]}
def qt8 (N:Nat) (n:Nat):PzbZ_0.F:=fun x=>qil N x.2.1 n x.1 x.2.2.1 x.2.2.2.1
theorem qA0 (N:Nat) (n:Nat):CC (X19 N) (qab Try.f9) PzbZ_0 (qt8 N n):=CC.loop (qqf N) (us:=qpF N) (c:=sub (qab Try.f9) [1,1,0,1,0,0]) (by kernel_rfl) (by kernel_rfl) (fun u h _=>qky N u h) (fun x=>rfl) (fun n x=>by kernel_rfl) n
def qwb (N:Nat):List (Pc D):=PzbZ_0.pc (X19 N) (qt8 N N)::qpF N
theorem qrt (N:Nat):∀u∈qwb N,PcOk (X19 N) (qab Try.f9) u:=qac ((qA0 N N).pc (by kernel_rfl)) (qky N)
def dzbZ:FD D:={f:=9,np:=2,ins:=[.v 1 (.sl 53)],fx:=[],rcv:=some (0,48),rk:=2,outs:=[.o 4 (.sl 33), .u 0 (.recv 48)],ofx:=[(4, .c (.own 1))],rvs:=[.tmp 4],flat:=false}
def FzbZ (N:Nat):dzbZ.F:=fun r x=>zbZ N r x.1
theorem ozbZ (N:Nat):FOk Try.prog (X19 N) dzbZ (FzbZ N):=⟨⟨Try.f9,_,Try.func9,rfl,by kernel_rfl,by kernel_rfl,rfl,FC.of (qqf N) (us:=qwb N) (fun u h _=>qrt N u h) (fun r x=>by kernel_rfl)⟩,by kernel_rfl,by kernel_rfl,by kernel_rfl,by kernel_rfl⟩
def fs20 (N:Nat):List (FE D):=⟨dzbZ,FzbZ N⟩::fs19 N
theorem qyG (N:Nat):∀y∈fs20 N,CallOk X0 y.d y.F:=all_cons (x:=⟨dzbZ,FzbZ N⟩) (ozbZ N) (qyF N)
def X20 (N:Nat):Ev Try.prog D:=X0.with (fs20 N)
theorem qzo (N:Nat):COk (X20 N):=COk.of (qyG N)
def qok (N:Nat):List (Pc D):=[]
theorem qjd (N:Nat):∀u∈qok N,PcOk (X20 N) (qab Try.f18) u:=qam
def PzaY_0:PD D:={path:=[1,1,1,0,1],ins:=[.v 0 (.int .i64), .v 1 (.int .i64), .v 11 .bool],fx:=[],ks:=[],exs:=[⟨.normal,[.v 0 (.int .i64)],[]⟩],keep:=[]}
def qty (N:Nat):PzaY_0.F:=fun x=>qx9 N x.1 x.2.1 x.2.2.1
theorem qAq (N:Nat):CC (X20 N) (qab Try.f18) PzaY_0 (qty N):=CC.of (qzo N) (us:=qok N) (fun u h _=>qjd N u h) (fun x=>by kernel_rfl)
def qvV (N:Nat):List (Pc D):=PzaY_0.pc (X20 N) (qty N)::qok N
theorem qrd (N:Nat):∀u∈qvV N,PcOk (X20 N) (qab Try.f18) u:=qac ((qAq N).pc (by kernel_rfl)) (qjd N)
def dzaY:FD D:={f:=18,np:=2,ins:=[.v 0 (.int .i64), .v 1 (.int .i64)],fx:=[],rcv:=none,rk:=0,outs:=[.v 4 (.int .i64)],ofx:=[],rvs:=[.tmp 4],flat:=true}
def FzaY (N:Nat):dzaY.F:=fun r x=>zaY N x.1 x.2.1
theorem ozaY (N:Nat):FOk Try.prog (X20 N) dzaY (FzaY N):=⟨⟨Try.f18,_,Try.func18,rfl,by kernel_rfl,by kernel_rfl,rfl,FC.of (qzo N) (us:=qvV N) (fun u h _=>qrd N u h) (fun r x=>by kernel_rfl)⟩,by kernel_rfl,by kernel_rfl,by kernel_rfl,by kernel_rfl⟩
def fs21 (N:Nat):List (FE D):=⟨dzaY,FzaY N⟩::fs20 N
theorem qyH (N:Nat):∀y∈fs21 N,CallOk X0 y.d y.F:=all_cons (x:=⟨dzaY,FzaY N⟩) (ozaY N) (qyG N)
def X21 (N:Nat):Ev Try.prog D:=X0.with (fs21 N)
theorem qzp (N:Nat):COk (X21 N):=COk.of (qyH N)
def qox (N:Nat):List (Pc D):=[]
theorem qjq (N:Nat):∀u∈qox N,PcOk (X21 N) (qab Try.f67) u:=qam
def PzbV_0:PD D:={path:=[1,0,1,0,0,1],ins:=[.o 1 (.box 53), .v 4 (.int .i64), .v 5 .bool],fx:=[(1, .box 0 0)],ks:=[1],exs:=[⟨.normal,[.v 5 .bool],[]⟩],keep:=[1,4]}
def qt3 (N:Nat):PzbV_0.F:=fun x=>qyg N x.2.1 x.2.2.1
theorem qAV (N:Nat):CC (X21 N) (qab Try.f67) PzbV_0 (qt3 N):=CC.of (qzp N) (us:=qox N) (fun u h _=>qjq N u h) (fun x=>by kernel_rfl)
def qv8 (N:Nat):List (Pc D):=PzbV_0.pc (X21 N) (qt3 N)::qox N
theorem qrq (N:Nat):∀u∈qv8 N,PcOk (X21 N) (qab Try.f67) u:=qac ((qAV N).pc (by kernel_rfl)) (qjq N)
def dzbV:FD D:={f:=67,np:=1,ins:=[.v 0 (.agg 53)],fx:=[],rcv:=none,rk:=0,outs:=[.o 2 (.sl 3)],ofx:=[(2, .c (.own 0))],rvs:=[.tmp 2],flat:=false}
def FzbV (N:Nat):dzbV.F:=fun r x=>zbV N x.1
theorem ozbV (N:Nat):FOk Try.prog (X21 N) dzbV (FzbV N):=⟨⟨Try.f67,_,Try.func67,rfl,by kernel_rfl,by kernel_rfl,rfl,FC.of (qzp N) (us:=qv8 N) (fun u h _=>qrq N u h) (fun r x=>by kernel_rfl)⟩,by kernel_rfl,by kernel_rfl,by kernel_rfl,by kernel_rfl⟩
def fs22 (N:Nat):List (FE D):=⟨dzbV,FzbV N⟩::fs21 N
theorem qyI (N:Nat):∀y∈fs22 N,CallOk X0 y.d y.F:=all_cons (x:=⟨dzbV,FzbV N⟩) (ozbV N) (qyH N)
def X22 (N:Nat):Ev Try.prog D:=X0.with (fs22 N)
theorem qqg (N:Nat):COk (X22 N):=COk.of (qyI N)
def qoy (N:Nat):List (Pc D):=[]
theorem qjr (N:Nat):∀u∈qoy N,PcOk (X22 N) (qab Try.f92) u:=qam
def PzbW_0:PD D:={path:=[1,0,0],ins:=[.v 0 .str],fx:=[],ks:=[],exs:=[⟨.normal,[.v 11 .bool],[]⟩],keep:=[0]}
def qt4 (N:Nat):PzbW_0.F:=fun x=>qyh N x.1
theorem qAW (N:Nat):CC (X22 N) (qab Try.f92) PzbW_0 (qt4 N):=CC.of (qqg N) (us:=qoy N) (fun u h _=>qjr N u h) (fun x=>by kernel_rfl)
def qpD (N:Nat):List (Pc D):=PzbW_0.pc (X22 N) (qt4 N)::qoy N
theorem qkw (N:Nat):∀u∈qpD N,PcOk (X22 N) (qab Try.f92) u:=qac ((qAW N).pc (by kernel_rfl)) (qjr N)
def PzbW_2:PD D:={path:=[1,1,0,1,0,0,1,1,0,0,1,0],ins:=[.v 0 .str, .v 3 (.int .i64)],fx:=[],ks:=[],exs:=[⟨.normal,[.v 38 .bool],[]⟩],keep:=[0,13,14]}
def qt6 (N:Nat):PzbW_2.F:=fun x=>qsA N x.1 x.2.1
theorem qAY (N:Nat):CC (X22 N) (qab Try.f92) PzbW_2 (qt6 N):=CC.of (qqg N) (us:=qpD N) (fun u h _=>qkw N u h) (fun x=>by kernel_rfl)
def qpE (N:Nat):List (Pc D):=PzbW_2.pc (X22 N) (qt6 N)::qpD N
theorem qkx (N:Nat):∀u∈qpE N,PcOk (X22 N) (qab Try.f92) u:=qac ((qAY N).pc (by kernel_rfl)) (qkw N)
def PzbW_1:PD D:={path:=[1,1,0,1,0],ins:=[.v 0 .str, .v 13 (.int .i64), .v 14 (.int .i64)],fx:=[],ks:=[],exs:=[⟨.exit 0,[],[]⟩,⟨.ret,[.v 2 .bool],[]⟩],keep:=[]}
def qt5 (N:Nat) (n:Nat):PzbW_1.F:=fun x=>qhp N x.1 x.2.1 n x.2.2.1
theorem qAX (N:Nat) (n:Nat):CC (X22 N) (qab Try.f92) PzbW_1 (qt5 N n):=CC.loop (qqg N) (us:=qpE N) (c:=sub (qab Try.f92) [1,1,0,1,0,0]) (by kernel_rfl) (by kernel_rfl) (fun u h _=>qkx N u h) (fun x=>rfl) (fun n x=>by kernel_rfl) n
def qv9 (N:Nat):List (Pc D):=PzbW_1.pc (X22 N) (qt5 N N)::qpE N
theorem qrr (N:Nat):∀u∈qv9 N,PcOk (X22 N) (qab Try.f92) u:=qac ((qAX N N).pc (by kernel_rfl)) (qkx N)
def dzbW:FD D:={f:=92,np:=1,ins:=[.v 0 .str],fx:=[],rcv:=none,rk:=0,outs:=[.v 2 .bool],ofx:=[],rvs:=[.tmp 2],flat:=true}
def FzbW (N:Nat):dzbW.F:=fun r x=>zbW N x.1
theorem ozbW (N:Nat):FOk Try.prog (X22 N) dzbW (FzbW N):=⟨⟨Try.f92,_,Try.func92,rfl,by kernel_rfl,by kernel_rfl,rfl,FC.of (qqg N) (us:=qv9 N) (fun u h _=>qrr N u h) (fun r x=>by kernel_rfl)⟩,by kernel_rfl,by kernel_rfl,by kernel_rfl,by kernel_rfl⟩
def fs23 (N:Nat):List (FE D):=⟨dzbW,FzbW N⟩::fs22 N
theorem qyJ (N:Nat):∀y∈fs23 N,CallOk X0 y.d y.F:=all_cons (x:=⟨dzbW,FzbW N⟩) (ozbW N) (qyI N)
def X23 (N:Nat):Ev Try.prog D:=X0.with (fs23 N)
theorem qeK (N:Nat):COk (X23 N):=COk.of (qyJ N)
def qoh (N:Nat):List (Pc D):=[]
theorem qja (N:Nat):∀u∈qoh N,PcOk (X23 N) (qab Try.f82) u:=qam
def PzaV_0:PD D:={path:=[1,1,0,0],ins:=[.o 1 (.box 53), .o 3 (.sl 3)],fx:=[(1, .box 0 0),(3, .c (.own 1))],ks:=[1,1],exs:=[⟨.normal,[.v 17 .bool],[]⟩],keep:=[1,3]}
def qtk (N:Nat):PzaV_0.F:=fun x=>qx0 N x.1 x.2.1
theorem qAc (N:Nat):CC (X23 N) (qab Try.f82) PzaV_0 (qtk N):=CC.of (qeK N) (us:=qoh N) (fun u h _=>qja N u h) (fun x=>by kernel_rfl)
def qpa (N:Nat):List (Pc D):=PzaV_0.pc (X23 N) (qtk N)::qoh N
theorem qj3 (N:Nat):∀u∈qpa N,PcOk (X23 N) (qab Try.f82) u:=qac ((qAc N).pc (by kernel_rfl)) (qja N)
def PzaV_2:PD D:={path:=[1,1,1,0,1,0,0,1,1,0,0,1,0,0],ins:=[.o 1 (.box 53), .v 5 (.int .i64)],fx:=[(1, .box 0 0)],ks:=[1],exs:=[⟨.normal,[.v 30 .bool],[]⟩],keep:=[1,3,4,5,18,19,20]}
def qtm (N:Nat):PzaV_2.F:=fun x=>qx1 N x.2.1
theorem qAe (N:Nat):CC (X23 N) (qab Try.f82) PzaV_2 (qtm N):=CC.of (qeK N) (us:=qpa N) (fun u h _=>qj3 N u h) (fun x=>by kernel_rfl)
def qpc (N:Nat):List (Pc D):=PzaV_2.pc (X23 N) (qtm N)::qpa N
theorem qj5 (N:Nat):∀u∈qpc N,PcOk (X23 N) (qab Try.f82) u:=qac ((qAe N).pc (by kernel_rfl)) (qj3 N)
def PzaV_3:PD D:={path:=[1,1,1,0,1,0,0,1,1,0,0,1,1,1,0],ins:=[.o 1 (.box 53), .v 5 (.int .i64), .v 33 (.sl 3), .v 34 (.int .i64), .v 35 (.int .i64)],fx:=[(1, .box 0 0)],ks:=[1],exs:=[⟨.exit 2,[],[]⟩,⟨.ret,[.v 2 .bool],[]⟩],keep:=[1,3,18,19,20]}
def qtn (N:Nat) (n:Nat):PzaV_3.F:=fun x=>qgr N x.2.1 x.2.2.1 x.2.2.2.1 n x.2.2.2.2.1
theorem qAf (N:Nat) (n:Nat):CC (X23 N) (qab Try.f82) PzaV_3 (qtn N n):=CC.loop (qeK N) (us:=qpc N) (c:=sub (qab Try.f82) [1,1,1,0,1,0,0,1,1,0,0,1,1,1,0,0]) (by kernel_rfl) (by kernel_rfl) (fun u h _=>qj5 N u h) (fun x=>rfl) (fun n x=>by kernel_rfl) n
def qpd (N:Nat):List (Pc D):=PzaV_3.pc (X23 N) (qtn N N)::qpc N
theorem qj6 (N:Nat):∀u∈qpd N,PcOk (X23 N) (qab Try.f82) u:=qac ((qAf N N).pc (by kernel_rfl)) (qj5 N)
def PzaV_1:PD D:={path:=[1,1,1,0,1,0],ins:=[.o 1 (.box 53), .v 3 (.sl 3), .v 18 (.sl 3), .v 19 (.int .i64), .v 20 (.int .i64)],fx:=[(1, .box 0 0)],ks:=[1],exs:=[⟨.exit 0,[],[]⟩,⟨.ret,[.v 2 .bool],[]⟩],keep:=[1]}
def qtl (N:Nat) (n:Nat):PzaV_1.F:=fun x=>qgq N x.2.1 x.2.2.1 x.2.2.2.1 n x.2.2.2.2.1
theorem qAd (N:Nat) (n:Nat):CC (X23 N) (qab Try.f82) PzaV_1 (qtl N n):=CC.loop (qeK N) (us:=qpd N) (c:=sub (qab Try.f82) [1,1,1,0,1,0,0]) (by kernel_rfl) (by kernel_rfl) (fun u h _=>qj6 N u h) (fun x=>rfl) (fun n x=>by kernel_rfl) n
def qpb (N:Nat):List (Pc D):=PzaV_1.pc (X23 N) (qtl N N)::qpd N
theorem qj4 (N:Nat):∀u∈qpb N,PcOk (X23 N) (qab Try.f82) u:=qac ((qAd N N).pc (by kernel_rfl)) (qj6 N)
def PzaV_4:PD D:={path:=[1,1,1,1,0,1,0,0],ins:=[.o 1 (.box 53)],fx:=[(1, .box 0 0)],ks:=[1],exs:=[⟨.normal,[.v 2 .bool],[]⟩],keep:=[]}
def qto (N:Nat):PzaV_4.F:=fun x=>qx2 N x.1
theorem qAg (N:Nat):CC (X23 N) (qab Try.f82) PzaV_4 (qto N):=CC.of (qeK N) (us:=qpb N) (fun u h _=>qj4 N u h) (fun x=>by kernel_rfl)
def qpe (N:Nat):List (Pc D):=PzaV_4.pc (X23 N) (qto N)::qpb N
theorem qj7 (N:Nat):∀u∈qpe N,PcOk (X23 N) (qab Try.f82) u:=qac ((qAg N).pc (by kernel_rfl)) (qj4 N)
def PzaV_5:PD D:={path:=[1,1,1,1,1,0],ins:=[.o 1 (.box 53)],fx:=[(1, .box 0 0)],ks:=[1],exs:=[⟨.normal,[.v 2 .bool],[]⟩],keep:=[]}
def qtp (N:Nat):PzaV_5.F:=fun x=>qx3 N x.1
theorem qAh (N:Nat):CC (X23 N) (qab Try.f82) PzaV_5 (qtp N):=CC.of (qeK N) (us:=qpe N) (fun u h _=>qj7 N u h) (fun x=>by kernel_rfl)
def qvS (N:Nat):List (Pc D):=PzaV_5.pc (X23 N) (qtp N)::qpe N
theorem qra (N:Nat):∀u∈qvS N,PcOk (X23 N) (qab Try.f82) u:=qac ((qAh N).pc (by kernel_rfl)) (qj7 N)
def dzaV:FD D:={f:=82,np:=1,ins:=[.v 0 (.agg 53)],fx:=[],rcv:=none,rk:=0,outs:=[.v 2 .bool],ofx:=[],rvs:=[.tmp 2],flat:=true}
def FzaV (N:Nat):dzaV.F:=fun r x=>zaV N x.1
theorem ozaV (N:Nat):FOk Try.prog (X23 N) dzaV (FzaV N):=⟨⟨Try.f82,_,Try.func82,rfl,by kernel_rfl,by kernel_rfl,rfl,FC.of (qeK N) (us:=qvS N) (fun u h _=>qra N u h) (fun r x=>by kernel_rfl)⟩,by kernel_rfl,by kernel_rfl,by kernel_rfl,by kernel_rfl⟩
theorem nzaV (N:Nat):CallOk X0 dzaV (FzaV N):=(ozaV N).call.base
def qob (N:Nat):List (Pc D):=[]
theorem qi4 (N:Nat):∀u∈qob N,PcOk (X23 N) (qab Try.f67) u:=qam
def PzaN_0:PD D:={path:=[1,0,1,0,0,1],ins:=[.o 1 (.box 53), .v 4 (.int .i64), .v 5 .bool],fx:=[(1, .box 0 0)],ks:=[1],exs:=[⟨.normal,[.v 5 .bool],[]⟩],keep:=[1,4]}
def qs4 (N:Nat):PzaN_0.F:=fun x=>qxW N x.2.1 x.2.2.1
theorem qzW (N:Nat):CC (X23 N) (qab Try.f67) PzaN_0 (qs4 N):=CC.of (qeK N) (us:=qob N) (fun u h _=>qi4 N u h) (fun x=>by kernel_rfl)
def qvL (N:Nat):List (Pc D):=PzaN_0.pc (X23 N) (qs4 N)::qob N
theorem qq3 (N:Nat):∀u∈qvL N,PcOk (X23 N) (qab Try.f67) u:=qac ((qzW N).pc (by kernel_rfl)) (qi4 N)
def dzaN:FD D:={f:=67,np:=1,ins:=[.v 0 (.agg 53)],fx:=[],rcv:=none,rk:=0,outs:=[],ofx:=[(2, .c .nilS)],rvs:=[.tmp 2],flat:=false}
def FzaN (N:Nat):dzaN.F:=fun r x=>zaN N x.1
theorem ozaN (N:Nat):FOk Try.prog (X23 N) dzaN (FzaN N):=⟨⟨Try.f67,_,Try.func67,rfl,by kernel_rfl,by kernel_rfl,rfl,FC.of (qeK N) (us:=qvL N) (fun u h _=>qq3 N u h) (fun r x=>by kernel_rfl)⟩,by kernel_rfl,by kernel_rfl,by kernel_rfl,by kernel_rfl⟩
theorem nzaN (N:Nat):CallOk X0 dzaN (FzaN N):=(ozaN N).call.base
def Y23 (N:Nat):Ev Try.prog D:=(X23 N).sub ⟨dzaN,FzaN N⟩
theorem qgO (N:Nat):COk (Y23 N):=COk.sub (qeK N) (nzaN N).up
def qog (N:Nat):List (Pc D):=[]
theorem qi9 (N:Nat):∀u∈qog N,PcOk (Y23 N) (qab Try.f82) u:=qam
def PzaU_0:PD D:={path:=[1,1,0,0],ins:=[.o 1 (.box 53)],fx:=[(1, .box 0 0),(3, .c .nilS)],ks:=[1],exs:=[⟨.normal,[.v 17 .bool],[]⟩],keep:=[1,3]}
def qtg (N:Nat):PzaU_0.F:=fun x=>qxZ N
theorem qz8 (N:Nat):CC (Y23 N) (qab Try.f82) PzaU_0 (qtg N):=CC.of (qgO N) (us:=qog N) (fun u h _=>qi9 N u h) (fun x=>by kernel_rfl)
def qo7 (N:Nat):List (Pc D):=PzaU_0.pc (Y23 N) (qtg N)::qog N
theorem qj0 (N:Nat):∀u∈qo7 N,PcOk (Y23 N) (qab Try.f82) u:=qac ((qz8 N).pc (by kernel_rfl)) (qi9 N)
def PzaU_1:PD D:={path:=[1,1,1,0,1,0],ins:=[.o 1 (.box 53), .v 19 (.int .i64), .v 20 (.int .i64)],fx:=[(1, .box 0 0),(3, .c .nilS),(18, .c .nilS)],ks:=[1],exs:=[⟨.exit 0,[],[]⟩],keep:=[1]}
def qth (N:Nat) (n:Nat):PzaU_1.F:=fun x=>qCV N x.2.1 n x.2.2.1
theorem qz9 (N:Nat) (n:Nat):CC (Y23 N) (qab Try.f82) PzaU_1 (qth N n):=CC.loop (qgO N) (us:=qo7 N) (c:=sub (qab Try.f82) [1,1,1,0,1,0,0]) (by kernel_rfl) (by kernel_rfl) (fun u h _=>qj0 N u h) (fun x=>rfl) (fun n x=>by kernel_rfl) n
def qo8 (N:Nat):List (Pc D):=PzaU_1.pc (Y23 N) (qth N N)::qo7 N
theorem qj1 (N:Nat):∀u∈qo8 N,PcOk (Y23 N) (qab Try.f82) u:=qac ((qz9 N N).pc (by kernel_rfl)) (qj0 N)
def PzaU_2:PD D:={path:=[1,1,1,1,0,1,0,0],ins:=[.o 1 (.box 53)],fx:=[(1, .box 0 0)],ks:=[1],exs:=[⟨.normal,[.v 2 .bool],[]⟩],keep:=[]}
def qti (N:Nat):PzaU_2.F:=fun x=>qCW N x.1
theorem qAa (N:Nat):CC (Y23 N) (qab Try.f82) PzaU_2 (qti N):=CC.of (qgO N) (us:=qo8 N) (fun u h _=>qj1 N u h) (fun x=>by kernel_rfl)
def qo9 (N:Nat):List (Pc D):=PzaU_2.pc (Y23 N) (qti N)::qo8 N
theorem qj2 (N:Nat):∀u∈qo9 N,PcOk (Y23 N) (qab Try.f82) u:=qac ((qAa N).pc (by kernel_rfl)) (qj1 N)
def PzaU_3:PD D:={path:=[1,1,1,1,1,0],ins:=[.o 1 (.box 53)],fx:=[(1, .box 0 0)],ks:=[1],exs:=[⟨.normal,[.v 2 .bool],[]⟩],keep:=[]}
def qtj (N:Nat):PzaU_3.F:=fun x=>qCX N x.1
theorem qAb (N:Nat):CC (Y23 N) (qab Try.f82) PzaU_3 (qtj N):=CC.of (qgO N) (us:=qo9 N) (fun u h _=>qj2 N u h) (fun x=>by kernel_rfl)
def qvR (N:Nat):List (Pc D):=PzaU_3.pc (Y23 N) (qtj N)::qo9 N
theorem qq9 (N:Nat):∀u∈qvR N,PcOk (Y23 N) (qab Try.f82) u:=qac ((qAb N).pc (by kernel_rfl)) (qj2 N)
def dzaU:FD D:={f:=82,np:=1,ins:=[.v 0 (.agg 53)],fx:=[],rcv:=none,rk:=0,outs:=[.v 2 .bool],ofx:=[],rvs:=[.tmp 2],flat:=true}
def FzaU (N:Nat):dzaU.F:=fun r x=>zaU N x.1
theorem ozaU (N:Nat):FOk Try.prog (Y23 N) dzaU (FzaU N):=⟨⟨Try.f82,_,Try.func82,rfl,by kernel_rfl,by kernel_rfl,rfl,FC.of (qgO N) (us:=qvR N) (fun u h _=>qq9 N u h) (fun r x=>by kernel_rfl)⟩,by kernel_rfl,by kernel_rfl,by kernel_rfl,by kernel_rfl⟩
theorem nzaU (N:Nat):CallOk X0 dzaU (FzaU N):=(ozaU N).call.sub.base
def dzbJ:FD D:=dzaV
def FzbJ (N:Nat):dzbJ.F:=fun r x=>orI (FzaU N r x) (FzaV N r x)
theorem wzbJ (N:Nat):CallOk X0 dzbJ (FzbJ N):=CallOk.or (F1:=FzaU N) (F2:=FzaV N) rfl (fun r x y h=>qCk h) (nzaU N) (nzaV N)
def fs24 (N:Nat):List (FE D):=⟨dzbJ,FzbJ N⟩::fs23 N
theorem qyK (N:Nat):∀y∈fs24 N,CallOk X0 y.d y.F:=qaq (x:=⟨dzbJ,FzbJ N⟩) (wzbJ N) (qyJ N)
def X24 (N:Nat):Ev Try.prog D:=X0.with (fs24 N)
theorem qwH (N:Nat):COk (X24 N):=COk.of (qyK N)
def qoq (N:Nat):List (Pc D):=[]
theorem qjj (N:Nat):∀u∈qoq N,PcOk (X24 N) (qab Try.f64) u:=qam
def PzbI_1:PD D:={path:=[1,1,1,1,0,1,0,0,1,1,0,0,1,1,1,1,1,0],ins:=[.o 3 (.map 122 9 4), .o 4 (.map 60 3 3), .o 31 (.sl 3), .v 32 (.int .i64), .v 33 (.int .i64)],fx:=[(3, .c (.own 0)),(4, .c (.own 1)),(31, .c (.own 2))],ks:=[1,2,1],exs:=[⟨.exit 2,[.u 1 (.map 60 3 3)],[]⟩,⟨.ret,[.v 2 (.int .i64)],[]⟩],keep:=[3,4,14,15,16]}
def qtV (N:Nat) (n:Nat):PzbI_1.F:=fun x=>qgu N x.2.2.1 x.2.2.2.1 n x.2.1 x.2.2.2.2.1
theorem qAN (N:Nat) (n:Nat):CC (X24 N) (qab Try.f64) PzbI_1 (qtV N n):=CC.loop (qwH N) (us:=qoq N) (c:=sub (qab Try.f64) [1,1,1,1,0,1,0,0,1,1,0,0,1,1,1,1,1,0,0]) (by kernel_rfl) (by kernel_rfl) (fun u h _=>qjj N u h) (fun x=>rfl) (fun n x=>by kernel_rfl) n
def qpB (N:Nat):List (Pc D):=PzbI_1.pc (X24 N) (qtV N N)::qoq N
theorem qku (N:Nat):∀u∈qpB N,PcOk (X24 N) (qab Try.f64) u:=qac ((qAN N N).pc (by kernel_rfl)) (qjj N)
def PzbI_0:PD D:={path:=[1,1,1,1,0,1,0],ins:=[.o 3 (.map 122 9 4), .o 4 (.map 60 3 3), .v 14 (.sl 53), .v 15 (.int .i64), .v 16 (.int .i64)],fx:=[(3, .c (.own 0)),(4, .c (.own 1))],ks:=[0,0],exs:=[⟨.exit 0,[],[]⟩,⟨.ret,[.v 2 (.int .i64)],[]⟩],keep:=[]}
def qtU (N:Nat) (n:Nat):PzbI_0.F:=fun x=>qlZ N x.2.2.1 x.2.2.2.1 n x.1 x.2.1 x.2.2.2.2.1
theorem qAM (N:Nat) (n:Nat):CC (X24 N) (qab Try.f64) PzbI_0 (qtU N n):=CC.loop (qwH N) (us:=qpB N) (c:=sub (qab Try.f64) [1,1,1,1,0,1,0,0]) (by kernel_rfl) (by kernel_rfl) (fun u h _=>qku N u h) (fun x=>rfl) (fun n x=>by kernel_rfl) n
def qv1 (N:Nat):List (Pc D):=PzbI_0.pc (X24 N) (qtU N N)::qpB N
theorem qrj (N:Nat):∀u∈qv1 N,PcOk (X24 N) (qab Try.f64) u:=qac ((qAM N N).pc (by kernel_rfl)) (qku N)
def dzbI:FD D:={f:=64,np:=1,ins:=[.v 0 (.sl 53)],fx:=[],rcv:=none,rk:=0,outs:=[.v 2 (.int .i64)],ofx:=[],rvs:=[.tmp 2],flat:=true}
def FzbI (N:Nat):dzbI.F:=fun r x=>zbI N x.1
theorem ozbI (N:Nat):FOk Try.prog (X24 N) dzbI (FzbI N):=⟨⟨Try.f64,_,Try.func64,rfl,by kernel_rfl,by kernel_rfl,rfl,FC.of (qwH N) (us:=qv1 N) (fun u h _=>qrj N u h) (fun r x=>by kernel_rfl)⟩,by kernel_rfl,by kernel_rfl,by kernel_rfl,by kernel_rfl⟩
def fs25 (N:Nat):List (FE D):=⟨dzbI,FzbI N⟩::fs24 N
theorem qyL (N:Nat):∀y∈fs25 N,CallOk X0 y.d y.F:=all_cons (x:=⟨dzbI,FzbI N⟩) (ozbI N) (qyK N)
def X25 (N:Nat):Ev Try.prog D:=X0.with (fs25 N)
theorem qzq (N:Nat):COk (X25 N):=COk.of (qyL N)
def qos (N:Nat):List (Pc D):=[]
theorem qjl (N:Nat):∀u∈qos N,PcOk (X25 N) (qab Try.f83) u:=qam
def PzbO_0:PD D:={path:=[1,0],ins:=[.v 0 (.sl 53), .v 1 (.int .i64)],fx:=[],ks:=[],exs:=[⟨.normal,[.v 4 .bool],[]⟩],keep:=[]}
def qtX (N:Nat):PzbO_0.F:=fun x=>qsy N x.1 x.2.1
theorem qAP (N:Nat):CC (X25 N) (qab Try.f83) PzbO_0 (qtX N):=CC.of (qzq N) (us:=qos N) (fun u h _=>qjl N u h) (fun x=>by kernel_rfl)
def qv3 (N:Nat):List (Pc D):=PzbO_0.pc (X25 N) (qtX N)::qos N
theorem qrl (N:Nat):∀u∈qv3 N,PcOk (X25 N) (qab Try.f83) u:=qac ((qAP N).pc (by kernel_rfl)) (qjl N)
def dzbO:FD D:={f:=83,np:=2,ins:=[.v 0 (.sl 53), .v 1 (.int .i64)],fx:=[],rcv:=none,rk:=0,outs:=[.v 4 .bool],ofx:=[],rvs:=[.tmp 4],flat:=true}
def FzbO (N:Nat):dzbO.F:=fun r x=>zbO N x.1 x.2.1
theorem ozbO (N:Nat):FOk Try.prog (X25 N) dzbO (FzbO N):=⟨⟨Try.f83,_,Try.func83,rfl,by kernel_rfl,by kernel_rfl,rfl,FC.of (qzq N) (us:=qv3 N) (fun u h _=>qrl N u h) (fun r x=>by kernel_rfl)⟩,by kernel_rfl,by kernel_rfl,by kernel_rfl,by kernel_rfl⟩
def fs26 (N:Nat):List (FE D):=⟨dzbO,FzbO N⟩::fs25 N
theorem qyM (N:Nat):∀y∈fs26 N,CallOk X0 y.d y.F:=all_cons (x:=⟨dzbO,FzbO N⟩) (ozbO N) (qyL N)
def X26 (N:Nat):Ev Try.prog D:=X0.with (fs26 N)
theorem qzr (N:Nat):COk (X26 N):=COk.of (qyM N)
def qow (N:Nat):List (Pc D):=[]
theorem qjp (N:Nat):∀u∈qow N,PcOk (X26 N) (qab Try.f85) u:=qam
def PzbU_0:PD D:={path:=[1,0,0],ins:=[.v 0 (.sl 53), .v 1 (.int .i64)],fx:=[],ks:=[],exs:=[⟨.normal,[.v 12 .bool],[]⟩],keep:=[0,1]}
def qt2 (N:Nat):PzbU_0.F:=fun x=>qyf N x.1 x.2.1
theorem qAU (N:Nat):CC (X26 N) (qab Try.f85) PzbU_0 (qt2 N):=CC.of (qzr N) (us:=qow N) (fun u h _=>qjp N u h) (fun x=>by kernel_rfl)
def qv7 (N:Nat):List (Pc D):=PzbU_0.pc (X26 N) (qt2 N)::qow N
theorem qrp (N:Nat):∀u∈qv7 N,PcOk (X26 N) (qab Try.f85) u:=qac ((qAU N).pc (by kernel_rfl)) (qjp N)
def dzbU:FD D:={f:=85,np:=2,ins:=[.v 0 (.sl 53), .v 1 (.int .i64)],fx:=[],rcv:=none,rk:=0,outs:=[.o 4 (.sl 3)],ofx:=[(4, .c (.own 0))],rvs:=[.tmp 4],flat:=false}
def FzbU (N:Nat):dzbU.F:=fun r x=>zbU N x.1 x.2.1
theorem ozbU (N:Nat):FOk Try.prog (X26 N) dzbU (FzbU N):=⟨⟨Try.f85,_,Try.func85,rfl,by kernel_rfl,by kernel_rfl,rfl,FC.of (qzr N) (us:=qv7 N) (fun u h _=>qrp N u h) (fun r x=>by kernel_rfl)⟩,by kernel_rfl,by kernel_rfl,by kernel_rfl,by kernel_rfl⟩
def fs27 (N:Nat):List (FE D):=⟨dzbU,FzbU N⟩::fs26 N
theorem qyN (N:Nat):∀y∈fs27 N,CallOk X0 y.d y.F:=all_cons (x:=⟨dzbU,FzbU N⟩) (ozbU N) (qyM N)
def X27 (N:Nat):Ev Try.prog D:=X0.with (fs27 N)
theorem qzs (N:Nat):COk (X27 N):=COk.of (qyN N)
def qn4 (N:Nat):List (Pc D):=[]
theorem qiX (N:Nat):∀u∈qn4 N,PcOk (X27 N) (qab Try.f93) u:=qam
def PzaC_0:PD D:={path:=[1,0,1,0],ins:=[.v 0 (.sl 3), .v 1 (.int .i64), .v 7 (.int .i64), .v 8 (.int .i64)],fx:=[],ks:=[],exs:=[⟨.exit 0,[],[]⟩,⟨.ret,[.v 4 (.int .i64)],[]⟩],keep:=[]}
def qsO (N:Nat) (n:Nat):PzaC_0.F:=fun x=>qhm N x.1 x.2.1 x.2.2.1 n x.2.2.2.1
theorem qzG (N:Nat) (n:Nat):CC (X27 N) (qab Try.f93) PzaC_0 (qsO N n):=CC.loop (qzs N) (us:=qn4 N) (c:=sub (qab Try.f93) [1,0,1,0,0]) (by kernel_rfl) (by kernel_rfl) (fun u h _=>qiX N u h) (fun x=>rfl) (fun n x=>by kernel_rfl) n
def qvE (N:Nat):List (Pc D):=PzaC_0.pc (X27 N) (qsO N N)::qn4 N
theorem qqW (N:Nat):∀u∈qvE N,PcOk (X27 N) (qab Try.f93) u:=qac ((qzG N N).pc (by kernel_rfl)) (qiX N)
def dzaC:FD D:={f:=93,np:=2,ins:=[.v 0 (.sl 3), .v 1 (.int .i64)],fx:=[],rcv:=none,rk:=0,outs:=[.v 4 (.int .i64)],ofx:=[],rvs:=[.tmp 4],flat:=true}
def FzaC (N:Nat):dzaC.F:=fun r x=>zaC N x.1 x.2.1
theorem ozaC (N:Nat):FOk Try.prog (X27 N) dzaC (FzaC N):=⟨⟨Try.f93,_,Try.func93,rfl,by kernel_rfl,by kernel_rfl,rfl,FC.of (qzs N) (us:=qvE N) (fun u h _=>qqW N u h) (fun r x=>by kernel_rfl)⟩,by kernel_rfl,by kernel_rfl,by kernel_rfl,by kernel_rfl⟩
def fs28 (N:Nat):List (FE D):=⟨dzaC,FzaC N⟩::fs27 N
theorem qyO (N:Nat):∀y∈fs28 N,CallOk X0 y.d y.F:=all_cons (x:=⟨dzaC,FzaC N⟩) (ozaC N) (qyN N)
def X28 (N:Nat):Ev Try.prog D:=X0.with (fs28 N)
theorem qDo (N:Nat):COk (X28 N):=COk.of (qyO N)
def qvt (N:Nat):List (Pc D):=[]
theorem qqM (N:Nat):∀u∈qvt N,PcOk (X28 N) (qab Try.f84) u:=qam
def dzaA:FD D:={f:=84,np:=2,ins:=[.v 0 (.sl 3), .v 1 (.int .i64)],fx:=[],rcv:=none,rk:=0,outs:=[.v 4 .bool],ofx:=[],rvs:=[.tmp 4],flat:=true}
def FzaA (N:Nat):dzaA.F:=fun r x=>zaA N x.1 x.2.1
theorem ozaA (N:Nat):FOk Try.prog (X28 N) dzaA (FzaA N):=⟨⟨Try.f84,_,Try.func84,rfl,by kernel_rfl,by kernel_rfl,rfl,FC.of (qDo N) (us:=qvt N) (fun u h _=>qqM N u h) (fun r x=>by kernel_rfl)⟩,by kernel_rfl,by kernel_rfl,by kernel_rfl,by kernel_rfl⟩
def fs29 (N:Nat):List (FE D):=⟨dzaA,FzaA N⟩::fs28 N
theorem qyP (N:Nat):∀y∈fs29 N,CallOk X0 y.d y.F:=all_cons (x:=⟨dzaA,FzaA N⟩) (ozaA N) (qyO N)
def X29 (N:Nat):Ev Try.prog D:=X0.with (fs29 N)
theorem qqh (N:Nat):COk (X29 N):=COk.of (qyP N)
def qn8 (N:Nat):List (Pc D):=[]
theorem qi1 (N:Nat):∀u∈qn8 N,PcOk (X29 N) (qab Try.f38) u:=qam
def PzaJ_2:PD D:={path:=[1,0,1,0,0,1,1,0,0,1,1,1,0],ins:=[.v 2 (.int .i64), .v 7 (.int .i64), .o 22 (.sl 3), .v 23 (.int .i64), .v 24 (.int .i64)],fx:=[(22, .c (.own 0))],ks:=[1],exs:=[⟨.exit 2,[],[]⟩,⟨.ret,[.v 6 (.int .i64)],[]⟩],keep:=[1,2,11,12,13]}
def qsU (N:Nat) (n:Nat):PzaJ_2.F:=fun x=>qgp N x.1 x.2.1 x.2.2.1 x.2.2.2.1 n x.2.2.2.2.1
theorem qzM (N:Nat) (n:Nat):CC (X29 N) (qab Try.f38) PzaJ_2 (qsU N n):=CC.loop (qqh N) (us:=qn8 N) (c:=sub (qab Try.f38) [1,0,1,0,0,1,1,0,0,1,1,1,0,0]) (by kernel_rfl) (by kernel_rfl) (fun u h _=>qi1 N u h) (fun x=>rfl) (fun n x=>by kernel_rfl) n
def qoT (N:Nat):List (Pc D):=PzaJ_2.pc (X29 N) (qsU N N)::qn8 N
theorem qjM (N:Nat):∀u∈qoT N,PcOk (X29 N) (qab Try.f38) u:=qac ((qzM N N).pc (by kernel_rfl)) (qi1 N)
def PzaJ_1:PD D:={path:=[1,0,1,0,0,1,1,0],ins:=[.v 1 (.int .i64), .v 2 (.int .i64), .v 11 (.sl 53), .v 13 (.int .i64)],fx:=[],ks:=[],exs:=[⟨.normal,[],[]⟩,⟨.ret,[.v 6 (.int .i64)],[]⟩],keep:=[1,2,11,12,13]}
def qsT (N:Nat):PzaJ_1.F:=fun x=>qxU N x.1 x.2.1 x.2.2.1 x.2.2.2.1
theorem qzL (N:Nat):CC (X29 N) (qab Try.f38) PzaJ_1 (qsT N):=CC.of (qqh N) (us:=qoT N) (fun u h _=>qjM N u h) (fun x=>by kernel_rfl)
def qoS (N:Nat):List (Pc D):=PzaJ_1.pc (X29 N) (qsT N)::qoT N
theorem qjL (N:Nat):∀u∈qoS N,PcOk (X29 N) (qab Try.f38) u:=qac ((qzL N).pc (by kernel_rfl)) (qjM N)
def PzaJ_0:PD D:={path:=[1,0,1,0],ins:=[.v 1 (.int .i64), .v 2 (.int .i64), .v 11 (.sl 53), .v 12 (.int .i64), .v 13 (.int .i64)],fx:=[],ks:=[],exs:=[⟨.exit 0,[],[]⟩,⟨.ret,[.v 6 (.int .i64)],[]⟩],keep:=[]}
def qsS (N:Nat) (n:Nat):PzaJ_0.F:=fun x=>qhn N x.1 x.2.1 x.2.2.1 x.2.2.2.1 n x.2.2.2.2.1
theorem qzK (N:Nat) (n:Nat):CC (X29 N) (qab Try.f38) PzaJ_0 (qsS N n):=CC.loop (qqh N) (us:=qoS N) (c:=sub (qab Try.f38) [1,0,1,0,0]) (by kernel_rfl) (by kernel_rfl) (fun u h _=>qjL N u h) (fun x=>rfl) (fun n x=>by kernel_rfl) n
def qvI (N:Nat):List (Pc D):=PzaJ_0.pc (X29 N) (qsS N N)::qoS N
theorem qq0 (N:Nat):∀u∈qvI N,PcOk (X29 N) (qab Try.f38) u:=qac ((qzK N N).pc (by kernel_rfl)) (qjL N)
def dzaJ:FD D:={f:=38,np:=3,ins:=[.v 0 (.sl 53), .v 1 (.int .i64), .v 2 (.int .i64)],fx:=[],rcv:=none,rk:=0,outs:=[.v 6 (.int .i64)],ofx:=[],rvs:=[.tmp 6],flat:=true}
def FzaJ (N:Nat):dzaJ.F:=fun r x=>zaJ N x.1 x.2.1 x.2.2.1
theorem ozaJ (N:Nat):FOk Try.prog (X29 N) dzaJ (FzaJ N):=⟨⟨Try.f38,_,Try.func38,rfl,by kernel_rfl,by kernel_rfl,rfl,FC.of (qqh N) (us:=qvI N) (fun u h _=>qq0 N u h) (fun r x=>by kernel_rfl)⟩,by kernel_rfl,by kernel_rfl,by kernel_rfl,by kernel_rfl⟩
def fs30 (N:Nat):List (FE D):=⟨dzaJ,FzaJ N⟩::fs29 N
theorem qyQ (N:Nat):∀y∈fs30 N,CallOk X0 y.d y.F:=all_cons (x:=⟨dzaJ,FzaJ N⟩) (ozaJ N) (qyP N)
def X30 (N:Nat):Ev Try.prog D:=X0.with (fs30 N)
theorem qzt (N:Nat):COk (X30 N):=COk.of (qyQ N)
def qof (N:Nat):List (Pc D):=[]
theorem qi8 (N:Nat):∀u∈qof N,PcOk (X30 N) (qab Try.f68) u:=qam
def PzaT_0:PD D:={path:=[1,1,0,1,0],ins:=[.v 2 (.int .i64), .o 7 (.sl 3), .v 14 (.int .i64), .v 15 (.int .i64)],fx:=[(7, .c (.own 0)),(13, .c (.own 0))],ks:=[0],exs:=[⟨.exit 0,[],[]⟩,⟨.ret,[.v 6 (.sl 3)],[]⟩],keep:=[]}
def qtf (N:Nat) (n:Nat):PzaT_0.F:=fun x=>qcz N x.1 x.2.2.1 n x.2.1 x.2.2.2.1
theorem qz7 (N:Nat) (n:Nat):CC (X30 N) (qab Try.f68) PzaT_0 (qtf N n):=CC.loop (qzt N) (us:=qof N) (c:=sub (qab Try.f68) [1,1,0,1,0,0]) (by kernel_rfl) (by kernel_rfl) (fun u h _=>qi8 N u h) (fun x=>rfl) (fun n x=>by kernel_rfl) n
def qvQ (N:Nat):List (Pc D):=PzaT_0.pc (X30 N) (qtf N N)::qof N
theorem qq8 (N:Nat):∀u∈qvQ N,PcOk (X30 N) (qab Try.f68) u:=qac ((qz7 N N).pc (by kernel_rfl)) (qi8 N)
def dzaT:FD D:={f:=68,np:=3,ins:=[.v 0 (.sl 53), .v 1 (.int .i64), .v 2 (.int .i64)],fx:=[],rcv:=none,rk:=0,outs:=[.v 6 (.sl 3)],ofx:=[],rvs:=[.tmp 6],flat:=false}
def FzaT (N:Nat):dzaT.F:=fun r x=>zaT N x.1 x.2.1 x.2.2.1
theorem ozaT (N:Nat):FOk Try.prog (X30 N) dzaT (FzaT N):=⟨⟨Try.f68,_,Try.func68,rfl,by kernel_rfl,by kernel_rfl,rfl,FC.of (qzt N) (us:=qvQ N) (fun u h _=>qq8 N u h) (fun r x=>by kernel_rfl)⟩,by kernel_rfl,by kernel_rfl,by kernel_rfl,by kernel_rfl⟩
def fs31 (N:Nat):List (FE D):=⟨dzaT,FzaT N⟩::fs30 N
theorem qyR (N:Nat):∀y∈fs31 N,CallOk X0 y.d y.F:=all_cons (x:=⟨dzaT,FzaT N⟩) (ozaT N) (qyQ N)
def X31 (N:Nat):Ev Try.prog D:=X0.with (fs31 N)
theorem qlv (N:Nat):COk (X31 N):=COk.of (qyR N)
def qoF (N:Nat):List (Pc D):=[]
theorem qjy (N:Nat):∀u∈qoF N,PcOk (X31 N) (qab Try.f65) u:=qam
def PzcG_0:PD D:={path:=[1,1,0,0],ins:=[.v 0 (.sl 53), .v 1 (.sl 70), .v 5 (.int .i64)],fx:=[],ks:=[],exs:=[⟨.normal,[.v 47 .bool],[]⟩],keep:=[0,1,5]}
def qur (N:Nat):PzcG_0.F:=fun x=>ql1 N x.1 x.2.1 x.2.2.1
theorem qBi (N:Nat):CC (X31 N) (qab Try.f65) PzcG_0 (qur N):=CC.of (qlv N) (us:=qoF N) (fun u h _=>qjy N u h) (fun x=>by kernel_rfl)
def qpS (N:Nat):List (Pc D):=PzcG_0.pc (X31 N) (qur N)::qoF N
theorem qkL (N:Nat):∀u∈qpS N,PcOk (X31 N) (qab Try.f65) u:=qac ((qBi N).pc (by kernel_rfl)) (qjy N)
def PzcG_1:PD D:={path:=[1,1,1,0,0],ins:=[.v 0 (.sl 53), .v 1 (.sl 70), .v 5 (.int .i64)],fx:=[],ks:=[],exs:=[⟨.normal,[.v 75 .bool],[]⟩],keep:=[0,1,5]}
def qus (N:Nat):PzcG_1.F:=fun x=>qsF N x.1 x.2.1 x.2.2.1
theorem qBj (N:Nat):CC (X31 N) (qab Try.f65) PzcG_1 (qus N):=CC.of (qlv N) (us:=qpS N) (fun u h _=>qkL N u h) (fun x=>by kernel_rfl)
def qpT (N:Nat):List (Pc D):=PzcG_1.pc (X31 N) (qus N)::qpS N
theorem qkM (N:Nat):∀u∈qpT N,PcOk (X31 N) (qab Try.f65) u:=qac ((qBj N).pc (by kernel_rfl)) (qkL N)
def PzcG_3:PD D:={path:=[1,1,1,1,0,1,0,0,1,1,0,0,1,1,0,0],ins:=[.v 0 (.sl 53), .o 7 (.box 70), .o 8 (.box 70)],fx:=[(7, .box 0 0),(8, .box 1 0)],ks:=[1,1],exs:=[⟨.normal,[.v 108 .bool],[]⟩],keep:=[0,1,5,6,7,77,78,79]}
def quu (N:Nat):PzcG_3.F:=fun x=>qsG N x.1 x.2.1 x.2.2.1
theorem qBl (N:Nat):CC (X31 N) (qab Try.f65) PzcG_3 (quu N):=CC.of (qlv N) (us:=qpT N) (fun u h _=>qkM N u h) (fun x=>by kernel_rfl)
def qpU (N:Nat):List (Pc D):=PzcG_3.pc (X31 N) (quu N)::qpT N
theorem qkN (N:Nat):∀u∈qpU N,PcOk (X31 N) (qab Try.f65) u:=qac ((qBl N).pc (by kernel_rfl)) (qkM N)
def PzcG_4:PD D:={path:=[1,1,1,1,0,1,0,0,1,1,0,0,1,1,1,0],ins:=[.v 0 (.sl 53), .v 5 (.int .i64), .v 6 (.int .i64), .o 7 (.box 70)],fx:=[(7, .box 0 0)],ks:=[1],exs:=[⟨.normal,[.v 124 .bool],[]⟩],keep:=[0,1,5,77,78,79]}
def quv (N:Nat):PzcG_4.F:=fun x=>qsH N x.1 x.2.1 x.2.2.1 x.2.2.2.1
theorem qBm (N:Nat):CC (X31 N) (qab Try.f65) PzcG_4 (quv N):=CC.of (qlv N) (us:=qpU N) (fun u h _=>qkN N u h) (fun x=>by kernel_rfl)
def qpV (N:Nat):List (Pc D):=PzcG_4.pc (X31 N) (quv N)::qpU N
theorem qkO (N:Nat):∀u∈qpV N,PcOk (X31 N) (qab Try.f65) u:=qac ((qBm N).pc (by kernel_rfl)) (qkN N)
def PzcG_2:PD D:={path:=[1,1,1,1,0,1,0],ins:=[.v 0 (.sl 53), .v 1 (.sl 70), .v 5 (.int .i64), .v 77 (.sl 70), .v 78 (.int .i64), .v 79 (.int .i64)],fx:=[],ks:=[],exs:=[⟨.exit 0,[],[]⟩,⟨.ret,[.v 4 .bool],[]⟩],keep:=[]}
def qut (N:Nat) (n:Nat):PzcG_2.F:=fun x=>qht N x.1 x.2.1 x.2.2.1 x.2.2.2.1 x.2.2.2.2.1 n x.2.2.2.2.2.1
theorem qBk (N:Nat) (n:Nat):CC (X31 N) (qab Try.f65) PzcG_2 (qut N n):=CC.loop (qlv N) (us:=qpV N) (c:=sub (qab Try.f65) [1,1,1,1,0,1,0,0]) (by kernel_rfl) (by kernel_rfl) (fun u h _=>qkO N u h) (fun x=>rfl) (fun n x=>by kernel_rfl) n
def qwg (N:Nat):List (Pc D):=PzcG_2.pc (X31 N) (qut N N)::qpV N
theorem qry (N:Nat):∀u∈qwg N,PcOk (X31 N) (qab Try.f65) u:=qac ((qBk N N).pc (by kernel_rfl)) (qkO N)
def dzcG:FD D:={f:=65,np:=2,ins:=[.v 0 (.sl 53), .v 1 (.sl 70)],fx:=[],rcv:=none,rk:=0,outs:=[.v 4 .bool],ofx:=[],rvs:=[.tmp 4],flat:=true}
def FzcG (N:Nat):dzcG.F:=fun r x=>zcG N x.1 x.2.1
theorem ozcG (N:Nat):FOk Try.prog (X31 N) dzcG (FzcG N):=⟨⟨Try.f65,_,Try.func65,rfl,by kernel_rfl,by kernel_rfl,rfl,FC.of (qlv N) (us:=qwg N) (fun u h _=>qry N u h) (fun r x=>by kernel_rfl)⟩,by kernel_rfl,by kernel_rfl,by kernel_rfl,by kernel_rfl⟩
def fs32 (N:Nat):List (FE D):=⟨dzcG,FzcG N⟩::fs31 N
theorem qyS (N:Nat):∀y∈fs32 N,CallOk X0 y.d y.F:=all_cons (x:=⟨dzcG,FzcG N⟩) (ozcG N) (qyR N)
def X32 (N:Nat):Ev Try.prog D:=X0.with (fs32 N)
theorem qzu (N:Nat):COk (X32 N):=COk.of (qyS N)
def qot (N:Nat):List (Pc D):=[]
theorem qjm (N:Nat):∀u∈qot N,PcOk (X32 N) (qab Try.f66) u:=qam
def PzbP_0:PD D:={path:=[1,1,0,1,0],ins:=[.o 3 (.map 67 3 4), .v 7 (.sl 70), .v 8 (.int .i64), .v 9 (.int .i64)],fx:=[(3, .c (.own 0))],ks:=[0],exs:=[⟨.exit 0,[],[]⟩,⟨.ret,[.v 2 .bool],[]⟩],keep:=[]}
def qtY (N:Nat) (n:Nat):PzbP_0.F:=fun x=>qgv N x.2.1 x.2.2.1 n x.1 x.2.2.2.1
theorem qAQ (N:Nat) (n:Nat):CC (X32 N) (qab Try.f66) PzbP_0 (qtY N n):=CC.loop (qzu N) (us:=qot N) (c:=sub (qab Try.f66) [1,1,0,1,0,0]) (by kernel_rfl) (by kernel_rfl) (fun u h _=>qjm N u h) (fun x=>rfl) (fun n x=>by kernel_rfl) n
def qv4 (N:Nat):List (Pc D):=PzbP_0.pc (X32 N) (qtY N N)::qot N
theorem qrm (N:Nat):∀u∈qv4 N,PcOk (X32 N) (qab Try.f66) u:=qac ((qAQ N N).pc (by kernel_rfl)) (qjm N)
def dzbP:FD D:={f:=66,np:=1,ins:=[.v 0 (.sl 70)],fx:=[],rcv:=none,rk:=0,outs:=[.v 2 .bool],ofx:=[],rvs:=[.tmp 2],flat:=true}
def FzbP (N:Nat):dzbP.F:=fun r x=>zbP N x.1
theorem ozbP (N:Nat):FOk Try.prog (X32 N) dzbP (FzbP N):=⟨⟨Try.f66,_,Try.func66,rfl,by kernel_rfl,by kernel_rfl,rfl,FC.of (qzu N) (us:=qv4 N) (fun u h _=>qrm N u h) (fun r x=>by kernel_rfl)⟩,by kernel_rfl,by kernel_rfl,by kernel_rfl,by kernel_rfl⟩
def fs33 (N:Nat):List (FE D):=⟨dzbP,FzbP N⟩::fs32 N
theorem qyT (N:Nat):∀y∈fs33 N,CallOk X0 y.d y.F:=all_cons (x:=⟨dzbP,FzbP N⟩) (ozbP N) (qyS N)
def X33 (N:Nat):Ev Try.prog D:=X0.with (fs33 N)
theorem qzv (N:Nat):COk (X33 N):=COk.of (qyT N)
def qor (N:Nat):List (Pc D):=[]
theorem qjk (N:Nat):∀u∈qor N,PcOk (X33 N) (qab Try.f34) u:=qam
def PzbN_0:PD D:={path:=[1,0],ins:=[.v 0 (.sl 53), .v 1 (.sl 70)],fx:=[],ks:=[],exs:=[⟨.normal,[.v 4 .bool],[]⟩],keep:=[]}
def qtW (N:Nat):PzbN_0.F:=fun x=>qyd N x.1 x.2.1
theorem qAO (N:Nat):CC (X33 N) (qab Try.f34) PzbN_0 (qtW N):=CC.of (qzv N) (us:=qor N) (fun u h _=>qjk N u h) (fun x=>by kernel_rfl)
def qv2 (N:Nat):List (Pc D):=PzbN_0.pc (X33 N) (qtW N)::qor N
theorem qrk (N:Nat):∀u∈qv2 N,PcOk (X33 N) (qab Try.f34) u:=qac ((qAO N).pc (by kernel_rfl)) (qjk N)
def dzbN:FD D:={f:=34,np:=2,ins:=[.v 0 (.sl 53), .v 1 (.sl 70)],fx:=[],rcv:=none,rk:=0,outs:=[.v 4 .bool],ofx:=[],rvs:=[.tmp 4],flat:=true}
def FzbN (N:Nat):dzbN.F:=fun r x=>zbN N x.1 x.2.1
theorem ozbN (N:Nat):FOk Try.prog (X33 N) dzbN (FzbN N):=⟨⟨Try.f34,_,Try.func34,rfl,by kernel_rfl,by kernel_rfl,rfl,FC.of (qzv N) (us:=qv2 N) (fun u h _=>qrk N u h) (fun r x=>by kernel_rfl)⟩,by kernel_rfl,by kernel_rfl,by kernel_rfl,by kernel_rfl⟩
def fs34 (N:Nat):List (FE D):=⟨dzbN,FzbN N⟩::fs33 N
theorem qyU (N:Nat):∀y∈fs34 N,CallOk X0 y.d y.F:=all_cons (x:=⟨dzbN,FzbN N⟩) (ozbN N) (qyT N)
def X34 (N:Nat):Ev Try.prog D:=X0.with (fs34 N)
theorem qlw (N:Nat):COk (X34 N):=COk.of (qyU N)
def qoo (N:Nat):List (Pc D):=[]
theorem qjh (N:Nat):∀u∈qoo N,PcOk (X34 N) (qab Try.f35) u:=qam
def PzbG_1:PD D:={path:=[1,1,0,1,0,0,1,1,0,0,1,0,0],ins:=[.v 0 (.sl 53), .o 6 (.map 60 3 3), .o 8 (.box 33)],fx:=[(6, .c (.own 0)),(8, .box 1 0)],ks:=[1,1],exs:=[⟨.normal,[.v 35 .bool],[]⟩],keep:=[0,6,8,13,14,15]}
def qtO (N:Nat):PzbG_1.F:=fun x=>qsu N x.1 x.2.1 x.2.2.1
theorem qAG (N:Nat):CC (X34 N) (qab Try.f35) PzbG_1 (qtO N):=CC.of (qlw N) (us:=qoo N) (fun u h _=>qjh N u h) (fun x=>by kernel_rfl)
def qpw (N:Nat):List (Pc D):=PzbG_1.pc (X34 N) (qtO N)::qoo N
theorem qkp (N:Nat):∀u∈qpw N,PcOk (X34 N) (qab Try.f35) u:=qac ((qAG N).pc (by kernel_rfl)) (qjh N)
def PzbG_2:PD D:={path:=[1,1,0,1,0,0,1,1,0,0,1,1,0],ins:=[.o 6 (.map 60 3 3), .o 8 (.box 33)],fx:=[(6, .c (.own 0)),(8, .box 1 0)],ks:=[1,1],exs:=[⟨.normal,[.v 9 .bool],[]⟩],keep:=[0,6,8,13,14,15]}
def qtP (N:Nat):PzbG_2.F:=fun x=>qsv N x.2.1
theorem qAH (N:Nat):CC (X34 N) (qab Try.f35) PzbG_2 (qtP N):=CC.of (qlw N) (us:=qpw N) (fun u h _=>qkp N u h) (fun x=>by kernel_rfl)
def qpx (N:Nat):List (Pc D):=PzbG_2.pc (X34 N) (qtP N)::qpw N
theorem qkq (N:Nat):∀u∈qpx N,PcOk (X34 N) (qab Try.f35) u:=qac ((qAH N).pc (by kernel_rfl)) (qkp N)
def PzbG_3:PD D:={path:=[1,1,0,1,0,0,1,1,0,0,1,1,1,0],ins:=[.o 6 (.map 60 3 3), .o 8 (.box 33)],fx:=[(6, .c (.own 0)),(8, .box 1 0)],ks:=[1,1],exs:=[⟨.normal,[.v 10 .bool],[]⟩],keep:=[0,6,8,9,13,14,15]}
def qtQ (N:Nat):PzbG_3.F:=fun x=>qsw N x.2.1
theorem qAI (N:Nat):CC (X34 N) (qab Try.f35) PzbG_3 (qtQ N):=CC.of (qlw N) (us:=qpx N) (fun u h _=>qkq N u h) (fun x=>by kernel_rfl)
def qpy (N:Nat):List (Pc D):=PzbG_3.pc (X34 N) (qtQ N)::qpx N
theorem qkr (N:Nat):∀u∈qpy N,PcOk (X34 N) (qab Try.f35) u:=qac ((qAI N).pc (by kernel_rfl)) (qkq N)
def PzbG_4:PD D:={path:=[1,1,0,1,0,0,1,1,0,0,1,1,1,1,1,0,0],ins:=[.o 6 (.map 60 3 3), .o 8 (.box 33), .v 9 .bool, .v 10 .bool, .v 11 (.int .i64)],fx:=[(6, .c (.own 0)),(8, .box 1 0)],ks:=[1,1],exs:=[⟨.normal,[.v 71 .bool],[]⟩],keep:=[0,6,8,13,14,15]}
def qtR (N:Nat):PzbG_4.F:=fun x=>qsx N x.2.2.1 x.2.2.2.1 x.2.2.2.2.1
theorem qAJ (N:Nat):CC (X34 N) (qab Try.f35) PzbG_4 (qtR N):=CC.of (qlw N) (us:=qpy N) (fun u h _=>qkr N u h) (fun x=>by kernel_rfl)
def qpz (N:Nat):List (Pc D):=PzbG_4.pc (X34 N) (qtR N)::qpy N
theorem qks (N:Nat):∀u∈qpz N,PcOk (X34 N) (qab Try.f35) u:=qac ((qAJ N).pc (by kernel_rfl)) (qkr N)
def PzbG_0:PD D:={path:=[1,1,0,1,0],ins:=[.v 0 (.sl 53), .o 6 (.map 60 3 3), .v 13 (.sl 33), .v 14 (.int .i64), .v 15 (.int .i64)],fx:=[(6, .c (.own 0))],ks:=[2],exs:=[⟨.exit 0,[.u 0 (.map 60 3 3)],[]⟩,⟨.ret,[.v 5 .bool],[(4, .c .nilM)]⟩],keep:=[6]}
def qtN (N:Nat) (n:Nat):PzbG_0.F:=fun x=>qgt N x.1 x.2.2.1 x.2.2.2.1 n x.2.1 x.2.2.2.2.1
theorem qAF (N:Nat) (n:Nat):CC (X34 N) (qab Try.f35) PzbG_0 (qtN N n):=CC.loop (qlw N) (us:=qpz N) (c:=sub (qab Try.f35) [1,1,0,1,0,0]) (by kernel_rfl) (by kernel_rfl) (fun u h _=>qks N u h) (fun x=>rfl) (fun n x=>by kernel_rfl) n
def qvZ (N:Nat):List (Pc D):=PzbG_0.pc (X34 N) (qtN N N)::qpz N
theorem qrh (N:Nat):∀u∈qvZ N,PcOk (X34 N) (qab Try.f35) u:=qac ((qAF N N).pc (by kernel_rfl)) (qks N)
def dzbG:FD D:={f:=35,np:=2,ins:=[.v 0 (.sl 53), .v 1 (.sl 33)],fx:=[],rcv:=none,rk:=0,outs:=[.v 4 (.mp 60 3 3), .v 5 .bool],ofx:=[],rvs:=[.tmp 4, .tmp 5],flat:=false}
def FzbG (N:Nat):dzbG.F:=fun r x=>zbG N x.1 x.2.1
theorem ozbG (N:Nat):FOk Try.prog (X34 N) dzbG (FzbG N):=⟨⟨Try.f35,_,Try.func35,rfl,by kernel_rfl,by kernel_rfl,rfl,FC.of (qlw N) (us:=qvZ N) (fun u h _=>qrh N u h) (fun r x=>by kernel_rfl)⟩,by kernel_rfl,by kernel_rfl,by kernel_rfl,by kernel_rfl⟩
def fs35 (N:Nat):List (FE D):=⟨dzbG,FzbG N⟩::fs34 N
theorem qyV (N:Nat):∀y∈fs35 N,CallOk X0 y.d y.F:=all_cons (x:=⟨dzbG,FzbG N⟩) (ozbG N) (qyU N)
def X35 (N:Nat):Ev Try.prog D:=X0.with (fs35 N)
theorem qzw (N:Nat):COk (X35 N):=COk.of (qyV N)
def qn9 (N:Nat):List (Pc D):=[]
theorem qi2 (N:Nat):∀u∈qn9 N,PcOk (X35 N) (qab Try.f36) u:=qam
def PzaK_0:PD D:={path:=[1,1,0,1,0],ins:=[.o 3 (.map 67 3 4), .v 7 (.sl 70), .v 8 (.int .i64), .v 9 (.int .i64)],fx:=[(3, .c (.own 0))],ks:=[2],exs:=[⟨.exit 0,[.u 0 (.map 67 3 4)],[]⟩],keep:=[3]}
def qsV (N:Nat) (n:Nat):PzaK_0.F:=fun x=>qih N x.2.1 x.2.2.1 n x.1 x.2.2.2.1
theorem qzN (N:Nat) (n:Nat):CC (X35 N) (qab Try.f36) PzaK_0 (qsV N n):=CC.loop (qzw N) (us:=qn9 N) (c:=sub (qab Try.f36) [1,1,0,1,0,0]) (by kernel_rfl) (by kernel_rfl) (fun u h _=>qi2 N u h) (fun x=>rfl) (fun n x=>by kernel_rfl) n
def qvJ (N:Nat):List (Pc D):=PzaK_0.pc (X35 N) (qsV N N)::qn9 N
theorem qq1 (N:Nat):∀u∈qvJ N,PcOk (X35 N) (qab Try.f36) u:=qac ((qzN N N).pc (by kernel_rfl)) (qi2 N)
def dzaK:FD D:={f:=36,np:=1,ins:=[.v 0 (.sl 70)],fx:=[],rcv:=none,rk:=0,outs:=[.o 2 (.map 67 3 4)],ofx:=[(2, .c (.own 0))],rvs:=[.tmp 2],flat:=false}
def FzaK (N:Nat):dzaK.F:=fun r x=>zaK N x.1
theorem ozaK (N:Nat):FOk Try.prog (X35 N) dzaK (FzaK N):=⟨⟨Try.f36,_,Try.func36,rfl,by kernel_rfl,by kernel_rfl,rfl,FC.of (qzw N) (us:=qvJ N) (fun u h _=>qq1 N u h) (fun r x=>by kernel_rfl)⟩,by kernel_rfl,by kernel_rfl,by kernel_rfl,by kernel_rfl⟩
def fs36 (N:Nat):List (FE D):=⟨dzaK,FzaK N⟩::fs35 N
theorem qyW (N:Nat):∀y∈fs36 N,CallOk X0 y.d y.F:=all_cons (x:=⟨dzaK,FzaK N⟩) (ozaK N) (qyV N)
def X36 (N:Nat):Ev Try.prog D:=X0.with (fs36 N)
theorem qqi (N:Nat):COk (X36 N):=COk.of (qyW N)
def qom (N:Nat):List (Pc D):=[]
theorem qjf (N:Nat):∀u∈qom N,PcOk (X36 N) (qab Try.f39) u:=qam
def PzbA_0:PD D:={path:=[1,1,0,0,0],ins:=[.o 9 (.box 53), .v 10 (.int .i64)],fx:=[(9, .box 0 0)],ks:=[1],exs:=[⟨.normal,[.v 18 .bool],[]⟩],keep:=[0,2,3,9,10]}
def qtI (N:Nat):PzbA_0.F:=fun x=>qsq N x.1 x.2.1
theorem qAA (N:Nat):CC (X36 N) (qab Try.f39) PzbA_0 (qtI N):=CC.of (qqi N) (us:=qom N) (fun u h _=>qjf N u h) (fun x=>by kernel_rfl)
def qpt (N:Nat):List (Pc D):=PzbA_0.pc (X36 N) (qtI N)::qom N
theorem qkm (N:Nat):∀u∈qpt N,PcOk (X36 N) (qab Try.f39) u:=qac ((qAA N).pc (by kernel_rfl)) (qjf N)
def PzbA_1:PD D:={path:=[1,1,0,0,1,1,0],ins:=[.v 3 (.int .i64), .o 9 (.box 53), .v 10 (.int .i64)],fx:=[(9, .box 0 0)],ks:=[1],exs:=[⟨.normal,[.v 26 .bool],[]⟩],keep:=[0,2,3,9,10]}
def qtJ (N:Nat):PzbA_1.F:=fun x=>qsr N x.1 x.2.1 x.2.2.1
theorem qAB (N:Nat):CC (X36 N) (qab Try.f39) PzbA_1 (qtJ N):=CC.of (qqi N) (us:=qpt N) (fun u h _=>qkm N u h) (fun x=>by kernel_rfl)
def qpu (N:Nat):List (Pc D):=PzbA_1.pc (X36 N) (qtJ N)::qpt N
theorem qkn (N:Nat):∀u∈qpu N,PcOk (X36 N) (qab Try.f39) u:=qac ((qAB N).pc (by kernel_rfl)) (qkm N)
def PzbA_2:PD D:={path:=[1,1,0,0,1,1,1,1,0],ins:=[.v 3 (.int .i64), .o 9 (.box 53), .v 10 (.int .i64)],fx:=[(9, .box 0 0)],ks:=[1],exs:=[⟨.normal,[.v 43 .bool],[]⟩],keep:=[0,2,3,9]}
def qtK (N:Nat):PzbA_2.F:=fun x=>qss N x.1 x.2.1 x.2.2.1
theorem qAC (N:Nat):CC (X36 N) (qab Try.f39) PzbA_2 (qtK N):=CC.of (qqi N) (us:=qpu N) (fun u h _=>qkn N u h) (fun x=>by kernel_rfl)
def qvX (N:Nat):List (Pc D):=PzbA_2.pc (X36 N) (qtK N)::qpu N
theorem qrf (N:Nat):∀u∈qvX N,PcOk (X36 N) (qab Try.f39) u:=qac ((qAC N).pc (by kernel_rfl)) (qkn N)
def dzbA:FD D:={f:=39,np:=4,ins:=[.v 0 (.sl 53), .v 1 (.mp 60 3 3), .v 2 (.int .i64), .v 3 (.int .i64)],fx:=[],rcv:=none,rk:=0,outs:=[.v 8 (.sl 3)],ofx:=[],rvs:=[.tmp 8],flat:=false}
def FzbA (N:Nat):dzbA.F:=fun r x=>zbA N x.1 x.2.1 x.2.2.1 x.2.2.2.1
theorem ozbA (N:Nat):FOk Try.prog (X36 N) dzbA (FzbA N):=⟨⟨Try.f39,_,Try.func39,rfl,by kernel_rfl,by kernel_rfl,rfl,FC.of (qqi N) (us:=qvX N) (fun u h _=>qrf N u h) (fun r x=>by kernel_rfl)⟩,by kernel_rfl,by kernel_rfl,by kernel_rfl,by kernel_rfl⟩
def fs37 (N:Nat):List (FE D):=⟨dzbA,FzbA N⟩::fs36 N
theorem qwv (N:Nat):∀y∈fs37 N,CallOk X0 y.d y.F:=all_cons (x:=⟨dzbA,FzbA N⟩) (ozbA N) (qyW N)
def X37 (N:Nat):Ev Try.prog D:=X0.with (fs37 N)
theorem qEO (N:Nat):COk (X37 N):=COk.of (qwv N)
def dzaB:GD D:={f:=37,np:=8,ins:=[.o 100000000 (.sl 3), .v 0 (.agg 74), .o 1 (.box 23), .o 2 (.bx 71 [(0,8)]), .o 3 (.bx 67 [(0,9)]), .o 4 (.box 3), .o 5 (.box 3), .o 6 (.box 60), .o 7 (.fb 72 37 [1,2,3,4,5,6,7]), .o 2002000 (.map 71 74 4), .o 2003000 (.map 67 3 4)],fx:=[(1, .box 1 0),(2, .box 2 0),(3, .box 3 0),(4, .box 4 0),(5, .box 5 0),(6, .box 6 0),(7, .box 7 0)],ks:=[1,1,1,1,1,1,1,1,2,1],outs:=[.v 9 .bool, .u 8 (.map 71 74 4)],ofx:=[],res:=[9],fz:=true}
def FzaB (N rc:Nat):dzaB.pd.F:=fun x=>zaB N rc x.1 x.2.1 x.2.2.1 x.2.2.2.1 x.2.2.2.2.1 x.2.2.2.2.2.1 x.2.2.2.2.2.2.1 x.2.2.2.2.2.2.2.1 x.2.2.2.2.2.2.2.2.2.1 x.2.2.2.2.2.2.2.2.2.2.1
def Xr37 (N rc:Nat):Ev Try.prog D:=(X0.with (fs37 N)).gen (⟨dzaB,FzaB N rc⟩::[])
theorem qgN (N rc:Nat) (hr:CallG X0 dzaB (FzaB N rc)):COk (Xr37 N rc):=COk.gen0 (COk.of (qwv N)) (qcn (x:=⟨dzaB,FzaB N rc⟩) hr (qmz))
def qn3 (N rc:Nat):List (Pc D):=[]
theorem qiW (N rc:Nat) (hr:CallG X0 dzaB (FzaB N rc)):∀u∈qn3 N rc,PcOk (Xr37 N rc) (qab Try.f37) u:=qam
def PzaB_0:PD D:={path:=[1,1,0,0],ins:=[.o 100000000 (.sl 3), .o 1 (.box 23), .o 2 (.bx 71 [(0,8)]), .o 3 (.bx 67 [(0,9)]), .o 4 (.box 3), .o 5 (.box 3), .o 6 (.box 60), .o 7 (.fb 72 37 [1,2,3,4,5,6,7]), .v 8 (.rp 74), .v 10 (.int .i64), .o 2002000 (.map 71 74 4), .o 2003000 (.map 67 3 4)],fx:=[(1, .box 1 0),(2, .box 2 0),(3, .box 3 0),(4, .box 4 0),(5, .box 5 0),(6, .box 6 0),(7, .box 7 0)],ks:=[1,1,1,1,1,1,1,1,1,1],exs:=[⟨.normal,[.v 25 .bool],[]⟩],keep:=[1,2,3,4,5,6,7,8,10]}
def qsL (N rc:Nat):PzaB_0.F:=fun x=>qsd N (zaB N rc) x.2.2.2.2.2.2.2.2.1 x.2.2.2.2.2.2.2.2.2.1 x.2.2.2.2.2.2.2.2.2.2.1
theorem qzD (N rc:Nat) (hr:CallG X0 dzaB (FzaB N rc)):CC (Xr37 N rc) (qab Try.f37) PzaB_0 (qsL N rc):=CC.of (qgN N rc hr) (us:=qn3 N rc) (fun u h _=>qiW N rc hr u h) (fun x=>by kernel_rfl)
def qoP (N rc:Nat):List (Pc D):=PzaB_0.pc (Xr37 N rc) (qsL N rc)::qn3 N rc
theorem qjI (N rc:Nat) (hr:CallG X0 dzaB (FzaB N rc)):∀u∈qoP N rc,PcOk (Xr37 N rc) (qab Try.f37) u:=qac ((qzD N rc hr).pc (by kernel_rfl)) (qiW N rc hr)
def PzaB_1:PD D:={path:=[1,1,1,1,0,1,0,0],ins:=[.o 100000000 (.sl 3), .o 1 (.box 23), .o 2 (.bx 71 [(0,8)]), .o 3 (.bx 67 [(0,9)]), .o 4 (.box 3), .o 5 (.box 3), .o 6 (.box 60), .o 7 (.fb 72 37 [1,2,3,4,5,6,7]), .v 10 (.int .i64), .o 2002000 (.map 71 74 4), .o 2003000 (.map 67 3 4)],fx:=[(1, .box 1 0),(2, .box 2 0),(3, .box 3 0),(4, .box 4 0),(5, .box 5 0),(6, .box 6 0),(7, .box 7 0)],ks:=[1,1,1,1,1,1,1,1,1,1],exs:=[⟨.normal,[.v 9 .bool],[]⟩],keep:=[1,2,3,4,5,6,7]}
def qsM (N rc:Nat):PzaB_1.F:=fun x=>qxS N (zaB N rc) x.2.2.2.2.1 x.2.2.2.2.2.1 x.2.2.2.2.2.2.2.2.1
theorem qzE (N rc:Nat) (hr:CallG X0 dzaB (FzaB N rc)):CC (Xr37 N rc) (qab Try.f37) PzaB_1 (qsM N rc):=CC.of (qgN N rc hr) (us:=qoP N rc) (fun u h _=>qjI N rc hr u h) (fun x=>by kernel_rfl)
def qoQ (N rc:Nat):List (Pc D):=PzaB_1.pc (Xr37 N rc) (qsM N rc)::qoP N rc
theorem qjJ (N rc:Nat) (hr:CallG X0 dzaB (FzaB N rc)):∀u∈qoQ N rc,PcOk (Xr37 N rc) (qab Try.f37) u:=qac ((qzE N rc hr).pc (by kernel_rfl)) (qjI N rc hr)
def PzaB_2:PD D:={path:=[1,1,1,1,1,0,1,0],ins:=[.o 100000000 (.sl 3), .o 1 (.box 23), .o 2 (.bx 71 [(0,8)]), .o 3 (.bx 67 [(0,9)]), .o 4 (.box 3), .o 5 (.box 3), .o 6 (.box 60), .o 7 (.fb 72 37 [1,2,3,4,5,6,7]), .v 10 (.int .i64), .v 44 (.sl 3), .v 45 (.int .i64), .v 46 (.int .i64), .o 2002000 (.map 71 74 4), .o 2003000 (.map 67 3 4)],fx:=[(1, .box 1 0),(2, .box 2 0),(3, .box 3 0),(4, .box 4 0),(5, .box 5 0),(6, .box 6 0),(7, .box 7 0)],ks:=[1,1,1,1,1,1,1,1,2,1],exs:=[⟨.exit 0,[.u 8 (.map 71 74 4)],[]⟩,⟨.ret,[.v 9 .bool, .u 8 (.map 71 74 4)],[]⟩],keep:=[1,2,3,4,5,6,7]}
def qsN (N rc:Nat) (n:Nat):PzaB_2.F:=fun x=>qlX N (zaB N rc) x.1 x.2.1 x.2.2.2.2.1 x.2.2.2.2.2.1 x.2.2.2.2.2.2.1 x.2.2.2.2.2.2.2.2.1 x.2.2.2.2.2.2.2.2.2.1 x.2.2.2.2.2.2.2.2.2.2.1 x.2.2.2.2.2.2.2.2.2.2.2.2.2.1 n x.2.2.2.2.2.2.2.2.2.2.2.1 x.2.2.2.2.2.2.2.2.2.2.2.2.1
theorem qzF (N rc:Nat) (hr:CallG X0 dzaB (FzaB N rc)) (n:Nat):CC (Xr37 N rc) (qab Try.f37) PzaB_2 (qsN N rc n):=CC.loop (qgN N rc hr) (us:=qoQ N rc) (c:=sub (qab Try.f37) [1,1,1,1,1,0,1,0,0]) (by kernel_rfl) (by kernel_rfl) (fun u h _=>qjJ N rc hr u h) (fun x=>rfl) (fun n x=>by kernel_rfl) n
def qoR (N rc:Nat):List (Pc D):=PzaB_2.pc (Xr37 N rc) (qsN N rc N)::qoQ N rc
theorem qjK (N rc:Nat) (hr:CallG X0 dzaB (FzaB N rc)):∀u∈qoR N rc,PcOk (Xr37 N rc) (qab Try.f37) u:=qac ((qzF N rc hr N).pc (by kernel_rfl)) (qjJ N rc hr)
theorem ozaB (N rc:Nat) (hr:CallG X0 dzaB (FzaB N rc)):GOk Try.prog (Xr37 N rc) dzaB (FzaB N (rc+1)):=⟨⟨Try.f37,_,Try.func37,rfl,by kernel_rfl,by kernel_rfl,rfl,by kernel_rfl,CCn.of (qgN N rc hr) (us:=qoR N rc) (fun u h _=>qjK N rc hr u h) (fun x=>by kernel_rfl)⟩⟩
theorem wzaB (N:Nat):∀rc:Nat,CallG X0 dzaB (FzaB N rc)
 |0=>CallG.none fun x=>rfl
 |rc+1=>(ozaB N rc (wzaB N rc)).call.base.base
def fs38 (N:Nat):List (FE D):=fs37 N
theorem qyX (N:Nat):∀y∈fs38 N,CallOk X0 y.d y.F:=qwv N
def gs38 (N:Nat):List (GE D):=⟨dzaB,FzaB N N⟩::[]
theorem quW (N:Nat):∀y∈gs38 N,CallG X0 y.d y.F:=qcn (x:=⟨dzaB,FzaB N N⟩) (wzaB N N) (qmz)
def X38 (N:Nat):Ev Try.prog D:=(X0.with (fs38 N)).gen (gs38 N)
theorem qEP (N:Nat):COk (X38 N):=COk.gen0 (COk.of (qyX N)) (quW N)
def qfD:GD D:={f:=37,np:=8,ins:=[.o 100000005 (.sl 3), .v 0 (.agg 74), .o 1 (.box 23), .o 2 (.bx 71 [(0,8)]), .o 3 (.bx 67 [(0,9)]), .o 4 (.box 3), .o 5 (.box 3), .o 6 (.box 60), .o 7 (.fb 72 37 [1,2,3,4,5,6,7]), .o 2002000 (.map 71 74 4), .o 2003000 (.map 67 3 4)],fx:=[(1, .box 1 0),(2, .box 2 0),(3, .box 3 0),(4, .box 4 0),(5, .box 5 0),(6, .box 6 0),(7, .box 7 0)],ks:=[1,1,1,1,1,1,1,1,2,1],outs:=[.v 9 .bool, .u 8 (.map 71 74 4)],ofx:=[],res:=[9],fz:=true}
theorem qxp (N rc:Nat) (hr:CallG X0 dzaB (FzaB N rc)):GOk Try.prog (Xr37 N rc) qfD (FzaB N (rc+1)):=⟨⟨Try.f37,_,Try.func37,rfl,by kernel_rfl,by kernel_rfl,rfl,by kernel_rfl,CCn.of (qgN N rc hr) (us:=qoR N rc) (fun u h _=>qjK N rc hr u h) (fun x=>by kernel_rfl)⟩⟩
theorem qxR (N:Nat):∀rc:Nat,CallG X0 qfD (FzaB N rc)
 |0=>CallG.none fun x=>rfl
 |rc+1=>(qxp N rc (wzaB N rc)).call.base.base
def fs39 (N:Nat):List (FE D):=fs38 N
theorem qyY (N:Nat):∀y∈fs39 N,CallOk X0 y.d y.F:=qyX N
def gs39 (N:Nat):List (GE D):=⟨qfD,FzaB N N⟩::gs38 N
theorem quX (N:Nat):∀y∈gs39 N,CallG X0 y.d y.F:=qcn (x:=⟨qfD,FzaB N N⟩) (qxR N N) (quW N)
def X39 (N:Nat):Ev Try.prog D:=(X0.with (fs39 N)).gen (gs39 N)
theorem qDp (N:Nat):COk (X39 N):=COk.gen0 (COk.of (qyY N)) (quX N)
def Y39 (N:Nat):Ev Try.prog D:=(X39 N).cuts fun x lo hi=>match x,lo,hi with| .func 37,none,none=>5|_,_,_=>0
theorem qgP (N:Nat):COk (Y39 N):=COk.cuts (qDp N)
def qoe (N:Nat):List (Pc D):=[]
theorem qi7 (N:Nat):∀u∈qoe N,PcOk (Y39 N) (qab Try.f15) u:=qam
def PzaQ_2:PD D:={path:=[1,1,1,1,1,1,1,0,1,0,0,1,1,0,0,1,0,0],ins:=[.o 3 (.box 23), .o 8 (.box 60), .o 10 (.bx 67 [(0,7)]), .o 11 (.box 3), .o 12 (.box 3), .o 13 (.sl 3), .v 14 (.int .i64), .o 15 (.box 53), .o 2010000 (.map 67 3 4)],fx:=[(3, .box 0 0),(8, .box 1 0),(10, .box 2 0),(11, .box 3 0),(12, .box 4 0),(13, .c (.own 5)),(15, .box 6 0)],ks:=[1,1,1,1,1,1,1,1],exs:=[⟨.normal,[.v 57 .bool],[]⟩],keep:=[3,8,10,11,12,13,14,15,43,44,45]}
def qtc (N:Nat):PzaQ_2.F:=fun x=>qsj N x.2.2.2.2.2.2.1 x.2.2.2.2.2.2.2.1 x.2.2.2.2.2.2.2.2.1
theorem qz4 (N:Nat):CC (Y39 N) (qab Try.f15) PzaQ_2 (qtc N):=CC.of (qgP N) (us:=qoe N) (fun u h _=>qi7 N u h) (fun x=>by kernel_rfl)
def qo5 (N:Nat):List (Pc D):=PzaQ_2.pc (Y39 N) (qtc N)::qoe N
theorem qjY (N:Nat):∀u∈qo5 N,PcOk (Y39 N) (qab Try.f15) u:=qac ((qz4 N).pc (by kernel_rfl)) (qi7 N)
def PzaQ_3:PD D:={path:=[1,1,1,1,1,1,1,0,1,0,0,1,1,0,0,1,1,1,1,1,0],ins:=[.o 3 (.box 23), .o 8 (.box 60), .o 10 (.bx 67 [(0,8)]), .o 11 (.box 3), .o 12 (.box 3), .o 13 (.sl 3), .v 14 (.int .i64), .o 15 (.box 53), .o 17 (.fb 72 37 [0,9,2,3,4,1,7]), .o 2010000 (.map 67 3 4), .o 200069634 (.bx 71 [(0,10)]), .o 204456577 (.map 71 74 4)],fx:=[(3, .box 0 0),(8, .box 1 0),(10, .box 2 0),(11, .box 3 0),(12, .box 4 0),(13, .c (.own 5)),(15, .box 6 0),(17, .box 7 0)],ks:=[1,1,1,1,1,1,0,1,1,1,2],exs:=[⟨.normal,[.v 73 .bool],[]⟩],keep:=[3,8,10,11,12,13,14,43,44,45]}
def qtd (N:Nat):PzaQ_3.F:=fun x=>qsk N x.1 x.2.1 x.2.2.2.1 x.2.2.2.2.1 x.2.2.2.2.2.1 x.2.2.2.2.2.2.1 x.2.2.2.2.2.2.2.1 x.2.2.2.2.2.2.2.2.2.1 x.2.2.2.2.2.2.2.2.2.2.2.1
theorem qz5 (N:Nat):CC (Y39 N) (qab Try.f15) PzaQ_3 (qtd N):=CC.of (qgP N) (us:=qo5 N) (fun u h _=>qjY N u h) (fun x=>by kernel_rfl)
def qo6 (N:Nat):List (Pc D):=PzaQ_3.pc (Y39 N) (qtd N)::qo5 N
theorem qjZ (N:Nat):∀u∈qo6 N,PcOk (Y39 N) (qab Try.f15) u:=qac ((qz5 N).pc (by kernel_rfl)) (qjY N)
def PzaQ_1:PD D:={path:=[1,1,1,1,1,1,1,0,1,0,0,1,1,0],ins:=[.o 3 (.box 23), .o 8 (.box 60), .o 10 (.bx 67 [(0,6)]), .o 11 (.box 3), .o 12 (.box 3), .o 13 (.sl 3), .v 43 (.sl 53), .v 45 (.int .i64), .o 2010000 (.map 67 3 4)],fx:=[(3, .box 0 0),(8, .box 1 0),(10, .box 2 0),(11, .box 3 0),(12, .box 4 0),(13, .c (.own 5))],ks:=[1,1,1,1,1,0,1],exs:=[⟨.normal,[.o 13 (.sl 3)],[(13, .c (.own 7))]⟩],keep:=[3,8,10,11,12,43,44,45]}
def qtb (N:Nat):PzaQ_1.F:=fun x=>qsi N x.1 x.2.1 x.2.2.2.1 x.2.2.2.2.1 x.2.2.2.2.2.1 x.2.2.2.2.2.2.1 x.2.2.2.2.2.2.2.1 x.2.2.2.2.2.2.2.2.1
theorem qz3 (N:Nat):CC (Y39 N) (qab Try.f15) PzaQ_1 (qtb N):=CC.of (qgP N) (us:=qo6 N) (fun u h _=>qjZ N u h) (fun x=>by kernel_rfl)
def qo4 (N:Nat):List (Pc D):=PzaQ_1.pc (Y39 N) (qtb N)::qo6 N
theorem qjX (N:Nat):∀u∈qo4 N,PcOk (Y39 N) (qab Try.f15) u:=qac ((qz3 N).pc (by kernel_rfl)) (qjZ N)
def PzaQ_0:PD D:={path:=[1,1,1,1,1,1,1,0,1,0],ins:=[.o 3 (.box 23), .o 8 (.box 60), .o 10 (.bx 67 [(0,6)]), .o 11 (.box 3), .o 12 (.box 3), .o 13 (.sl 3), .v 43 (.sl 53), .v 44 (.int .i64), .v 45 (.int .i64), .o 2010000 (.map 67 3 4)],fx:=[(3, .box 0 0),(8, .box 1 0),(10, .box 2 0),(11, .box 3 0),(12, .box 4 0),(13, .c (.own 5))],ks:=[1,1,1,1,1,0,1],exs:=[⟨.exit 0,[.o 13 (.sl 3)],[(13, .c (.own 7))]⟩],keep:=[]}
def qta (N:Nat) (n:Nat):PzaQ_0.F:=fun x=>qik N x.1 x.2.1 x.2.2.2.1 x.2.2.2.2.1 x.2.2.2.2.2.2.1 x.2.2.2.2.2.2.2.1 x.2.2.2.2.2.2.2.2.2.1 n x.2.2.2.2.2.1 x.2.2.2.2.2.2.2.2.1
theorem qz2 (N:Nat) (n:Nat):CC (Y39 N) (qab Try.f15) PzaQ_0 (qta N n):=CC.loop (qgP N) (us:=qo4 N) (c:=sub (qab Try.f15) [1,1,1,1,1,1,1,0,1,0,0]) (by kernel_rfl) (by kernel_rfl) (fun u h _=>qjX N u h) (fun x=>rfl) (fun n x=>by kernel_rfl) n
def qvO (N:Nat):List (Pc D):=PzaQ_0.pc (Y39 N) (qta N N)::qo4 N
theorem qq6 (N:Nat):∀u∈qvO N,PcOk (Y39 N) (qab Try.f15) u:=qac ((qz2 N N).pc (by kernel_rfl)) (qjX N)
def dzaQ:FD D:={f:=15,np:=3,ins:=[.v 0 (.sl 53), .v 1 (.sl 70), .v 2 (.sl 33)],fx:=[],rcv:=none,rk:=0,outs:=[.o 6 (.sl 3), .v 7 (.int .i64)],ofx:=[(6, .c (.own 0))],rvs:=[.tmp 6, .tmp 7],flat:=false}
def FzaQ (N:Nat):dzaQ.F:=fun r x=>zaQ N x.1 x.2.1 x.2.2.1
theorem ozaQ (N:Nat):FOk Try.prog (Y39 N) dzaQ (FzaQ N):=⟨⟨Try.f15,_,Try.func15,rfl,by kernel_rfl,by kernel_rfl,rfl,FC.of (qgP N) (us:=qvO N) (fun u h _=>qq6 N u h) (fun r x=>by kernel_rfl)⟩,by kernel_rfl,by kernel_rfl,by kernel_rfl,by kernel_rfl⟩
def fs40 (N:Nat):List (FE D):=⟨dzaQ,FzaQ N⟩::fs39 N
theorem qyZ (N:Nat):∀y∈fs40 N,CallOk X0 y.d y.F:=qaq (x:=⟨dzaQ,FzaQ N⟩) (CallOk.ch (CallOk.ch (CallOk.ch (ozaQ N).call))) (qyY N)
def gs40 (N:Nat):List (GE D):=gs39 N
theorem quY (N:Nat):∀y∈gs40 N,CallG X0 y.d y.F:=quX N
def X40 (N:Nat):Ev Try.prog D:=(X0.with (fs40 N)).gen (gs40 N)
theorem qDq (N:Nat):COk (X40 N):=COk.gen0 (COk.of (qyZ N)) (quY N)
def qvA (N:Nat):List (Pc D):=[]
theorem qqT (N:Nat):∀u∈qvA N,PcOk (X40 N) (qab Try.f28) u:=qam
def dzcA:FD D:={f:=28,np:=0,ins:=[],fx:=[],rcv:=none,rk:=0,outs:=[.o 0 (.sl 53)],ofx:=[(0, .c (.own 0))],rvs:=[.tmp 0],flat:=false}
def FzcA (N:Nat):dzcA.F:=fun r x=>zcA N
theorem ozcA (N:Nat):FOk Try.prog (X40 N) dzcA (FzcA N):=⟨⟨Try.f28,_,Try.func28,rfl,by kernel_rfl,by kernel_rfl,rfl,FC.of (qDq N) (us:=qvA N) (fun u h _=>qqT N u h) (fun r x=>by kernel_rfl)⟩,by kernel_rfl,by kernel_rfl,by kernel_rfl,by kernel_rfl⟩
def fs41 (N:Nat):List (FE D):=⟨dzcA,FzcA N⟩::fs40 N
theorem qy0 (N:Nat):∀y∈fs41 N,CallOk X0 y.d y.F:=qaq (x:=⟨dzcA,FzcA N⟩) (CallOk.ch (CallOk.ch (ozcA N).call)) (qyZ N)
def gs41 (N:Nat):List (GE D):=gs40 N
theorem quZ (N:Nat):∀y∈gs41 N,CallG X0 y.d y.F:=quY N
def X41 (N:Nat):Ev Try.prog D:=(X0.with (fs41 N)).gen (gs41 N)
theorem qDr (N:Nat):COk (X41 N):=COk.gen0 (COk.of (qy0 N)) (quZ N)
def qvB (N:Nat):List (Pc D):=[]
theorem qqU (N:Nat):∀u∈qvB N,PcOk (X41 N) (qab Try.f55) u:=qam
def dzcN:FD D:={f:=55,np:=2,ins:=[.v 0 (.sl 53), .v 1 (.agg 70)],fx:=[],rcv:=none,rk:=0,outs:=[.o 4 (.sl 3)],ofx:=[(4, .c (.own 0))],rvs:=[.tmp 4],flat:=false}
def FzcN (N:Nat):dzcN.F:=fun r x=>zcN N x.1 x.2.1
theorem ozcN (N:Nat):FOk Try.prog (X41 N) dzcN (FzcN N):=⟨⟨Try.f55,_,Try.func55,rfl,by kernel_rfl,by kernel_rfl,rfl,FC.of (qDr N) (us:=qvB N) (fun u h _=>qqU N u h) (fun r x=>by kernel_rfl)⟩,by kernel_rfl,by kernel_rfl,by kernel_rfl,by kernel_rfl⟩
def fs42 (N:Nat):List (FE D):=⟨dzcN,FzcN N⟩::fs41 N
theorem qy1 (N:Nat):∀y∈fs42 N,CallOk X0 y.d y.F:=qaq (x:=⟨dzcN,FzcN N⟩) (CallOk.ch (CallOk.ch (ozcN N).call)) (qy0 N)
def gs42 (N:Nat):List (GE D):=gs41 N
theorem qu0 (N:Nat):∀y∈gs42 N,CallG X0 y.d y.F:=quZ N
def X42 (N:Nat):Ev Try.prog D:=(X0.with (fs42 N)).gen (gs42 N)
theorem qqj (N:Nat):COk (X42 N):=COk.gen0 (COk.of (qy1 N)) (qu0 N)
def qoL (N:Nat):List (Pc D):=[]
theorem qjE (N:Nat):∀u∈qoL N,PcOk (X42 N) (qab Try.f54) u:=qam
def PzcM_2:PD D:={path:=[1,1,1,0,1,0,0,1,0,0,1,0],ins:=[.o 5 (.box 70), .v 8 (.int .i64), .v 9 .bool, .o 10 (.sl 3), .v 12 (.int .i64), .v 13 .bool],fx:=[(5, .box 0 0),(10, .c (.own 1))],ks:=[1,1],exs:=[⟨.normal,[.v 50 .bool],[]⟩],keep:=[0,1,5,8,9,10,11,12]}
def quK (N:Nat):PzcM_2.F:=fun x=>qDc N x.2.1 x.2.2.1 x.2.2.2.2.1 x.2.2.2.2.2.1
theorem qBB (N:Nat):CC (X42 N) (qab Try.f54) PzcM_2 (quK N):=CC.of (qqj N) (us:=qoL N) (fun u h _=>qjE N u h) (fun x=>by kernel_rfl)
def qp4 (N:Nat):List (Pc D):=PzcM_2.pc (X42 N) (quK N)::qoL N
theorem qkX (N:Nat):∀u∈qp4 N,PcOk (X42 N) (qab Try.f54) u:=qac ((qBB N).pc (by kernel_rfl)) (qjE N)
def PzcM_1:PD D:={path:=[1,1,1,0,1,0,0,1,0],ins:=[.v 0 (.sl 53), .v 1 (.mp 91 97 3), .o 5 (.box 70), .v 8 (.int .i64), .v 9 .bool, .o 10 (.sl 3), .v 11 (.int .i64)],fx:=[(5, .box 0 0),(10, .c (.own 1))],ks:=[1,1],exs:=[⟨.normal,[.v 8 (.int .i64), .v 9 .bool],[]⟩],keep:=[0,1,5,10,11]}
def quJ (N:Nat):PzcM_1.F:=fun x=>qDb N x.1 x.2.1 x.2.2.1 x.2.2.2.1 x.2.2.2.2.1 x.2.2.2.2.2.1 x.2.2.2.2.2.2.1
theorem qBA (N:Nat):CC (X42 N) (qab Try.f54) PzcM_1 (quJ N):=CC.of (qqj N) (us:=qp4 N) (fun u h _=>qkX N u h) (fun x=>by kernel_rfl)
def qp3 (N:Nat):List (Pc D):=PzcM_1.pc (X42 N) (quJ N)::qp4 N
theorem qkW (N:Nat):∀u∈qp3 N,PcOk (X42 N) (qab Try.f54) u:=qac ((qBA N).pc (by kernel_rfl)) (qkX N)
def PzcM_0:PD D:={path:=[1,1,1,0,1,0],ins:=[.v 0 (.sl 53), .v 1 (.mp 91 97 3), .o 5 (.box 70), .v 8 (.int .i64), .v 9 .bool, .o 10 (.sl 3), .v 11 (.int .i64)],fx:=[(5, .box 0 0),(10, .c (.own 1))],ks:=[1,1],exs:=[⟨.exit 0,[.v 8 (.int .i64), .v 9 .bool],[]⟩],keep:=[]}
def quI (N:Nat) (n:Nat):PzcM_0.F:=fun x=>qyv N x.1 x.2.1 x.2.2.1 x.2.2.2.2.2.1 n x.2.2.2.1 x.2.2.2.2.1 x.2.2.2.2.2.2.1
theorem qBz (N:Nat) (n:Nat):CC (X42 N) (qab Try.f54) PzcM_0 (quI N n):=CC.loop (qqj N) (us:=qp3 N) (c:=sub (qab Try.f54) [1,1,1,0,1,0,0]) (by kernel_rfl) (by kernel_rfl) (fun u h _=>qkW N u h) (fun x=>rfl) (fun n x=>by kernel_rfl) n
def qwm (N:Nat):List (Pc D):=PzcM_0.pc (X42 N) (quI N N)::qp3 N
theorem qrE (N:Nat):∀u∈qwm N,PcOk (X42 N) (qab Try.f54) u:=qac ((qBz N N).pc (by kernel_rfl)) (qkW N)
def dzcM:FD D:={f:=54,np:=3,ins:=[.v 0 (.sl 53), .v 1 (.mp 91 97 3), .v 2 (.agg 70)],fx:=[],rcv:=none,rk:=0,outs:=[.v 6 (.int .i64), .v 7 .bool],ofx:=[],rvs:=[.tmp 6, .tmp 7],flat:=true}
def FzcM (N:Nat):dzcM.F:=fun r x=>zcM N x.1 x.2.1 x.2.2.1
theorem ozcM (N:Nat):FOk Try.prog (X42 N) dzcM (FzcM N):=⟨⟨Try.f54,_,Try.func54,rfl,by kernel_rfl,by kernel_rfl,rfl,FC.of (qqj N) (us:=qwm N) (fun u h _=>qrE N u h) (fun r x=>by kernel_rfl)⟩,by kernel_rfl,by kernel_rfl,by kernel_rfl,by kernel_rfl⟩
def fs43 (N:Nat):List (FE D):=⟨dzcM,FzcM N⟩::fs42 N
theorem qy2 (N:Nat):∀y∈fs43 N,CallOk X0 y.d y.F:=qaq (x:=⟨dzcM,FzcM N⟩) (CallOk.ch (CallOk.ch (ozcM N).call)) (qy1 N)
def gs43 (N:Nat):List (GE D):=gs42 N
theorem qu1 (N:Nat):∀y∈gs43 N,CallG X0 y.d y.F:=qu0 N
def X43 (N:Nat):Ev Try.prog D:=(X0.with (fs43 N)).gen (gs43 N)
theorem qhD (N:Nat):COk (X43 N):=COk.gen0 (COk.of (qy2 N)) (qu1 N)
def qoj (N:Nat):List (Pc D):=[]
theorem qjc (N:Nat):∀u∈qoj N,PcOk (X43 N) (qab Try.f53) u:=qam
def PzaX_0:PD D:={path:=[1,1,1,0,1,0],ins:=[.v 1 (.int .i64), .o 5 (.map 91 97 3), .o 6 (.sl 3), .v 7 (.int .i64)],fx:=[(5, .c (.own 0)),(6, .c (.own 1))],ks:=[2,1],exs:=[⟨.exit 0,[.u 0 (.map 91 97 3)],[]⟩],keep:=[0,1,5]}
def qts (N:Nat) (n:Nat):PzaX_0.F:=fun x=>qx5 N x.1 x.2.2.1 n x.2.1 x.2.2.2.1
theorem qAk (N:Nat) (n:Nat):CC (X43 N) (qab Try.f53) PzaX_0 (qts N n):=CC.loop (qhD N) (us:=qoj N) (c:=sub (qab Try.f53) [1,1,1,0,1,0,0]) (by kernel_rfl) (by kernel_rfl) (fun u h _=>qjc N u h) (fun x=>rfl) (fun n x=>by kernel_rfl) n
def qpg (N:Nat):List (Pc D):=PzaX_0.pc (X43 N) (qts N N)::qoj N
theorem qj9 (N:Nat):∀u∈qpg N,PcOk (X43 N) (qab Try.f53) u:=qac ((qAk N N).pc (by kernel_rfl)) (qjc N)
def PzaX_5:PD D:={path:=[1,1,1,1,0,1,0,0,1,0,1,1,0,0,1,0,0,1,1,0,0,1,0,0,1,1,1,0],ins:=[.o 5 (.map 91 97 3), .o 10 (.sl 3), .v 12 (.int .i64), .v 13 .bool, .v 14 (.int .i64), .v 15 .bool],fx:=[(5, .c (.own 0)),(10, .c (.own 1))],ks:=[1,1],exs:=[⟨.normal,[.v 85 .bool],[]⟩],keep:=[0,1,5,8,9,10,11,12]}
def qtx (N:Nat):PzaX_5.F:=fun x=>qCZ N x.2.2.1 x.2.2.2.1 x.2.2.2.2.1 x.2.2.2.2.2.1
theorem qAp (N:Nat):CC (X43 N) (qab Try.f53) PzaX_5 (qtx N):=CC.of (qhD N) (us:=qpg N) (fun u h _=>qj9 N u h) (fun x=>by kernel_rfl)
def qpk (N:Nat):List (Pc D):=PzaX_5.pc (X43 N) (qtx N)::qpg N
theorem qkd (N:Nat):∀u∈qpk N,PcOk (X43 N) (qab Try.f53) u:=qac ((qAp N).pc (by kernel_rfl)) (qj9 N)
def PzaX_4:PD D:={path:=[1,1,1,1,0,1,0,0,1,0,1,1,0,0,1,0,0,1,1,0,0,1,0],ins:=[.v 0 (.sl 53), .v 1 (.int .i64), .o 5 (.map 91 97 3), .v 8 .bool, .v 9 (.int .i64), .o 10 (.sl 3), .v 11 (.int .i64)],fx:=[(5, .c (.own 0)),(10, .c (.own 1))],ks:=[2,1],exs:=[⟨.normal,[.u 0 (.map 91 97 3), .v 8 .bool],[]⟩],keep:=[0,1,5,9,10,11]}
def qtw (N:Nat):PzaX_4.F:=fun x=>qCY N x.1 x.2.1 x.2.2.1 x.2.2.2.1 x.2.2.2.2.1 x.2.2.2.2.2.1 x.2.2.2.2.2.2.1
theorem qAo (N:Nat):CC (X43 N) (qab Try.f53) PzaX_4 (qtw N):=CC.of (qhD N) (us:=qpk N) (fun u h _=>qkd N u h) (fun x=>by kernel_rfl)
def qpj (N:Nat):List (Pc D):=PzaX_4.pc (X43 N) (qtw N)::qpk N
theorem qkc (N:Nat):∀u∈qpj N,PcOk (X43 N) (qab Try.f53) u:=qac ((qAo N).pc (by kernel_rfl)) (qkd N)
def PzaX_3:PD D:={path:=[1,1,1,1,0,1,0,0,1,0,1,1,0,0,1,0,0,1,1,0],ins:=[.v 0 (.sl 53), .v 1 (.int .i64), .o 5 (.map 91 97 3), .v 8 .bool, .v 9 (.int .i64), .o 10 (.sl 3), .v 11 (.int .i64)],fx:=[(5, .c (.own 0)),(10, .c (.own 1))],ks:=[2,1],exs:=[⟨.exit 6,[.u 0 (.map 91 97 3), .v 8 .bool],[]⟩],keep:=[0,1,5,9]}
def qtv (N:Nat) (n:Nat):PzaX_3.F:=fun x=>qx8 N x.1 x.2.1 x.2.2.2.2.1 x.2.2.2.2.2.1 n x.2.2.1 x.2.2.2.1 x.2.2.2.2.2.2.1
theorem qAn (N:Nat) (n:Nat):CC (X43 N) (qab Try.f53) PzaX_3 (qtv N n):=CC.loop (qhD N) (us:=qpj N) (c:=sub (qab Try.f53) [1,1,1,1,0,1,0,0,1,0,1,1,0,0,1,0,0,1,1,0,0]) (by kernel_rfl) (by kernel_rfl) (fun u h _=>qkc N u h) (fun x=>rfl) (fun n x=>by kernel_rfl) n
def qpi (N:Nat):List (Pc D):=PzaX_3.pc (X43 N) (qtv N N)::qpj N
theorem qkb (N:Nat):∀u∈qpi N,PcOk (X43 N) (qab Try.f53) u:=qac ((qAn N N).pc (by kernel_rfl)) (qkc N)
def PzaX_2:PD D:={path:=[1,1,1,1,0,1,0,0,1,0,1,1,0],ins:=[.v 0 (.sl 53), .v 1 (.int .i64), .o 5 (.map 91 97 3), .v 8 .bool, .v 9 (.int .i64)],fx:=[(5, .c (.own 0))],ks:=[2],exs:=[⟨.exit 4,[.u 0 (.map 91 97 3), .v 8 .bool],[]⟩],keep:=[0,1,5]}
def qtu (N:Nat) (n:Nat):PzaX_2.F:=fun x=>qx7 N x.1 x.2.1 n x.2.2.1 x.2.2.2.1 x.2.2.2.2.1
theorem qAm (N:Nat) (n:Nat):CC (X43 N) (qab Try.f53) PzaX_2 (qtu N n):=CC.loop (qhD N) (us:=qpi N) (c:=sub (qab Try.f53) [1,1,1,1,0,1,0,0,1,0,1,1,0,0]) (by kernel_rfl) (by kernel_rfl) (fun u h _=>qkb N u h) (fun x=>rfl) (fun n x=>by kernel_rfl) n
def qph (N:Nat):List (Pc D):=PzaX_2.pc (X43 N) (qtu N N)::qpi N
theorem qka (N:Nat):∀u∈qph N,PcOk (X43 N) (qab Try.f53) u:=qac ((qAm N N).pc (by kernel_rfl)) (qkb N)
def PzaX_1:PD D:={path:=[1,1,1,1,0,1,0],ins:=[.v 0 (.sl 53), .v 1 (.int .i64), .o 5 (.map 91 97 3), .v 8 .bool],fx:=[(5, .c (.own 0))],ks:=[2],exs:=[⟨.exit 2,[.u 0 (.map 91 97 3)],[]⟩],keep:=[5]}
def qtt (N:Nat) (n:Nat):PzaX_1.F:=fun x=>qx6 N x.1 x.2.1 n x.2.2.1 x.2.2.2.1
theorem qAl (N:Nat) (n:Nat):CC (X43 N) (qab Try.f53) PzaX_1 (qtt N n):=CC.loop (qhD N) (us:=qph N) (c:=sub (qab Try.f53) [1,1,1,1,0,1,0,0]) (by kernel_rfl) (by kernel_rfl) (fun u h _=>qka N u h) (fun x=>rfl) (fun n x=>by kernel_rfl) n
def qvU (N:Nat):List (Pc D):=PzaX_1.pc (X43 N) (qtt N N)::qph N
theorem qrc (N:Nat):∀u∈qvU N,PcOk (X43 N) (qab Try.f53) u:=qac ((qAl N N).pc (by kernel_rfl)) (qka N)
def dzaX:FD D:={f:=53,np:=2,ins:=[.v 0 (.sl 53), .v 1 (.int .i64)],fx:=[],rcv:=none,rk:=0,outs:=[.o 4 (.map 91 97 3)],ofx:=[(4, .c (.own 0))],rvs:=[.tmp 4],flat:=false}
def FzaX (N:Nat):dzaX.F:=fun r x=>zaX N x.1 x.2.1
theorem ozaX (N:Nat):FOk Try.prog (X43 N) dzaX (FzaX N):=⟨⟨Try.f53,_,Try.func53,rfl,by kernel_rfl,by kernel_rfl,rfl,FC.of (qhD N) (us:=qvU N) (fun u h _=>qrc N u h) (fun r x=>by kernel_rfl)⟩,by kernel_rfl,by kernel_rfl,by kernel_rfl,by kernel_rfl⟩
def fs44 (N:Nat):List (FE D):=⟨dzaX,FzaX N⟩::fs43 N
theorem qy3 (N:Nat):∀y∈fs44 N,CallOk X0 y.d y.F:=qaq (x:=⟨dzaX,FzaX N⟩) (CallOk.ch (CallOk.ch (ozaX N).call)) (qy2 N)
def gs44 (N:Nat):List (GE D):=gs43 N
theorem qu2 (N:Nat):∀y∈gs44 N,CallG X0 y.d y.F:=qu1 N
def X44 (N:Nat):Ev Try.prog D:=(X0.with (fs44 N)).gen (gs44 N)
theorem qlx (N:Nat):COk (X44 N):=COk.gen0 (COk.of (qy3 N)) (qu2 N)
def qoK (N:Nat):List (Pc D):=[]
theorem qjD (N:Nat):∀u∈qoK N,PcOk (X44 N) (qab Try.f27) u:=qam
def PzcL_0:PD D:={path:=[1,1,0,0],ins:=[.v 0 (.sl 53), .v 1 (.int .i64), .v 2 (.int .i64)],fx:=[],ks:=[],exs:=[⟨.normal,[.v 39 .bool],[]⟩],keep:=[0,1,2]}
def quD (N:Nat):PzcL_0.F:=fun x=>qC8 N x.1 x.2.1 x.2.2.1
theorem qBu (N:Nat):CC (X44 N) (qab Try.f27) PzcL_0 (quD N):=CC.of (qlx N) (us:=qoK N) (fun u h _=>qjD N u h) (fun x=>by kernel_rfl)
def qpZ (N:Nat):List (Pc D):=PzcL_0.pc (X44 N) (quD N)::qoK N
theorem qkS (N:Nat):∀u∈qpZ N,PcOk (X44 N) (qab Try.f27) u:=qac ((qBu N).pc (by kernel_rfl)) (qjD N)
def PzcL_4:PD D:={path:=[1,1,1,1,1,1,1,1,0,0,0,1,0,0,1,1,1,0,1,0,0,1,0,0,1,1,0],ins:=[.o 9 (.map 91 97 3), .o 10 (.box 70), .v 11 (.int .i64), .o 13 (.sl 70), .o 14 (.sl 3), .v 15 (.int .i64), .v 16 (.int .i64), .v 17 (.int .i64), .v 18 (.int .i64), .v 19 .bool],fx:=[(9, .c (.own 0)),(10, .box 1 0),(13, .c (.own 2)),(14, .c (.own 3))],ks:=[1,1,1,1],exs:=[⟨.normal,[.v 115 .bool],[]⟩],keep:=[0,2,9,10,11,13,14,15,16,17]}
def quH (N:Nat):PzcL_4.F:=fun x=>qDa N x.2.1 x.2.2.1 x.2.2.2.2.1 x.2.2.2.2.2.1 x.2.2.2.2.2.2.1 x.2.2.2.2.2.2.2.1 x.2.2.2.2.2.2.2.2.1 x.2.2.2.2.2.2.2.2.2.1
theorem qBy (N:Nat):CC (X44 N) (qab Try.f27) PzcL_4 (quH N):=CC.of (qlx N) (us:=qpZ N) (fun u h _=>qkS N u h) (fun x=>by kernel_rfl)
def qp2 (N:Nat):List (Pc D):=PzcL_4.pc (X44 N) (quH N)::qpZ N
theorem qkV (N:Nat):∀u∈qp2 N,PcOk (X44 N) (qab Try.f27) u:=qac ((qBy N).pc (by kernel_rfl)) (qkS N)
def PzcL_3:PD D:={path:=[1,1,1,1,1,1,1,1,0,0,0,1,0,0,1,1,1,0,1,0,0,1,0],ins:=[.v 0 (.sl 53), .o 9 (.map 91 97 3), .o 10 (.box 70), .v 11 (.int .i64), .o 13 (.sl 70), .o 14 (.sl 3), .v 15 (.int .i64), .v 16 (.int .i64)],fx:=[(9, .c (.own 0)),(10, .box 1 0),(13, .c (.own 2)),(14, .c (.own 3))],ks:=[1,2,1,1],exs:=[⟨.normal,[.u 1 (.box 70), .v 15 (.int .i64)],[]⟩],keep:=[0,2,9,10,11,13,14,16]}
def quG (N:Nat):PzcL_3.F:=fun x=>qC9 N x.1 x.2.1 x.2.2.1 x.2.2.2.1 x.2.2.2.2.2.1 x.2.2.2.2.2.2.1 x.2.2.2.2.2.2.2.1
theorem qBx (N:Nat):CC (X44 N) (qab Try.f27) PzcL_3 (quG N):=CC.of (qlx N) (us:=qp2 N) (fun u h _=>qkV N u h) (fun x=>by kernel_rfl)
def qp1 (N:Nat):List (Pc D):=PzcL_3.pc (X44 N) (quG N)::qp2 N
theorem qkU (N:Nat):∀u∈qp1 N,PcOk (X44 N) (qab Try.f27) u:=qac ((qBx N).pc (by kernel_rfl)) (qkV N)
def PzcL_2:PD D:={path:=[1,1,1,1,1,1,1,1,0,0,0,1,0,0,1,1,1,0,1,0],ins:=[.v 0 (.sl 53), .o 9 (.map 91 97 3), .o 10 (.box 70), .v 11 (.int .i64), .o 13 (.sl 70), .o 14 (.sl 3), .v 15 (.int .i64), .v 16 (.int .i64)],fx:=[(9, .c (.own 0)),(10, .box 1 0),(13, .c (.own 2)),(14, .c (.own 3))],ks:=[1,2,1,1],exs:=[⟨.exit 2,[.u 1 (.box 70), .v 15 (.int .i64)],[]⟩],keep:=[0,2,9,10,11,13]}
def quF (N:Nat) (n:Nat):PzcL_2.F:=fun x=>qyu N x.1 x.2.1 x.2.2.2.1 x.2.2.2.2.2.1 n x.2.2.1 x.2.2.2.2.2.2.1 x.2.2.2.2.2.2.2.1
theorem qBw (N:Nat) (n:Nat):CC (X44 N) (qab Try.f27) PzcL_2 (quF N n):=CC.loop (qlx N) (us:=qp1 N) (c:=sub (qab Try.f27) [1,1,1,1,1,1,1,1,0,0,0,1,0,0,1,1,1,0,1,0,0]) (by kernel_rfl) (by kernel_rfl) (fun u h _=>qkU N u h) (fun x=>rfl) (fun n x=>by kernel_rfl) n
def qp0 (N:Nat):List (Pc D):=PzcL_2.pc (X44 N) (quF N N)::qp1 N
theorem qkT (N:Nat):∀u∈qp0 N,PcOk (X44 N) (qab Try.f27) u:=qac ((qBw N N).pc (by kernel_rfl)) (qkU N)
def PzcL_1:PD D:={path:=[1,1,1,1,1,1,1,1,0,0],ins:=[.v 0 (.sl 53), .o 9 (.map 91 97 3), .o 10 (.box 70), .v 11 (.int .i64), .o 13 (.sl 70)],fx:=[(9, .c (.own 0)),(10, .box 1 0),(13, .c (.own 2))],ks:=[1,2,0],exs:=[⟨.exit 0,[.u 1 (.box 70), .o 13 (.sl 70)],[(13, .c (.own 3))]⟩,⟨.ret,[.v 7 (.int .i64)],[(6, .c .nilS)]⟩],keep:=[2,10]}
def quE (N:Nat) (n:Nat):PzcL_1.F:=fun x=>qyt N x.1 x.2.1 n x.2.2.1 x.2.2.2.1 x.2.2.2.2.1
theorem qBv (N:Nat) (n:Nat):CC (X44 N) (qab Try.f27) PzcL_1 (quE N n):=CC.loop (qlx N) (us:=qp0 N) (c:=sub (qab Try.f27) [1,1,1,1,1,1,1,1,0,0,0]) (by kernel_rfl) (by kernel_rfl) (fun u h _=>qkT N u h) (fun x=>rfl) (fun n x=>by kernel_rfl) n
def qwl (N:Nat):List (Pc D):=PzcL_1.pc (X44 N) (quE N N)::qp0 N
theorem qrD (N:Nat):∀u∈qwl N,PcOk (X44 N) (qab Try.f27) u:=qac ((qBv N N).pc (by kernel_rfl)) (qkT N)
def dzcL:FD D:={f:=27,np:=3,ins:=[.v 0 (.sl 53), .v 1 (.int .i64), .v 2 (.int .i64)],fx:=[],rcv:=none,rk:=0,outs:=[.o 6 (.sl 70), .v 7 (.int .i64)],ofx:=[(6, .c (.own 0))],rvs:=[.tmp 6, .tmp 7],flat:=false}
def FzcL (N:Nat):dzcL.F:=fun r x=>zcL N x.1 x.2.1 x.2.2.1
theorem ozcL (N:Nat):FOk Try.prog (X44 N) dzcL (FzcL N):=⟨⟨Try.f27,_,Try.func27,rfl,by kernel_rfl,by kernel_rfl,rfl,FC.of (qlx N) (us:=qwl N) (fun u h _=>qrD N u h) (fun r x=>by kernel_rfl)⟩,by kernel_rfl,by kernel_rfl,by kernel_rfl,by kernel_rfl⟩
def fs45 (N:Nat):List (FE D):=⟨dzcL,FzcL N⟩::fs44 N
theorem qy4 (N:Nat):∀y∈fs45 N,CallOk X0 y.d y.F:=qaq (x:=⟨dzcL,FzcL N⟩) (CallOk.ch (CallOk.ch (ozcL N).call)) (qy3 N)
def gs45 (N:Nat):List (GE D):=gs44 N
theorem qu3 (N:Nat):∀y∈gs45 N,CallG X0 y.d y.F:=qu2 N
def X45 (N:Nat):Ev Try.prog D:=(X0.with (fs45 N)).gen (gs45 N)
theorem qqk (N:Nat):COk (X45 N):=COk.gen0 (COk.of (qy4 N)) (qu3 N)
def qoc (N:Nat):List (Pc D):=[]
theorem qi5 (N:Nat):∀u∈qoc N,PcOk (X45 N) (qab Try.f29) u:=qam
def PzaO_2:PD D:={path:=[1,1,1,0,1,0,0,1,1,0,0,1,1,0,1,1,0],ins:=[.o 6 (.sl 33), .o 8 (.box 70), .o 9 (.box 53)],fx:=[(6, .c (.own 0)),(8, .box 1 0),(9, .box 2 0)],ks:=[1,1,1],exs:=[⟨.normal,[.v 35 .bool],[]⟩],keep:=[0,6,8,9,14,15,16]}
def qs7 (N:Nat):PzaO_2.F:=fun x=>qCS N x.2.1 x.2.2.1
theorem qzZ (N:Nat):CC (X45 N) (qab Try.f29) PzaO_2 (qs7 N):=CC.of (qqk N) (us:=qoc N) (fun u h _=>qi5 N u h) (fun x=>by kernel_rfl)
def qo2 (N:Nat):List (Pc D):=PzaO_2.pc (X45 N) (qs7 N)::qoc N
theorem qjV (N:Nat):∀u∈qo2 N,PcOk (X45 N) (qab Try.f29) u:=qac ((qzZ N).pc (by kernel_rfl)) (qi5 N)
def PzaO_1:PD D:={path:=[1,1,1,0,1,0,0,1,1,0],ins:=[.v 0 (.sl 53), .o 6 (.sl 33), .v 14 (.sl 70), .v 16 (.int .i64)],fx:=[(6, .c (.own 0))],ks:=[0],exs:=[⟨.normal,[.o 6 (.sl 33)],[(6, .c (.own 1))]⟩],keep:=[0,14,15,16]}
def qs6 (N:Nat):PzaO_1.F:=fun x=>qCR N x.1 x.2.1 x.2.2.1 x.2.2.2.1
theorem qzY (N:Nat):CC (X45 N) (qab Try.f29) PzaO_1 (qs6 N):=CC.of (qqk N) (us:=qo2 N) (fun u h _=>qjV N u h) (fun x=>by kernel_rfl)
def qo1 (N:Nat):List (Pc D):=PzaO_1.pc (X45 N) (qs6 N)::qo2 N
theorem qjU (N:Nat):∀u∈qo1 N,PcOk (X45 N) (qab Try.f29) u:=qac ((qzY N).pc (by kernel_rfl)) (qjV N)
def PzaO_0:PD D:={path:=[1,1,1,0,1,0],ins:=[.v 0 (.sl 53), .o 6 (.sl 33), .v 14 (.sl 70), .v 15 (.int .i64), .v 16 (.int .i64)],fx:=[(6, .c (.own 0))],ks:=[0],exs:=[⟨.exit 0,[.o 6 (.sl 33)],[(6, .c (.own 1))]⟩],keep:=[]}
def qs5 (N:Nat) (n:Nat):PzaO_0.F:=fun x=>qsh N x.1 x.2.2.1 x.2.2.2.1 n x.2.1 x.2.2.2.2.1
theorem qzX (N:Nat) (n:Nat):CC (X45 N) (qab Try.f29) PzaO_0 (qs5 N n):=CC.loop (qqk N) (us:=qo1 N) (c:=sub (qab Try.f29) [1,1,1,0,1,0,0]) (by kernel_rfl) (by kernel_rfl) (fun u h _=>qjU N u h) (fun x=>rfl) (fun n x=>by kernel_rfl) n
def qvM (N:Nat):List (Pc D):=PzaO_0.pc (X45 N) (qs5 N N)::qo1 N
theorem qq4 (N:Nat):∀u∈qvM N,PcOk (X45 N) (qab Try.f29) u:=qac ((qzX N N).pc (by kernel_rfl)) (qjU N)
def dzaO:FD D:={f:=29,np:=2,ins:=[.v 0 (.sl 53), .v 1 (.sl 70)],fx:=[],rcv:=none,rk:=0,outs:=[.o 4 (.sl 33), .v 5 (.int .i64)],ofx:=[(4, .c (.own 0))],rvs:=[.tmp 4, .tmp 5],flat:=false}
def FzaO (N:Nat):dzaO.F:=fun r x=>zaO N x.1 x.2.1
theorem ozaO (N:Nat):FOk Try.prog (X45 N) dzaO (FzaO N):=⟨⟨Try.f29,_,Try.func29,rfl,by kernel_rfl,by kernel_rfl,rfl,FC.of (qqk N) (us:=qvM N) (fun u h _=>qq4 N u h) (fun r x=>by kernel_rfl)⟩,by kernel_rfl,by kernel_rfl,by kernel_rfl,by kernel_rfl⟩
def fs46 (N:Nat):List (FE D):=⟨dzaO,FzaO N⟩::fs45 N
theorem qy5 (N:Nat):∀y∈fs46 N,CallOk X0 y.d y.F:=qaq (x:=⟨dzaO,FzaO N⟩) (CallOk.ch (CallOk.ch (ozaO N).call)) (qy4 N)
def gs46 (N:Nat):List (GE D):=gs45 N
theorem qu4 (N:Nat):∀y∈gs46 N,CallG X0 y.d y.F:=qu3 N
def X46 (N:Nat):Ev Try.prog D:=(X0.with (fs46 N)).gen (gs46 N)
theorem qzx (N:Nat):COk (X46 N):=COk.gen0 (COk.of (qy5 N)) (qu4 N)
def qov (N:Nat):List (Pc D):=[]
theorem qjo (N:Nat):∀u∈qov N,PcOk (X46 N) (qab Try.f60) u:=qam
def PzbT_0:PD D:={path:=[1,0,0],ins:=[.o 2 (.box 53), .o 3 (.box 70)],fx:=[(2, .box 0 0),(3, .box 1 0)],ks:=[1,1],exs:=[⟨.normal,[.v 16 .bool],[]⟩],keep:=[2]}
def qt1 (N:Nat):PzbT_0.F:=fun x=>qC6 N x.1 x.2.1
theorem qAT (N:Nat):CC (X46 N) (qab Try.f60) PzbT_0 (qt1 N):=CC.of (qzx N) (us:=qov N) (fun u h _=>qjo N u h) (fun x=>by kernel_rfl)
def qv6 (N:Nat):List (Pc D):=PzbT_0.pc (X46 N) (qt1 N)::qov N
theorem qro (N:Nat):∀u∈qv6 N,PcOk (X46 N) (qab Try.f60) u:=qac ((qAT N).pc (by kernel_rfl)) (qjo N)
def dzbT:FD D:={f:=60,np:=2,ins:=[.v 0 (.agg 53), .v 1 (.agg 70)],fx:=[],rcv:=none,rk:=0,outs:=[.v 4 (.int .i64)],ofx:=[],rvs:=[.tmp 4],flat:=true}
def FzbT (N:Nat):dzbT.F:=fun r x=>zbT N x.1 x.2.1
theorem ozbT (N:Nat):FOk Try.prog (X46 N) dzbT (FzbT N):=⟨⟨Try.f60,_,Try.func60,rfl,by kernel_rfl,by kernel_rfl,rfl,FC.of (qzx N) (us:=qv6 N) (fun u h _=>qro N u h) (fun r x=>by kernel_rfl)⟩,by kernel_rfl,by kernel_rfl,by kernel_rfl,by kernel_rfl⟩
def fs47 (N:Nat):List (FE D):=⟨dzbT,FzbT N⟩::fs46 N
theorem qy6 (N:Nat):∀y∈fs47 N,CallOk X0 y.d y.F:=qaq (x:=⟨dzbT,FzbT N⟩) (CallOk.ch (CallOk.ch (ozbT N).call)) (qy5 N)
def gs47 (N:Nat):List (GE D):=gs46 N
theorem qu5 (N:Nat):∀y∈gs47 N,CallG X0 y.d y.F:=qu4 N
def X47 (N:Nat):Ev Try.prog D:=(X0.with (fs47 N)).gen (gs47 N)
theorem qzy (N:Nat):COk (X47 N):=COk.gen0 (COk.of (qy6 N)) (qu5 N)
def dzaE:GD D:={f:=57,np:=3,ins:=[.o 100000000 (.box 23), .o 100000001 (.bx 71 [(0,5)]), .o 100000002 (.bx 67 [(0,6)]), .o 100000003 (.fb 88 57 [7]), .o 100000004 (.fb 98 58 [0,1,2,3,4]), .o 100000005 (.map 71 74 4), .o 100000006 (.map 67 3 4), .v 0 (.int .i64), .v 1 (.int .i64), .o 2 (.bx 60 [(0,8)]), .o 2002000 (.map 60 3 3)],fx:=[(2, .box 7 0)],ks:=[1,1,1,1,1,1,1,1,2],outs:=[.v 5 (.int .i64), .u 8 (.map 60 3 3)],ofx:=[],res:=[5]}
def FzaE (N:Nat):dzaE.pd.F:=fun x=>zaE N x.2.2.2.2.2.2.2.1 x.2.2.2.2.2.2.2.2.1 x.2.2.2.2.2.2.2.2.2.2.1
def qn5 (N:Nat):List (Pc D):=[]
theorem qiY (N:Nat):∀u∈qn5 N,PcOk (X47 N) (qab Try.f57) u:=qam
def PzaE_0:PD D:={path:=[1,0,1,0],ins:=[.o 100000000 (.box 23), .o 100000001 (.bx 71 [(0,5)]), .o 100000002 (.bx 67 [(0,6)]), .o 100000003 (.fb 88 57 [7]), .o 100000004 (.fb 98 58 [0,1,2,3,4]), .o 100000005 (.map 71 74 4), .o 100000006 (.map 67 3 4), .v 1 (.int .i64), .o 2 (.bx 60 [(0,8)]), .v 6 (.int .i64), .v 7 .bool, .o 2002000 (.map 60 3 3)],fx:=[(2, .box 7 0)],ks:=[1,1,1,1,1,1,1,1,1],exs:=[⟨.normal,[.v 19 .bool],[]⟩],keep:=[0,1,2]}
def qsP (N:Nat):PzaE_0.F:=fun x=>qCL N x.2.2.2.2.2.2.2.1 x.2.2.2.2.2.2.2.2.2.1 x.2.2.2.2.2.2.2.2.2.2.1
theorem qzH (N:Nat):CC (X47 N) (qab Try.f57) PzaE_0 (qsP N):=CC.of (qzy N) (us:=qn5 N) (fun u h _=>qiY N u h) (fun x=>by kernel_rfl)
def qvF (N:Nat):List (Pc D):=PzaE_0.pc (X47 N) (qsP N)::qn5 N
theorem qqX (N:Nat):∀u∈qvF N,PcOk (X47 N) (qab Try.f57) u:=qac ((qzH N).pc (by kernel_rfl)) (qiY N)
theorem ozaE (N:Nat):GOk Try.prog (X47 N) dzaE (FzaE N):=⟨⟨Try.f57,_,Try.func57,rfl,by kernel_rfl,by kernel_rfl,rfl,by kernel_rfl,CCn.of (qzy N) (us:=qvF N) (fun u h _=>qqX N u h) (fun x=>by kernel_rfl)⟩⟩
theorem wzaE (N:Nat):CallG X0 dzaE (FzaE N):=(ozaE N).call.base.base
def fs48 (N:Nat):List (FE D):=fs47 N
theorem qy7 (N:Nat):∀y∈fs48 N,CallOk X0 y.d y.F:=qy6 N
def gs48 (N:Nat):List (GE D):=⟨dzaE,FzaE N⟩::gs47 N
theorem qu6 (N:Nat):∀y∈gs48 N,CallG X0 y.d y.F:=qcn (x:=⟨dzaE,FzaE N⟩) (wzaE N) (qu5 N)
def X48 (N:Nat):Ev Try.prog D:=(X0.with (fs48 N)).gen (gs48 N)
theorem qDs (N:Nat):COk (X48 N):=COk.gen0 (COk.of (qy7 N)) (qu6 N)
def qvz (N:Nat):List (Pc D):=[]
theorem qqS (N:Nat):∀u∈qvz N,PcOk (X48 N) (qab Try.f59) u:=qam
def dzbS:FD D:={f:=59,np:=2,ins:=[.v 0 (.agg 53), .v 1 (.int .i64)],fx:=[],rcv:=none,rk:=0,outs:=[.v 4 (.int .i64)],ofx:=[],rvs:=[.tmp 4],flat:=true}
def FzbS (N:Nat):dzbS.F:=fun r x=>zbS N x.1 x.2.1
theorem ozbS (N:Nat):FOk Try.prog (X48 N) dzbS (FzbS N):=⟨⟨Try.f59,_,Try.func59,rfl,by kernel_rfl,by kernel_rfl,rfl,FC.of (qDs N) (us:=qvz N) (fun u h _=>qqS N u h) (fun r x=>by kernel_rfl)⟩,by kernel_rfl,by kernel_rfl,by kernel_rfl,by kernel_rfl⟩
def fs49 (N:Nat):List (FE D):=⟨dzbS,FzbS N⟩::fs48 N
theorem qww (N:Nat):∀y∈fs49 N,CallOk X0 y.d y.F:=qaq (x:=⟨dzbS,FzbS N⟩) (CallOk.ch (CallOk.ch (ozbS N).call)) (qy7 N)
def gs49 (N:Nat):List (GE D):=gs48 N
theorem qmy (N:Nat):∀y∈gs49 N,CallG X0 y.d y.F:=qu6 N
def X49 (N:Nat):Ev Try.prog D:=(X0.with (fs49 N)).gen (gs49 N)
theorem qEQ (N:Nat):COk (X49 N):=COk.gen0 (COk.of (qww N)) (qmy N)
def dzaF:GD D:={f:=58,np:=6,ins:=[.v 0 (.agg 74), .o 1 (.box 23), .o 2 (.bx 71 [(0,5)]), .o 3 (.bx 67 [(0,6)]), .o 4 (.fb 88 57 [7]), .o 5 (.fb 98 58 [0,1,2,3,4]), .o 2002000 (.map 71 74 4), .o 2003000 (.map 67 3 4), .o 200016385 (.bx 60 [(0,8)]), .o 201048641 (.map 60 3 3)],fx:=[(1, .box 0 0),(2, .box 1 0),(3, .box 2 0),(4, .box 3 0),(5, .box 4 0)],ks:=[1,1,1,1,1,2,1,1,2],outs:=[.v 7 (.int .i64), .u 5 (.map 71 74 4), .u 8 (.map 60 3 3)],ofx:=[],res:=[7],fz:=true}
def FzaF (N rc:Nat):dzaF.pd.F:=fun x=>zaF N rc x.1 x.2.1 x.2.2.1 x.2.2.2.1 x.2.2.2.2.2.2.1 x.2.2.2.2.2.2.2.1 x.2.2.2.2.2.2.2.2.1 x.2.2.2.2.2.2.2.2.2.1
def Xr49 (N rc:Nat):Ev Try.prog D:=(X0.with (fs49 N)).gen (⟨dzaF,FzaF N rc⟩::gs49 N)
theorem quQ (N rc:Nat) (hr:CallG X0 dzaF (FzaF N rc)):COk (Xr49 N rc):=COk.gen0 (COk.of (qww N)) (qcn (x:=⟨dzaF,FzaF N rc⟩) hr (qmy N))
def qn6 (N rc:Nat):List (Pc D):=[]
theorem qiZ (N rc:Nat) (hr:CallG X0 dzaF (FzaF N rc)):∀u∈qn6 N rc,PcOk (Xr49 N rc) (qab Try.f58) u:=qam
def PzaF_0:PD D:={path:=[1,1,0,0],ins:=[.o 1 (.box 23), .o 2 (.bx 71 [(0,5)]), .o 3 (.bx 67 [(0,6)]), .o 4 (.fb 88 57 [7]), .o 5 (.fb 98 58 [0,1,2,3,4]), .v 6 (.rp 74), .v 8 (.int .i64), .o 2002000 (.map 71 74 4), .o 2003000 (.map 67 3 4), .o 200016385 (.bx 60 [(0,8)]), .o 201048641 (.map 60 3 3)],fx:=[(1, .box 0 0),(2, .box 1 0),(3, .box 2 0),(4, .box 3 0),(5, .box 4 0)],ks:=[1,1,1,1,1,1,1,1,1],exs:=[⟨.normal,[.v 28 .bool],[]⟩],keep:=[1,2,3,4,5,6,8]}
def qsQ (N rc:Nat):PzaF_0.F:=fun x=>qCM N (zaF N rc) x.2.2.2.2.2.1 x.2.2.2.2.2.2.1 x.2.2.2.2.2.2.2.1 x.2.2.2.2.2.2.2.2.1
theorem qzI (N rc:Nat) (hr:CallG X0 dzaF (FzaF N rc)):CC (Xr49 N rc) (qab Try.f58) PzaF_0 (qsQ N rc):=CC.of (quQ N rc hr) (us:=qn6 N rc) (fun u h _=>qiZ N rc hr u h) (fun x=>by kernel_rfl)
def qvG (N rc:Nat):List (Pc D):=PzaF_0.pc (Xr49 N rc) (qsQ N rc)::qn6 N rc
theorem qqY (N rc:Nat) (hr:CallG X0 dzaF (FzaF N rc)):∀u∈qvG N rc,PcOk (Xr49 N rc) (qab Try.f58) u:=qac ((qzI N rc hr).pc (by kernel_rfl)) (qiZ N rc hr)
theorem ozaF (N rc:Nat) (hr:CallG X0 dzaF (FzaF N rc)):GOk Try.prog (Xr49 N rc) dzaF (FzaF N (rc+1)):=⟨⟨Try.f58,_,Try.func58,rfl,by kernel_rfl,by kernel_rfl,rfl,by kernel_rfl,CCn.of (quQ N rc hr) (us:=qvG N rc) (fun u h _=>qqY N rc hr u h) (fun x=>by kernel_rfl)⟩⟩
theorem wzaF (N:Nat):∀rc:Nat,CallG X0 dzaF (FzaF N rc)
 |0=>CallG.none fun x=>rfl
 |rc+1=>(ozaF N rc (wzaF N rc)).call.base.base
def fs50 (N:Nat):List (FE D):=fs49 N
theorem qy8 (N:Nat):∀y∈fs50 N,CallOk X0 y.d y.F:=qww N
def gs50 (N:Nat):List (GE D):=⟨dzaF,FzaF N N⟩::gs49 N
theorem qu7 (N:Nat):∀y∈gs50 N,CallG X0 y.d y.F:=qcn (x:=⟨dzaF,FzaF N N⟩) (wzaF N N) (qmy N)
def X50 (N:Nat):Ev Try.prog D:=(X0.with (fs50 N)).gen (gs50 N)
theorem qDt (N:Nat):COk (X50 N):=COk.gen0 (COk.of (qy8 N)) (qu7 N)
def Y50 (N:Nat):Ev Try.prog D:=(X50 N).cuts fun x lo hi=>match x,lo,hi with| .func 57,none,none=>5| .func 58,none,none=>5|_,_,_=>0
theorem qmg (N:Nat):COk (Y50 N):=COk.cuts (qDt N)
def qop (N:Nat):List (Pc D):=[]
theorem qji (N:Nat):∀u∈qop N,PcOk (Y50 N) (qab Try.f30) u:=qam
def PzbH_1:PD D:={path:=[1,1,1,1,1,1,1,0,1,0,0,1,1,0],ins:=[.o 2 (.box 23), .o 8 (.bx 60 [(0,3)]), .o 10 (.fb 98 58 [0,4,5,6,2]), .v 21 (.sl 70), .v 23 (.int .i64), .o 2008000 (.map 60 3 3), .o 200040962 (.bx 71 [(0,7)]), .o 200040963 (.bx 67 [(0,8)]), .o 200040964 (.fb 88 57 [1]), .o 202621569 (.map 71 74 4), .o 202621633 (.map 67 3 4)],fx:=[(2, .box 0 0),(8, .box 1 0),(10, .box 2 0)],ks:=[1,1,1,2,1,1,1,2,1],exs:=[⟨.normal,[.u 3 (.map 60 3 3), .u 7 (.map 71 74 4)],[]⟩,⟨.ret,[.v 5 (.int .i64)],[(4, .c .nilM)]⟩],keep:=[2,8,10,21,22,23]}
def qtT (N:Nat):PzbH_1.F:=fun x=>qC2 N x.1 x.2.2.2.1 x.2.2.2.2.1 x.2.2.2.2.2.1 x.2.2.2.2.2.2.2.2.2.1 x.2.2.2.2.2.2.2.2.2.2.1
theorem qAL (N:Nat):CC (Y50 N) (qab Try.f30) PzbH_1 (qtT N):=CC.of (qmg N) (us:=qop N) (fun u h _=>qji N u h) (fun x=>by kernel_rfl)
def qpA (N:Nat):List (Pc D):=PzbH_1.pc (Y50 N) (qtT N)::qop N
theorem qkt (N:Nat):∀u∈qpA N,PcOk (Y50 N) (qab Try.f30) u:=qac ((qAL N).pc (by kernel_rfl)) (qji N)
def PzbH_0:PD D:={path:=[1,1,1,1,1,1,1,0,1,0],ins:=[.o 2 (.box 23), .o 8 (.bx 60 [(0,3)]), .o 10 (.fb 98 58 [0,4,5,6,2]), .v 21 (.sl 70), .v 22 (.int .i64), .v 23 (.int .i64), .o 2008000 (.map 60 3 3), .o 200040962 (.bx 71 [(0,7)]), .o 200040963 (.bx 67 [(0,8)]), .o 200040964 (.fb 88 57 [1]), .o 202621569 (.map 71 74 4), .o 202621633 (.map 67 3 4)],fx:=[(2, .box 0 0),(8, .box 1 0),(10, .box 2 0)],ks:=[1,2,1,0,2,1,1,0,1],exs:=[⟨.exit 0,[.u 1 (.bx 60 [(0,9)]), .o 2008000 (.map 60 3 3)],[]⟩,⟨.ret,[.v 5 (.int .i64)],[(4, .c .nilM)]⟩],keep:=[8]}
def qtS (N:Nat) (n:Nat):PzbH_0.F:=fun x=>qyc N x.1 x.2.2.2.1 x.2.2.2.2.1 x.2.2.2.2.2.2.2.2.2.2.2.1 n x.2.1 x.2.2.2.2.2.1 x.2.2.2.2.2.2.1 x.2.2.2.2.2.2.2.1 x.2.2.2.2.2.2.2.2.2.2.1
theorem qAK (N:Nat) (n:Nat):CC (Y50 N) (qab Try.f30) PzbH_0 (qtS N n):=CC.loop (qmg N) (us:=qpA N) (c:=sub (qab Try.f30) [1,1,1,1,1,1,1,0,1,0,0]) (by kernel_rfl) (by kernel_rfl) (fun u h _=>qkt N u h) (fun x=>rfl) (fun n x=>by kernel_rfl) n
def qv0 (N:Nat):List (Pc D):=PzbH_0.pc (Y50 N) (qtS N N)::qpA N
theorem qri (N:Nat):∀u∈qv0 N,PcOk (Y50 N) (qab Try.f30) u:=qac ((qAK N N).pc (by kernel_rfl)) (qkt N)
def dzbH:FD D:={f:=30,np:=2,ins:=[.v 0 (.sl 53), .v 1 (.sl 70)],fx:=[],rcv:=none,rk:=0,outs:=[.v 4 (.mp 60 3 3), .v 5 (.int .i64)],ofx:=[],rvs:=[.tmp 4, .tmp 5],flat:=false}
def FzbH (N:Nat):dzbH.F:=fun r x=>zbH N x.1 x.2.1
theorem ozbH (N:Nat):FOk Try.prog (Y50 N) dzbH (FzbH N):=⟨⟨Try.f30,_,Try.func30,rfl,by kernel_rfl,by kernel_rfl,rfl,FC.of (qmg N) (us:=qv0 N) (fun u h _=>qri N u h) (fun r x=>by kernel_rfl)⟩,by kernel_rfl,by kernel_rfl,by kernel_rfl,by kernel_rfl⟩
def fs51 (N:Nat):List (FE D):=⟨dzbH,FzbH N⟩::fs50 N
theorem qy9 (N:Nat):∀y∈fs51 N,CallOk X0 y.d y.F:=qaq (x:=⟨dzbH,FzbH N⟩) (CallOk.ch (CallOk.ch (CallOk.ch (ozbH N).call))) (qy8 N)
def gs51 (N:Nat):List (GE D):=gs50 N
theorem qu8 (N:Nat):∀y∈gs51 N,CallG X0 y.d y.F:=qu7 N
def X51 (N:Nat):Ev Try.prog D:=(X0.with (fs51 N)).gen (gs51 N)
theorem qzz (N:Nat):COk (X51 N):=COk.gen0 (COk.of (qy9 N)) (qu8 N)
def qvv (N:Nat):List (Pc D):=[]
theorem qqO (N:Nat):∀u∈qvv N,PcOk (X51 N) (qab Try.f13) u:=qam
def PzaR_0:PD D:=rngP D [1,1,1,1,1] 33 3 3 60
def qte (N:Nat):PzaR_0.F:=fun x=>qxY N x.1 x.2.1
theorem qz6 (N:Nat):CC (X51 N) (qab Try.f13) PzaR_0 (qte N):=qnJ (e:=33) (kt:=3) (vt:=3) (t:=60) (qzz N) (by kernel_rfl) .i64 .i64 rfl rfl (fun (a:Int) (b:Int)=>(Setting.mk a b)) ((Setting.mk 0 0):Setting) (fun (x:Setting)=>x.element) (by kernel_rfl) (by kernel_rfl) (by kernel_rfl) (by kernel_rfl) rfl ki3.K vi3.V (fun _=>rfl) (fun _=>rfl) (by kernel_rfl) (fun a b ys wf=>by kernel_rfl) (fun ys wf=>by kernel_rfl) (fun ys wf=>by kernel_rfl) si31_56.hv si31_56.hr si31_56.hf (Nat.le_of_ble_eq_true (by kernel_rfl)) (by kernel_rfl) (by kernel_rfl)
def qvP (N:Nat):List (Pc D):=PzaR_0.pc (X51 N) (qte N)::qvv N
theorem qq7 (N:Nat):∀u∈qvP N,PcOk (X51 N) (qab Try.f13) u:=qac ((qz6 N).pc (by kernel_rfl)) (qqO N)
def dzaR:FD D:={f:=13,np:=2,ins:=[.v 0 (.sl 53), .v 1 (.sl 70)],fx:=[],rcv:=none,rk:=0,outs:=[.v 4 (.sl 33), .v 5 (.int .i64)],ofx:=[],rvs:=[.tmp 4, .tmp 5],flat:=false}
def FzaR (N:Nat):dzaR.F:=fun r x=>zaR N x.1 x.2.1
theorem ozaR (N:Nat):FOk Try.prog (X51 N) dzaR (FzaR N):=⟨⟨Try.f13,_,Try.func13,rfl,by kernel_rfl,by kernel_rfl,rfl,FC.of (qzz N) (us:=qvP N) (fun u h _=>qq7 N u h) (fun r x=>by kernel_rfl)⟩,by kernel_rfl,by kernel_rfl,by kernel_rfl,by kernel_rfl⟩
def fs52 (N:Nat):List (FE D):=⟨dzaR,FzaR N⟩::fs51 N
theorem qza (N:Nat):∀y∈fs52 N,CallOk X0 y.d y.F:=qaq (x:=⟨dzaR,FzaR N⟩) (CallOk.ch (CallOk.ch (ozaR N).call)) (qy9 N)
def gs52 (N:Nat):List (GE D):=gs51 N
theorem qu9 (N:Nat):∀y∈gs52 N,CallG X0 y.d y.F:=qu8 N
def X52 (N:Nat):Ev Try.prog D:=(X0.with (fs52 N)).gen (gs52 N)
theorem qzA (N:Nat):COk (X52 N):=COk.gen0 (COk.of (qza N)) (qu9 N)
def qn7 (N:Nat):List (Pc D):=[]
theorem qi0 (N:Nat):∀u∈qn7 N,PcOk (X52 N) (qab Try.f52) u:=qam
def PzaI_0:PD D:={path:=[1,1,0,1,0],ins:=[.v 0 (.sl 33), .v 1 (.sl 33), .v 5 (.int .i64)],fx:=[],ks:=[],exs:=[⟨.exit 0,[],[]⟩,⟨.ret,[.v 4 .bool],[]⟩],keep:=[]}
def qsR (N:Nat) (n:Nat):PzaI_0.F:=fun x=>qxT N x.1 x.2.1 n x.2.2.1
theorem qzJ (N:Nat) (n:Nat):CC (X52 N) (qab Try.f52) PzaI_0 (qsR N n):=CC.loop (qzA N) (us:=qn7 N) (c:=sub (qab Try.f52) [1,1,0,1,0,0]) (by kernel_rfl) (by kernel_rfl) (fun u h _=>qi0 N u h) (fun x=>rfl) (fun n x=>by kernel_rfl) n
def qvH (N:Nat):List (Pc D):=PzaI_0.pc (X52 N) (qsR N N)::qn7 N
theorem qqZ (N:Nat):∀u∈qvH N,PcOk (X52 N) (qab Try.f52) u:=qac ((qzJ N N).pc (by kernel_rfl)) (qi0 N)
def dzaI:FD D:={f:=52,np:=2,ins:=[.v 0 (.sl 33), .v 1 (.sl 33)],fx:=[],rcv:=none,rk:=0,outs:=[.v 4 .bool],ofx:=[],rvs:=[.tmp 4],flat:=true}
def FzaI (N:Nat):dzaI.F:=fun r x=>zaI N x.1 x.2.1
theorem ozaI (N:Nat):FOk Try.prog (X52 N) dzaI (FzaI N):=⟨⟨Try.f52,_,Try.func52,rfl,by kernel_rfl,by kernel_rfl,rfl,FC.of (qzA N) (us:=qvH N) (fun u h _=>qqZ N u h) (fun r x=>by kernel_rfl)⟩,by kernel_rfl,by kernel_rfl,by kernel_rfl,by kernel_rfl⟩
def fs53 (N:Nat):List (FE D):=⟨dzaI,FzaI N⟩::fs52 N
theorem qzb (N:Nat):∀y∈fs53 N,CallOk X0 y.d y.F:=qaq (x:=⟨dzaI,FzaI N⟩) (CallOk.ch (CallOk.ch (ozaI N).call)) (qza N)
def gs53 (N:Nat):List (GE D):=gs52 N
theorem qva (N:Nat):∀y∈gs53 N,CallG X0 y.d y.F:=qu9 N
def X53 (N:Nat):Ev Try.prog D:=(X0.with (fs53 N)).gen (gs53 N)
theorem qDu (N:Nat):COk (X53 N):=COk.gen0 (COk.of (qzb N)) (qva N)
def qvu (N:Nat):List (Pc D):=[]
theorem qqN (N:Nat):∀u∈qvu N,PcOk (X53 N) (qab Try.f25) u:=qam
def dzaD:FD D:={f:=25,np:=2,ins:=[.v 0 (.sl 33), .v 1 (.sl 33)],fx:=[],rcv:=none,rk:=0,outs:=[.v 4 .bool],ofx:=[],rvs:=[.tmp 4],flat:=true}
def FzaD (N:Nat):dzaD.F:=fun r x=>zaD N x.1 x.2.1
theorem ozaD (N:Nat):FOk Try.prog (X53 N) dzaD (FzaD N):=⟨⟨Try.f25,_,Try.func25,rfl,by kernel_rfl,by kernel_rfl,rfl,FC.of (qDu N) (us:=qvu N) (fun u h _=>qqN N u h) (fun r x=>by kernel_rfl)⟩,by kernel_rfl,by kernel_rfl,by kernel_rfl,by kernel_rfl⟩
def fs54 (N:Nat):List (FE D):=⟨dzaD,FzaD N⟩::fs53 N
theorem qzc (N:Nat):∀y∈fs54 N,CallOk X0 y.d y.F:=qaq (x:=⟨dzaD,FzaD N⟩) (CallOk.ch (CallOk.ch (ozaD N).call)) (qzb N)
def gs54 (N:Nat):List (GE D):=gs53 N
theorem qvb (N:Nat):∀y∈gs54 N,CallG X0 y.d y.F:=qva N
def X54 (N:Nat):Ev Try.prog D:=(X0.with (fs54 N)).gen (gs54 N)
theorem qzB (N:Nat):COk (X54 N):=COk.gen0 (COk.of (qzc N)) (qvb N)
def qoG (N:Nat):List (Pc D):=[]
theorem qjz (N:Nat):∀u∈qoG N,PcOk (X54 N) (qab Try.f26) u:=qam
def PzcH_0:PD D:={path:=[1,1,0,1,0],ins:=[.v 0 (.sl 3), .v 1 (.sl 3), .v 5 (.int .i64)],fx:=[],ks:=[],exs:=[⟨.exit 0,[],[]⟩,⟨.ret,[.v 4 .bool],[]⟩],keep:=[]}
def quw (N:Nat) (n:Nat):PzcH_0.F:=fun x=>qyo N x.1 x.2.1 n x.2.2.1
theorem qBn (N:Nat) (n:Nat):CC (X54 N) (qab Try.f26) PzcH_0 (quw N n):=CC.loop (qzB N) (us:=qoG N) (c:=sub (qab Try.f26) [1,1,0,1,0,0]) (by kernel_rfl) (by kernel_rfl) (fun u h _=>qjz N u h) (fun x=>rfl) (fun n x=>by kernel_rfl) n
def qwh (N:Nat):List (Pc D):=PzcH_0.pc (X54 N) (quw N N)::qoG N
theorem qrz (N:Nat):∀u∈qwh N,PcOk (X54 N) (qab Try.f26) u:=qac ((qBn N N).pc (by kernel_rfl)) (qjz N)
def dzcH:FD D:={f:=26,np:=2,ins:=[.v 0 (.sl 3), .v 1 (.sl 3)],fx:=[],rcv:=none,rk:=0,outs:=[.v 4 .bool],ofx:=[],rvs:=[.tmp 4],flat:=true}
def FzcH (N:Nat):dzcH.F:=fun r x=>zcH N x.1 x.2.1
theorem ozcH (N:Nat):FOk Try.prog (X54 N) dzcH (FzcH N):=⟨⟨Try.f26,_,Try.func26,rfl,by kernel_rfl,by kernel_rfl,rfl,FC.of (qzB N) (us:=qwh N) (fun u h _=>qrz N u h) (fun r x=>by kernel_rfl)⟩,by kernel_rfl,by kernel_rfl,by kernel_rfl,by kernel_rfl⟩
def fs55 (N:Nat):List (FE D):=⟨dzcH,FzcH N⟩::fs54 N
theorem qzd (N:Nat):∀y∈fs55 N,CallOk X0 y.d y.F:=qaq (x:=⟨dzcH,FzcH N⟩) (CallOk.ch (CallOk.ch (ozcH N).call)) (qzc N)
def gs55 (N:Nat):List (GE D):=gs54 N
theorem qvc (N:Nat):∀y∈gs55 N,CallG X0 y.d y.F:=qvb N
def X55 (N:Nat):Ev Try.prog D:=(X0.with (fs55 N)).gen (gs55 N)
theorem qzC (N:Nat):COk (X55 N):=COk.gen0 (COk.of (qzd N)) (qvc N)
def qoH (N:Nat):List (Pc D):=[]
theorem qjA (N:Nat):∀u∈qoH N,PcOk (X55 N) (qab Try.f12) u:=qam
def PzcI_0:PD D:={path:=[1,1,1,1,1,1,0],ins:=[.v 3 (.sl 33), .v 4 (.int .i64), .o 5 (.sl 3), .v 6 (.int .i64), .o 7 (.sl 3), .v 8 (.int .i64), .v 10 (.int .i64)],fx:=[(5, .c (.own 0)),(7, .c (.own 1))],ks:=[1,1],exs:=[⟨.normal,[.v 0 .bool],[]⟩],keep:=[]}
def qux (N:Nat):PzcI_0.F:=fun x=>qyp N x.1 x.2.1 x.2.2.1 x.2.2.2.1 x.2.2.2.2.1 x.2.2.2.2.2.1 x.2.2.2.2.2.2.1
theorem qBo (N:Nat):CC (X55 N) (qab Try.f12) PzcI_0 (qux N):=CC.of (qzC N) (us:=qoH N) (fun u h _=>qjA N u h) (fun x=>by kernel_rfl)
def qwi (N:Nat):List (Pc D):=PzcI_0.pc (X55 N) (qux N)::qoH N
theorem qrA (N:Nat):∀u∈qwi N,PcOk (X55 N) (qab Try.f12) u:=qac ((qBo N).pc (by kernel_rfl)) (qjA N)
def dzcI:FD D:={f:=12,np:=0,ins:=[],fx:=[],rcv:=none,rk:=0,outs:=[.v 0 .bool],ofx:=[],rvs:=[.tmp 0],flat:=true}
def FzcI (N:Nat):dzcI.F:=fun r x=>zcI N
theorem ozcI (N:Nat):FOk Try.prog (X55 N) dzcI (FzcI N):=⟨⟨Try.f12,_,Try.func12,rfl,by kernel_rfl,by kernel_rfl,rfl,FC.of (qzC N) (us:=qwi N) (fun u h _=>qrA N u h) (fun r x=>by kernel_rfl)⟩,by kernel_rfl,by kernel_rfl,by kernel_rfl,by kernel_rfl⟩
def fs56 (N:Nat):List (FE D):=⟨dzcI,FzcI N⟩::fs55 N
theorem qze (N:Nat):∀y∈fs56 N,CallOk X0 y.d y.F:=qaq (x:=⟨dzcI,FzcI N⟩) (CallOk.ch (CallOk.ch (ozcI N).call)) (qzd N)
def gs56 (N:Nat):List (GE D):=gs55 N
theorem qvd (N:Nat):∀y∈gs56 N,CallG X0 y.d y.F:=qvc N
def X56 (N:Nat):Ev Try.prog D:=(X0.with (fs56 N)).gen (gs56 N)
theorem qfA (N:Nat):COk (X56 N):=COk.gen0 (COk.of (qze N)) (qvd N)
def qoa (N:Nat):List (Pc D):=[]
theorem qi3 (N:Nat):∀u∈qoa N,PcOk (X56 N) (qab Try.f6) u:=qam
def PzaM_2:PD D:={path:=[1,1,0,1,0,0,1,0,0,1,1,1,1,0,1,0,0,0],ins:=[.o 5 (.box 48), .v 11 (.int .i64), .v 13 (.int .i64)],fx:=[(5, .box 0 0)],ks:=[1],exs:=[⟨.normal,[.v 58 .bool],[]⟩],keep:=[1,5,6]}
def qsY (N:Nat):PzaM_2.F:=fun x=>qCQ N x.2.1 x.2.2.1
theorem qzQ (N:Nat):CC (X56 N) (qab Try.f6) PzaM_2 (qsY N):=CC.of (qfA N) (us:=qoa N) (fun u h _=>qi3 N u h) (fun x=>by kernel_rfl)
def qoV (N:Nat):List (Pc D):=PzaM_2.pc (X56 N) (qsY N)::qoa N
theorem qjO (N:Nat):∀u∈qoV N,PcOk (X56 N) (qab Try.f6) u:=qac ((qzQ N).pc (by kernel_rfl)) (qi3 N)
def PzaM_3:PD D:={path:=[1,1,0,1,0,0,1,0,0,1,1,1,1,1,0,0],ins:=[.o 5 (.box 48), .o 10 (.sl 3), .v 11 (.int .i64), .o 12 (.sl 3), .v 13 (.int .i64)],fx:=[(5, .box 0 0),(10, .c (.own 1)),(12, .c (.own 2))],ks:=[1,1,1],exs:=[⟨.normal,[.v 64 .bool],[]⟩],keep:=[1,5,6,10,12]}
def qsZ (N:Nat):PzaM_3.F:=fun x=>qxV N x.2.2.1 x.2.2.2.2.1
theorem qzR (N:Nat):CC (X56 N) (qab Try.f6) PzaM_3 (qsZ N):=CC.of (qfA N) (us:=qoV N) (fun u h _=>qjO N u h) (fun x=>by kernel_rfl)
def qoW (N:Nat):List (Pc D):=PzaM_3.pc (X56 N) (qsZ N)::qoV N
theorem qjP (N:Nat):∀u∈qoW N,PcOk (X56 N) (qab Try.f6) u:=qac ((qzR N).pc (by kernel_rfl)) (qjO N)
def PzaM_6:PD D:={path:=[1,1,0,1,0,0,1,0,0,1,1,1,1,1,1,1,0,0,1,0,0,0,0,0,0,0],ins:=[.o 5 (.box 48), .o 10 (.sl 3), .o 12 (.sl 3), .v 14 (.int .i64), .v 15 (.int .i64)],fx:=[(5, .box 0 0),(10, .c (.own 1)),(12, .c (.own 2))],ks:=[1,1,1],exs:=[⟨.normal,[.v 85 .bool],[]⟩],keep:=[1,5,6,10,12,14,15]}
def qs2 (N:Nat):PzaM_6.F:=fun x=>qsf N x.2.1 x.2.2.1 x.2.2.2.1 x.2.2.2.2.1
theorem qzU (N:Nat):CC (X56 N) (qab Try.f6) PzaM_6 (qs2 N):=CC.of (qfA N) (us:=qoW N) (fun u h _=>qjP N u h) (fun x=>by kernel_rfl)
def qoZ (N:Nat):List (Pc D):=PzaM_6.pc (X56 N) (qs2 N)::qoW N
theorem qjS (N:Nat):∀u∈qoZ N,PcOk (X56 N) (qab Try.f6) u:=qac ((qzU N).pc (by kernel_rfl)) (qjP N)
def PzaM_5:PD D:={path:=[1,1,0,1,0,0,1,0,0,1,1,1,1,1,1,1,0,0,1,0,0,0,0],ins:=[.o 5 (.box 48), .o 10 (.sl 3), .o 12 (.sl 3), .v 14 (.int .i64), .v 15 (.int .i64)],fx:=[(5, .box 0 0),(10, .c (.own 1)),(12, .c (.own 2))],ks:=[1,1,1],exs:=[⟨.exit 4,[.v 15 (.int .i64)],[]⟩],keep:=[1,5,6,10,12,14]}
def qs1 (N:Nat) (n:Nat):PzaM_5.F:=fun x=>qp6 N x.2.1 x.2.2.1 x.2.2.2.1 n x.2.2.2.2.1
theorem qzT (N:Nat) (n:Nat):CC (X56 N) (qab Try.f6) PzaM_5 (qs1 N n):=CC.loop (qfA N) (us:=qoZ N) (c:=sub (qab Try.f6) [1,1,0,1,0,0,1,0,0,1,1,1,1,1,1,1,0,0,1,0,0,0,0,0]) (by kernel_rfl) (by kernel_rfl) (fun u h _=>qjS N u h) (fun x=>rfl) (fun n x=>by kernel_rfl) n
def qoY (N:Nat):List (Pc D):=PzaM_5.pc (X56 N) (qs1 N N)::qoZ N
theorem qjR (N:Nat):∀u∈qoY N,PcOk (X56 N) (qab Try.f6) u:=qac ((qzT N N).pc (by kernel_rfl)) (qjS N)
def PzaM_7:PD D:={path:=[1,1,0,1,0,0,1,0,0,1,1,1,1,1,1,1,0,0,1,0,0,1,0],ins:=[.o 5 (.box 48), .o 10 (.sl 3), .o 12 (.sl 3), .v 14 (.int .i64), .v 15 (.int .i64)],fx:=[(5, .box 0 0),(10, .c (.own 1)),(12, .c (.own 2))],ks:=[1,1,1],exs:=[⟨.normal,[.v 102 .bool],[]⟩],keep:=[1,5,6,10,12,14,15]}
def qs3 (N:Nat):PzaM_7.F:=fun x=>qsg N x.2.1 x.2.2.1 x.2.2.2.1 x.2.2.2.2.1
theorem qzV (N:Nat):CC (X56 N) (qab Try.f6) PzaM_7 (qs3 N):=CC.of (qfA N) (us:=qoY N) (fun u h _=>qjR N u h) (fun x=>by kernel_rfl)
def qo0 (N:Nat):List (Pc D):=PzaM_7.pc (X56 N) (qs3 N)::qoY N
theorem qjT (N:Nat):∀u∈qo0 N,PcOk (X56 N) (qab Try.f6) u:=qac ((qzV N).pc (by kernel_rfl)) (qjR N)
def PzaM_4:PD D:={path:=[1,1,0,1,0,0,1,0,0,1,1,1,1,1,1,1,0],ins:=[.o 5 (.box 48), .o 10 (.sl 3), .o 12 (.sl 3), .v 14 (.int .i64), .v 15 (.int .i64)],fx:=[(5, .box 0 0),(10, .c (.own 1)),(12, .c (.own 2))],ks:=[1,1,1],exs:=[⟨.exit 2,[],[]⟩,⟨.ret,[.v 4 .bool],[]⟩],keep:=[1,5,6]}
def qs0 (N:Nat) (n:Nat):PzaM_4.F:=fun x=>qij N x.2.1 x.2.2.1 n x.2.2.2.1 x.2.2.2.2.1
theorem qzS (N:Nat) (n:Nat):CC (X56 N) (qab Try.f6) PzaM_4 (qs0 N n):=CC.loop (qfA N) (us:=qo0 N) (c:=sub (qab Try.f6) [1,1,0,1,0,0,1,0,0,1,1,1,1,1,1,1,0,0]) (by kernel_rfl) (by kernel_rfl) (fun u h _=>qjT N u h) (fun x=>rfl) (fun n x=>by kernel_rfl) n
def qoX (N:Nat):List (Pc D):=PzaM_4.pc (X56 N) (qs0 N N)::qo0 N
theorem qjQ (N:Nat):∀u∈qoX N,PcOk (X56 N) (qab Try.f6) u:=qac ((qzS N N).pc (by kernel_rfl)) (qjT N)
def PzaM_1:PD D:={path:=[1,1,0,1,0,0,1,0],ins:=[.v 1 (.int .i64), .o 5 (.box 48)],fx:=[(5, .box 0 0)],ks:=[2],exs:=[⟨.normal,[.u 0 (.box 48)],[]⟩,⟨.ret,[.v 4 .bool],[]⟩],keep:=[1,5,6]}
def qsX (N:Nat):PzaM_1.F:=fun x=>qse N x.1 x.2.1
theorem qzP (N:Nat):CC (X56 N) (qab Try.f6) PzaM_1 (qsX N):=CC.of (qfA N) (us:=qoX N) (fun u h _=>qjQ N u h) (fun x=>by kernel_rfl)
def qoU (N:Nat):List (Pc D):=PzaM_1.pc (X56 N) (qsX N)::qoX N
theorem qjN (N:Nat):∀u∈qoU N,PcOk (X56 N) (qab Try.f6) u:=qac ((qzP N).pc (by kernel_rfl)) (qjQ N)
def PzaM_0:PD D:={path:=[1,1,0,1,0],ins:=[.v 1 (.int .i64), .o 5 (.box 48), .v 6 (.int .i64)],fx:=[(5, .box 0 0)],ks:=[0],exs:=[⟨.exit 0,[],[]⟩,⟨.ret,[.v 4 .bool],[]⟩],keep:=[]}
def qsW (N:Nat) (n:Nat):PzaM_0.F:=fun x=>qii N x.1 n x.2.1 x.2.2.1
theorem qzO (N:Nat) (n:Nat):CC (X56 N) (qab Try.f6) PzaM_0 (qsW N n):=CC.loop (qfA N) (us:=qoU N) (c:=sub (qab Try.f6) [1,1,0,1,0,0]) (by kernel_rfl) (by kernel_rfl) (fun u h _=>qjN N u h) (fun x=>rfl) (fun n x=>by kernel_rfl) n
def qvK (N:Nat):List (Pc D):=PzaM_0.pc (X56 N) (qsW N N)::qoU N
theorem qq2 (N:Nat):∀u∈qvK N,PcOk (X56 N) (qab Try.f6) u:=qac ((qzO N N).pc (by kernel_rfl)) (qjN N)
def dzaM:FD D:={f:=6,np:=2,ins:=[.v 0 (.sl 3), .v 1 (.int .i64)],fx:=[],rcv:=none,rk:=0,outs:=[.v 4 .bool],ofx:=[],rvs:=[.tmp 4],flat:=true}
def FzaM (N:Nat):dzaM.F:=fun r x=>zaM N x.1 x.2.1
theorem ozaM (N:Nat):FOk Try.prog (X56 N) dzaM (FzaM N):=⟨⟨Try.f6,_,Try.func6,rfl,by kernel_rfl,by kernel_rfl,rfl,FC.of (qfA N) (us:=qvK N) (fun u h _=>qq2 N u h) (fun r x=>by kernel_rfl)⟩,by kernel_rfl,by kernel_rfl,by kernel_rfl,by kernel_rfl⟩
def fs57 (N:Nat):List (FE D):=⟨dzaM,FzaM N⟩::fs56 N
theorem qDk (N:Nat):∀y∈fs57 N,CallOk X0 y.d y.F:=qaq (x:=⟨dzaM,FzaM N⟩) (CallOk.ch (CallOk.ch (ozaM N).call)) (qze N)
def gs57 (N:Nat):List (GE D):=gs56 N
theorem qBV (N:Nat):∀y∈gs57 N,CallG X0 y.d y.F:=qvd N
def X57 (N:Nat):Ev Try.prog D:=(X0.with (fs57 N)).gen (gs57 N)
theorem qER (N:Nat):COk (X57 N):=COk.gen0 (COk.of (qDk N)) (qBV N)
end
end Go.W
end
section
set_option linter.unusedVariables false
set_option linter.unusedSimpArgs false
namespace Go.W
open Go.AM
theorem w64 {n:Int} (h: -9223372036854775808≤n) (h':n≤9223372036854775807):IntKind.wrap .i64 n=n:=by rw[IntKind.wrap_i64];omega
theorem w8 {n:Int} (h:0≤n) (h':n≤255):IntKind.wrap .u8 n=n:=by rw[IntKind.wrap_u8];omega
theorem qaf {α β:Type} (x:α) (f:α→Option β):AM.lt x f=f x:=rfl
theorem qaa {α β:Type} (x:α) (f:α→Option β):Option.bind (some x) f=f x:=rfl
theorem qmA {α:Type} {xs:List α} {i:Int} (h0:0≤i) (h1:i<xs.length):∃x,getI xs i=some x∧x∈xs∧xs[i.toNat]? =some x:=by
 have hlt:i.toNat<xs.length:=by omega
 exact ⟨xs[i.toNat],by simp[getI,h0,hlt],by simp,by simp[hlt]⟩
def Mk (c:Int) (s:Maker):Prop:=0≤s.n∧s.n≤c
theorem qba (N:Nat) {c:Int} {s:Maker} (k:Int) (hk:1≤k) (hk2:k≤1000000) (hs:Mk c s) (hc:c≤1000000000000):∃r s',zbQ N s k=some (r,s')∧0≤r∧r<k∧Mk (c+1) s':=by
 obtain ⟨h0,h1⟩:=hs
 have h15:∃y,qsz N s 0 (decide (0<(s.l.length:Int)))=some y:=by
  unfold qsz
  by_cases hl:0<(s.l.length:Int)
  ·rw[if_pos (by simpa using hl)]
   have hne:(s.l.length:Int)≠0:=by omega
   have hm:modI s.n s.l.length=some (s.n.tmod s.l.length):=by unfold modI;rw[if_neg hne]
   have hd:divI s.n s.l.length=some (s.n.tdiv s.l.length):=by unfold divI;rw[if_neg hne]
   have hr0:0≤s.n.tmod s.l.length:=Int.tmod_nonneg _ h0
   have hr1:s.n.tmod s.l.length<s.l.length:=Int.tmod_lt_of_pos _ hl
   obtain ⟨x,hx,_,_⟩:=qmA hr0 hr1
   rw[hm,qaa,hx,qaa,hd,qaa,qaf]
   exact ⟨_,rfl⟩
  ·rw[if_neg (by simpa using hl)]
   exact ⟨_,rfl⟩
 obtain ⟨y,hy⟩:=h15
 unfold zbQ
 rw[hy,qaa]
 have hm:modI y k=some (y.tmod k):=by simp[modI];omega
 have hlt:y.tmod k<k:=Int.tmod_lt_of_pos _ (by omega)
 have hgt: -k<y.tmod k:=by
  have:=Int.lt_tmod_of_pos y (by omega:0<k)
  omega
 have hn:IntKind.wrap .i64 (s.n+1)=s.n+1:=w64 (by omega) (by omega)
 simp only[hm,qaa,hn]
 unfold qye
 by_cases hneg:y.tmod k<0
 ·rw[if_pos (by simpa using hneg),qaf,qaa,w64 (by omega) (by omega)]
  exact ⟨_,_,rfl,by omega,by omega,by constructor<;>simp<;>omega⟩
 ·rw[if_neg (by simpa using hneg),qaa]
  exact ⟨_,_,rfl,by omega,by omega,by constructor<;>simp<;>omega⟩
theorem qh2 (N:Nat) {c:Int} {s:Maker} (l:List Int) (hl:1≤l.length) (hl2:l.length≤1000) (hs:Mk c s) (hc:c≤1000000000000):∃x s',zbR N s l=some (x,s')∧x∈l∧Mk (c+1) s':=by
 obtain ⟨r,s',h1,h2,h3,h4⟩:=qba N (s:=s) (c:=c) (l.length:Int) (by omega) (by omega) hs hc
 obtain ⟨x,hx,hm,_⟩:=qmA h2 h3
 unfold zbR
 rw[h1,qaa]
 simp only[hx,qaa]
 exact ⟨x,s',rfl,hm,h4⟩
end Go.W
end
section
set_option linter.unusedVariables false
set_option linter.unusedSimpArgs false
namespace Go.W
open Go.AM
theorem qad {α:Type} {xs:List α} {i:Nat} {x:α} (h:xs[i]? =some x):getI xs (i:Int)=some x:=by simp[getI,h]
theorem qar {α:Type} {xs:List α} {i:Nat} (h:i<xs.length):xs[i]? =some xs[i]:=by simp[h]
theorem qbK {α:Type} {xs:List α} {i:Nat} {x:α} (h:xs[i]? =some x):xs.drop i=x::xs.drop (i+1):=by
 obtain ⟨hlt,rfl⟩:=List.getElem?_eq_some_iff.1 h
 exact List.drop_eq_getElem_cons hlt
theorem w64s {i:Nat} (h:i<9223372036854775807):IntKind.wrap .i64 ((i:Int)+1)=((i+1:Nat):Int):=by rw[w64 (by omega) (by omega)];omega
theorem dpos {a b:Int} (h:a<b):decide (a<b)=true:=decide_eq_true h
theorem dneg {a b:Int} (h:¬a<b):¬decide (a<b)=true:=by simpa using h
theorem lpos {a b:Int} (h:a≤b):decide (a≤b)=true:=decide_eq_true h
theorem lneg {a b:Int} (h:¬a≤b):¬decide (a≤b)=true:=by simpa using h
theorem qaY {α:Type} {xs ys:List α} (h:xs.length+ys.length≤4294967296):appI xs ys=some (xs++ys):=if_pos h
theorem qcP {α:Type} {xs:List α} {i:Nat} (h:i≤xs.length):cutI xs (i:Int) (xs.length:Int)=some (xs.drop i):=by
 unfold cutI;rw[if_pos (by omega)];simp
theorem qbx {α:Type} {xs:List α} {i:Nat} (h:i≤xs.length):cutI xs 0 (i:Int)=some (xs.take i):=by
 unfold cutI;rw[if_pos (by omega)];simp
theorem Mk.le {c c':Int} {s:Maker} (h:Mk c s) (hc:c≤c'):Mk c' s:=⟨h.1,Int.le_trans h.2 hc⟩
theorem mk0 (t:List Int):Mk 0 (Maker.mk t 0):=⟨by simp,by simp⟩
def res {α β:Type} (p:Nat→α→Bool) (out:Nat→α→β):Nat→List α→Sum Unit β
 |_,[]=> .inl ()
 |i,x::xs=>if p i x=true then .inr (out i x) else res p out (i+1) xs
theorem qaw {α β:Type} {l:List α} (p:Nat→α→Bool) (out:Nat→α→β) (F:Nat→Int→Option (Sum Unit β)) (h0:∀n,F (n+1) (l.length:Int)=some (.inl ()))
  (h1:∀(n i:Nat) (x:α),l[i]? =some x→F (n+1) (i:Int)=if p i x=true then some (.inr (out i x)) else F n ((i+1:Nat):Int)):∀(k n i:Nat),k<n→i+k=l.length→F n (i:Int)=some (res p out i (l.drop i))
 |k,0,i,hn,_=>by omega
 |0,n+1,i,hn,hi=>by
  obtain rfl:i=l.length:=by omega
  rw[h0,List.drop_length,res]
 |k+1,n+1,i,hn,hi=>by
  have hlt:i<l.length:=by omega
  rw[h1 n i _ (qar hlt),qbK (qar hlt),res]
  split
  ·rfl
  ·exact qaw p out F h0 h1 k n (i+1) (by omega) (by omega)
def qcT {α:Type} (p:Nat→α→Bool):Nat→List α→Int
 |_,[]=> -1
 |i,x::xs=>if p i x=true then (i:Int) else qcT p (i+1) xs
theorem qeB {α:Type} (p:Nat→α→Bool):∀(l:List α) (i:Nat),res p (fun i _=>(i:Int)) i l= .inl ()∧qcT p i l= -1∨res p (fun i _=>(i:Int)) i l= .inr (qcT p i l)∧0≤qcT p i l
 |[],i=> .inl ⟨rfl,rfl⟩
 |x::xs,i=>by
  rw[res,qcT]
  by_cases h:p i x=true
  ·rw[if_pos h,if_pos h];exact .inr ⟨rfl,by omega⟩
  ·rw[if_neg h,if_neg h];exact qeB p xs (i+1)
theorem qej {α:Type} (p:Nat→α→Bool):∀(l:List α) (i:Nat),(qcT p i l= -1∧∀(j:Nat) (x:α),l[j]? =some x→p (i+j) x=false)∨
  ∃(j:Nat) (x:α),qcT p i l=((i+j:Nat):Int)∧l[j]? =some x∧p (i+j) x=true∧∀(j':Nat) (y:α),j'<j→l[j']? =some y→p (i+j') y=false
 |[],i=> .inl ⟨rfl,fun j x h=>by simp at h⟩
 |x::xs,i=>by
  rw[qcT]
  by_cases h:p i x=true
  ·rw[if_pos h]
   exact .inr ⟨0,x,by simp,by simp,by simpa using h,fun j' y hj=>by omega⟩
  ·rw[if_neg h]
   have h':p i x=false:=by simpa using h
   rcases qej p xs (i+1) with ⟨h1,h2⟩|⟨j,y,h1,h2,h3,h4⟩
   ·refine .inl ⟨h1,fun j y hj=> ?_⟩
    cases j with
    |zero=>simp at hj;subst hj;exact h'
    |succ j=>have:=h2 j y (by simpa using hj);rwa [show i+1+j=i+(j+1) by omega] at this
   ·refine .inr ⟨j+1,y,by rw[h1];omega,by simpa using h2,by rwa [show i+1+j=i+(j+1) by omega] at h3,fun j' z hj hz=> ?_⟩
    cases j' with
    |zero=>simp at hz;subst hz;exact h'
    |succ j'=>have:=h4 j' z (by omega) (by simpa using hz);rwa [show i+1+j'=i+(j'+1) by omega] at this
theorem qbC {α β:Type} [DecidableEq α] (m:List (α×β)) (a k:α) (b:β):qai (qaJ m a b) k=if a=k then some b else qai m k:=by
 induction m with
 |nil=>simp[qaJ,qai]
 |cons p m ih=>
  simp only[qaJ]
  by_cases h:p.1=a
  ·rw[if_pos h]
   simp only[qai]
   by_cases h2:a=k
   ·simp[h,h2]
   ·simp[h,h2]
  ·rw[if_neg h]
   simp only[qai,ih]
   by_cases h2:p.1=k
   ·have:¬a=k:=fun h3=>h (h2.trans h3.symm)
    simp[h2,this]
   ·simp[h2]
end Go.W
end
section
set_option linter.unusedVariables false
set_option linter.unusedSimpArgs false
namespace Go.W
open Go.AM
theorem qh5 {α:Type} (p:α→Bool):∀(l:List α) (i:Nat),res (fun _ y=>p y) (fun _ _=>true) i l=if l.any p=true then .inr true else .inl ()
 |[],i=>rfl
 |y::l,i=>by
  rw[res,List.any_cons]
  by_cases h:p y=true
  ·simp[h]
  ·simp only[Bool.not_eq_true] at h
   rw[h,if_neg (by simp),qh5 p l (i+1),Bool.false_or]
theorem qiq {l:List Int} {x:Int}:(l.any fun y=>y==x)=l.contains x:=by
 induction l with
 |nil=>rfl
 |cons y l ih=>
  rw[List.any_cons,List.contains_cons,ih]
  congr 1
  by_cases h:y=x
  ·rw[h]
  ·have h':¬x=y:=fun hh=>h hh.symm
   have e1:(y==x)=false:=by simpa using h
   have e2:(x==y)=false:=by simpa using h'
   rw[e1,e2]
def qae (x:PlantElement):List Int:=if x.kind=1∨x.kind=3 then [x.a,x.b] else if x.kind=2 then [x.a,x.b,x.c] else []
def eI (l:List PlantElement) (i:Int):List Int:=if 0≤i then (match l[i.toNat]? with|some x=>qae x|none=>[]) else []
theorem qa5 (x:PlantElement):(qae x).length≤3:=by unfold qae;split<;>(try split)<;>simp
theorem qdJ (l:List PlantElement) (i:Int):(eI l i).length≤3:=by
 unfold eI
 split
 ·split
  ·exact qa5 _
  ·simp
 ·simp
theorem qdK {l:List PlantElement} {i:Nat} {x:PlantElement} (h:l[i]? =some x):eI l (i:Int)=qae x:=by
 unfold eI;rw[if_pos (by omega)];simp[h]
theorem qef {l:List PlantElement} {i n:Int} (h:n∈eI l i):0≤i∧i<l.length∧∃x,l[i.toNat]? =some x∧n∈qae x:=by
 unfold eI at h
 split at h
 ·rename_i h0
  split at h
  ·rename_i x hx
   have:=(List.getElem?_eq_some_iff.1 hx).1
   exact ⟨h0,by omega,x,hx,h⟩
  ·simp at h
 ·simp at h
theorem qd8 (N:Nat) (x:PlantElement):zbV N x=some (qae x):=by
 unfold zbV qae qyg
 simp only[qaf]
 by_cases h1:x.kind=1
 ·simp[h1,qaa]
 ·by_cases h3:x.kind=3
  ·simp[h3,qaa]
  ·by_cases h2:x.kind=2
   ·simp[h2,qaa]
   ·simp[h1,h2,h3,qaa]
theorem qk4 (N:Nat) (l:List PlantElement) (i:Int):zbU N l i=some (eI l i):=by
 unfold zbU qyf eI
 by_cases h0:i<0
 ·rw[if_pos (dpos h0),qaa,if_pos rfl,if_neg (by omega)]
 ·rw[if_neg (dneg h0),qaa,if_pos (by omega:0≤i)]
  by_cases h1:(l.length:Int)≤i
  ·rw[if_pos (lpos h1),List.getElem?_eq_none (by omega)]
  ·rw[if_neg (lneg h1)]
   have hlt:i.toNat<l.length:=by omega
   have hg:getI l i=some l[i.toNat]:=by simp[getI,hlt];omega
   rw[hg,qaa,qd8,qaa,qar hlt]
theorem qcs (N:Nat) (l:List PlantElement) (i:Int):zcK N l i=some (eI l i):=by
 unfold zcK qyr eI
 by_cases h0:i<0
 ·rw[if_pos (dpos h0),qaa,if_pos rfl,if_neg (by omega)]
 ·rw[if_neg (dneg h0),qaa,if_pos (by omega:0≤i)]
  by_cases h1:(l.length:Int)≤i
  ·rw[if_pos (lpos h1),List.getElem?_eq_none (by omega)]
  ·rw[if_neg (lneg h1)]
   have hlt:i.toNat<l.length:=by omega
   have hg:getI l i=some l[i.toNat]:=by simp[getI,hlt];omega
   rw[hg,qaa,qar hlt]
   generalize l[i.toNat]=x at*
   simp only[hg,qaa,qaf]
   unfold qae qys
   by_cases h1:x.kind=1
   ·simp[h1,qaa]
   ·by_cases h3:x.kind=3
    ·simp[h3,qaa,qaf]
    ·by_cases h2:x.kind=2
     ·simp[h2,qaa,qaf]
     ·simp[h1,h2,h3,qaa,qaf]
theorem qmC {l:List Int} {x:Int} (F:Nat→Int→Option (Sum Unit Bool)) (h0:∀n,F (n+1) (l.length:Int)=some (.inl ())) (h1:∀(n i:Nat) (y:Int),l[i]? =some y→F (n+1) (i:Int)=if (y==x)=true then some (.inr true) else F n ((i+1:Nat):Int))
  {n:Nat} (hn:l.length<n):F n 0=some (if l.contains x=true then .inr true else .inl ()):=by
 have h:=qaw (l:=l) (fun _ y=>y==x) (fun _ _=>true) F h0 h1 l.length n 0 hn (by omega)
 simp only[Int.natCast_zero,List.drop_zero] at h
 rw[h,qh5 (fun y=>y==x),qiq]
theorem qh7 (N:Nat) {l:List Int} (hN:l.length<N) (hl:l.length≤1000000) (x:Int):zcQ N l x=some (l.contains x):=by
 have h:=qmC (l:=l) (x:=x) (fun n i=>qhv N l x n i) (fun n=>by
  show qhv N l x (n+1) _=_
  rw[qhv,if_neg (dneg (by omega))]) (fun n i y hy=>by
  show qhv N l x (n+1) _=_
  have hlt:=(List.getElem?_eq_some_iff.1 hy).1
  rw[qhv,if_pos (dpos (by omega)),qad hy,qaa,qaf,w64s (by omega)]) hN
 unfold zcQ
 rw[h,qaa]
 cases l.contains x<;>rfl
def nbrB (i n:Int) (k:Nat) (x:PlantElement):Bool:=((k:Int) !=i)&&(qae x).contains n
def nbr (l:List PlantElement) (i n:Int):Int:=qcT (nbrB i n) 0 l
theorem qD5 (N:Nat) (hN:4≤N) (x:PlantElement) (n k:Int):qgp N n k (qae x) (qae x).length N 0=some (if (qae x).contains n=true then .inr k else .inl ()):=by
 have h:=qaw (l:=qae x) (fun _ y=>y==n) (fun _ _=>k) (fun m i=>qgp N n k (qae x) (qae x).length m i) (fun m=>by
  show qgp N n k (qae x) (qae x).length (m+1) _=_
  rw[qgp,if_neg (dneg (by omega))]) (fun m i y hy=>by
  show qgp N n k (qae x) (qae x).length (m+1) _=_
  have hlt:=(List.getElem?_eq_some_iff.1 hy).1
  have:=qa5 x
  rw[qgp,if_pos (dpos (by omega)),qad hy]
  simp only[qaa,w64s (show i<9223372036854775807 by omega)]) (qae x).length N 0 (by have:=qa5 x;omega) (by omega)
 simp only[Int.natCast_zero,List.drop_zero] at h
 rw[h]
 congr 1
 rw[←qiq]
 generalize qae x=e
 have key:∀(e:List Int) (i:Nat),res (fun _ y=>y==n) (fun _ _=>k) i e=if (e.any fun y=>y==n)=true then .inr k else .inl ():=by
  intro e
  induction e with
  |nil=>intro i;rfl
  |cons y e ih=>
   intro i
   rw[res,List.any_cons]
   by_cases h:(y==n)=true
   ·simp[h]
   ·simp only[Bool.not_eq_true] at h
    rw[h,if_neg (by simp),ih,Bool.false_or]
 exact key e 0
theorem qm1 {F:Option (Sum Unit Int)} {l:List PlantElement} {i n:Int} (h:F=some (res (nbrB i n) (fun k _=>(k:Int)) 0 l)):(Option.bind F fun y=>match y with| .inl _=>some (-1)| .inr y=>some y)=some (nbr l i n):=by
 rw[h,qaa]
 unfold nbr
 rcases qeB (nbrB i n) l 0 with ⟨h1,h2⟩|⟨h1,h2⟩
 ·rw[h1,h2]
 ·rw[h1]
theorem qnr (N:Nat) {l:List PlantElement} (hN:l.length+4≤N) (hl:l.length≤1000000) (i n:Int):zaJ N l i n=some (nbr l i n):=by
 unfold zaJ
 refine qm1 ?_
 have h:=qaw (l:=l) (nbrB i n) (fun k _=>(k:Int)) (fun m j=>qhn N i n l l.length m j) (fun m=>by
  show qhn N i n l l.length (m+1) _=_
  rw[qhn,if_neg (dneg (by omega))]) (fun m j x hx=>by
  show qhn N i n l l.length (m+1) _=_
  have hlt:=(List.getElem?_eq_some_iff.1 hx).1
  rw[qhn,if_pos (dpos (by omega))]
  unfold qxU nbrB
  rw[qad hx,qaa]
  by_cases hji:(j:Int)=i
  ·rw[if_pos (by simpa using hji)]
   simp only[qaa,hji,bne_self_eq_false,Bool.false_and,Bool.false_eq_true,if_false]
   rw[←hji,w64s (by omega)]
  ·rw[if_neg (by simpa using hji),qd8,qaa,qD5 N (by omega),qaa]
   have hb:((j:Int) !=i)=true:=by simpa using hji
   rw[hb,Bool.true_and]
   by_cases hc:(qae x).contains n=true
   ·rw[if_pos hc,if_pos hc];rfl
   ·rw[if_neg hc,if_neg hc]
    simp only[qaa]
    rw[w64s (by omega)]) l.length N 0 (by omega) (by omega)
 simpa using h
theorem qh8 (N:Nat) {l:List PlantElement} (hN:l.length+4≤N) (hl:l.length≤1000000) (i n:Int):zaW N l i n=some (nbr l i n):=by
 unfold zaW
 refine qm1 ?_
 have h:=qaw (l:=l) (nbrB i n) (fun k _=>(k:Int)) (fun m j=>qho N l i n m j) (fun m=>by
  show qho N l i n (m+1) _=_
  rw[qho,if_neg (dneg (by omega))]) (fun m j x hx=>by
  show qho N l i n (m+1) _=_
  have hlt:=(List.getElem?_eq_some_iff.1 hx).1
  have hlen:=qa5 x
  rw[qho,if_pos (dpos (by omega))]
  unfold qx4 nbrB
  by_cases hji:(j:Int)=i
  ·have hb:((j:Int) !=i)=false:=by simpa using hji
   rw[hb,Bool.false_and]
   simp only[Bool.false_eq_true,if_false,qaa,qaf]
   rw[w64s (by omega)]
  ·have hb:((j:Int) !=i)=true:=by simpa using hji
   rw[hb,if_pos rfl,qcs,qaa,qdK hx,qh7 N (by omega) (by omega),qaa,qaa,Bool.true_and,qaf,w64s (by omega)]) l.length N 0 (by omega) (by omega)
 simpa using h
def thrE (e:List Int) (n:Int):List Int:=if e.contains n=true then (if e.head? =some n then e.tail else e.take 1) else []
def thr (l:List PlantElement) (i n:Int):List Int:=thrE (eI l i) n
theorem qnt (N:Nat) (n:Int) {e:List Int} (he:e.length≤3):qcz N n e.length 4 e 0=some (if e.contains n=true then .inr (thrE e n) else .inl ()):=by
 match e,he with
 |[],_=>rfl
 |[a],_=>
  by_cases h:a=n
  ·subst h
   simp[qcz,getI,qaa,qaf,cutI,thrE,w64s]
  ·have h':¬n=a:=fun hh=>h hh.symm
   simp[qcz,getI,qaa,qaf,cutI,thrE,h,h',w64]
 |[a,b],_=>
  by_cases h:a=n
  ·subst h
   simp[qcz,getI,qaa,qaf,cutI,thrE,w64s]
  ·have h':¬n=a:=fun hh=>h hh.symm
   by_cases h2:b=n
   ·subst h2
    simp[qcz,getI,qaa,qaf,cutI,thrE,h,h',w64]
   ·have h2':¬n=b:=fun hh=>h2 hh.symm
    simp[qcz,getI,qaa,qaf,cutI,thrE,h,h',h2,h2',w64]
 |[a,b,c],_=>
  by_cases h:a=n
  ·subst h
   simp[qcz,getI,qaa,qaf,cutI,thrE,w64s]
  ·have h':¬n=a:=fun hh=>h hh.symm
   by_cases h2:b=n
   ·subst h2
    simp[qcz,getI,qaa,qaf,cutI,thrE,h,h',w64]
   ·have h2':¬n=b:=fun hh=>h2 hh.symm
    by_cases h3:c=n
    ·subst h3
     simp[qcz,getI,qaa,qaf,cutI,thrE,h,h',h2,h2',w64]
    ·have h3':¬n=c:=fun hh=>h3 hh.symm
     simp[qcz,getI,qaa,qaf,cutI,thrE,h,h',h2,h2',h3,h3',w64]
 |a::b::c::d::e,h=>simp at h
theorem qe9 {N:Nat} {n m:Int}:∀{k k':Nat} {e:List Int} {i:Int} {r:Sum Unit (List Int)},k≤k'→qcz N n m k e i=some r→qcz N n m k' e i=some r
 |0,_,_,_,_,_,h=>by cases h
 |k+1,0,_,_,_,hk,_=>by omega
 |k+1,k'+1,e,i,r,hk,h=>by
  rw[qcz] at h⊢
  split at h
  ·rename_i hc
   rw[if_pos hc]
   cases h1:getI e i with
   |none=>rw[h1] at h;cases h
   |some a=>
    rw[h1] at h
    simp only[qaa] at h⊢
    split at h
    ·rename_i hn
     rw[if_pos hn]
     exact qe9 (by omega) h
    ·rename_i hn
     rw[if_neg hn]
     exact h
  ·rename_i hc
   rw[if_neg hc]
   exact h
theorem qnu (N:Nat) (hN:4≤N) (l:List PlantElement) (i n:Int):zaT N l i n=some (thr l i n):=by
 unfold zaT thr
 rw[qk4,qaa,qe9 hN (qnt N n (qdJ l i)),qaa]
 by_cases hc:(eI l i).contains n=true
 ·rw[if_pos hc]
 ·rw[if_neg hc,thrE,if_neg hc]
theorem qnL (N:Nat) (hN:4≤N) (l:List PlantElement) (i n:Int):zbK N l i n=some (thr l i n):=by
 unfold zbK thr
 have hl:=qdJ l i
 rw[qcs,qaa,qh7 N (by omega) (by omega),qaa,qaf]
 generalize eI l i=e at*
 unfold thrE
 by_cases hc:e.contains n=true
 ·rw[hc]
  cases e with
  |nil=>simp at hc
  |cons a e=>
   simp only[Bool.not_true,Bool.false_eq_true,if_false,getI,Int.le_refl,if_true,Int.toNat_zero,List.getElem?_cons_zero,qaa,qaf,List.head?_cons,List.tail_cons]
   by_cases ha:a=n
   ·subst ha
    have:=qcP (xs:=a::e) (i:=1) (by simp)
    simp only[beq_self_eq_true,if_true]
    rw[show (1:Int)=((1:Nat):Int) from rfl,this,qaa,qaY (by simp at hl⊢;omega),qaa]
    simp
   ·have:(a==n)=false:=by simpa using ha
    rw[this]
    simp[ha]
 ·simp only[Bool.not_eq_true] at hc
  rw[hc]
  simp
end Go.W
end
section
set_option linter.unusedVariables false
set_option linter.unusedSimpArgs false
namespace Go.W
open Go.AM
def pnCh (u:UInt8):Bool:=(decide (97≤u.toNat)&&decide (u.toNat≤122))||(decide (48≤u.toNat)&&decide (u.toNat≤57))
def pnOk (l:List UInt8):Bool:=l.all pnCh&&(decide (1≤l.length)&&decide (l.length≤12))
theorem qCr (N:Nat) {l:List UInt8} {i:Nat} {u:UInt8} (h:l[i]? =some u):qsA N l i=some (!pnCh u):=by
 unfold qsA pnCh
 rw[qad h]
 simp only[qaa]
 by_cases a:97≤u.toNat
 ·rw[if_neg (by simp;omega)]
  by_cases b:u.toNat≤122
  ·rw[if_neg (by simp;omega)];simp[a,b]
  ·rw[if_pos (by simp;omega),if_neg (by simp;omega)]
   simp[a,b,show ¬u.toNat≤57 by omega,show (57:Int)<u.toNat by omega]
 ·rw[if_pos (by simp;omega)]
  by_cases c:u.toNat<48
  ·rw[if_pos (by simp;omega)];simp[a,show ¬48≤u.toNat by omega]
  ·rw[if_neg (by simp;omega)]
   by_cases d:u.toNat≤57
   ·simp[a,show 48≤u.toNat by omega,d,show ¬(57:Int)<u.toNat by omega]
   ·simp[a,show 48≤u.toNat by omega,d,show (57:Int)<u.toNat by omega]
theorem qCv (N:Nat) {l:List UInt8} {i:Nat} {u:UInt8} (h:l[i]? =some u):qsI N l i=some (!pnCh u):=by
 unfold qsI pnCh
 rw[qad h]
 simp only[qaa]
 by_cases a:97≤u.toNat
 ·rw[if_pos (by simp;omega)]
  by_cases b:u.toNat≤122
  ·rw[if_pos (by simp;omega)];simp[a,b]
  ·rw[if_neg (by simp;omega)]
   by_cases c:48≤u.toNat
   ·rw[if_pos (by simp;omega)];simp[a,b,c];omega
   ·omega
 ·rw[if_neg (by simp;omega)]
  by_cases c:48≤u.toNat
  ·rw[if_pos (by simp;omega)]
   simp[a,c]
   omega
  ·rw[if_neg (by simp;omega)];simp[a,c]
theorem qh4 {α β:Type} (p:α→Bool) (b:β):∀(l:List α) (i:Nat),res (fun _ y=> !p y) (fun _ _=>b) i l=if l.all p=true then .inl () else .inr b
 |[],i=>rfl
 |y::l,i=>by
  rw[res,List.all_cons]
  by_cases h:p y=true
  ·rw[h];simp only[Bool.not_true,Bool.false_eq_true,if_false,Bool.true_and];exact qh4 p b l (i+1)
  ·simp only[Bool.not_eq_true] at h
   rw[h];simp
theorem qrX (N:Nat) {l:List UInt8} (hN:14≤N):zbW N l=some (pnOk l):=by
 unfold zbW qyh pnOk
 by_cases h1:l.length<1
 ·rw[if_pos (dpos (by omega)),qaa,if_pos rfl]
  simp[show ¬1≤l.length by omega]
 ·rw[if_neg (dneg (by omega)),qaa]
  by_cases h2:12<l.length
  ·rw[if_pos (by simpa using by omega)]
   simp[show ¬l.length≤12 by omega]
  ·rw[if_neg (by simpa using by omega)]
   have h:=qaw (l:=l) (fun _ y=> !pnCh y) (fun _ _=>false) (fun m i=>qhp N l l.length m i) (fun m=>by
    show qhp N l l.length (m+1) _=_
    rw[qhp,if_neg (dneg (by omega))]) (fun m i y hy=>by
    show qhp N l l.length (m+1) _=_
    have hlt:=(List.getElem?_eq_some_iff.1 hy).1
    rw[qhp,if_pos (dpos (by omega)),qCr N hy,qaa,w64s (by omega)]) l.length N 0 (by omega) (by omega)
   simp only[Int.natCast_zero,List.drop_zero] at h
   rw[h,qh4 pnCh,qaa]
   by_cases h3:l.all pnCh=true
   ·rw[if_pos h3,h3];simp[show 1≤l.length by omega,show l.length≤12 by omega]
   ·rw[if_neg h3];simp only[Bool.not_eq_true] at h3;rw[h3];simp
theorem qr4 (N:Nat) {l:List UInt8} (hN:l.length<N) (hl:l.length≤9223372036854775807):zcJ N l=some (pnOk l):=by
 unfold zcJ pnOk
 have h:=qaw (l:=l) (fun _ y=> !pnCh y) (fun _ _=>false) (fun m i=>qhu N l m i) (fun m=>by
  show qhu N l (m+1) _=_
  rw[qhu,if_neg (dneg (by omega))]) (fun m i y hy=>by
  show qhu N l (m+1) _=_
  have hlt:=(List.getElem?_eq_some_iff.1 hy).1
  rw[qhu,if_pos (dpos (by omega)),qCv N hy,qaa,qaf,w64s (by omega)]) l.length N 0 (by omega) (by omega)
 simp only[Int.natCast_zero,List.drop_zero] at h
 rw[h,qh4 pnCh,qaa]
 by_cases h3:l.all pnCh=true
 ·rw[if_pos h3,h3]
  unfold qyq
  by_cases a:1≤l.length
  ·rw[if_pos (lpos (by omega))];simp only[qaf,qaa,decide_eq_true a,Bool.true_and];congr 1;rw[decide_eq_decide];omega
  ·rw[if_neg (lneg (by omega))];simp[a,qaa]
 ·rw[if_neg h3];simp only[Bool.not_eq_true] at h3;rw[h3];simp
def pE (e:List Int) (i:Nat) (a:Int):Bool:=(decide (a<0)||decide (64≤a))||(e.take i).contains a
def okE (e:List Int):Bool:=match res (pE e) (fun _ _=>false) 0 e with| .inl _=>true| .inr _=>false
def qaL (x:PlantElement):Bool:=
 (!(qae x).isEmpty&&pnOk x.name)&&(okE (qae x)&&if x.kind=1 then x.c==0&&(decide (1≤x.length)&&decide (x.length≤100000)) else x.length==0&&(x.kind==2||x.c==0))
theorem qbP {α β:Type} {p:Nat→α→Bool} {out:Nat→α→β}:∀{l:List α} {i:Nat},res p out i l= .inl ()↔∀(j:Nat) (x:α),l[j]? =some x→p (i+j) x=false
 |[],i=>by simp[res]
 |x::l,i=>by
  rw[res]
  by_cases h:p i x=true
  ·rw[if_pos h]
   constructor
   ·intro hh;cases hh
   ·intro hh
    have:=hh 0 x rfl
    rw[Nat.add_zero,h] at this;cases this
  ·rw[if_neg h,qbP]
   simp only[Bool.not_eq_true] at h
   constructor
   ·intro hh j y hj
    cases j with
    |zero=>simp at hj;subst hj;exact h
    |succ j=>have:=hh j y (by simpa using hj);rwa [show i+1+j=i+(j+1) by omega] at this
   ·intro hh j y hj
    have:=hh (j+1) y (by simpa using hj)
    rwa [show i+(j+1)=i+1+j by omega] at this
theorem qf2 {e:List Int}:okE e=true↔e.Nodup∧∀a∈e,0≤a∧a<64:=by
 have h1:okE e=true↔res (pE e) (fun _ _=>false) 0 e= .inl ():=by
  unfold okE
  split
  ·rename_i u h;simp[h]
  ·rename_i u h;simp[h]
 rw[h1,qbP]
 constructor
 ·intro h
  refine ⟨?_,fun a ha=> ?_⟩
  ·refine List.pairwise_iff_getElem.2 fun i j hi hj hij heq=> ?_
   have hj':=qar hj
   have:=h j _ hj'
   rw[Nat.zero_add] at this
   simp only[pE,Bool.or_eq_false_iff,List.contains_eq_mem,decide_eq_false_iff_not] at this
   apply this.2
   refine List.mem_of_getElem? (i:=i) ?_
   rw[List.getElem?_take,if_pos hij,qar hi,heq]
  ·obtain ⟨j,hj⟩:=List.getElem?_of_mem ha
   have:=h j a hj
   simp only[pE,Bool.or_eq_false_iff,decide_eq_false_iff_not] at this
   omega
 ·rintro ⟨h2,h3⟩ j x hj
  rw[Nat.zero_add]
  have:=h3 x (List.mem_of_getElem? hj)
  simp only[pE,Bool.or_eq_false_iff,decide_eq_false_iff_not]
  refine ⟨⟨by omega,by omega⟩, ?_⟩
  simp only[List.contains_eq_mem,decide_eq_false_iff_not]
  intro hm
  obtain ⟨i,hi⟩:=List.getElem?_of_mem hm
  rw[List.getElem?_take] at hi
  split at hi
  ·rename_i hij
   have hjl:=(List.getElem?_eq_some_iff.1 hj).1
   obtain ⟨hil,hi⟩:=List.getElem?_eq_some_iff.1 hi
   obtain ⟨_,hj⟩:=List.getElem?_eq_some_iff.1 hj
   exact List.pairwise_iff_getElem.1 h2 i j hil hjl hij (by rw[hi,hj])
  ·cases hi
theorem qxz (N:Nat) {e:List Int} (hN:e.length<N) (hl:e.length≤1000000) (a:Int):qgr N a e e.length N 0=some (if e.contains a=true then .inr false else .inl ()):=by
 have h:=qaw (l:=e) (fun _ y=>y==a) (fun _ _=>false) (fun m i=>qgr N a e e.length m i) (fun m=>by
  show qgr N a e e.length (m+1) _=_
  rw[qgr,if_neg (dneg (by omega))]) (fun m i y hy=>by
  show qgr N a e e.length (m+1) _=_
  have hlt:=(List.getElem?_eq_some_iff.1 hy).1
  rw[qgr,if_pos (dpos (by omega)),qad hy,qaa,w64s (by omega)]
  by_cases hay:a=y
  ·rw[if_pos (by simpa using hay),if_pos (by simpa using hay.symm)]
  ·rw[if_neg (by simpa using hay),if_neg (by simpa using fun hh:y=a=>hay hh.symm)]) e.length N 0 hN (by omega)
 simp only[Int.natCast_zero,List.drop_zero] at h
 rw[h]
 congr 1
 have key:∀(e:List Int) (i:Nat),res (fun _ y=>y==a) (fun _ _=>false) i e=if (e.any fun y=>y==a)=true then .inr false else .inl ():=by
  intro e
  induction e with
  |nil=>intro i;rfl
  |cons y e ih=>
   intro i
   rw[res,List.any_cons]
   by_cases h:(y==a)=true
   ·simp[h]
   ·simp only[Bool.not_eq_true] at h
    rw[h,if_neg (by simp),ih,Bool.false_or]
 rw[key,qiq]
theorem qxy (N:Nat) (hN:10≤N) {e:List Int} (he:e.length≤3):qgq N e e e.length N 0=some (res (pE e) (fun _ _=>false) 0 e):=by
 have h:=qaw (l:=e) (pE e) (fun _ _=>false) (fun m i=>qgq N e e e.length m i) (fun m=>by
  show qgq N e e e.length (m+1) _=_
  rw[qgq,if_neg (dneg (by omega))]) (fun m i a ha=>by
  show qgq N e e e.length (m+1) _=_
  have hlt:=(List.getElem?_eq_some_iff.1 ha).1
  rw[qgq,if_pos (dpos (by omega)),qad ha,qaa]
  unfold qx1 pE
  by_cases h0:a<0
  ·rw[if_pos (dpos h0),qaa];simp[h0]
  ·rw[if_neg (dneg h0),qaa]
   by_cases h1:64≤a
   ·simp[h1]
   ·rw[if_neg (by simpa using by omega),qbx (by omega),qaa,qxz N (by rw[List.length_take];omega) (by rw[List.length_take];omega),qaa]
    have e1:decide (a<0)=false:=by simpa using by omega
    have e2:decide (64≤a)=false:=by simpa using by omega
    rw[e1,e2,Bool.false_or,Bool.false_or]
    by_cases hc:(e.take i).contains a=true
    ·rw[if_pos hc,if_pos hc]
    ·rw[if_neg hc,if_neg hc]
     simp only[]
     rw[w64s (by omega)]) e.length N 0 (by omega) (by omega)
 simpa using h
theorem qxH (N:Nat) (hN:10≤N) {e:List Int} (he:e.length≤3):qgy N e N 0=some (res (pE e) (fun _ _=>false) 0 e):=by
 have h:=qaw (l:=e) (pE e) (fun _ _=>false) (fun m i=>qgy N e m i) (fun m=>by
  show qgy N e (m+1) _=_
  rw[qgy,if_neg (dneg (by omega))]) (fun m i a ha=>by
  show qgy N e (m+1) _=_
  have hlt:=(List.getElem?_eq_some_iff.1 ha).1
  rw[qgy,if_pos (dpos (by omega))]
  unfold qyk pE
  rw[qad ha]
  simp only[qaa]
  by_cases h0:a<0
  ·rw[if_pos (dpos h0),qaa];simp[h0]
  ·rw[if_neg (dneg h0)]
   by_cases h1:64≤a
   ·rw[if_pos (lpos h1),qaa];simp[h1]
   ·rw[if_neg (lneg h1),qbx (by omega),qaa,qh7 N (by rw[List.length_take];omega) (by rw[List.length_take];omega),qaa,qaa]
    have e1:decide (a<0)=false:=by simpa using by omega
    have e2:decide (64≤a)=false:=by simpa using by omega
    rw[e1,e2,Bool.false_or,Bool.false_or,qaf,w64s (by omega)]) e.length N 0 (by omega) (by omega)
 simpa using h
theorem qlN (N:Nat) (hN:20≤N) (x:PlantElement) (hx:qae x≠[]∨pnOk x.name=false):zaV N x=some (qaL x):=by
 unfold zaV qaL qx0
 have he:=qa5 x
 rw[qd8,qaa,qrX N (by omega)]
 by_cases hne:qae x=[]
 ·have hn:pnOk x.name=false:=by rcases hx with h|h;exact absurd hne h;exact h
  rw[hne,hn]
  simp[nilT,qaa]
 ·have hnil:∀{β:Type} (f:Bool→Option β),nilT (qae x) f=f false:=fun f=>by unfold nilT;rw[if_neg hne]
  rw[hnil]
  have hie:(qae x).isEmpty=false:=by cases h:qae x with|nil=>exact absurd h hne|cons _ _=>rfl
  simp only[Bool.false_eq_true,if_false,qaa,hie,Bool.not_false,Bool.true_and]
  by_cases hn:pnOk x.name=true
  ·rw[hn]
   simp only[Bool.not_true,Bool.false_eq_true,if_false,Bool.true_and]
   rw[qxy N (by omega) he,qaa]
   unfold okE
   cases hr:res (pE (qae x)) (fun _ _=>false) 0 (qae x) with
   |inr b=>
    have:b=false:=by
     have key:∀(e:List Int) (i:Nat) (b:Bool),res (pE (qae x)) (fun _ _=>false) i e= .inr b→b=false:=by
      intro e
      induction e with
      |nil=>intro i b h;cases h
      |cons y e ih=>
       intro i b h
       rw[res] at h
       split at h
       ·cases h;rfl
       ·exact ih _ _ h
     exact key _ _ _ hr
    subst this
    simp
   |inl u=>
    simp only[Bool.true_and]
    by_cases h1:x.kind=1
    ·rw[if_pos (by simpa using h1),if_pos h1]
     unfold qx2
     by_cases hc:x.c=0
     ·rw[if_pos (by simpa using hc)]
      by_cases ha:1≤x.length
      ·rw[if_pos (lpos ha)];simp[qaf,qaa,hc,ha]
      ·rw[if_neg (lneg ha)];simp[qaa,ha]
     ·rw[if_neg (by simpa using hc)];simp[qaa,hc]
    ·rw[if_neg (by simpa using h1),if_neg h1]
     unfold qx3
     by_cases ha:x.length=0
     ·rw[if_pos (by simpa using ha)]
      by_cases h2:x.kind=2
      ·rw[if_pos (by simpa using h2)];simp[qaa,ha,h2]
      ·rw[if_neg (by simpa using h2)];simp[qaf,qaa,ha,h2]
     ·rw[if_neg (by simpa using ha)];simp[qaa,ha]
  ·simp only[Bool.not_eq_true] at hn
   rw[hn];simp
theorem qno (N:Nat) (x:PlantElement):zaN N x=if qae x=[] then some () else none:=by
 unfold zaN qxW qae
 simp only[qaf]
 by_cases h1:x.kind=1
 ·simp[h1,qaa]
 ·by_cases h3:x.kind=3
  ·simp[h3,qaa]
  ·by_cases h2:x.kind=2
   ·simp[h2,qaa]
   ·simp[h1,h2,h3,qaa]
theorem qns (N:Nat) (hN:20≤N) (x:PlantElement):zbJ N x=some (qaL x):=by
 unfold zbJ zaU
 rw[qno]
 by_cases he:qae x=[]
 ·rw[if_pos he,qaa]
  have h0:qxZ N=some true:=rfl
  rw[h0,qaa,if_pos rfl]
  unfold qaL
  rw[he]
  rfl
 ·rw[if_neg he,qlN N hN x (.inl he)]
  rfl
theorem qnK (N:Nat) {l:List PlantElement} {i:Nat} {x:PlantElement} (hx:l[i]? =some x) (hN:20≤N) (hn:x.name.length<N) (hn2:x.name.length≤9223372036854775807):zcC N l i=some (qaL x):=by
 unfold zcC qaL qyj
 have he:=qa5 x
 rw[qad hx,qaa,qcs,qdK hx,qaa,qr4 N hn hn2]
 by_cases hne:qae x=[]
 ·rw[hne];simp[qaa]
 ·have hie:(qae x).isEmpty=false:=by cases h:qae x with|nil=>exact absurd h hne|cons _ _=>rfl
  have hlen:((qae x).length:Int)≠0:=by cases h:qae x with|nil=>exact absurd h hne|cons _ _=>simp;omega
  rw[if_neg (by simpa using hlen)]
  simp only[qaa,hie,Bool.not_false,Bool.true_and]
  by_cases hnm:pnOk x.name=true
  ·rw[hnm]
   simp only[Bool.not_true,Bool.false_eq_true,if_false,Bool.true_and]
   rw[qxH N (by omega) he,qaa]
   unfold okE
   cases hr:res (pE (qae x)) (fun _ _=>false) 0 (qae x) with
   |inr b=>
    have:b=false:=by
     have key:∀(e:List Int) (i:Nat) (b:Bool),res (pE (qae x)) (fun _ _=>false) i e= .inr b→b=false:=by
      intro e
      induction e with
      |nil=>intro i b h;cases h
      |cons y e ih=>
       intro i b h
       rw[res] at h
       split at h
       ·cases h;rfl
       ·exact ih _ _ h
     exact key _ _ _ hr
    subst this
    simp
   |inl u=>
    simp only[Bool.true_and]
    unfold qyl
    have hl2:((qae x).length:Int)=2↔(x.kind=1∨x.kind=3):=by
     unfold qae
     split
     ·rename_i h;simp[h]
     ·rename_i h
      split
      ·simp[h]
      ·simp[h]
    by_cases h1:x.kind=1
    ·rw[if_pos (by simpa using hl2.2 (.inl h1)),qaa,if_pos h1]
     by_cases hc:x.c=0
     ·unfold qym
      by_cases ha:1≤x.length
      ·simp[qaf,qaa,hc,ha,h1]
      ·simp[qaa,ha,h1,hc]
     ·simp[hc]
    ·by_cases h3:x.kind=3
     ·rw[if_pos (by simpa using hl2.2 (.inr h3)),qaa,if_neg h1]
      by_cases hc:x.c=0
      ·simp[qaf,hc,h3]
      ·simp[hc,h3]
     ·have h2:x.kind=2:=by
       have:=hne
       unfold qae at this
       rw[if_neg (by omega)] at this
       split at this
       ·assumption
       ·exact absurd rfl this
      have hl:¬((qae x).length:Int)=2:=by rw[hl2];omega
      rw[if_neg (by simpa using hl),qaa,if_neg h1]
      simp[qaf,h2]
  ·simp only[Bool.not_eq_true] at hnm
   rw[hnm];simp
end Go.W
end
section
set_option linter.unusedVariables false
set_option linter.unusedSimpArgs false
namespace Go.W
open Go.AM
def cnt (l:List PlantElement) (n:Int):Int:=((l.filter fun x=>(qae x).contains n).length:Int)
theorem qdo (l:List PlantElement) (n:Int):0≤cnt l n:=by unfold cnt;omega
theorem quP (l:List PlantElement) (n:Int):cnt l n≤l.length:=by unfold cnt;have:=List.length_filter_le (fun x=>(qae x).contains n) l;omega
theorem qbT {α:Type} {l:List α} {i:Nat} {x:α} (h:l[i]? =some x):l.take (i+1)=l.take i++[x]:=by
 rw[List.take_add_one,h];rfl
theorem qb2 (l:List PlantElement) (x:PlantElement) (n:Int):cnt (l++[x]) n=cnt l n+if n∈qae x then 1 else 0:=by
 unfold cnt
 rw[List.filter_append]
 by_cases h:n∈qae x
 ·simp[h]
 ·simp[h]
def qaz (l:List PlantElement) (i:Nat) (x:PlantElement):Int:=
 if qaL x=false then 1 else if ((l.take i).any fun y=>y.name==x.name)=true then 8 else if ((qae x).any fun n=>cnt (l.take i) n==2)=true then 17 else 0
def pC (l:List PlantElement) (i:Nat) (x:PlantElement):Bool:=qaz l i x !=0
def vErr (l:List PlantElement):Int:=if 96<l.length then 3 else match res (pC l) (qaz l) 0 l with| .inl _=>0| .inr c=>c
structure VInv (l:List PlantElement) (i:Nat) (x3:List (List UInt8×Bool)) (x4:List (Int×Int)):Prop where
 nm:∀k,(qai x3 k).getD false=(l.take i).any fun y=>y.name==k
 ct:∀n,(qai x4 n).getD 0=cnt (l.take i) n
theorem pv1 (N:Nat) {e:List Int} (hd:e.Nodup) (hl:e.length≤3):∀(k n i:Nat) (x4:List (Int×Int)),k<n→i+k=e.length→(∀a,0≤(qai x4 a).getD 0∧(qai x4 a).getD 0≤1000+i)→
  (((e.drop i).any fun a=>(qai x4 a).getD 0==2)=true∧qgu N e e.length n x4 i=some (.inr 17))∨
  (((e.drop i).any fun a=>(qai x4 a).getD 0==2)=false∧∃x4',qgu N e e.length n x4 i=some (.inl x4')∧∀m,(qai x4' m).getD 0=(qai x4 m).getD 0+if m∈e.drop i then 1 else 0)
 |k,0,i,x4,hn,_,_=>by omega
 |0,n+1,i,x4,hn,hi,hb=>by
  obtain rfl:i=e.length:=by omega
  rw[qgu,if_neg (dneg (by omega)),List.drop_length]
  exact .inr ⟨rfl,x4,rfl,fun m=>by simp⟩
 |k+1,n+1,i,x4,hn,hi,hb=>by
  have hlt:i<e.length:=by omega
  have ha:=qar hlt
  rw[qgu,if_pos (dpos (by omega)),qad ha,qbK ha,List.any_cons]
  simp only[qaa,qaf]
  have hba:=hb e[i]
  by_cases h2:(qai x4 e[i]).getD 0=2
  ·have h2':((qai x4 e[i]).getD 0==2)=true:=by simpa using h2
   rw[if_pos h2',h2']
   exact .inl ⟨rfl,rfl⟩
  ·have h2':((qai x4 e[i]).getD 0==2)=false:=by simpa using h2
   rw[if_neg (by rw[h2'];simp),w64s (by omega),w64 (by omega) (by omega),h2',Bool.false_or]
   have hset:∀m,(qai (qaJ x4 e[i] ((qai x4 e[i]).getD 0+1)) m).getD 0=(qai x4 m).getD 0+if m=e[i] then 1 else 0:=by
    intro m
    rw[qbC]
    by_cases hm:m=e[i]
    ·subst hm;simp
    ·rw[if_neg (fun hh=>hm hh.symm),if_neg hm];simp
   have hnot:e[i]∉e.drop (i+1):=by
    intro hm
    obtain ⟨j,hj⟩:=List.getElem?_of_mem hm
    rw[List.getElem?_drop] at hj
    obtain ⟨hjl,hj⟩:=List.getElem?_eq_some_iff.1 hj
    exact List.pairwise_iff_getElem.1 hd i (i+1+j) hlt hjl (by omega) hj.symm
   have hany:((e.drop (i+1)).any fun a=>(qai (qaJ x4 e[i] ((qai x4 e[i]).getD 0+1)) a).getD 0==2)=((e.drop (i+1)).any fun a=>(qai x4 a).getD 0==2):=by
    rw[Bool.eq_iff_iff]
    simp only[List.any_eq_true]
    constructor
    ·rintro ⟨a,h1,h3⟩
     refine ⟨a,h1, ?_⟩
     rw[hset,if_neg (fun hh=>hnot (by rw[←hh];exact h1)),Int.add_zero] at h3
     exact h3
    ·rintro ⟨a,h1,h3⟩
     refine ⟨a,h1, ?_⟩
     rw[hset,if_neg (fun hh=>hnot (by rw[←hh];exact h1)),Int.add_zero]
     exact h3
   have ih:=pv1 N hd hl k n (i+1) (qaJ x4 e[i] ((qai x4 e[i]).getD 0+1)) (by omega) (by omega) (fun a=>by
    rw[hset]
    have:=hb a
    split
    ·rename_i h;subst h;omega
    ·omega)
   rw[hany] at ih
   rcases ih with ⟨g1,g2⟩|⟨g1,x4',g2,g3⟩
   ·exact .inl ⟨g1,g2⟩
   ·refine .inr ⟨g1,x4',g2,fun m=> ?_⟩
    rw[g3 m,hset m]
    by_cases hm:m=e[i]
    ·subst hm
     rw[if_pos rfl,if_neg hnot,if_pos List.mem_cons_self];omega
    ·rw[if_neg hm]
     by_cases hm2:m∈e.drop (i+1)
     ·rw[if_pos hm2,if_pos (List.mem_cons_of_mem _ hm2)];omega
     ·rw[if_neg hm2,if_neg (by simp only[List.mem_cons,not_or];exact ⟨hm,hm2⟩)];omega
theorem qaR {x:PlantElement} (h:qaL x=true):(qae x).Nodup∧(∀a∈qae x,0≤a∧a<64)∧qae x≠[]∧pnOk x.name=true:=by
 unfold qaL at h
 simp only[Bool.and_eq_true,Bool.not_eq_true'] at h
 obtain ⟨h1,h2⟩:=qf2.1 h.2.1
 exact ⟨h1,h2,fun hh=>by rw[hh] at h;simp at h,h.1.2⟩
theorem qeA (N:Nat) (hN:100≤N) {l:List PlantElement} (hl:l.length≤96):∀(k n i:Nat) (x3:List (List UInt8×Bool)) (x4:List (Int×Int)),k<n→i+k=l.length→VInv l i x3 x4→
  qlZ N l l.length n x3 x4 i=some (res (pC l) (qaz l) i (l.drop i))
 |k,0,i,x3,x4,hn,_,_=>by omega
 |0,n+1,i,x3,x4,hn,hi,hI=>by
  obtain rfl:i=l.length:=by omega
  rw[qlZ,if_neg (dneg (by omega)),List.drop_length]
  rfl
 |k+1,n+1,i,x3,x4,hn,hi,hI=>by
  have hlt:i<l.length:=by omega
  have hx:=qar hlt
  rw[qlZ,if_pos (dpos (by omega)),qad hx,qbK hx,res,qaa,qns N (by omega) _,qaa]
  unfold pC
  by_cases hsd:qaL l[i]=true
  case neg=>
   simp only[Bool.not_eq_true] at hsd
   have hc:qaz l i l[i]=1:=by unfold qaz;rw[if_pos hsd]
   rw[hsd,hc];simp
  obtain ⟨e1,e2,e3,e4⟩:=qaR hsd
  rw[hsd]
  simp only[Bool.not_true,Bool.false_eq_true,if_false,qaf,hI.nm]
  by_cases hnm:((l.take i).any fun y=>y.name==l[i].name)=true
  ·have hc:qaz l i l[i]=8:=by unfold qaz;rw[if_neg (by rw[hsd];simp),if_pos hnm]
   rw[if_pos hnm,hc];simp
  ·rw[if_neg hnm,qd8,qaa]
   have hb:∀a,0≤(qai x4 a).getD 0∧(qai x4 a).getD 0≤1000+(0:Nat):=fun a=>by
    rw[hI.ct]
    have h1:=qdo (l.take i) a
    have h2:=quP (l.take i) a
    rw[List.length_take] at h2
    omega
   have hany:((qae l[i]).any fun a=>(qai x4 a).getD 0==2)=((qae l[i]).any fun a=>cnt (l.take i) a==2):=by simp only[hI.ct]
   have h3:=qa5 l[i]
   have:=pv1 N e1 h3 (qae l[i]).length N 0 x4 (by omega) (by omega) hb
   rw[List.drop_zero,hany] at this
   rcases this with ⟨g1,g2⟩|⟨g1,x4',g2,g3⟩
   ·have hc:qaz l i l[i]=17:=by unfold qaz;rw[if_neg (by rw[hsd];simp),if_neg hnm,if_pos g1]
    have g2:qgu N (qae l[i]) (qae l[i]).length N x4 0=some (.inr 17):=g2
    rw[g2,hc];simp[qaa]
   ·have hc:qaz l i l[i]=0:=by unfold qaz;rw[if_neg (by rw[hsd];simp),if_neg hnm,if_neg (by rw[g1];simp)]
    have g2:qgu N (qae l[i]) (qae l[i]).length N x4 0=some (.inl x4'):=g2
    rw[g2,hc]
    simp only[qaa,bne_self_eq_false,Bool.false_eq_true,if_false]
    rw[w64s (by omega)]
    refine qeA N hN hl k n (i+1) _ x4' (by omega) (by omega) ⟨fun q=> ?_,fun m=> ?_⟩
    ·rw[qbC,qbT hx,List.any_append]
     by_cases hq:l[i].name=q
     ·rw[if_pos hq];simp[hq]
     ·rw[if_neg hq,hI.nm];simp[hq]
    ·rw[g3 m,hI.ct,qbT hx,qb2]
theorem qg9 (N:Nat) (hN:100≤N) {l:List PlantElement}:zbI N l=some (vErr l):=by
 unfold zbI vErr
 by_cases hl:96<l.length
 ·rw[if_pos (by simpa using by omega),if_pos hl]
 ·rw[if_neg (by simpa using by omega),if_neg hl]
  have h:=qeA N hN (l:=l) (by omega) l.length N 0 [] [] (by omega) (by omega) ⟨fun k=>by simp[qai],fun n=>by simp[qai,cnt]⟩
  simp only[Int.natCast_zero,List.drop_zero] at h
  rw[h,qaa]
  cases res (pC l) (qaz l) 0 l<;>rfl
structure RInv (l:List PlantElement) (i:Nat) (x3:List Int):Prop where
 len:x3.length=64
 ct:∀n:Nat,n<64→x3[n]? =some (cnt (l.take i) (n:Int))
theorem RInv.get {l:List PlantElement} {i:Nat} {x3:List Int} (h:RInv l i x3) {a:Int} (h0:0≤a) (h1:a<64):getI x3 a=some (cnt (l.take i) a):=by
 obtain ⟨n,rfl⟩:=Int.eq_ofNat_of_zero_le h0
 have:=h.ct n (by omega)
 exact qad this
theorem rv1 (N:Nat) {l:List PlantElement} {i:Nat} {x:PlantElement} (hx:l[i]? =some x) (hN:l.length<N) (hl:l.length≤96):qgw N l i N 0=some (if ((l.take i).any fun y=>y.name==x.name)=true then .inr 8 else .inl ()):=by
 have hi:=(List.getElem?_eq_some_iff.1 hx).1
 have hlen:(l.take i).length=i:=by rw[List.length_take];omega
 have h:=qaw (l:=l.take i) (fun _ y=>y.name==x.name) (fun _ _=>(8:Int)) (fun m j=>qgw N l i m j) (fun m=>by
  show qgw N l i (m+1) _=_
  rw[hlen,qgw,if_neg (dneg (by omega))]) (fun m j y hy=>by
  show qgw N l i (m+1) _=_
  have hlt:=(List.getElem?_eq_some_iff.1 hy).1
  rw[hlen] at hlt
  rw[List.getElem?_take,if_pos hlt] at hy
  rw[qgw,if_pos (dpos (by omega)),qad hy,qaa,qad hx,qaa,qaf,w64s (by omega)]) i N 0 (by omega) (by rw[hlen];omega)
 simp only[Int.natCast_zero,List.drop_zero] at h
 rw[h]
 congr 1
 have key:∀(q:List PlantElement) (j:Nat),res (fun _ y=>y.name==x.name) (fun _ _=>(8:Int)) j q=if (q.any fun y=>y.name==x.name)=true then .inr 8 else .inl ():=by
  intro q
  induction q with
  |nil=>intro j;rfl
  |cons y q ih=>
   intro j
   rw[res,List.any_cons]
   by_cases h:(y.name==x.name)=true
   ·simp[h]
   ·simp only[Bool.not_eq_true] at h
    rw[h,if_neg (by simp),ih,Bool.false_or]
 exact key _ 0
theorem rv2 (N:Nat) (hN:10≤N) {l:List PlantElement} {i:Nat} {x3:List Int} (hI:RInv l i x3) {e:List Int} (he:e.length≤3) (hr:∀a∈e,0≤a∧a<64):qgx N x3 e N 0=some (if (e.any fun a=>cnt (l.take i) a==2)=true then .inr 17 else .inl ()):=by
 have h:=qaw (l:=e) (fun _ a=>cnt (l.take i) a==2) (fun _ _=>(17:Int)) (fun m j=>qgx N x3 e m j) (fun m=>by
  show qgx N x3 e (m+1) _=_
  rw[qgx,if_neg (dneg (by omega))]) (fun m j y hy=>by
  show qgx N x3 e (m+1) _=_
  have hlt:=(List.getElem?_eq_some_iff.1 hy).1
  obtain ⟨h0,h1⟩:=hr y (List.mem_of_getElem? hy)
  rw[qgx,if_pos (dpos (by omega)),qad hy]
  simp only[qaa,hI.get h0 h1,qaf]
  rw[w64s (by omega)]) e.length N 0 (by omega) (by omega)
 simp only[Int.natCast_zero,List.drop_zero] at h
 rw[h]
 congr 1
 have key:∀(q:List Int) (j:Nat),res (fun _ a=>cnt (l.take i) a==2) (fun _ _=>(17:Int)) j q=if (q.any fun a=>cnt (l.take i) a==2)=true then .inr 17 else .inl ():=by
  intro q
  induction q with
  |nil=>intro j;rfl
  |cons y q ih=>
   intro j
   rw[res,List.any_cons]
   by_cases h:(cnt (l.take i) y==2)=true
   ·simp[h]
   ·simp only[Bool.not_eq_true] at h
    rw[h,if_neg (by simp),ih,Bool.false_or]
 exact key _ 0
theorem rv3 (N:Nat) {e:List Int} (hd:e.Nodup) (he:e.length≤3) (hr:∀a∈e,0≤a∧a<64):∀(k n i:Nat) (x3:List Int) (f:Int→Int),k<n→i+k=e.length→x3.length=64→(∀m:Nat,m<64→x3[m]? =some (f m))→(∀m,0≤f m∧f m≤1000+i)→
  ∃x3',qim N e n x3 i=some x3'∧x3'.length=64∧∀m:Nat,m<64→x3'[m]? =some (f m+if (m:Int)∈e.drop i then 1 else 0)
 |k,0,i,x3,f,hn,_,_,_,_=>by omega
 |0,n+1,i,x3,f,hn,hi,h1,h2,h3=>by
  obtain rfl:i=e.length:=by omega
  rw[qim,if_neg (dneg (by omega)),List.drop_length]
  exact ⟨x3,rfl,h1,fun m hm=>by simpa using h2 m hm⟩
 |k+1,n+1,i,x3,f,hn,hi,h1,h2,h3=>by
  have hlt:i<e.length:=by omega
  have ha:=qar hlt
  obtain ⟨r0,r1⟩:=hr _ (List.getElem_mem hlt)
  obtain ⟨q,hq⟩:=Int.eq_ofNat_of_zero_le r0
  have hq64:q<64:=by omega
  have hg:getI x3 e[i]=some (f q):=by rw[hq];exact qad (h2 q hq64)
  have hf:=h3 q
  rw[qim,if_pos (dpos (by omega)),qad ha,qbK ha]
  simp only[qaa,qaf,hg]
  rw[w64s (by omega),w64 (by omega) (by omega)]
  have hnot:e[i]∉e.drop (i+1):=by
   intro hm
   obtain ⟨j,hj⟩:=List.getElem?_of_mem hm
   rw[List.getElem?_drop] at hj
   obtain ⟨hjl,hj⟩:=List.getElem?_eq_some_iff.1 hj
   exact List.pairwise_iff_getElem.1 hd i (i+1+j) hlt hjl (by omega) hj.symm
  obtain ⟨x3',g1,g2,g3⟩:=rv3 N hd he hr k n (i+1) (x3.set q (f q+1)) (fun m=>if m=(q:Int) then f m+1 else f m) (by omega) (by omega) (by rw[List.length_set];exact h1) (fun m hm=>by
   rw[List.getElem?_set]
   by_cases hmq:q=m
   ·subst hmq;simp[h1,hq64]
   ·rw[if_neg hmq,h2 m hm,if_neg (by omega)]) (fun m=>by have:=h3 m;split<;>omega)
  refine ⟨x3',by rw[hq];exact g1,g2,fun m hm=> ?_⟩
  rw[g3 m hm]
  congr 1
  by_cases hmq:(m:Int)=q
  ·rw[if_pos hmq,if_neg (by rw[hmq,←hq];exact hnot),if_pos (by rw[hmq,←hq];exact List.mem_cons_self)];omega
  ·rw[if_neg hmq]
   by_cases hm2:(m:Int)∈e.drop (i+1)
   ·rw[if_pos hm2,if_pos (List.mem_cons_of_mem _ hm2)]
   ·rw[if_neg hm2,if_neg (by simp only[List.mem_cons,not_or];exact ⟨by rw[hq];exact hmq,hm2⟩)]
theorem qeE (N:Nat) (hN:100≤N) {l:List PlantElement} (hl:l.length≤96) (hnm:∀x∈l,x.name.length<N∧x.name.length≤9223372036854775807):∀(k n i:Nat) (x3:List Int),k<n→i+k=l.length→RInv l i x3→
  ql0 N l n x3 i=some (res (pC l) (qaz l) i (l.drop i))
 |k,0,i,x3,hn,_,_=>by omega
 |0,n+1,i,x3,hn,hi,hI=>by
  obtain rfl:i=l.length:=by omega
  rw[ql0,if_neg (dneg (by omega)),List.drop_length]
  rfl
 |k+1,n+1,i,x3,hn,hi,hI=>by
  have hlt:i<l.length:=by omega
  have hx:=qar hlt
  obtain ⟨q1,q2⟩:=hnm _ (List.getElem_mem hlt)
  rw[ql0,if_pos (dpos (by omega)),qnK N hx (by omega) q1 q2,qbK hx,res,qaa]
  unfold pC
  by_cases hsd:qaL l[i]=true
  case neg=>
   simp only[Bool.not_eq_true] at hsd
   have hc:qaz l i l[i]=1:=by unfold qaz;rw[if_pos hsd]
   rw[hsd,hc];simp
  obtain ⟨e1,e2,e3,e4⟩:=qaR hsd
  rw[hsd]
  simp only[Bool.not_true,Bool.false_eq_true,if_false]
  rw[rv1 N hx (by omega) hl,qaa]
  by_cases hnm':((l.take i).any fun y=>y.name==l[i].name)=true
  ·have hc:qaz l i l[i]=8:=by unfold qaz;rw[if_neg (by rw[hsd];simp),if_pos hnm']
   rw[if_pos hnm',hc];simp
  ·have h3:=qa5 l[i]
   rw[if_neg hnm']
   simp only[]
   rw[qcs,qdK hx,qaa,rv2 N (by omega) hI h3 e2,qaa]
   by_cases g1:((qae l[i]).any fun a=>cnt (l.take i) a==2)=true
   ·have hc:qaz l i l[i]=17:=by unfold qaz;rw[if_neg (by rw[hsd];simp),if_neg hnm',if_pos g1]
    rw[if_pos g1,hc];simp
   ·have hc:qaz l i l[i]=0:=by unfold qaz;rw[if_neg (by rw[hsd];simp),if_neg hnm',if_neg g1]
    rw[if_neg g1,hc]
    simp only[bne_self_eq_false,Bool.false_eq_true,if_false]
    obtain ⟨x3',k1,k2,k3⟩:=rv3 N e1 h3 e2 (qae l[i]).length N 0 x3 (fun m=>cnt (l.take i) m) (by omega) (by omega) hI.len hI.ct (fun m=>by
     have h1:=qdo (l.take i) m
     have h2:=quP (l.take i) m
     rw[List.length_take] at h2
     omega)
    have k1:qim N (qae l[i]) N x3 0=some x3':=k1
    rw[k1,qaa,qaf,w64s (by omega)]
    refine qeE N hN hl hnm k n (i+1) x3' (by omega) (by omega) ⟨k2,fun m hm=> ?_⟩
    rw[k3 m hm,qbT hx,qb2,List.drop_zero]
theorem qdf (N:Nat) (hN:100≤N) {l:List PlantElement} (hnm:l.length≤96→∀x∈l,x.name.length<N∧x.name.length≤9223372036854775807):zcB N l=some (vErr l):=by
 unfold zcB vErr
 by_cases hl:96<l.length
 ·rw[if_pos (by simpa using by omega),if_pos hl]
 ·rw[if_neg (by simpa using by omega),if_neg hl]
  have h:=qeE N hN (by omega) (hnm (by omega)) l.length N 0 (List.replicate 64 0) (by omega) (by omega) ⟨by simp,fun n hn=>by rw[List.getElem?_replicate,if_pos hn];simp[cnt]⟩
  simp only[Int.natCast_zero,List.drop_zero] at h
  rw[h,qaa]
  cases res (pC l) (qaz l) 0 l<;>rfl
structure PlOk (l:List PlantElement):Prop where
 len:l.length≤96
 snd:∀x∈l,qaL x=true
 nm:l.Pairwise fun x y=>x.name≠y.name
 ct:∀n,cnt l n≤2
theorem PlOk.err {l:List PlantElement} (h:PlOk l):vErr l=0:=by
 unfold vErr
 rw[if_neg (by have:=h.len;omega)]
 have:res (pC l) (qaz l) 0 l= .inl ():=by
  rw[qbP]
  intro j x hj
  rw[Nat.zero_add]
  have hjl:=(List.getElem?_eq_some_iff.1 hj).1
  have hc:qaz l j x=0:=by
   unfold qaz
   rw[if_neg (by rw[h.snd x (List.mem_of_getElem? hj)];simp),if_neg,if_neg]
   ·intro hh
    obtain ⟨n,hn,hn2⟩:=List.any_eq_true.1 hh
    have h2:cnt (l.take j) n=2:=by simpa using hn2
    have h3:=qb2 (l.take j) x n
    rw[if_pos hn,←qbT hj,h2] at h3
    have h4:cnt (l.take (j+1)) n≤cnt l n:=by
     unfold cnt
     have:=(List.take_sublist (j+1) l).filter (fun x=>(qae x).contains n)
     have:=this.length_le
     omega
    have:=h.ct n
    omega
   ·intro hh
    obtain ⟨y,hy,hyn⟩:=List.any_eq_true.1 hh
    obtain ⟨i,hi⟩:=List.getElem?_of_mem hy
    rw[List.getElem?_take] at hi
    split at hi
    ·rename_i hij
     obtain ⟨hil,hi⟩:=List.getElem?_eq_some_iff.1 hi
     obtain ⟨_,hj⟩:=List.getElem?_eq_some_iff.1 hj
     have:=List.pairwise_iff_getElem.1 h.nm i j hil hjl hij
     rw[hi,hj] at this
     exact this (by simpa using hyn)
    ·cases hi
  unfold pC
  rw[hc];rfl
 rw[this]
theorem PlOk.p (N:Nat) (hN:100≤N) {l:List PlantElement} (h:PlOk l):zbI N l=some 0:=by
 rw[qg9 N hN,h.err]
theorem PlOk.r (N:Nat) (hN:100≤N) {l:List PlantElement} (h:PlOk l):zcB N l=some 0:=by
 rw[qdf N hN fun _ x hx=>by
  have h1:=(qaR (h.snd x hx)).2.2.2
  unfold pnOk at h1
  simp only[Bool.and_eq_true,decide_eq_true_eq] at h1
  omega,h.err]
end Go.W
end
section
set_option linter.unusedVariables false
set_option linter.unusedSimpArgs false
namespace Go.W
open Go.AM
theorem qcE {l:List PlantElement} {n:Int} {a b:Nat} (h:a≤b):cnt (l.take a) n≤cnt (l.take b) n:=by
 unfold cnt
 have h1:l.take a=(l.take b).take a:=by rw[List.take_take];congr 1;omega
 rw[h1]
 have:=((List.take_sublist a (l.take b)).filter (fun x=>(qae x).contains n)).length_le
 omega
theorem qfz {l:List PlantElement} {n:Int} {i:Nat} {x:PlantElement} (h:l[i]? =some x) (hn:n∈qae x):cnt (l.take (i+1)) n=cnt (l.take i) n+1:=by
 rw[qbT h,qb2,if_pos hn]
theorem qwF {l:List PlantElement} {n:Int} {a:Nat}:cnt (l.take a) n≤cnt l n:=by
 have:=qcE (l:=l) (n:=n) (Nat.le_max_left a l.length)
 rw[List.take_of_length_le (Nat.le_max_right _ _)] at this
 exact this
theorem cnt3 {l:List PlantElement} {n:Int} {i j k:Nat} {x y z:PlantElement} (hx:l[i]? =some x) (hy:l[j]? =some y) (hz:l[k]? =some z) (h1:n∈qae x) (h2:n∈qae y) (h3:n∈qae z) (hij:i<j) (hjk:j<k):3≤cnt l n:=by
 have a1:=qfz hx h1
 have a2:=qfz hy h2
 have a3:=qfz hz h3
 have b1:=qcE (l:=l) (n:=n) (show i+1≤j by omega)
 have b2:=qcE (l:=l) (n:=n) (show j+1≤k by omega)
 have b3:=qwF (l:=l) (n:=n) (a:=k+1)
 have b4:=qdo (l.take i) n
 omega
theorem PlOk.of {l:List PlantElement} (h:vErr l=0):PlOk l:=by
 unfold vErr at h
 split at h
 ·cases h
 rename_i hl
 have hres:res (pC l) (qaz l) 0 l= .inl ():=by
  cases hr:res (pC l) (qaz l) 0 l with
  |inl u=>rfl
  |inr c=>
   rw[hr] at h
   simp only at h
   have key:∀(e:List PlantElement) (i:Nat) (c:Int),res (pC l) (qaz l) i e= .inr c→c≠0:=by
    intro e
    induction e with
    |nil=>intro i c h;cases h
    |cons y e ih=>
     intro i c h
     rw[res] at h
     split at h
     ·rename_i hp
      cases h
      unfold pC at hp
      simpa using hp
     ·exact ih _ _ h
   exact absurd h (key _ _ _ hr)
 have hc:∀(j:Nat) (x:PlantElement),l[j]? =some x→qaz l j x=0:=fun j x hj=>by
  have:=(qbP.1 hres) j x hj
  rw[Nat.zero_add] at this
  unfold pC at this
  simpa using this
 have h3:∀(j:Nat) (x:PlantElement),l[j]? =some x→qaL x=true∧((l.take j).any fun y=>y.name==x.name)=false∧((qae x).any fun n=>cnt (l.take j) n==2)=false:=fun j x hj=>by
  have:=hc j x hj
  unfold qaz at this
  split at this
  ·cases this
  ·rename_i a
   split at this
   ·cases this
   ·rename_i b
    split at this
    ·cases this
    ·rename_i c
     exact ⟨by simpa using a,by simpa using b,by simpa using c⟩
 refine ⟨by omega,fun x hx=> ?_, ?_,fun n=> ?_⟩
 ·obtain ⟨j,hj⟩:=List.getElem?_of_mem hx
  exact (h3 j x hj).1
 ·rw[List.pairwise_iff_getElem]
  intro i j hi hj hij hne
  have hb:=(h3 j _ (qar hj)).2.1
  rw[List.any_eq_false] at hb
  have hm:l[i]∈l.take j:=by
   refine List.mem_of_getElem? (i:=i) ?_
   rw[List.getElem?_take,if_pos hij]
   exact qar hi
  exact hb _ hm (by simpa using hne)
 ·have key:∀(i:Nat),i≤l.length→cnt (l.take i) n≤2:=by
   intro i
   induction i with
   |zero=>intro _;simp[cnt]
   |succ i ih=>
    intro hi
    have hx:=qar (xs:=l) (i:=i) (by omega)
    rw[qbT hx,qb2]
    have:=ih (by omega)
    split
    ·rename_i hm
     have hb:=(h3 i _ hx).2.2
     rw[List.any_eq_false] at hb
     have:=hb n hm
     simp at this
     omega
    ·omega
  have:=key l.length (Nat.le_refl _)
  rw[List.take_length] at this
  exact this
theorem PlOk.two {l:List PlantElement} (h:PlOk l) {n:Int} {i j k:Nat} {x y z:PlantElement} (hx:l[i]? =some x) (hy:l[j]? =some y) (hz:l[k]? =some z) (h1:n∈qae x) (h2:n∈qae y) (h3:n∈qae z):i=j∨j=k∨i=k:=by
 have hc:=h.ct n
 rcases Nat.lt_trichotomy i j with a|a|a
 ·rcases Nat.lt_trichotomy j k with b|b|b
  ·have:=cnt3 hx hy hz h1 h2 h3 a b;omega
  ·exact .inr (.inl b)
  ·rcases Nat.lt_trichotomy i k with c|c|c
   ·have:=cnt3 hx hz hy h1 h3 h2 c b;omega
   ·exact .inr (.inr c)
   ·have:=cnt3 hz hx hy h3 h1 h2 c a;omega
 ·exact .inl a
 ·rcases Nat.lt_trichotomy i k with b|b|b
  ·have:=cnt3 hy hx hz h2 h1 h3 a b;omega
  ·exact .inr (.inr b)
  ·rcases Nat.lt_trichotomy j k with c|c|c
   ·have:=cnt3 hy hz hx h2 h3 h1 c b;omega
   ·exact .inr (.inl c)
   ·have:=cnt3 hz hy hx h3 h2 h1 c a;omega
theorem qiQ (l:List PlantElement) (i n:Int):(nbr l i n= -1∧∀(j:Nat) (x:PlantElement),l[j]? =some x→(j:Int)≠i→n∉qae x)∨
  ∃(j:Nat) (x:PlantElement),nbr l i n=(j:Int)∧l[j]? =some x∧(j:Int)≠i∧n∈qae x:=by
 rcases qej (nbrB i n) l 0 with ⟨h1,h2⟩|⟨j,x,h1,h2,h3,_⟩
 ·refine .inl ⟨h1,fun j x hj hji hn=> ?_⟩
  have:=h2 j x hj
  rw[Nat.zero_add] at this
  unfold nbrB at this
  have e1:((j:Int) !=i)=true:=by simpa using hji
  rw[e1] at this
  simp[hn] at this
 ·rw[Nat.zero_add] at h1 h3
  unfold nbrB at h3
  simp only[Bool.and_eq_true,bne_iff_ne,ne_eq] at h3
  exact .inr ⟨j,x,h1,h2,h3.1,by simpa using h3.2⟩
theorem qhT {l:List PlantElement} {i n:Int} (h:0≤nbr l i n):n∈eI l (nbr l i n)∧nbr l i n≠i:=by
 rcases qiQ l i n with ⟨h1,_⟩|⟨j,x,h1,h2,h3,h4⟩
 ·omega
 ·rw[h1,qdK h2];exact ⟨h4,h3⟩
theorem qll {e:List Int} {n m:Int} (h:m∈thrE e n):n∈e∧m∈e:=by
 unfold thrE at h
 split at h
 ·rename_i hc
  refine ⟨by simpa using hc, ?_⟩
  split at h
  ·exact List.mem_of_mem_tail h
  ·exact List.mem_of_mem_take h
 ·simp at h
theorem qnZ {l:List PlantElement} {i n m:Int} (h:m∈thr l i n):n∈eI l i∧m∈eI l i:=qll h
theorem qeG (l:List PlantElement) (i n:Int):(thr l i n).length≤3:=by
 have:=qdJ l i
 unfold thr thrE
 split
 ·split
  ·rw[List.length_tail];omega
  ·rw[List.length_take];omega
 ·simp
end Go.W
end
section
set_option linter.unusedVariables false
set_option linter.unusedSimpArgs false
namespace Go.W
open Go.AM
def qb9 (i:Nat):List UInt8:=[112,UInt8.ofNat (48+i / 10%10),UInt8.ofNat (48+i%10)]
theorem qif {n:Nat} (h:n<256):toU8 (n:Int)=some (UInt8.ofNat n):=by
 unfold toU8
 rw[if_pos (by omega)]
 simp
theorem qgo (N:Nat) {i:Nat} (h:i<1000):zbF N (i:Int)=some (qb9 i):=by
 unfold zbF qb9
 have e1:IntKind.wrap .i64 (Int.tdiv (i:Int) 10)=((i / 10:Nat):Int):=by rw[Int.tdiv_eq_ediv_of_nonneg (by omega),w64 (by omega) (by omega)];omega
 have e2:Int.tmod ((i / 10:Nat):Int) 10=((i / 10%10:Nat):Int):=by rw[Int.tmod_eq_emod_of_nonneg (by omega)];omega
 have e3:Int.tmod (i:Int) 10=((i%10:Nat):Int):=by rw[Int.tmod_eq_emod_of_nonneg (by omega)];omega
 rw[e1,e2,e3,w64 (by omega) (by omega),w64 (by omega) (by omega),w8 (by omega) (by omega),w8 (by omega) (by omega)]
 have f1:=qif (n:=112) (by omega)
 have f2:=qif (n:=48+i / 10%10) (by omega)
 have f3:=qif (n:=48+i%10) (by omega)
 rw[show ((48:Int)+((i / 10%10:Nat):Int))=((48+i / 10%10:Nat):Int) by omega,show ((48:Int)+((i%10:Nat):Int))=((48+i%10:Nat):Int) by omega,f2,f3]
 have f1:toU8 112=some (UInt8.ofNat 112):=f1
 rw[f1]
 rfl
theorem qmZ {i j:Nat} (hi:i<100) (hj:j<100) (h:qb9 i=qb9 j):i=j:=by
 unfold qb9 at h
 simp only[List.cons.injEq,and_true,true_and] at h
 have a1:=congrArg UInt8.toNat h.1
 have a2:=congrArg UInt8.toNat h.2
 simp only[UInt8.toNat_ofNat'] at a1 a2
 omega
theorem qfZ (i:Nat):pnOk (qb9 i)=true:=by
 have key:∀d:Nat,d<10→pnCh (UInt8.ofNat (48+d))=true:=by
  intro d hd
  unfold pnCh
  rw[UInt8.toNat_ofNat']
  simp
  omega
 unfold pnOk qb9
 simp only[List.all_cons,List.all_nil,key (i / 10%10) (by omega),key (i%10) (by omega)]
 rfl
structure PlI (l:List PlantElement) (op:List Int) (nx:Int):Prop where
 snd:∀x∈l,qaL x=true
 nm:∀(i:Nat) (x:PlantElement),l[i]? =some x→x.name=qb9 i
 ct:∀n,cnt l n≤2
 op1:∀n∈op,cnt l n≤1
 nd:op.Nodup
 rg:∀n∈op,0≤n∧n<nx
 nw:∀n,nx≤n→cnt l n=0
 ln:(op.length:Int)≤nx
 nx64:nx≤64
 nx0:0≤nx
 fst:∃x,l[0]? =some x∧x.kind=1
theorem PlI.add {l:List PlantElement} {op op':List Int} {nx nx':Int} {x:PlantElement} (h:PlI l op nx) (hs:qaL x=true) (hn:x.name=qb9 l.length) (h1:∀n∈qae x,n∈op∨(nx≤n∧n<nx')) (h2:∀n∈op',(n∈op∧n∉qae x)∨(nx≤n∧n<nx'))
  (h3:op'.Nodup) (h4:nx≤nx') (h5:nx'≤64) (h6:(op'.length:Int)≤nx'):PlI (l++[x]) op' nx' where
 snd:=fun y hy=>by
  rcases List.mem_append.1 hy with hy|hy
  ·exact h.snd y hy
  ·simp at hy;subst hy;exact hs
 nm:=fun i y hy=>by
  by_cases hi:i<l.length
  ·rw[List.getElem?_append_left hi] at hy;exact h.nm i y hy
  ·rw[List.getElem?_append_right (by omega)] at hy
   have hi2:=(List.getElem?_eq_some_iff.1 hy).1
   simp at hi2
   have:i=l.length:=by omega
   subst this
   simp at hy;subst hy;exact hn
 ct:=fun n=>by
  rw[qb2]
  have a:=h.ct n
  split
  ·rename_i hm
   rcases h1 n hm with hm|⟨hm,_⟩
   ·have:=h.op1 n hm;omega
   ·have:=h.nw n hm;omega
  ·omega
 op1:=fun n hm=>by
  rw[qb2]
  rcases h2 n hm with ⟨a,b⟩|⟨a,b⟩
  ·have:=h.op1 n a;rw[if_neg b];omega
  ·have:=h.nw n a;split<;>omega
 nd:=h3
 rg:=fun n hm=>by
  rcases h2 n hm with ⟨a,b⟩|⟨a,b⟩
  ·have:=h.rg n a;omega
  ·have:=h.nx0;omega
 nw:=fun n hm=>by
  rw[qb2,if_neg,h.nw n (by omega)]
  ·rfl
  ·intro hh
   rcases h1 n hh with a|a
   ·have:=h.rg n a;omega
   ·omega
 ln:=h6
 nx64:=h5
 nx0:=by have:=h.nx0;omega
 fst:=by
  obtain ⟨y,hy,hk⟩:=h.fst
  exact ⟨y,by rw[List.getElem?_append_left (List.getElem?_eq_some_iff.1 hy).1];exact hy,hk⟩
theorem PlI.ok {l:List PlantElement} {op:List Int} {nx:Int} (h:PlI l op nx) (hl:l.length≤96):PlOk l where
 len:=hl
 snd:=h.snd
 nm:=List.pairwise_iff_getElem.2 fun i j hi hj hij hh=>by
  rw[h.nm i _ (qar hi),h.nm j _ (qar hj)] at hh
  have:=qmZ (by omega) (by omega) hh
  omega
 ct:=h.ct
theorem qck {m:List UInt8} {a b len:Int} (hm:pnOk m=true) (ha:0≤a∧a<64) (hb:0≤b∧b<64) (hab:a≠b) (hl:1≤len∧len≤100000):qaL (PlantElement.mk 1 m a b 0 len)=true:=by
 have he:okE [a,b]=true:=qf2.2 ⟨by simp[hab],by simp;omega⟩
 unfold qaL
 have:qae (PlantElement.mk 1 m a b 0 len)=[a,b]:=by simp[qae]
 rw[this]
 simp[hm,he,hl]
theorem qlS {m:List UInt8} {a b:Int} (hm:pnOk m=true) (ha:0≤a∧a<64) (hb:0≤b∧b<64) (hab:a≠b):qaL (PlantElement.mk 3 m a b 0 0)=true:=by
 have he:okE [a,b]=true:=qf2.2 ⟨by simp[hab],by simp;omega⟩
 unfold qaL
 have:qae (PlantElement.mk 3 m a b 0 0)=[a,b]:=by simp[qae]
 rw[this]
 simp[hm,he]
theorem qfk {m:List UInt8} {a b c:Int} (hm:pnOk m=true) (ha:0≤a∧a<64) (hb:0≤b∧b<64) (hc:0≤c∧c<64) (hab:a≠b) (hac:a≠c) (hbc:b≠c):qaL (PlantElement.mk 2 m a b c 0)=true:=by
 have he:okE [a,b,c]=true:=qf2.2 ⟨by simp[hab,hac,hbc],by simp;omega⟩
 unfold qaL
 have:qae (PlantElement.mk 2 m a b c 0)=[a,b,c]:=by simp[qae]
 rw[this]
 simp[hm,he]
theorem qlk {op:List Int} {r:Nat} {a:Int} (ha:op[r]? =some a) (hd:op.Nodup):a∉op.take r++op.drop (r+1)∧(∀n∈op.take r++op.drop (r+1),n∈op)∧(op.take r++op.drop (r+1)).Nodup∧(op.take r++op.drop (r+1)).length+1=op.length:=by
 have hr:=(List.getElem?_eq_some_iff.1 ha).1
 have hsplit:op=op.take r++a::op.drop (r+1):=by
  conv=>lhs;rw[←List.take_append_drop r op,qbK ha]
 have hd':=hd
 rw[hsplit,List.nodup_append] at hd'
 obtain ⟨d1,d2,d3⟩:=hd'
 have d2':=List.nodup_cons.1 d2
 refine ⟨?_, ?_, ?_, ?_⟩
 ·intro hm
  rcases List.mem_append.1 hm with hm|hm
  ·exact d3 a hm a List.mem_cons_self rfl
  ·exact d2'.1 hm
 ·intro n hn
  rcases List.mem_append.1 hn with hn|hn
  ·exact List.mem_of_mem_take hn
  ·exact List.mem_of_mem_drop hn
 ·rw[List.nodup_append]
  exact ⟨d1,d2'.2,fun x hx y hy=>d3 x hx y (List.mem_cons_of_mem _ hy)⟩
 ·rw[List.length_append,List.length_take,List.length_drop];omega
theorem pl4 (N:Nat) (k:Int) (b:Bool):qso N k b=some (b||(k==1)):=by
 unfold qso
 cases b<;>simp[qaf]
theorem qxv (N:Nat) {c:Int} {s:Maker} {l:List PlantElement} {op:List Int} {nx:Int} {r:Nat} {a:Int} {k:Int} (hI:PlI l op nx) (hl:l.length<96) (hs:Mk c s) (hc:c≤1000000) (hnx:nx<62) (ha:op[r]? =some a) (hk0:0≤k) (hk:k<6):
  ∃s' op' nx' x,qsn N s (op.take r++op.drop (r+1)) nx a (PlantElement.mk 0 (qb9 l.length) 0 0 0 0) k=some (s',op',nx',x)∧Mk (c+5) s'∧PlI (l++[x]) op' nx':=by
 obtain ⟨t1,t2,t3,t4⟩:=qlk ha hI.nd
 generalize hop:op.take r++op.drop (r+1)=q at*
 have hnm:=qfZ l.length
 have ham:=List.mem_of_getElem? ha
 obtain ⟨a0,a1⟩:=hI.rg a ham
 have hq:(q.length:Int)+1≤nx:=by have:=hI.ln;omega
 have hnx0:=hI.nx0
 have fresh:∀n∈q,n<nx:=fun n hn=>(hI.rg n (t2 n hn)).2
 have f1:nx∉q:=fun h=>by have:=fresh _ h;omega
 have f2:nx+1∉q:=fun h=>by have:=fresh _ h;omega
 have w1:IntKind.wrap .i64 (nx+1)=nx+1:=w64 (by omega) (by omega)
 have w2:IntKind.wrap .i64 (nx+2)=nx+2:=w64 (by omega) (by omega)
 have nd1:(q++[nx]).Nodup:=by
  rw[List.nodup_append]
  exact ⟨t3,by simp,fun x hx y hy=>by simp at hy;subst hy;exact fun hh=>f1 (hh▸hx)⟩
 have nd2:(q++[nx,nx+1]).Nodup:=by
  rw[List.nodup_append]
  refine ⟨t3,by simp;omega,fun x hx y hy=> ?_⟩
  simp at hy
  rcases hy with rfl|rfl
  ·exact fun hh=>f1 (hh▸hx)
  ·exact fun hh=>f2 (hh▸hx)
 have ap1:appI q [nx]=some (q++[nx]):=qaY (by simp;omega)
 have ap2:appI q [nx,nx+1]=some (q++[nx,nx+1]):=qaY (by simp;omega)
 have old:∀n∈q,n∈op∧n≠a:=fun n hn=>⟨t2 n hn,fun hh=>t1 (hh▸hn)⟩
 have hMk:Mk (c+5) s:=hs.le (by omega)
 unfold qsn
 simp only[qaf,pl4,qaa,w1,w2,ap1,ap2]
 by_cases k01:k=0∨k=1
 ·have hb:((k==0)||(k==1))=true:=by simpa using k01
  rw[if_pos hb]
  refine ⟨s,_,_,_,rfl,hMk,hI.add (qfk hnm ⟨a0,by omega⟩ ⟨hnx0,by omega⟩ ⟨by omega,by omega⟩ (by omega) (by omega) (by omega)) rfl ?_ ?_ nd2 (by omega) (by omega) (by simp;omega)⟩
  ·intro n hn
   simp[qae] at hn
   rcases hn with rfl|rfl|rfl
   ·exact .inl ham
   ·exact .inr (by omega)
   ·exact .inr (by omega)
  ·intro n hn
   rcases List.mem_append.1 hn with hn|hn
   ·obtain ⟨o1,o2⟩:=old n hn
    have:=fresh n hn
    refine .inl ⟨o1, ?_⟩
    simp[qae];omega
   ·simp at hn;right;omega
 ·have hb:((k==0)||(k==1))=false:=by simp;omega
  rw[if_neg (by rw[hb];simp)]
  by_cases k2:k=2
  ·rw[if_pos (by simpa using k2)]
   refine ⟨s,_,_,_,rfl,hMk,hI.add (qfk hnm ⟨hnx0,by omega⟩ ⟨a0,by omega⟩ ⟨by omega,by omega⟩ (by omega) (by omega) (by omega)) rfl ?_ ?_ nd2 (by omega) (by omega) (by simp;omega)⟩
   ·intro n hn
    simp[qae] at hn
    rcases hn with rfl|rfl|rfl
    ·exact .inr (by omega)
    ·exact .inl ham
    ·exact .inr (by omega)
   ·intro n hn
    rcases List.mem_append.1 hn with hn|hn
    ·obtain ⟨o1,o2⟩:=old n hn
     have:=fresh n hn
     refine .inl ⟨o1, ?_⟩
     simp[qae];omega
    ·simp at hn;right;omega
  ·rw[if_neg (by simpa using k2)]
   by_cases k3:k=3
   ·rw[if_pos (by simpa using k3)]
    refine ⟨s,_,_,_,rfl,hMk,hI.add (qlS hnm ⟨a0,by omega⟩ ⟨hnx0,by omega⟩ (by omega)) rfl ?_ ?_ nd1 (by omega) (by omega) (by simp;omega)⟩
    ·intro n hn
     simp[qae] at hn
     rcases hn with rfl|rfl
     ·exact .inl ham
     ·exact .inr (by omega)
    ·intro n hn
     rcases List.mem_append.1 hn with hn|hn
     ·obtain ⟨o1,o2⟩:=old n hn
      have:=fresh n hn
      refine .inl ⟨o1, ?_⟩
      simp[qae];omega
     ·simp at hn;right;omega
   ·rw[if_neg (by simpa using k3)]
    obtain ⟨len,s1,g1,g2,g3⟩:=qh2 N (s:=s) (c:=c) [1,300,100000] (by simp) (by simp) hs (by omega)
    have hlen:1≤len∧len≤100000:=by simp at g2;omega
    rw[g1,qaa]
    unfold qya
    obtain ⟨y,s2,h1,h2,h3,h4⟩:=qba N (s:=s1) (c:=c+1) 3 (by omega) (by omega) g3 (by omega)
    simp only[h1,qaa]
    by_cases hy:y=0∧0<q.length
    ·obtain ⟨hy,hq0⟩:=hy
     rw[if_pos (by simpa using hy),qaa,if_pos (dpos (by omega))]
     obtain ⟨p,hp⟩:∃p,q.length=p+1:=⟨q.length - 1,by omega⟩
     have hw:IntKind.wrap .i64 ((q.length:Int) - 1)=(p:Int):=by rw[w64 (by omega) (by omega)];omega
     have hpl:p<q.length:=by omega
     rw[hw,qad (qar hpl)]
     simp only[qaa]
     rw[qbx (by omega),qaa]
     have hbm:=List.getElem_mem hpl
     obtain ⟨b0,b1⟩:=old _ hbm
     obtain ⟨r0,r1⟩:=hI.rg _ b0
     have hqs:q=q.take p++[q[p]]:=by
      conv=>lhs;rw[←List.take_append_drop p q,qbK (qar hpl)]
      rw[List.drop_of_length_le (by omega)]
     have hnot:q[p]∉q.take p:=by
      intro hh
      have hd:=t3
      rw[hqs,List.nodup_append] at hd
      exact hd.2.2 _ hh q[p] (by simp) rfl
     refine ⟨s2,_,_,_,rfl,h4.le (by omega),hI.add (qck hnm ⟨a0,by omega⟩ ⟨r0,by omega⟩ (fun hh=>b1 hh.symm) hlen) rfl ?_ ?_ (t3.sublist (List.take_sublist p q)) (by omega) (by omega) (by rw[List.length_take];omega)⟩
     ·intro n hn
      simp[qae] at hn
      rcases hn with rfl|rfl
      ·exact .inl ham
      ·exact .inl b0
     ·intro n hn
      obtain ⟨o1,o2⟩:=old n (List.mem_of_mem_take hn)
      refine .inl ⟨o1, ?_⟩
      simp[qae]
      exact ⟨o2,fun hh=>hnot (hh▸hn)⟩
    ·have hgo:∀{β:Type} (f:Maker×Bool→Option β),(Option.bind (if (y==0)=true then some (s2,decide (0<(q.length:Int))) else some (s2,false)) f)=f (s2,false):=by
      intro β f
      by_cases h0:y=0
      ·rw[if_pos (by simpa using h0),qaa]
       have h00:¬0<q.length:=fun h=>hy ⟨h0,h⟩
       have:decide (0<(q.length:Int))=false:=by rw[decide_eq_false_iff_not];omega
       rw[this]
      ·rw[if_neg (by simpa using h0),qaa]
     rw[hgo]
     simp only[Bool.false_eq_true,if_false]
     obtain ⟨y2,s3,i1,i2,i3,i4⟩:=qba N (s:=s2) (c:=c+1+1) 2 (by omega) (by omega) h4 (by omega)
     rw[i1,qaa]
     have hend:∀n∈qae (PlantElement.mk 1 (qb9 l.length) a nx 0 len),n∈op∨(nx≤n∧n<nx+1):=by
      intro n hn
      simp[qae] at hn
      rcases hn with rfl|rfl
      ·exact .inl ham
      ·exact .inr (by omega)
     have hold:∀n∈q,n∈op∧n∉qae (PlantElement.mk 1 (qb9 l.length) a nx 0 len):=by
      intro n hn
      obtain ⟨o1,o2⟩:=old n hn
      have:=fresh n hn
      refine ⟨o1, ?_⟩
      simp[qae];omega
     by_cases hy2:y2=0
     ·rw[if_pos (by simpa using hy2)]
      refine ⟨s3,_,_,_,rfl,i4.le (by omega),hI.add (qck hnm ⟨a0,by omega⟩ ⟨hnx0,by omega⟩ (by omega) hlen) rfl hend ?_ nd1 (by omega) (by omega) (by simp;omega)⟩
      intro n hn
      rcases List.mem_append.1 hn with hn|hn
      ·exact .inl (hold n hn)
      ·simp at hn;right;omega
     ·rw[if_neg (by simpa using hy2)]
      exact ⟨s3,_,_,_,rfl,i4.le (by omega),hI.add (qck hnm ⟨a0,by omega⟩ ⟨hnx0,by omega⟩ (by omega) hlen) rfl hend (fun n hn=> .inl (hold n hn)) t3 (by omega) (by omega) (by omega)⟩
theorem pl2 (N:Nat) (k:Int) (l:List PlantElement) (op:List Int) (nx:Int):qsm N k l op nx=some (decide ((l.length:Int)<k∧0<op.length∧nx<62)):=by
 unfold qsm
 by_cases h1:(l.length:Int)<k
 ·rw[if_pos (dpos h1)]
  by_cases h2:0<op.length
  ·rw[if_pos (dpos (by omega))];simp[h1,h2]
  ·rw[if_neg (dneg (by omega))];simp[h2]
 ·rw[if_neg (dneg h1)];simp[h1]
theorem qk7 (N:Nat) {b:Int} (hb0:0≤b) (hb:b≤900000) {k:Int} (hk:k≤60):∀(f n:Nat) (c:Int) (s:Maker) (l:List PlantElement) (op:List Int) (nx:Int),f<n→k≤(l.length:Int)+f→(l.length:Int)≤61→c≤b+10000→(l.length:Int)*100+c≤b+9000+(l.length:Int)*107→Mk c s→PlI l op nx→
  ∃s' l' op' nx',qp7 N k n s l op nx=some (s',l',op',nx')∧Mk (b+20000) s'∧(l'.length:Int)≤61∧PlI l' op' nx'
 |f,0,c,s,l,op,nx,hn,_,_,_,_,_,_=>by omega
 |f,n+1,c,s,l,op,nx,hn,hf,hl,hc,hc2,hs,hI=>by
  rw[qp7,pl2,qaa]
  by_cases hcond:(l.length:Int)<k∧0<op.length∧nx<62
  ·rw[decide_eq_true hcond,if_pos rfl]
   obtain ⟨c1,c2,c3⟩:=hcond
   have hol:=hI.ln
   obtain ⟨r,s1,h1,h2,h3,h4⟩:=qba N (s:=s) (c:=c) (op.length:Int) (by omega) (by omega) hs (by omega)
   obtain ⟨q,rfl⟩:=Int.eq_ofNat_of_zero_le h2
   have hq:q<op.length:=by omega
   have ha:=qar hq
   rw[h1,qaa]
   simp only[]
   rw[qad ha,qaa,qaa,qbx (by omega),qaa,w64s (by omega),qcP (by omega),qaa]
   have e1:List.take (Int.toNat (op.length:Int)) op=op:=by rw[Int.toNat_natCast,List.take_length]
   rw[e1,Int.toNat_natCast,Int.toNat_natCast,qaY (by rw[List.length_take,List.length_drop];omega),qaa,qgo N (by omega),qaa]
   obtain ⟨kd,s2,g1,g2,g3,g4⟩:=qba N (s:=s1) (c:=c+1) 6 (by omega) (by omega) h4 (by omega)
   rw[g1,qaa]
   simp only[]
   obtain ⟨s3,op',nx',x,p1,p2,p3⟩:=qxv N (c:=c+1+1) hI (by omega) g4 (by omega) c3 ha g2 g3
   rw[p1,qaa]
   simp only[]
   rw[qaY (by simp;omega),qaa]
   cases f with
   |zero=>omega
   |succ f=>
    exact qk7 N hb0 hb hk f n (c+7) s3 (l++[x]) op' nx' (by omega) (by simp;omega) (by simp;omega) (by simp at*;omega) (by simp;omega) (p2.le (by omega)) p3
  ·rw[decide_eq_false hcond,if_neg (by simp)]
   exact ⟨s,l,op,nx,rfl,hs.le (by omega),hl,hI⟩
theorem pl7 (N:Nat) (l:List PlantElement) (op:List Int) (nx:Int):qsp N l op nx=some (decide (0<op.length∧l.length<96∧nx<64)):=by
 unfold qsp
 by_cases h1:0<op.length
 ·rw[if_pos (dpos (by omega))]
  by_cases h2:l.length<96
  ·rw[if_pos (dpos (by omega))];simp[h1,h2]
  ·rw[if_neg (dneg (by omega))];simp[h2]
 ·rw[if_neg (dneg (by omega))];simp[h1]
theorem qf7 (N:Nat) {b:Int} (hb0:0≤b) (hb:b≤900000):∀(f n:Nat) (c:Int) (s:Maker) (l:List PlantElement) (op:List Int) (nx:Int),f<n→op.length≤f→l.length≤96→c+op.length≤b+30000→Mk c s→PlI l op nx→
  ∃s' l',qp8 N n s l op nx=some (s',l')∧Mk (b+30000) s'∧l'.length≤96∧∃op' nx',PlI l' op' nx'
 |f,0,c,s,l,op,nx,hn,_,_,_,_,_=>by omega
 |f,n+1,c,s,l,op,nx,hn,hf,hl,hc,hs,hI=>by
  rw[qp8,pl7,qaa]
  by_cases hcond:0<op.length∧l.length<96∧nx<64
  ·rw[decide_eq_true hcond,if_pos rfl]
   obtain ⟨c1,c2,c3⟩:=hcond
   obtain ⟨r,s1,h1,h2,h3,h4⟩:=qba N (s:=s) (c:=c) 5 (by omega) (by omega) hs (by omega)
   rw[h1,qaa]
   simp only[]
   have ha:=qar c1
   have hnx0:=hI.nx0
   obtain ⟨t1,t2,t3,t4⟩:=qlk ha hI.nd
   rw[List.take_zero,List.nil_append] at t1 t2 t3 t4
   have hcut:cutI op 1 (op.length:Int)=some (op.drop 1):=qcP (i:=1) (by omega)
   obtain ⟨a0,a1⟩:=hI.rg _ (List.getElem_mem c1)
   have hln:=hI.ln
   have fresh:∀n∈op.drop 1,n<nx:=fun n hn=>(hI.rg n (t2 n hn)).2
   cases f with
   |zero=>omega
   |succ f=>
    unfold qyb
    by_cases hr:0<r
    ·rw[if_pos (dpos hr),qgo N (by omega),qaa]
     have hg:getI op 0=some op[0]:=qad ha
     rw[hg,qaa,qaa,qaY (by simp;omega),qaa,qaf,w64 (by omega) (by omega),qaa,hcut,qaa]
     refine qf7 N hb0 hb f n (c+1) s1 _ _ _ (by omega) (by rw[List.length_drop];omega) (by simp;omega) (by rw[List.length_drop];omega) h4 (hI.add (qck (qfZ _) ⟨a0,by omega⟩ ⟨hnx0,by omega⟩ (by omega) (by omega)) rfl ?_ ?_ t3 (by omega) (by omega) (by rw[List.length_drop];omega))
     ·intro n hn
      simp[qae] at hn
      rcases hn with rfl|rfl
      ·exact .inl (List.getElem_mem c1)
      ·exact .inr (by omega)
     ·intro n hn
      have:=fresh n hn
      refine .inl ⟨t2 n hn, ?_⟩
      simp[qae]
      exact ⟨fun hh=>t1 (hh▸hn),by omega⟩
    ·rw[if_neg (dneg hr),qaa,hcut,qaa]
     refine qf7 N hb0 hb f n (c+1) s1 _ _ _ (by omega) (by rw[List.length_drop];omega) hl (by rw[List.length_drop];omega) h4 ?_
     exact {hI with op1:=fun n hn=>hI.op1 n (t2 n hn),nd:=t3,rg:=fun n hn=>hI.rg n (t2 n hn),ln:=by rw[List.length_drop];omega}
  ·rw[decide_eq_false hcond,if_neg (by simp)]
   exact ⟨s,l,rfl,hs.le (by omega),hl,op,nx,hI⟩
structure MadeP (l:List PlantElement):Prop where
 ok:PlOk l
 fst:∃x,l[0]? =some x∧x.kind=1
theorem qrW (N:Nat) (hN:200≤N) {b:Int} (hb0:0≤b) (hb:b≤900000) {s:Maker} (hs:Mk b s) {k:Int} (hk:k≤60):∃l s',zaZ N s k=some (l,s')∧Mk (b+30000) s'∧MadeP l:=by
 unfold zaZ
 have hnm:zbF N 0=some (qb9 0):=qgo N (i:=0) (by omega)
 obtain ⟨y,s1,h1,h2,h3,h4⟩:=qba N (s:=s) (c:=b) 2 (by omega) (by omega) hs (by omega)
 rw[hnm,qaa,h1,qaa]
 simp only[]
 have hct:∀n,cnt [PlantElement.mk 1 (qb9 0) 0 1 0 500] n=if n=0∨n=1 then 1 else 0:=by
  intro n
  unfold cnt
  have:(qae (PlantElement.mk 1 (qb9 0) 0 1 0 500))=[0,1]:=by simp[qae]
  rw[List.filter_cons,this]
  by_cases hn:n=0∨n=1
  ·rw[if_pos (by simpa using hn),if_pos hn];rfl
  ·rw[if_neg (by simpa using hn),if_neg hn];rfl
 have h0:∀op:List Int,(∀n∈op,n=0∨n=1)→op.Nodup→op.length≤2→PlI [PlantElement.mk 1 (qb9 0) 0 1 0 500] op 2:=fun op ho hd hl=>
  {snd:=fun x hx=>by simp at hx;subst hx;exact qck (qfZ 0) (by omega) (by omega) (by omega) (by omega)
   nm:=fun i x hx=>by
    have:=(List.getElem?_eq_some_iff.1 hx).1
    simp at this
    subst this
    simp at hx;subst hx;rfl
   ct:=fun n=>by rw[hct];split<;>omega
   op1:=fun n _=>by rw[hct];split<;>omega
   nd:=hd
   rg:=fun n hn=>by rcases ho n hn with h|h<;>omega
   nw:=fun n hn=>by rw[hct,if_neg (by omega)]
   ln:=by omega
   nx64:=by omega
   nx0:=by omega
   fst:=⟨_,rfl,rfl⟩}
 have hop:∃op,qsl N [1] (y==0)=some op∧PlI [PlantElement.mk 1 (qb9 0) 0 1 0 500] op 2:=by
  unfold qsl
  by_cases hy:y=0
  ·rw[if_pos (by simpa using hy),qaY (by simp),qaa]
   exact ⟨_,rfl,h0 _ (by simp) (by simp) (by simp)⟩
  ·rw[if_neg (by simpa using hy)]
   exact ⟨_,rfl,h0 _ (by simp) (by simp) (by simp)⟩
 obtain ⟨op,g1,g2⟩:=hop
 rw[g1,qaa]
 obtain ⟨s2,l2,op2,nx2,p1,p2,p3,p4⟩:=qk7 N hb0 hb hk 100 N (b+1) s1 _ op 2 (by omega) (by simp;omega) (by simp) (by omega) (by simp;omega) h4 g2
 rw[p1,qaa]
 simp only[]
 have:=p4.ln
 have:=p4.nx64
 obtain ⟨s3,l3,q1,q2,q3,op3,nx3,q4⟩:=qf7 N hb0 hb 64 N (b+20000) s2 l2 op2 nx2 (by omega) (by omega) (by omega) (by omega) p2 p4
 rw[q1,qaa]
 exact ⟨l3,s3,rfl,q2,q4.ok q3,q4.fst⟩
end Go.W
end
section
set_option linter.unusedSimpArgs false
set_option linter.unusedVariables false
set_option maxRecDepth 100000
namespace Go.W
open Go.AM
theorem qiT {α:Type} [DecidableEq α]:∀{a b:List α},a.Nodup→(∀x∈a,x∈b)→a.length≤b.length
 |[],b,_,_=>by simp
 |x::a,b,hd,hs=>by
  have hd':=List.nodup_cons.1 hd
  have hx:=hs x List.mem_cons_self
  have:=qiT (a:=a) (b:=b.erase x) hd'.2 fun y hy=>(List.mem_erase_of_ne (by rintro rfl;exact hd'.1 hy)).2 (hs y (List.mem_cons_of_mem _ hy))
  rw[List.length_erase_of_mem hx] at this
  have hpos:=List.length_pos_of_mem hx
  simp only[List.length_cons];omega
open Go.AM
open Go.AM
def trk (l:List PlantElement) (i:Int):Prop:=0≤i∧∃x,l[i.toNat]? =some x∧x.kind=1
instance (l:List PlantElement) (i:Int):Decidable (trk l i):=by
 unfold trk
 cases h:l[i.toNat]? with
 |none=>exact isFalse (by rintro ⟨_,x,hx,_⟩;cases hx)
 |some y=>exact if h2:0≤i∧y.kind=1 then isTrue ⟨h2.1,y,rfl,h2.2⟩ else isFalse (by rintro ⟨a,x,hx,b⟩;cases hx;exact h2 ⟨a,b⟩)
theorem qnv (N:Nat) (l:List PlantElement) (i:Int):zbO N l i=some (decide (trk l i)):=by
 unfold zbO qsy
 by_cases h0:0≤i
 ·rw[if_pos (lpos h0)]
  by_cases h1:i<l.length
  ·rw[if_pos (dpos h1)]
   have hlt:i.toNat<l.length:=by omega
   have hg:getI l i=some l[i.toNat]:=by simp[getI,h0,hlt]
   rw[hg,qaa,qaf,qaa]
   congr 1
   by_cases hk:l[i.toNat].kind=1
   ·rw[decide_eq_true (show trk l i from ⟨h0,_,qar hlt,hk⟩)];simpa using hk
   ·rw[decide_eq_false (show ¬trk l i from by rintro ⟨_,x,hx,hk'⟩;rw[qar hlt] at hx;cases hx;exact hk hk')];simpa using hk
  ·rw[if_neg (dneg h1),qaa,decide_eq_false (show ¬trk l i from by rintro ⟨_,x,hx,_⟩;have:=(List.getElem?_eq_some_iff.1 hx).1;omega)]
 ·rw[if_neg (lneg h0),qaa,decide_eq_false (show ¬trk l i from fun h=>h0 h.1)]
theorem qxI (N:Nat) (l:List PlantElement) (i:Int):zcE N l i=some (decide (trk l i)):=by
 have h:=qnv N l i
 unfold zbO qsy at h
 unfold zcE qyn
 exact h
theorem qcF (N:Nat) {l:List Int} (hN:l.length<N) (hl:l.length≤1000000) (x:Int):zaA N l x=some (l.contains x):=by
 unfold zaA zaC
 have h:=qaw (l:=l) (fun _ y=>x==y) (fun i _=>(i:Int)) (fun m i=>qhm N l x l.length m i) (fun m=>by
  show qhm N l x l.length (m+1) _=_
  rw[qhm,if_neg (dneg (by omega))]) (fun m i y hy=>by
  show qhm N l x l.length (m+1) _=_
  have hlt:=(List.getElem?_eq_some_iff.1 hy).1
  rw[qhm,if_pos (dpos (by omega)),qad hy,qaa,w64s (by omega)]) l.length N 0 hN (by omega)
 simp only[Int.natCast_zero,List.drop_zero] at h
 rw[h,qaa]
 have key:(∃u,res (fun _ y=>x==y) (fun i _=>(i:Int)) 0 l= .inl u)↔l.contains x=false:=by
  have:res (fun _ y=>x==y) (fun i (_:Int)=>(i:Int)) 0 l= .inl ()↔_:=qbP
  constructor
  ·rintro ⟨u,hu⟩
   have h2:=this.1 hu
   rw[Bool.eq_false_iff]
   intro hc
   have hm:x∈l:=by simpa using hc
   obtain ⟨j,hj⟩:=List.getElem?_of_mem hm
   have:=h2 j x hj
   simp at this
  ·intro hc
   refine ⟨(),this.2 fun j y hj=> ?_⟩
   have hm:x∉l:=by simpa using hc
   simp only[beq_eq_false_iff_ne,ne_eq]
   rintro rfl
   exact hm (List.mem_of_getElem? hj)
 rcases qeB (fun _ y=>x==y) l 0 with ⟨h1,h2⟩|⟨h1,h2⟩
 ·rw[h1]
  have:=key.1 ⟨(),h1⟩
  rw[this]
  rfl
 ·rw[h1]
  have:l.contains x=true:=by
   cases hc:l.contains x with
   |true=>rfl
   |false=>obtain ⟨u,hu⟩:=key.2 hc;rw[h1] at hu;cases hu
  rw[this]
  simp only[qaa,qaf]
  rw[decide_eq_true h2]
theorem qnx (N:Nat) {l:List Int} (hN:l.length<N) (hl:l.length≤1000000) (x:Int):zcR N l x=some (l.contains x):=by
 have h:=qmC (l:=l) (x:=x) (fun n i=>qhw N l x n i) (fun n=>by
  show qhw N l x (n+1) _=_
  rw[qhw,if_neg (dneg (by omega))]) (fun n i y hy=>by
  show qhw N l x (n+1) _=_
  have hlt:=(List.getElem?_eq_some_iff.1 hy).1
  rw[qhw,if_pos (dpos (by omega)),qad hy,qaa,qaf,w64s (by omega)]) hN
 unfold zcR
 rw[h,qaa]
 cases l.contains x<;>rfl
def elems (r:List Visit):List Int:=r.map Visit.element
theorem qp5 (N:Nat) {r:List Visit} (hN:r.length<N) (hl:r.length≤9223372036854775807) (x:Int):zbX N r x=some ((elems r).contains x):=by
 have h:=qaw (l:=r) (fun _ y=>y.element==x) (fun _ _=>true) (fun n i=>qhq N r x n i) (fun n=>by
  show qhq N r x (n+1) _=_
  rw[qhq,if_neg (dneg (by omega))]) (fun n i y hy=>by
  show qhq N r x (n+1) _=_
  have hlt:=(List.getElem?_eq_some_iff.1 hy).1
  rw[qhq,if_pos (dpos (by omega)),qad hy,qaa,qaf,w64s (by omega)]) r.length N 0 hN (by omega)
 simp only[Int.natCast_zero,List.drop_zero] at h
 unfold zbX
 rw[h,qaa,qh5 (fun y:Visit=>y.element==x)]
 have e:(r.any fun y=>y.element==x)=(elems r).contains x:=by
  unfold elems
  rw[←qiq,List.any_map]
  rfl
 rw[e]
 cases (elems r).contains x<;>rfl
theorem qfr (N:Nat) {r:List Visit} (hl:r.length≤9223372036854775807):∀(k n i:Nat) (x3:List (Int×Bool)),k<n→i+k=r.length→(∀a,(qai x3 a).getD false=(elems (r.take i)).contains a)→(elems (r.take i)).Nodup→
  (qgv N r r.length n x3 i=some (.inl ())∧(elems r).Nodup)∨(qgv N r r.length n x3 i=some (.inr true)∧¬(elems r).Nodup)
 |k,0,i,x3,hn,_,_,_=>by omega
 |0,n+1,i,x3,hn,hi,h1,h2=>by
  obtain rfl:i=r.length:=by omega
  rw[qgv,if_neg (dneg (by omega))]
  rw[List.take_length] at h2
  exact .inl ⟨rfl,h2⟩
 |k+1,n+1,i,x3,hn,hi,h1,h2=>by
  have hlt:i<r.length:=by omega
  have ha:=qar hlt
  rw[qgv,if_pos (dpos (by omega)),qad ha,qaa,qaf,h1]
  have htk:elems (r.take (i+1))=elems (r.take i)++[r[i].element]:=by unfold elems;rw[qbT ha,List.map_append];rfl
  by_cases hc:(elems (r.take i)).contains r[i].element=true
  ·rw[if_pos hc]
   refine .inr ⟨rfl,fun hd=> ?_⟩
   have hs:(elems (r.take (i+1))).Nodup:=hd.sublist ((List.take_sublist (i+1) r).map _)
   rw[htk,List.nodup_append] at hs
   exact hs.2.2 _ (by simpa using hc) _ (by simp) rfl
  ·rw[if_neg hc,qaf,w64s (by omega)]
   refine qfr N hl k n (i+1) _ (by omega) (by omega) (fun a=> ?_) ?_
   ·rw[qbC,htk]
    by_cases hh:r[i].element=a
    ·rw[if_pos hh];simp[hh]
    ·rw[if_neg hh,h1]
     have hh':¬a=r[i].element:=fun q=>hh q.symm
     simp[hh']
   ·rw[htk,List.nodup_append]
    refine ⟨h2,by simp,fun x hx y hy=> ?_⟩
    simp at hy
    subst hy
    rintro rfl
    exact hc (by simpa using hx)
theorem qsc (N:Nat) {r:List Visit} (hN:r.length<N) (hl:r.length≤9223372036854775807):∃b,zbP N r=some b∧(b=false↔(elems r).Nodup):=by
 unfold zbP
 have h:=qfr N hl r.length N 0 [] hN (by omega) (fun a=>by simp[qai,elems]) (by simp[elems])
 rcases h with ⟨h1,h2⟩|⟨h1,h2⟩
 ·have h1:qgv N r r.length N [] 0=some (.inl ()):=h1
  rw[h1,qaa]
  exact ⟨false,rfl,by simp[h2]⟩
 ·have h1:qgv N r r.length N [] 0=some (.inr true):=h1
  rw[h1,qaa]
  exact ⟨true,rfl,by simp[h2]⟩
structure WayP (l:List PlantElement) (r:List Visit):Prop where
 two:2≤r.length
 st:∀v,r[0]? =some v→trk l v.element∧v.in_= -1∧v.out∈eI l v.element
 en:∀v,r[r.length - 1]? =some v→trk l v.element∧v.out= -1
 step:∀(i:Nat) v w,r[i]? =some v→r[i+1]? =some w→w.in_=v.out∧0≤w.element∧w.element=nbr l v.element v.out
 mid:∀(i:Nat) v,0<i→i+1<r.length→r[i]? =some v→v.out∈thr l v.element v.in_
theorem WayP.ins {l:List PlantElement} {r:List Visit} (h:WayP l r) {i:Nat} {v:Visit} (hi:0<i) (hv:r[i]? =some v):v.in_∈eI l v.element:=by
 obtain ⟨j,rfl⟩:∃j,i=j+1:=⟨i - 1,by omega⟩
 have hlt:=(List.getElem?_eq_some_iff.1 hv).1
 have hj:=qar (xs:=r) (i:=j) (by omega)
 obtain ⟨a,b,c⟩:=h.step j _ v hj hv
 rw[c,a]
 exact (qhT (by rw[←c];exact b)).1
theorem WayP.outs {l:List PlantElement} {r:List Visit} (h:WayP l r) {i:Nat} {v:Visit} (hi:i+1<r.length) (hv:r[i]? =some v):v.out∈eI l v.element:=by
 cases i with
 |zero=>exact (h.st v hv).2.2
 |succ i=>exact (qnZ (h.mid (i+1) v (by omega) hi hv)).2
theorem qa2 {a:Bool} {x:Option Bool} {p q:Prop} (ha:a=false↔p) (hx:∃b,x=some b∧(b=false↔q)):∃b,(if a=true then some true else x)=some b∧(b=false↔p∧q):=by
 cases a with
 |true=>exact ⟨true,rfl,by simp at ha;simp[ha]⟩
 |false=>
  obtain ⟨b,h1,h2⟩:=hx
  refine ⟨b,by simpa using h1, ?_⟩
  rw[h2]
  simp at ha
  simp[ha]
theorem qiU {p:Prop} [Decidable p]:(!decide p)=false↔p:=by simp
theorem qm2 {l:List Int} {x:Int}:(!l.contains x)=false↔x∈l:=by simp
theorem qgF {a b:Int}:(a !=b)=false↔a=b:=by simp
theorem qBF {a b:Int}:decide (a<b)=false↔b≤a:=by simp
theorem qxA (N:Nat) {l:List PlantElement} {r:List Visit} (hN:r.length+l.length+10≤N) (hl:l.length≤1000000) (hr:r.length≤9223372036854775807):∃b,zcG N l r=some b∧(b=true↔WayP l r):=by
 unfold zcG
 rw[qaf]
 by_cases h2:r.length<2
 ·have h:ql1 N l r (IntKind.wrap .i64 ((r.length:Int) - 1))=some true:=by
   unfold ql1
   rw[if_pos (dpos (by rw[w64 (by omega) (by omega)];omega))]
  rw[h,qaa,if_pos rfl]
  exact ⟨false,rfl,by simp;intro hw;have:=hw.two;omega⟩
 have hw:IntKind.wrap .i64 ((r.length:Int) - 1)=((r.length - 1:Nat):Int):=by rw[w64 (by omega) (by omega)];omega
 rw[hw]
 have h0:=qar (xs:=r) (i:=0) (by omega)
 have hz:=qar (xs:=r) (i:=r.length - 1) (by omega)
 generalize hv0:r[0]'(by omega)=v at h0
 generalize hvz:r[r.length - 1]'(by omega)=w at hz
 have g0:getI r 0=some v:=qad h0
 have gz:getI r ((r.length - 1:Nat):Int)=some w:=qad hz
 have e1:=qdJ l v.element
 have e2:=qdJ l w.element
 have c0:∃b,ql1 N l r ((r.length - 1:Nat):Int)=some b∧(b=false↔trk l v.element∧trk l w.element∧v.in_= -1∧w.out= -1):=by
  unfold ql1
  rw[if_neg (dneg (by omega))]
  simp only[g0,gz,qaa,qnv]
  exact qa2 qiU (qa2 qiU (qa2 qgF ⟨_,rfl,qgF⟩))
 have c1:∃b,qsF N l r ((r.length - 1:Nat):Int)=some b∧(b=false↔v.out∈eI l v.element∧w.in_∈eI l w.element):=by
  unfold qsF
  simp only[g0,gz,qaa,qk4]
  rw[qcF N (by omega) (by omega),qcF N (by omega) (by omega)]
  simp only[qaa]
  exact qa2 qm2 ⟨_,rfl,qm2⟩
 obtain ⟨b0,p0,q0⟩:=c0
 obtain ⟨b1,p1,q1⟩:=c1
 rw[p0,qaa]
 have st':∀{x},r[0]? =some x→x=v:=fun hx=>by rw[h0] at hx;cases hx;rfl
 have en':∀{x},r[r.length - 1]? =some x→x=w:=fun hx=>by rw[hz] at hx;cases hx;rfl
 cases b0 with
 |true=>
  rw[if_pos rfl]
  refine ⟨false,rfl, ?_⟩
  simp only[Bool.false_eq_true,false_iff]
  intro hw
  have a:=hw.st v h0
  have b:=hw.en w hz
  have:=q0.2 ⟨a.1,b.1,a.2.1,b.2⟩
  cases this
 |false=>
  rw[if_neg (by simp),p1,qaa]
  have q0:=q0.1 rfl
  cases b1 with
  |true=>
   rw[if_pos rfl]
   refine ⟨false,rfl, ?_⟩
   simp only[Bool.false_eq_true,false_iff]
   intro hw
   have:=q1.2 ⟨(hw.st v h0).2.2,hw.ins (by omega) hz⟩
   cases this
  |false=>
   rw[if_neg (by simp)]
   have q1:=q1.1 rfl
   have hcut:cutI r 1 (r.length:Int)=some (r.drop 1):=qcP (i:=1) (by omega)
   rw[hcut,qaa]
   have hlen:(r.drop 1).length=r.length - 1:=List.length_drop
   let bad:Nat→Visit→Prop:=fun i y=>¬((y.in_=(r.getD i (Visit.mk 0 0 0)).out∧0≤y.element∧nbr l (r.getD i (Visit.mk 0 0 0)).element (r.getD i (Visit.mk 0 0 0)).out=y.element)∧(i+2<r.length→y.out∈thr l y.element y.in_))
   have hloop:=qaw (l:=r.drop 1) (fun i y=> @decide (bad i y) (Classical.propDecidable _)) (fun _ _=>false) (fun m i=>qht N l r ((r.length - 1:Nat):Int) (r.drop 1) (r.drop 1).length m i) (fun m=>by
    show qht N l r _ (r.drop 1) (r.drop 1).length (m+1) _=_
    rw[qht,if_neg (dneg (by omega))]) (fun m i y hy=>by
    show qht N l r _ (r.drop 1) (r.drop 1).length (m+1) _=_
    have hlt:=(List.getElem?_eq_some_iff.1 hy).1
    have hi:=qar (xs:=r) (i:=i) (by omega)
    rw[qht,if_pos (dpos (by omega)),qad hy,qaa,qad hi,qaa]
    have hgd:r.getD i (Visit.mk 0 0 0)=r[i]'(by omega):=by simp[List.getD,hi]
    have d3:∃b,qsG N l y (r[i]'(by omega))=some b∧(b=false↔y.in_=(r.getD i (Visit.mk 0 0 0)).out∧0≤y.element∧nbr l (r.getD i (Visit.mk 0 0 0)).element (r.getD i (Visit.mk 0 0 0)).out=y.element):=by
     unfold qsG
     rw[hgd,qnr N (by omega) (by omega),qaa]
     exact qa2 qgF (qa2 qBF ⟨_,rfl,qgF⟩)
    have d4:∃b,qsH N l ((r.length - 1:Nat):Int) i y=some b∧(b=false↔(i+2<r.length→y.out∈thr l y.element y.in_)):=by
     unfold qsH
     rw[w64s (by omega)]
     by_cases hh:i+2<r.length
     ·rw[if_pos (dpos (by omega)),qnu N (by omega),qaa,qcF N (by have:=qeG l y.element y.in_;omega) (by have:=qeG l y.element y.in_;omega),qaa]
      exact ⟨_,rfl,by rw[qm2];simp[hh]⟩
     ·rw[if_neg (dneg (by omega))]
      exact ⟨false,rfl,by simp[hh]⟩
    obtain ⟨b3,r3,s3⟩:=d3
    obtain ⟨b4,r4,s4⟩:=d4
    rw[r3,qaa]
    cases b3 with
    |true=>
     have hb:bad i y:=fun hh=>by have:=s3.2 hh.1;cases this
     rw[if_pos rfl, @decide_eq_true _ (Classical.propDecidable _) hb,if_pos rfl]
    |false=>
     rw[if_neg (by simp),r4,qaa]
     cases b4 with
     |true=>
      have hb:bad i y:=fun hh=>by have:=s4.2 hh.2;cases this
      rw[if_pos rfl, @decide_eq_true _ (Classical.propDecidable _) hb,if_pos rfl]
     |false=>
      have hb:¬bad i y:=fun hh=>hh ⟨s3.1 rfl,s4.1 rfl⟩
      rw[if_neg (by simp), @decide_eq_false _ (Classical.propDecidable _) hb,if_neg (by simp),w64s (by omega)]) (r.drop 1).length N 0 (by omega) (by omega)
   simp only[Int.natCast_zero,List.drop_zero] at hloop
   rw[hloop,qaa]
   have hiff:WayP l r↔∀(j:Nat) (y:Visit),(r.drop 1)[j]? =some y→¬bad j y:=by
    constructor
    ·intro hw j y hj hb
     rw[List.getElem?_drop,Nat.add_comm] at hj
     have hlt:=(List.getElem?_eq_some_iff.1 hj).1
     have hi:=qar (xs:=r) (i:=j) (by omega)
     have hgd:r.getD j (Visit.mk 0 0 0)=r[j]'(by omega):=by simp[List.getD,hi]
     obtain ⟨a,b,c⟩:=hw.step j _ y hi hj
     refine hb ⟨by rw[hgd];exact ⟨a,b,c.symm⟩,fun hh=>hw.mid (j+1) y (by omega) (by omega) hj⟩
    ·intro hh
     refine ⟨by omega,fun x hx=> ?_,fun x hx=> ?_,fun i x y hx hy=> ?_,fun i x hi hi2 hx=> ?_⟩
     ·rw[st' hx];exact ⟨q0.1,q0.2.2.1,q1.1⟩
     ·rw[en' hx];exact ⟨q0.2.1,q0.2.2.2⟩
     ·have:=Classical.not_not.1 (hh i y (by rw[List.getElem?_drop,Nat.add_comm];exact hy))
      have hgd:r.getD i (Visit.mk 0 0 0)=x:=by simp[List.getD,hx]
      rw[hgd] at this
      exact ⟨this.1.1,this.1.2.1,this.1.2.2.symm⟩
     ·obtain ⟨j,rfl⟩:∃j,i=j+1:=⟨i - 1,by omega⟩
      have:=Classical.not_not.1 (hh j x (by rw[List.getElem?_drop,Nat.add_comm];exact hx))
      exact this.2 (by omega)
   have hres:=qbP (p:=fun i y=> @decide (bad i y) (Classical.propDecidable _)) (out:=fun _ _=>false) (l:=r.drop 1) (i:=0)
   cases hr2:res (fun i y=> @decide (bad i y) (Classical.propDecidable _)) (fun _ _=>false) 0 (r.drop 1) with
   |inl u=>
    refine ⟨true,rfl, ?_⟩
    simp only[true_iff]
    refine hiff.2 fun j y hj=> ?_
    have:=(hres.1 hr2) j y hj
    rw[Nat.zero_add] at this
    exact @of_decide_eq_false _ (Classical.propDecidable _) this
   |inr b=>
    have hbf:b=false:=by
     have key:∀(e:List Visit) (i:Nat) (b:Bool),res (fun i y=> @decide (bad i y) (Classical.propDecidable _)) (fun _ _=>false) i e= .inr b→b=false:=by
      intro e
      induction e with
      |nil=>intro i b h;cases h
      |cons y e ih=>
       intro i b h
       rw[res] at h
       split at h
       ·cases h;rfl
       ·exact ih _ _ h
     exact key _ _ _ hr2
    subst hbf
    refine ⟨false,rfl, ?_⟩
    simp only[Bool.false_eq_true,false_iff]
    intro hw
    have:=hres.2 fun j y hj=>by
     rw[Nat.zero_add]
     exact @decide_eq_false _ (Classical.propDecidable _) (hiff.1 hw j y hj)
    rw[this] at hr2;cases hr2
open Go.AM
def RtP (l:List PlantElement) (r:List Visit):Prop:=vErr l=0∧WayP l r∧(elems r).Nodup
theorem qnn (N:Nat) {l:List PlantElement} {r:List Visit} (hN:r.length+l.length+200≤N) (hl:l.length≤1000000) (hr:r.length≤9223372036854775807):∃b,zbN N l r=some b∧(b=true↔RtP l r):=by
 unfold zbN qyd RtP
 rw[qg9 N (by omega),qaa]
 by_cases h0:vErr l=0
 ·rw[if_pos (by simpa using h0)]
  obtain ⟨b,h1,h2⟩:=qxA N (l:=l) (r:=r) (by omega) hl hr
  obtain ⟨c,h3,h4⟩:=qsc N (r:=r) (by omega) hr
  rw[h1,qaa]
  cases b with
  |true=>
   rw[if_pos rfl,h3]
   simp only[qaa,qaf]
   refine ⟨!c,rfl, ?_⟩
   simp only[Bool.not_eq_true',h4]
   exact ⟨fun h=>⟨h0,h2.1 rfl,h⟩,fun h=>h.2.2⟩
  |false=>
   rw[if_neg (by simp),qaa]
   refine ⟨false,rfl, ?_⟩
   simp only[Bool.false_eq_true,false_iff]
   intro h
   have:=h2.2 h.2.1
   cases this
 ·rw[if_neg (by simpa using h0),qaa]
  exact ⟨false,rfl,by simp[h0]⟩
theorem qxB (N:Nat) {l:List PlantElement} {r:List Visit} (hN:r.length+l.length+200≤N) (hl:l.length≤1000000) (hr:r.length≤9223372036854775807) (hnm:l.length≤96→∀x∈l,x.name.length<N∧x.name.length≤9223372036854775807):∃b,zcD N l r=some b∧(b=true↔RtP l r):=by
 unfold zcD
 rw[qaf]
 by_cases h0:vErr l=0
 case neg=>
  have h:qhr N l r (IntKind.wrap .i64 ((r.length:Int) - 1))=some true:=by
   unfold qhr
   rw[qdf N (by omega) hnm,qaa,if_pos (by simpa using h0)]
  rw[h,qaa,if_pos rfl]
  exact ⟨false,rfl,by simp[RtP,h0]⟩
 by_cases h2:r.length<2
 ·have h:qhr N l r (IntKind.wrap .i64 ((r.length:Int) - 1))=some true:=by
   unfold qhr
   rw[qdf N (by omega) hnm,qaa,if_neg (by simpa using h0),if_pos (dpos (by rw[w64 (by omega) (by omega)];omega))]
  rw[h,qaa,if_pos rfl]
  refine ⟨false,rfl, ?_⟩
  simp only[Bool.false_eq_true,false_iff]
  intro hw
  have:=hw.2.1.two
  omega
 have hw:IntKind.wrap .i64 ((r.length:Int) - 1)=((r.length - 1:Nat):Int):=by rw[w64 (by omega) (by omega)];omega
 rw[hw]
 have h0':=qar (xs:=r) (i:=0) (by omega)
 have hz:=qar (xs:=r) (i:=r.length - 1) (by omega)
 generalize hv0:r[0]'(by omega)=v at h0'
 generalize hvz:r[r.length - 1]'(by omega)=w at hz
 have g0:getI r 0=some v:=qad h0'
 have gz:getI r ((r.length - 1:Nat):Int)=some w:=qad hz
 have st':∀{x},r[0]? =some x→x=v:=fun hx=>by rw[h0'] at hx;cases hx;rfl
 have en':∀{x},r[r.length - 1]? =some x→x=w:=fun hx=>by rw[hz] at hx;cases hx;rfl
 have c0:∃b,qhr N l r ((r.length - 1:Nat):Int)=some b∧(b=false↔trk l v.element∧trk l w.element∧v.in_= -1∧w.out= -1):=by
  unfold qhr
  rw[qdf N (by omega) hnm,qaa,if_neg (by simpa using h0),if_neg (dneg (by omega))]
  simp only[g0,gz,qaa,qxI]
  exact qa2 qiU (qa2 qiU (qa2 qgF ⟨_,rfl,qgF⟩))
 obtain ⟨b0,p0,q0⟩:=c0
 rw[p0,qaa]
 cases b0 with
 |true=>
  rw[if_pos rfl]
  refine ⟨false,rfl, ?_⟩
  simp only[Bool.false_eq_true,false_iff]
  intro hh
  have a:=hh.2.1.st v h0'
  have b:=hh.2.1.en w hz
  have:=q0.2 ⟨a.1,b.1,a.2.1,b.2⟩
  cases this
 |false=>
  rw[if_neg (by simp)]
  have q0:=q0.1 rfl
  let nx:Nat→Visit:=fun i=>r.getD (i+1) (Visit.mk 0 0 0)
  let good:Nat→Visit→Prop:=fun i y=>(0≤y.element∧y.element<l.length∧y.element∉elems (r.take i))∧(i+1<r.length→y.out∈eI l y.element∧(nx i).in_=y.out∧(nx i).element=nbr l y.element y.out)∧(0<i→i+1<r.length→y.out∈thr l y.element y.in_)
  have hloop:=qaw (l:=r) (fun i y=> @decide (¬good i y) (Classical.propDecidable _)) (fun _ _=>false) (fun m i=>qhs N l r ((r.length - 1:Nat):Int) m i) (fun m=>by
   show qhs N l r _ (m+1) _=_
   rw[qhs,if_neg (lneg (by omega))]) (fun m i y hy=>by
   show qhs N l r _ (m+1) _=_
   have hlt:=(List.getElem?_eq_some_iff.1 hy).1
   rw[qhs,if_pos (lpos (by omega))]
   have hte:=qeG l y.element y.in_
   have hee:=qdJ l y.element
   have d2:∃b,qsC N l r i=some b∧(b=false↔0≤y.element∧y.element<l.length∧y.element∉elems (r.take i)):=by
    unfold qsC
    simp only[qad hy,qaa]
    rw[qbx (by omega),qaa,qp5 N (by rw[List.length_take];omega) (by rw[List.length_take];omega),qaa]
    refine qa2 qBF (qa2 (p:=y.element<l.length) (by simp) ⟨_,rfl,by simp⟩)
   have d3:∃b,qsD N l r ((r.length - 1:Nat):Int) i=some b∧(b=false↔(i+1<r.length→y.out∈eI l y.element∧(nx i).in_=y.out∧(nx i).element=nbr l y.element y.out)):=by
    unfold qsD
    by_cases hh:i+1<r.length
    ·have hx:=qar hh
     have hgd:nx i=r[i+1]:=by show r.getD (i+1) (Visit.mk 0 0 0)=_;simp[List.getD,hx]
     rw[if_pos (dpos (by omega)),w64s (by omega)]
     simp only[qad hy,qad hx,qaa,qcs]
     rw[qnx N (by omega) (by omega),qh8 N (by omega) (by omega)]
     simp only[qaa]
     obtain ⟨b,k1,k2⟩:=qa2 (a:= !(eI l y.element).contains y.out) qm2 (qa2 (a:=r[i+1].in_ !=y.out) qgF (x:=some (r[i+1].element !=nbr l y.element y.out)) ⟨_,rfl,qgF⟩)
     exact ⟨b,k1,by rw[k2,hgd];simp[hh]⟩
    ·rw[if_neg (dneg (by omega))]
     exact ⟨false,rfl,by simp[hh]⟩
   have d4:∃b,qsE N l r ((r.length - 1:Nat):Int) i=some b∧(b=false↔(0<i→i+1<r.length→y.out∈thr l y.element y.in_)):=by
    unfold qsE
    by_cases hi:0<i
    ·rw[if_pos (dpos (by omega))]
     by_cases hh:i+1<r.length
     ·rw[if_pos (dpos (by omega))]
      simp only[qad hy,qaa]
      rw[qnL N (by omega),qaa,qnx N (by omega) (by omega),qaa]
      exact ⟨_,rfl,by rw[qm2];simp[hi,hh]⟩
     ·rw[if_neg (dneg (by omega))]
      exact ⟨false,rfl,by simp[hh]⟩
    ·rw[if_neg (dneg (by omega))]
     exact ⟨false,rfl,by simp[hi]⟩
   obtain ⟨b2,r2,s2⟩:=d2
   obtain ⟨b3,r3,s3⟩:=d3
   obtain ⟨b4,r4,s4⟩:=d4
   rw[r2,qaa]
   cases b2 with
   |true=>
    have hb:¬good i y:=fun hh=>by have:=s2.2 hh.1;cases this
    rw[if_pos rfl, @decide_eq_true _ (Classical.propDecidable _) hb,if_pos rfl]
   |false=>
    rw[if_neg (by simp),r3,qaa]
    cases b3 with
    |true=>
     have hb:¬good i y:=fun hh=>by have:=s3.2 hh.2.1;cases this
     rw[if_pos rfl, @decide_eq_true _ (Classical.propDecidable _) hb,if_pos rfl]
    |false=>
     rw[if_neg (by simp),r4,qaa]
     cases b4 with
     |true=>
      have hb:¬good i y:=fun hh=>by have:=s4.2 hh.2.2;cases this
      rw[if_pos rfl, @decide_eq_true _ (Classical.propDecidable _) hb,if_pos rfl]
     |false=>
      have hb:¬¬good i y:=fun hh=>hh ⟨s2.1 rfl,s3.1 rfl,s4.1 rfl⟩
      rw[if_neg (by simp), @decide_eq_false _ (Classical.propDecidable _) hb,if_neg (by simp),qaf,w64s (by omega)]) r.length N 0 (by omega) (by omega)
  simp only[Int.natCast_zero,List.drop_zero] at hloop
  rw[hloop,qaa]
  have hiff:RtP l r↔∀(j:Nat) (y:Visit),r[j]? =some y→good j y:=by
   constructor
   ·rintro ⟨_,hw,hd⟩ j y hj
    have hlt:=(List.getElem?_eq_some_iff.1 hj).1
    refine ⟨?_,fun hh=> ?_,fun h1 h2=>hw.mid j y h1 h2 hj⟩
    ·have hin:0≤y.element∧y.element<l.length:=by
      cases j with
      |zero=>
       obtain ⟨a,x,hx,_⟩:=(hw.st y hj).1
       have:=(List.getElem?_eq_some_iff.1 hx).1
       omega
      |succ j=>
       have:=qef (hw.ins (by omega) hj)
       exact ⟨this.1,this.2.1⟩
     refine ⟨hin.1,hin.2,fun hm=> ?_⟩
     unfold elems at hm hd
     obtain ⟨z,hz,hze⟩:=List.mem_map.1 hm
     obtain ⟨i,hi⟩:=List.getElem?_of_mem hz
     rw[List.getElem?_take] at hi
     split at hi
     ·rename_i hij
      obtain ⟨hil,hi⟩:=List.getElem?_eq_some_iff.1 hi
      obtain ⟨_,hj⟩:=List.getElem?_eq_some_iff.1 hj
      have:=List.pairwise_iff_getElem.1 hd i j (by simpa using hil) (by simpa using hlt) hij
      rw[List.getElem_map,List.getElem_map,hi,hj] at this
      exact this hze
     ·cases hi
    ·have hx:=qar hh
     have hgd:nx j=r[j+1]:=by show r.getD (j+1) (Visit.mk 0 0 0)=_;simp[List.getD,hx]
     rw[hgd]
     obtain ⟨a,b,c⟩:=hw.step j y _ hj hx
     exact ⟨hw.outs hh hj,a,c⟩
   ·intro hh
    refine ⟨h0,⟨by omega,fun x hx=> ?_,fun x hx=> ?_,fun i x y hx hy=> ?_,fun i x hi hi2 hx=>(hh i x hx).2.2 hi hi2⟩, ?_⟩
    ·have e:=st' hx
     have:=(hh 0 x hx).2.1 (by omega)
     rw[e] at this⊢
     exact ⟨q0.1,q0.2.2.1,this.1⟩
    ·rw[en' hx];exact ⟨q0.2.1,q0.2.2.2⟩
    ·have hlt:=(List.getElem?_eq_some_iff.1 hy).1
     have:=(hh i x hx).2.1 hlt
     have hgd:nx i=y:=by show r.getD (i+1) (Visit.mk 0 0 0)=_;simp[List.getD,hy]
     rw[hgd] at this
     exact ⟨this.2.1,(hh (i+1) y hy).1.1,this.2.2⟩
    ·unfold elems
     refine List.pairwise_iff_getElem.2 fun i j hi hj hij=> ?_
     rw[List.getElem_map,List.getElem_map]
     intro he
     have hjr:j<r.length:=by simpa using hj
     have hir:i<r.length:=by simpa using hi
     refine (hh j r[j] (qar hjr)).1.2.2 ?_
     rw[←he]
     unfold elems
     refine List.mem_map.2 ⟨r[i],List.mem_of_getElem? (i:=i) ?_,rfl⟩
     rw[List.getElem?_take,if_pos hij,qar hir]
  have hres:=qbP (p:=fun i y=> @decide (¬good i y) (Classical.propDecidable _)) (out:=fun _ _=>false) (l:=r) (i:=0)
  cases hr2:res (fun i y=> @decide (¬good i y) (Classical.propDecidable _)) (fun _ _=>false) 0 r with
  |inl u=>
   refine ⟨true,rfl, ?_⟩
   simp only[true_iff]
   refine hiff.2 fun j y hj=> ?_
   have:=(hres.1 hr2) j y hj
   rw[Nat.zero_add] at this
   exact Classical.not_not.1 (@of_decide_eq_false _ (Classical.propDecidable _) this)
  |inr b=>
   have hbf:b=false:=by
    have key:∀(e:List Visit) (i:Nat) (b:Bool),res (fun i y=> @decide (¬good i y) (Classical.propDecidable _)) (fun _ _=>false) i e= .inr b→b=false:=by
     intro e
     induction e with
     |nil=>intro i b h;cases h
     |cons y e ih=>
      intro i b h
      rw[res] at h
      split at h
      ·cases h;rfl
      ·exact ih _ _ h
    exact key _ _ _ hr2
   subst hbf
   refine ⟨false,rfl, ?_⟩
   simp only[Bool.false_eq_true,false_iff]
   intro hw
   have:=hres.2 fun j y hj=>by
    rw[Nat.zero_add]
    exact @decide_eq_false _ (Classical.propDecidable _) (fun hh=>hh (hiff.1 hw j y hj))
   rw[this] at hr2;cases hr2
open Go.AM
def qqA (v1 e1 n1 v2 e2 n2:Int):Prop:=v1<v2∨(v1=v2∧(e1<e2∨(e1=e2∧n1<n2)))
instance (v1 e1 n1 v2 e2 n2:Int):Decidable (qqA v1 e1 n1 v2 e2 n2):=by unfold qqA;infer_instance
def qCl (l:List PlantElement) (e n:Int):List Int:=if n<0 then eI l e else thr l e n
def Bst (l:List PlantElement) (g:Int→Int→Option Int) (e:Int) (o:List Int) (out:Int):Prop:=out∈o∧∃v,g (nbr l e out) out=some v∧∀m∈o,∀w,g (nbr l e m) m=some w→¬qqA w (nbr l e m) m v (nbr l e out) out
theorem Bst.uniq {l:List PlantElement} {g:Int→Int→Option Int} {e:Int} {o:List Int} {a b:Int} (h:Bst l g e o a) (k:Bst l g e o b):a=b:=by
 obtain ⟨h1,v,h2,h3⟩:=h
 obtain ⟨k1,w,k2,k3⟩:=k
 have p:=h3 b k1 w k2
 have q:=k3 a h1 v h2
 unfold qqA at p q
 omega
structure Pth (l:List PlantElement) (g:Int→Int→Option Int) (fr:Int) (r:List Visit):Prop where
 best:∀(i:Nat) v,i+1<r.length→r[i]? =some v→Bst l g v.element (qCl l v.element v.in_) v.out
 nz:∀(i:Nat) v,0<i→i+1<r.length→r[i]? =some v→g v.element v.in_≠some 0
 ne:1≤r.length
 st:∀v,r[0]? =some v→v.element=fr∧v.in_= -1
 step:∀(i:Nat) v w,r[i]? =some v→r[i+1]? =some w→w.in_=v.out∧0≤w.element∧w.element=nbr l v.element v.out∧v.out∈eI l v.element
 mid:∀(i:Nat) v,0<i→i+1<r.length→r[i]? =some v→v.out∈thr l v.element v.in_
theorem Pth.add {l:List PlantElement} {g:Int→Int→Option Int} {fr:Int} {r:List Visit} {v:Visit} {out:Int} (h:Pth l g fr r) (hv:r[r.length - 1]? =some v) (h0:0≤nbr l v.element out) (ho:out∈eI l v.element) (ht:1<r.length→out∈thr l v.element v.in_) (hb:Bst l g v.element (qCl l v.element v.in_) out) (hz:1<r.length→g v.element v.in_≠some 0):
  Pth l g fr (r.set (r.length - 1) (Visit.mk v.element v.in_ out)++[Visit.mk (nbr l v.element out) out (-1)]):=by
 have hne:=h.ne
 have hlen:(r.set (r.length - 1) (Visit.mk v.element v.in_ out)).length=r.length:=List.length_set
 have get:∀(i:Nat) x,(r.set (r.length - 1) (Visit.mk v.element v.in_ out)++[Visit.mk (nbr l v.element out) out (-1)])[i]? =some x→(i+1<r.length∧r[i]? =some x)∨(i+1=r.length∧x=Visit.mk v.element v.in_ out)∨(i=r.length∧x=Visit.mk (nbr l v.element out) out (-1)):=by
  intro i x hx
  by_cases hi:i<r.length
  ·rw[List.getElem?_append_left (by omega),List.getElem?_set] at hx
   by_cases he:r.length - 1=i
   ·rw[if_pos he,if_pos (by omega)] at hx
    exact .inr (.inl ⟨by omega,by cases hx;rfl⟩)
   ·rw[if_neg he] at hx
    exact .inl ⟨by omega,hx⟩
  ·rw[List.getElem?_append_right (by omega)] at hx
   have:=(List.getElem?_eq_some_iff.1 hx).1
   simp at this
   have hi2:i=r.length:=by omega
   subst hi2
   rw[hlen] at hx
   simp at hx
   exact .inr (.inr ⟨rfl,hx.symm⟩)
 refine ⟨fun i x hi2 hx=> ?_,fun i x hi hi2 hx=> ?_,by simp,fun x hx=> ?_,fun i x y hx hy=> ?_,fun i x hi hi2 hx=> ?_⟩
 ·simp only[List.length_append,List.length_set,List.length_cons,List.length_nil] at hi2
  rcases get i x hx with ⟨a,b⟩|⟨a,rfl⟩|⟨a,_⟩
  ·exact h.best i x a b
  ·exact hb
  ·omega
 ·simp only[List.length_append,List.length_set,List.length_cons,List.length_nil] at hi2
  rcases get i x hx with ⟨a,b⟩|⟨a,rfl⟩|⟨a,_⟩
  ·exact h.nz i x hi a b
  ·exact hz (by omega)
  ·omega
 ·rcases get 0 x hx with ⟨_,a⟩|⟨a,rfl⟩|⟨a,_⟩
  ·exact h.st x a
  ·have:r.length - 1=0:=by omega
   rw[this] at hv
   have:=h.st v hv
   exact this
  ·omega
 ·rcases get i x hx with ⟨a,b⟩|⟨a,rfl⟩|⟨a,_⟩
  ·rcases get (i+1) y hy with ⟨c,dd⟩|⟨c,rfl⟩|⟨c,_⟩
   ·exact h.step i x y b dd
   ·have hv':r[i+1]? =some v:=by rw[←hv];congr 1;omega
    exact h.step i x v b hv'
   ·omega
  ·rcases get (i+1) y hy with ⟨c,_⟩|⟨c,_⟩|⟨c,rfl⟩
   ·omega
   ·omega
   ·exact ⟨rfl,h0,rfl,ho⟩
  ·rcases get (i+1) y hy with ⟨c,_⟩|⟨c,_⟩|⟨c,_⟩<;>omega
 ·simp only[List.length_append,List.length_set,List.length_cons,List.length_nil] at hi2
  rcases get i x hx with ⟨a,b⟩|⟨a,rfl⟩|⟨a,_⟩
  ·exact h.mid i x hi (by omega) b
  ·exact ht (by omega)
  ·omega
theorem Pth.same {l:List PlantElement} {g:Int→Int→Option Int} {fr:Int} {r1 r2:List Visit} (h1:Pth l g fr r1) (h2:Pth l g fr r2) (two:2≤r2.length) (hz:∀z,r2[r2.length - 1]? =some z→g z.element z.in_=some 0):
  ∀i,i<r1.length→i<r2.length∧∀v1 v2,r1[i]? =some v1→r2[i]? =some v2→v1.element=v2.element∧v1.in_=v2.in_∧(i+1<r1.length→i+1<r2.length∧v1.out=v2.out):=by
 have nxt:∀(i:Nat) v1 v2,r1[i]? =some v1→r2[i]? =some v2→v1.element=v2.element→v1.in_=v2.in_→i+1<r1.length→i+1<r2.length∧v1.out=v2.out:=by
  intro i v1 v2 a b e1 e2 hi
  have hi2:=(List.getElem?_eq_some_iff.1 b).1
  have hlt:i+1<r2.length:=by
   by_cases hh:i+1=r2.length
   ·have e:i=r2.length - 1:=by omega
    have b':=b
    rw[e] at b'
    have:=hz v2 b'
    have hne:=h1.nz i v1 (by omega) hi a
    rw[e1,e2] at hne
    exact absurd this hne
   ·omega
  refine ⟨hlt, ?_⟩
  have p:=h1.best i v1 hi a
  have q:=h2.best i v2 hlt b
  rw[e1,e2] at p
  exact p.uniq q
 intro i
 induction i with
 |zero=>
  intro hi
  refine ⟨by omega,fun v1 v2 a b=> ?_⟩
  obtain ⟨p1,p2⟩:=h1.st v1 a
  obtain ⟨q1,q2⟩:=h2.st v2 b
  have e1:v1.element=v2.element:=by rw[p1,q1]
  have e2:v1.in_=v2.in_:=by rw[p2,q2]
  exact ⟨e1,e2,fun hh=>nxt 0 v1 v2 a b e1 e2 hh⟩
 |succ i ih=>
  intro hi
  obtain ⟨g1,g2⟩:=ih (by omega)
  have a:=qar (xs:=r1) (i:=i) (by omega)
  have b:=qar (xs:=r2) (i:=i) g1
  obtain ⟨e1,e2,e3⟩:=g2 _ _ a b
  obtain ⟨e4,e5⟩:=e3 hi
  refine ⟨e4,fun v1 v2 c dd=> ?_⟩
  obtain ⟨p1,p2,p3,p4⟩:=h1.step i _ v1 a c
  obtain ⟨q1,q2,q3,q4⟩:=h2.step i _ v2 b dd
  have f1:v1.element=v2.element:=by rw[p3,q3,e1,e5]
  have f2:v1.in_=v2.in_:=by rw[p1,q1,e5]
  exact ⟨f1,f2,fun hh=>nxt (i+1) v1 v2 c dd f1 f2 hh⟩
theorem Pth.once {l:List PlantElement} {g:Int→Int→Option Int} {fr:Int} {r1 r2:List Visit} (h1:Pth l g fr r1) (h2:Pth l g fr r2) (two:2≤r2.length) (hz:∀z,r2[r2.length - 1]? =some z→g z.element z.in_=some 0) (hd:(elems r2).Nodup):(elems r1).Nodup:=by
 have s1:=h1.same h2 two hz
 have:elems r1=(elems r2).take r1.length:=by
  refine List.ext_getElem? fun i=> ?_
  unfold elems
  rw[List.getElem?_take]
  by_cases hi:i<r1.length
  ·have a:=qar (xs:=r1) (i:=i) hi
   have b:=qar (xs:=r2) (i:=i) (s1 i hi).1
   rw[if_pos hi,List.getElem?_map,List.getElem?_map,a,b]
   simp only[Option.map_some]
   rw[((s1 i hi).2 _ _ a b).1]
  ·rw[if_neg hi,List.getElem?_map,List.getElem?_eq_none (by omega)]
   rfl
 rw[this]
 exact hd.sublist (List.take_sublist _ _)
open Go.AM
def trks (l:List PlantElement):Nat→List PlantElement→List Int
 |_,[]=>[]
 |i,x::xs=>if x.kind=1 then (i:Int)::trks l (i+1) xs else trks l (i+1) xs
theorem qlm (l:List PlantElement):∀(q:List PlantElement) (i:Nat),(trks l i q).length≤q.length
 |[],i=>by simp[trks]
 |x::q,i=>by
  rw[trks]
  have:=qlm l q (i+1)
  split<;>simp<;>omega
theorem qgn {l:List PlantElement} {a:Int}:∀{q:List PlantElement} {i:Nat},a∈trks l i q→∃(j:Nat) (x:PlantElement),a=((i+j:Nat):Int)∧q[j]? =some x∧x.kind=1
 |[],i,h=>by simp[trks] at h
 |x::q,i,h=>by
  rw[trks] at h
  split at h
  ·rename_i hk
   rcases List.mem_cons.1 h with rfl|h
   ·exact ⟨0,x,by simp,rfl,hk⟩
   ·obtain ⟨j,y,h1,h2,h3⟩:=qgn h
    exact ⟨j+1,y,by rw[h1];omega,by simpa using h2,h3⟩
  ·obtain ⟨j,y,h1,h2,h3⟩:=qgn h
   exact ⟨j+1,y,by rw[h1];omega,by simpa using h2,h3⟩
theorem qcK (N:Nat) {l:List PlantElement} (hl:l.length≤1000000):∀(k n i:Nat) (q:List Int),k<n→i+k=l.length→q.length≤i→qlY N l n q i=some (q++trks l i (l.drop i))
 |k,0,i,q,hn,_,_=>by omega
 |0,n+1,i,q,hn,hi,hq=>by
  obtain rfl:i=l.length:=by omega
  rw[qlY,if_neg (dneg (by omega)),List.drop_length,trks,List.append_nil]
 |k+1,n+1,i,q,hn,hi,hq=>by
  have hlt:i<l.length:=by omega
  have ha:=qar hlt
  rw[qlY,if_pos (dpos (by omega))]
  unfold qxX
  rw[qad ha,qaa,qbK ha,trks]
  by_cases hk:l[i].kind=1
  ·rw[if_pos (by simpa using hk),if_pos hk,qaY (by simp;omega),qaa,qaa,qaf,w64s (by omega),qcK N hl k n (i+1) _ (by omega) (by omega) (by simp;omega)]
   simp
  ·rw[if_neg (by simpa using hk),if_neg hk,qaa,qaf,w64s (by omega),qcK N hl k n (i+1) _ (by omega) (by omega) (by omega)]
theorem qn1 (N:Nat) {l:List PlantElement} (hl:l.length≤1000000) (hN:l.length<N):zaP N l=some (trks l 0 l):=by
 unfold zaP
 have h:=qcK N hl l.length N 0 [] hN (by omega) (by simp)
 simp only[Int.natCast_zero,List.drop_zero,List.nil_append] at h
 rw[h,qaa]
open Go.AM
theorem qml {x:PlantElement} (h:qae x≠[]):2≤(qae x).length:=by
 unfold qae at*
 split
 ·simp
 ·split
  ·simp
  ·rename_i h1 h2
   rw[if_neg h1,if_neg h2] at h;exact absurd rfl h
theorem qxM {l:List PlantElement} (hP:PlOk l) {i n:Int} (h:n∈eI l i):0<(thr l i n).length:=by
 obtain ⟨h0,h1,x,hx,hn⟩:=qef h
 obtain ⟨j,rfl⟩:=Int.eq_ofNat_of_zero_le h0
 rw[Int.toNat_natCast] at hx
 have h2:=qml (qaR (hP.snd x (List.mem_of_getElem? hx))).2.2.1
 unfold thr thrE
 rw[qdK hx,if_pos (by simpa using hn)]
 split
 ·rw[List.length_tail];omega
 ·rw[List.length_take];omega
structure WkI (l:List PlantElement) (w:List Visit) (v:Visit):Prop where
 ne:1≤w.length
 last:w[w.length - 1]? =some v
 st:∀v,w[0]? =some v→trk l v.element∧v.in_= -1∧v.out∈eI l v.element
 out:v.out∈eI l v.element
 step:∀(i:Nat) v w',w[i]? =some v→w[i+1]? =some w'→w'.in_=v.out∧0≤w'.element∧w'.element=nbr l v.element v.out
 mid:∀(i:Nat) v,0<i→w[i]? =some v→v.out∈thr l v.element v.in_
theorem qeV {α:Type} {w:List α} {y:α} {i:Nat} {x:α} (h:(w++[y])[i]? =some x):(i<w.length∧w[i]? =some x)∨(i=w.length∧x=y):=by
 by_cases hi:i<w.length
 ·rw[List.getElem?_append_left hi] at h;exact .inl ⟨hi,h⟩
 ·have:=(List.getElem?_eq_some_iff.1 h).1
  simp at this
  have:i=w.length:=by omega
  subst this
  simp at h
  exact .inr ⟨rfl,h.symm⟩
theorem WkI.step' {l:List PlantElement} {w:List Visit} {v y:Visit} (h:WkI l w v) (h1:y.in_=v.out) (h0:0≤nbr l v.element v.out) (h2:y.element=nbr l v.element v.out):∀(i:Nat) a b,(w++[y])[i]? =some a→(w++[y])[i+1]? =some b→b.in_=a.out∧0≤b.element∧b.element=nbr l a.element a.out:=by
 intro i a b ha hb
 rcases qeV hb with ⟨p,q⟩|⟨p,rfl⟩
 ·rcases qeV ha with ⟨r,s⟩|⟨r,_⟩
  ·exact h.step i a b s q
  ·omega
 ·rcases qeV ha with ⟨r,s⟩|⟨r,_⟩
  ·have:=h.last
   rw[show w.length - 1=i by omega,s] at this
   cases this
   exact ⟨h1,by rw[h2];exact h0,h2⟩
  ·omega
theorem WkI.st' {l:List PlantElement} {w:List Visit} {v y:Visit} (h:WkI l w v):∀a,(w++[y])[0]? =some a→trk l a.element∧a.in_= -1∧a.out∈eI l a.element:=by
 intro a ha
 rcases qeV ha with ⟨_,q⟩|⟨p,_⟩
 ·exact h.st a q
 ·have:=h.ne;omega
theorem WkI.add {l:List PlantElement} {w:List Visit} {v:Visit} {o:Int} (h:WkI l w v) (h0:0≤nbr l v.element v.out) (ho:o∈thr l (nbr l v.element v.out) v.out):WkI l (w++[Visit.mk (nbr l v.element v.out) v.out o]) (Visit.mk (nbr l v.element v.out) v.out o) where
 ne:=by simp
 last:=by simp
 st:=h.st'
 out:=(qnZ ho).2
 step:=h.step' rfl h0 rfl
 mid:=fun i a hi ha=>by
  rcases qeV ha with ⟨_,q⟩|⟨_,rfl⟩
  ·exact h.mid i a hi q
  ·exact ho
theorem WkI.fin {l:List PlantElement} {w:List Visit} {v:Visit} (h:WkI l w v) (h0:0≤nbr l v.element v.out) (ht:trk l (nbr l v.element v.out)):WayP l (w++[Visit.mk (nbr l v.element v.out) v.out (-1)]) where
 two:=by have:=h.ne;simp;omega
 st:=h.st'
 en:=fun a ha=>by simp at ha;subst ha;exact ⟨ht,rfl⟩
 step:=h.step' rfl h0 rfl
 mid:=fun i a hi hi2 ha=>by
  rcases qeV ha with ⟨_,q⟩|⟨p,_⟩
  ·exact h.mid i a hi q
  ·simp at hi2;omega
theorem qCD {l:List PlantElement} {i n:Int} (h:0≤nbr l i n):nbr l i n<l.length:=by
 rcases qiQ l i n with ⟨a,_⟩|⟨j,x,a,b,_⟩
 ·omega
 ·have:=(List.getElem?_eq_some_iff.1 b).1
  omega
theorem qEe (N:Nat) (hN:4000≤N) {l:List PlantElement} (hP:PlOk l) {c:Int} {s:Maker} (hs:Mk c s) (hc:c≤1000000) {e n:Int} (h0:0≤e) (h1:e<l.length) {o:List Int} (ho:0<o.length):∃b s',qst N s l e o=some (s',b)∧Mk (c+1) s'∧(b=true→trk l e):=by
 have hll:=hP.len
 obtain ⟨j,rfl⟩:=Int.eq_ofNat_of_zero_le h0
 have hj:=qar (xs:=l) (i:=j) (by omega)
 have g0:getI o 0=some o[0]:=qad (qar (xs:=o) (i:=0) ho)
 unfold qst
 rw[qad hj,qaa]
 by_cases hk:l[j].kind=1
 ·have ht:trk l (j:Int):=⟨by omega,_,hj,hk⟩
  rw[if_pos (by simpa using hk)]
  obtain ⟨r,s',p1,p2,p3,p4⟩:=qba N (s:=s) (c:=c) 2 (by omega) (by omega) hs (by omega)
  rw[p1,qaa]
  by_cases hr:r=0
  ·rw[if_pos (by simpa using hr)];exact ⟨_,_,rfl,p4,fun _=>ht⟩
  ·rw[if_neg (by simpa using hr),g0,qaa,qaa,qh8 N (by omega) (by omega),qaa]
   exact ⟨_,_,rfl,p4,fun _=>ht⟩
 ·rw[if_neg (by simpa using hk)]
  exact ⟨_,_,rfl,hs.le (by omega),fun h=>by cases h⟩
theorem qhk (N:Nat) (hN:4000≤N) {l:List PlantElement} (hP:PlOk l):∀(k n i:Nat) (c:Int) (s:Maker) (v:Visit) (w:List Visit),k<n→i+k=12→Mk c s→c+2*k≤1000000→WkI l w v→w.length=i+1→
  ∃s' w',(qgs N l n s v w i=some (.inl (s',w'))∨qgs N l n s v w i=some (.inr (s',w')))∧Mk (c+2*k) s'∧1≤w'.length∧w'.length≤13∧(WayP l w'∨∀v,w'[w'.length - 1]? =some v→v.out≠ -1)
 |k,0,i,c,s,v,w,hn,_,_,_,_,_=>by omega
 |k,n+1,i,c,s,v,w,hn,hi,hs,hc,hI,hl=>by
  have hll:=hP.len
  have stop:∀v',w[w.length - 1]? =some v'→v'.out≠ -1:=fun v' hv'=>by
   rw[hI.last] at hv';cases hv'
   obtain ⟨_,_,x,hx,hn⟩:=qef hI.out
   have:=(qaR (hP.snd x (List.mem_of_getElem? hx))).2.1 _ hn
   omega
  cases k with
  |zero=>
   rw[qgs,if_neg (dneg (by omega))]
   exact ⟨s,w, .inl rfl,hs.le (by omega),by omega,by omega, .inr stop⟩
  |succ k=>
   rw[qgs,if_pos (dpos (by omega)),qh8 N (by omega) (by omega),qaa]
   by_cases h0:nbr l v.element v.out<0
   ·rw[if_pos (dpos h0)]
    exact ⟨s,w, .inl rfl,hs.le (by omega),by omega,by omega, .inr stop⟩
   ·rw[if_neg (dneg h0),qnL N (by omega),qaa]
    have h0':0≤nbr l v.element v.out:=by omega
    have hpos:=qxM hP (qhT h0').1
    have h3:=qeG l (nbr l v.element v.out) v.out
    obtain ⟨b,s1,q1,q2,q3⟩:=qEe N hN hP hs (by omega) h0' (qCD h0') (n:=v.out) hpos
    rw[q1,qaa]
    simp only[]
    cases b with
    |true=>
     rw[if_pos rfl,qaY (by simp;omega),qaa]
     exact ⟨_,_, .inr rfl,q2.le (by omega),by simp,by simp;omega, .inl (hI.fin h0' (q3 rfl))⟩
    |false=>
     rw[if_neg (by simp)]
     obtain ⟨r,s2,p1,p2,p3,p4⟩:=qba N (s:=s1) (c:=c+1) ((thr l (nbr l v.element v.out) v.out).length:Int) (by omega) (by omega) q2 (by omega)
     obtain ⟨r,rfl⟩:=Int.eq_ofNat_of_zero_le p2
     have hr:=qar (xs:=thr l (nbr l v.element v.out) v.out) (i:=r) (by omega)
     rw[p1,qaa]
     simp only[]
     rw[qad hr,qaa,qaa,qaY (by simp;omega),qaa,qaf,w64s (by omega)]
     have hI':=hI.add h0' (List.mem_of_getElem? hr)
     obtain ⟨s',w',g1,g2,g3,g4,g5⟩:=qhk N hN hP k n (i+1) (c+1+1) s2 _ _ (by omega) (by omega) p4 (by omega) hI' (by simp;omega)
     exact ⟨s',w',g1,g2.le (by omega),g3,g4,g5⟩
theorem qxQ (N:Nat) (hN:4000≤N) {l:List PlantElement} (hP:MadeP l) {c:Int} {s:Maker} (hs:Mk c s) (hc:c≤900000):
  ∃w s',zbE N s l=some (w,s')∧Mk (c+30) s'∧1≤w.length∧w.length≤13∧(WayP l w∨∀v,w[w.length - 1]? =some v→v.out≠ -1):=by
 have hll:=hP.ok.len
 unfold zbE
 rw[qn1 N (by omega) (by omega),qaa]
 have hlen:=qlm l l 0
 have hpos:0<(trks l 0 l).length:=by
  obtain ⟨x,hx,hk⟩:=hP.fst
  cases l with
  |nil=>simp at hx
  |cons y l=>
   simp at hx;subst hx
   rw[trks,if_pos hk];simp
 have htrk:∀a∈trks l 0 l,trk l a:=by
  intro a ha
  obtain ⟨j,x,h1,h2,h3⟩:=qgn ha
  rw[Nat.zero_add] at h1
  subst h1
  exact ⟨by omega,x,by simpa using h2,h3⟩
 obtain ⟨r,s1,p1,p2,p3,p4⟩:=qba N (s:=s) (c:=c) ((trks l 0 l).length:Int) (by omega) (by omega) hs (by omega)
 obtain ⟨r,rfl⟩:=Int.eq_ofNat_of_zero_le p2
 have hr:=qar (xs:=trks l 0 l) (i:=r) (by omega)
 have ht:=htrk _ (List.mem_of_getElem? hr)
 rw[p1,qaa]
 simp only[]
 rw[qad hr,qaa,qaa,qcs,qaa]
 generalize (trks l 0 l)[r]'(by omega)=e at*
 have hpos2:0<(eI l e).length:=by
  obtain ⟨a,x,b,cc⟩:=ht
  unfold eI
  rw[if_pos a,b]
  simp[qae,cc]
 have h3:=qdJ l e
 obtain ⟨q,s2,q1,q2,q3,q4⟩:=qba N (s:=s1) (c:=c+1) ((eI l e).length:Int) (by omega) (by omega) p4 (by omega)
 obtain ⟨q,rfl⟩:=Int.eq_ofNat_of_zero_le q2
 have hq:=qar (xs:=eI l e) (i:=q) (by omega)
 rw[q1,qaa]
 simp only[]
 rw[qad hq,qaa,qaa]
 have hmem:=List.mem_of_getElem? hq
 generalize (eI l e)[q]'(by omega)=o at*
 have hI:WkI l [Visit.mk e (-1) o] (Visit.mk e (-1) o):=⟨by simp,by simp,fun v hv=>by simp at hv;subst hv;exact ⟨ht,rfl,hmem⟩,hmem,fun i v w hv hw=>by simp at hw,fun i v hi hv=>by
  have:=(List.getElem?_eq_some_iff.1 hv).1
  simp at this;omega⟩
 obtain ⟨s',w',g1,g2,g3,g4,g5⟩:=qhk N hN hP.ok 12 N 0 (c+1+1) s2 _ _ (by omega) (by omega) q4 (by omega) hI rfl
 refine ⟨w',s', ?_,g2.le (by omega),g3,g4,g5⟩
 rcases g1 with g1|g1
 ·have g1:qgs N l N s2 (Visit.mk e (-1) o) [Visit.mk e (-1) o] 0=some (.inl (s',w')):=g1
  rw[g1];rfl
 ·have g1:qgs N l N s2 (Visit.mk e (-1) o) [Visit.mk e (-1) o] 0=some (.inr (s',w')):=g1
  rw[g1];rfl
theorem qxP (N:Nat) (hN:4000≤N) {l:List PlantElement} (hP:PlOk l) {w:List Visit} (hw:w.length≤3000):∃b,zbN N l w=some b∧zcD N l w=some b∧(b=true↔RtP l w):=by
 have hll:=hP.len
 obtain ⟨b1,p1,p2⟩:=qnn N (l:=l) (r:=w) (by omega) (by omega) (by omega)
 obtain ⟨b2,r1,r2⟩:=qxB N (l:=l) (r:=w) (by omega) (by omega) (by omega) fun _ x hx=>by
  have h1:=(qaR (hP.snd x hx)).2.2.2
  unfold pnOk at h1
  simp only[Bool.and_eq_true,decide_eq_true_eq] at h1
  omega
 have:b1=b2:=Bool.eq_iff_iff.2 (p2.trans r2.symm)
 exact ⟨b1,p1,by rw[this];exact r1,p2⟩
open Go.AM
def setE (x:PlantElement) (v:Visit):List Setting:=
 if x.kind=3 then [Setting.mk v.element 3] else if x.kind=2 then (if v.in_=x.b∨v.out=x.b then [Setting.mk v.element 1] else [Setting.mk v.element 2]) else []
def setV (l:List PlantElement) (v:Visit):List Setting:=match l[v.element.toNat]? with|some x=>setE x v|none=>[]
def qCy (l:List PlantElement) (r:List Visit):List Setting:=r.flatMap (setV l)
theorem WayP.ok {l:List PlantElement} {r:List Visit} (h:WayP l r):∀v∈r,0≤v.element∧v.element<l.length:=by
 intro v hv
 obtain ⟨i,hi⟩:=List.getElem?_of_mem hv
 have hlt:=(List.getElem?_eq_some_iff.1 hi).1
 have two:=h.two
 by_cases h0:i+1<r.length
 ·have:=qef (h.outs h0 hi);exact ⟨this.1,this.2.1⟩
 ·have:=qef (h.ins (by omega) hi);exact ⟨this.1,this.2.1⟩
instance instSet:Inhabited Setting:=⟨Setting.mk 0 0⟩
noncomputable def qfl (q:List Setting):List Setting:= @srtL Setting instSet (fun (a b:Setting)=>cmpI a.element b.element) q
theorem qlV {q:List Setting} {x:Setting}:x∈qfl q↔x∈q:=(@qcl Setting instSet (fun (a b:Setting)=>cmpI a.element b.element) (qbS Setting.element) q).mem_iff
theorem qnS {q:List Setting} (h:(q.map Setting.element).Nodup):(qfl q).Pairwise fun a b=>a.element<b.element:=by
 have h1:(qfl q).Pairwise fun a b=>a.element≤b.element:= @qcJ Setting instSet Setting.element q
 have hp:(qfl q).Perm q:= @qcl Setting instSet (fun (a b:Setting)=>cmpI a.element b.element) (qbS Setting.element) q
 have h2:((qfl q).map Setting.element).Nodup:=(hp.map Setting.element).nodup_iff.2 h
 rw[List.nodup_iff_pairwise_ne,List.pairwise_map] at h2
 exact (h1.and h2).imp fun ⟨a,b⟩=>by omega
theorem qfh:∀{a b:List Setting},a.Pairwise (fun x y=>x.element<y.element)→b.Pairwise (fun x y=>x.element<y.element)→(∀x,x∈a↔x∈b)→a=b
 |[],[],_,_,_=>rfl
 |[],y::b,_,_,h=>by have:=(h y).2 List.mem_cons_self;cases this
 |x::a,[],_,_,h=>by have:=(h x).1 List.mem_cons_self;cases this
 |x::a,y::b,h1,h2,h=>by
  rw[List.pairwise_cons] at h1 h2
  have hxy:x=y:=by
   rcases List.mem_cons.1 ((h x).1 List.mem_cons_self) with e|e
   ·exact e
   ·rcases List.mem_cons.1 ((h y).2 List.mem_cons_self) with f|f
    ·exact f.symm
    ·have:=h2.1 _ e;have:=h1.1 _ f;omega
  subst hxy
  congr 1
  refine qfh h1.2 h2.2 fun z=>⟨fun hz=> ?_,fun hz=> ?_⟩
  ·rcases List.mem_cons.1 ((h z).1 (List.mem_cons_of_mem _ hz)) with e|e
   ·have:=h1.1 _ hz;rw[e] at this;omega
   ·exact e
  ·rcases List.mem_cons.1 ((h z).2 (List.mem_cons_of_mem _ hz)) with e|e
   ·have:=h2.1 _ hz;rw[e] at this;omega
   ·exact e
open Go.AM
theorem WayP.inner {l:List PlantElement} {r:List Visit} (h:WayP l r) {i:Nat} {v:Visit} {x:PlantElement} (hv:r[i]? =some v) (hx:l[v.element.toNat]? =some x) (hk:x.kind≠1):v.out∈thrE (qae x) v.in_:=by
 have hlt:=(List.getElem?_eq_some_iff.1 hv).1
 have two:=h.two
 by_cases h0:i=0
 ·subst h0
  obtain ⟨_,y,hy,hk'⟩:=(h.st v hv).1
  rw[hx] at hy;cases hy;exact absurd hk' hk
 ·by_cases h1:i+1<r.length
  ·have hm:=h.mid i v (by omega) h1 hv
   unfold thr at hm
   have he:=(h.ok v (List.mem_of_getElem? hv)).1
   obtain ⟨j,hj⟩:=Int.eq_ofNat_of_zero_le he
   rw[hj] at hx hm
   rw[Int.toNat_natCast] at hx
   rw[qdK hx] at hm
   exact hm
  ·have e:i=r.length - 1:=by omega
   rw[e] at hv
   obtain ⟨_,y,hy,hk'⟩:=(h.en v hv).1
   rw[hx] at hy;cases hy;exact absurd hk' hk
open Go.AM
end Go.W
end
section
set_option linter.unusedVariables false
set_option linter.unusedSimpArgs false
set_option linter.unusedSectionVars false
namespace Go.W
open Go.AM
section
variable {V K:Type} [DecidableEq K]
def lpF (f:V→List (K×Bool)→Option (Bool×List (K×Bool))):List V→List (K×Bool)→Option (Bool×List (K×Bool))
 |[],s=>some (false,s)
 |u::us,s=>Option.bind (f u s) fun r=>if r.1=true then some (true,r.2) else lpF f us r.2
structure Sr (V K:Type) where
 dead:V→Bool
 fin:V→Bool
 hit:V→Bool
 suc:V→List V
 key:V→K
variable (S:Sr V K)
inductive Rch:V→Prop
 |here {v:V}:S.dead v=false→S.fin v=true→S.hit v=true→Rch v
 |step {v u:V}:S.dead v=false→S.fin v=false→u∈S.suc v→Rch u→Rch v
def Sn (s:List (K×Bool)) (v:V):Prop:=(qai s (S.key v)).getD false=true
instance (s:List (K×Bool)) (v:V):Decidable (Sn S s v):=by unfold Sn;infer_instance
def Cl1 (s:List (K×Bool)) (v:V):Prop:=S.dead v=false∧(S.fin v=true→S.hit v=false)∧(S.fin v=false→∀u∈S.suc v,S.dead u=true∨Sn S s u)
variable {S}
theorem Cl1.mono {s s':List (K×Bool)} {v:V} (h:Cl1 S s v) (hs:∀u,Sn S s u→Sn S s' u):Cl1 S s' v:=⟨h.1,h.2.1,fun hf u hu=>(h.2.2 hf u hu).imp id (hs u)⟩
theorem qhd {s:List (K×Bool)} {v u:V}:Sn S (qaJ s (S.key v) true) u↔(S.key v=S.key u∨Sn S s u):=by
 unfold Sn
 rw[qbC]
 by_cases h:S.key v=S.key u
 ·simp[h]
 ·simp[h]
theorem qei {α:Type} {p q:α→Bool} (h:∀y,q y=true→p y=true):∀{l:List α},(l.filter q).length≤(l.filter p).length
 |[]=>by simp
 |y::l=>by
  have ih:=qei h (l:=l)
  rw[List.filter_cons,List.filter_cons]
  cases hy:q y with
  |true=>rw[h y hy];simpa using ih
  |false=>
   cases hy2:p y with
   |true=>simp;omega
   |false=>simpa using ih
def lftN (S:Sr V K) (U:List V) (s:List (K×Bool)):Nat:=(U.filter fun u=> !decide (Sn S s u)).length
theorem qqB {U:List V} {s s':List (K×Bool)} (hs:∀u,Sn S s u→Sn S s' u):lftN S U s'≤lftN S U s:=by
 unfold lftN
 refine qei fun u hu=> ?_
 simp only[Bool.not_eq_true',decide_eq_false_iff_not] at hu⊢
 exact fun h=>hu (hs u h)
theorem filter_lt {α:Type} {p q:α→Bool}:∀{l:List α} {x:α},x∈l→(∀y,q y=true→p y=true)→p x=true→q x=false→(l.filter q).length<(l.filter p).length
 |[],_,h,_,_,_=>by cases h
 |y::l,x,h,hpq,hp,hq=>by
  have hle:(l.filter q).length≤(l.filter p).length:=qei hpq
  rcases List.mem_cons.1 h with rfl|h
  ·rw[List.filter_cons,List.filter_cons,hp,hq]
   simp only[if_true,List.length_cons]
   exact Nat.lt_succ_of_le hle
  ·have ih:=filter_lt h hpq hp hq
   rw[List.filter_cons,List.filter_cons]
   cases hy:q y with
   |true=>rw[hpq y hy];simpa using ih
   |false=>
    cases hy2:p y with
    |true=>simp;omega
    |false=>simpa using ih
theorem qw9 {U:List V} {s:List (K×Bool)} {v:V} (hv:v∈U) (hn:¬Sn S s v):lftN S U (qaJ s (S.key v) true)<lftN S U s:=by
 unfold lftN
 refine filter_lt hv (fun u hu=> ?_) (by simpa using hn) ?_
 ·simp only[Bool.not_eq_true',decide_eq_false_iff_not] at hu⊢
  exact fun h=>hu (qhd.2 (.inr h))
 ·simp only[Bool.not_eq_false',decide_eq_true_eq]
  exact qhd.2 (.inl rfl)
structure Out (S:Sr V K) (U:List V) (s:List (K×Bool)) (b:Bool) (s':List (K×Bool)) (P:Prop) (T:Prop):Prop where
 sub:∀u,Sn S s u→Sn S s' u
 yes:b=true→T
 no:b=false→P∧∀u∈U,Sn S s' u→¬Sn S s u→Cl1 S s' u
theorem dfs {U:List V} (hU:∀v∈U,∀u∈S.suc v,u∈U) (hk:∀v∈U,∀u∈U,S.dead v=false→S.dead u=false→S.key v=S.key u→v=u) (hdk:∀v∈U,∀u∈U,S.key v=S.key u→S.dead v=S.dead u)
  (F:Nat→V→List (K×Bool)→Option (Bool×List (K×Bool)))
  (hF:∀rc v s,v∈U→F (rc+1) v s=if S.dead v=true∨Sn S s v then some (false,s) else if S.fin v=true then some (S.hit v,qaJ s (S.key v) true) else lpF (F rc) (S.suc v) (qaJ s (S.key v) true)):
  ∀(rc:Nat) (v:V) (s:List (K×Bool)),v∈U→lftN S U s<rc→∃b s',F rc v s=some (b,s')∧Out S U s b s' (S.dead v=true∨Sn S s' v) (Rch S v)
 |0,_,_,_,h=>by omega
 |rc+1,v,s,hv,h=>by
  rw[hF rc v s hv]
  by_cases h1:S.dead v=true∨Sn S s v
  ·rw[if_pos h1]
   exact ⟨false,s,rfl,fun _ h=>h,(by simp),fun _=>⟨h1,fun u _ h2 h3=>absurd h2 h3⟩⟩
  ·rw[if_neg h1]
   have hd:S.dead v=false:=by simpa using fun hh=>h1 (.inl hh)
   have hn:¬Sn S s v:=fun hh=>h1 (.inr hh)
   obtain ⟨s0,hs0⟩:∃s0,s0=qaJ s (S.key v) true:=⟨_,rfl⟩
   rw[←hs0]
   have hsub0:∀u,Sn S s u→Sn S s0 u:=fun u hu=>by rw[hs0];exact qhd.2 (.inr hu)
   have hv0:Sn S s0 v:=by rw[hs0];exact qhd.2 (.inl rfl)
   have hnew:∀u∈U,Sn S s0 u→¬Sn S s u→u=v:=fun u hu h2 h3=>by
    rw[hs0] at h2
    rcases qhd.1 h2 with h4|h4
    ·have hdu:S.dead u=false:=by rw[←hdk v hv u hu h4];exact hd
     exact (hk v hv u hu hd hdu h4).symm
    ·exact absurd h4 h3
   by_cases h2:S.fin v=true
   ·rw[if_pos h2]
    refine ⟨_,_,rfl,hsub0,fun hh=> .here hd h2 hh,fun hh=>⟨.inr hv0,fun u hu g1 g2=> ?_⟩⟩
    rw[hnew u hu g1 g2]
    exact ⟨hd,fun _=>hh,(fun h3=>by rw[h2] at h3;cases h3)⟩
   ·rw[if_neg h2]
    have hf:S.fin v=false:=by simpa using h2
    have hlt:lftN S U s0<rc:=by
     have:=qw9 hv hn
     rw[←hs0] at this
     omega
    have loop:∀(q:List V) (t:List (K×Bool)),(∀u∈q,u∈U)→(∀u,Sn S s0 u→Sn S t u)→
      ∃b s',lpF (F rc) q t=some (b,s')∧Out S U t b s' (∀u∈q,S.dead u=true∨Sn S s' u) (∃u∈q,Rch S u):=by
     intro q
     induction q with
     |nil=>intro t _ _;exact ⟨false,t,rfl,fun _ h=>h,(by simp),fun _=>⟨by simp,fun u _ h2 h3=>absurd h2 h3⟩⟩
     |cons u q ih=>
      intro t hq ht
      have hlt':lftN S U t<rc:=Nat.lt_of_le_of_lt (qqB ht) hlt
      obtain ⟨b,s1,g1,g2⟩:=dfs hU hk hdk F hF rc u t (hq u List.mem_cons_self) hlt'
      rw[lpF,g1,qaa]
      cases b with
      |true=>exact ⟨true,s1,rfl,g2.sub,fun _=>⟨u,List.mem_cons_self,g2.yes rfl⟩,by simp⟩
      |false=>
       rw[if_neg (by simp)]
       obtain ⟨b,s2,g3,g4⟩:=ih s1 (fun x hx=>hq x (List.mem_cons_of_mem _ hx)) (fun x hx=>g2.sub x (ht x hx))
       refine ⟨b,s2,g3,fun x hx=>g4.sub x (g2.sub x hx),fun hb=> ?_,fun hb=> ?_⟩
       ·obtain ⟨x,hx,hr⟩:=g4.yes hb
        exact ⟨x,List.mem_cons_of_mem _ hx,hr⟩
       ·obtain ⟨k1,k2⟩:=g2.no rfl
        obtain ⟨k3,k4⟩:=g4.no hb
        refine ⟨fun x hx=> ?_,fun x hx a1 a2=> ?_⟩
        ·rcases List.mem_cons.1 hx with rfl|hx
         ·exact k1.imp id (g4.sub x)
         ·exact k3 x hx
        ·by_cases a3:Sn S s1 x
         ·exact (k2 x hx a3 a2).mono g4.sub
         ·exact k4 x hx a1 a3
    obtain ⟨b,s',g1,g2⟩:=loop (S.suc v) s0 (hU v hv) (fun _ h=>h)
    refine ⟨b,s',g1,fun u hu=>g2.sub u (hsub0 u hu),fun hb=> ?_,fun hb=> ?_⟩
    ·obtain ⟨u,hu,hr⟩:=g2.yes hb
     exact .step hd hf hu hr
    ·obtain ⟨k1,k2⟩:=g2.no hb
     refine ⟨.inr (g2.sub v hv0),fun u hu a1 a2=> ?_⟩
     by_cases a3:Sn S s0 u
     ·rw[hnew u hu a3 a2]
      exact ⟨hd,(fun h3=>by rw[hf] at h3;cases h3),fun _=>k1⟩
     ·exact k2 u hu a1 a3
theorem qvm {U:List V} (hU:∀v∈U,∀u∈S.suc v,u∈U) {s:List (K×Bool)} (hc:∀u∈U,Sn S s u→Cl1 S s u) {v:V} (hr:Rch S v):v∈U→Sn S s v→False:=by
 induction hr with
 |here hd hf hh=>
  intro hv hs
  have:=(hc _ hv hs).2.1 hf
  rw[hh] at this;cases this
 |step hd hf hu hr ih=>
  intro hv hs
  rcases (hc _ hv hs).2.2 hf _ hu with h1|h1
  ·cases hr with
   |here hd'=>rw[hd'] at h1;cases h1
   |step hd'=>rw[hd'] at h1;cases h1
  ·exact ih (hU _ hv _ hu) h1
theorem Rch.live {v:V} (h:Rch S v):S.dead v=false:=by cases h<;>assumption
end
end Go.W
end
