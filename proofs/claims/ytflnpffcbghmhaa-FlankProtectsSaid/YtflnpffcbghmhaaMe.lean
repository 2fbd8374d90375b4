/- W1 WLib LBas LPl1 LPl2 LPl3 LPl4 LPlM LFr -/
import Derived.Test.YtflnpffcbghmhaaProg
import Derived.IntWalk
import Derived.Test.YtflnpffcbghmhaaMd
section
set_option linter.unusedVariables false
set_option linter.unusedSimpArgs false
set_option maxRecDepth 100000
set_option maxHeartbeats 1000000
namespace Go.W
noncomputable section
open Go.AM Go.Proofs
def Ty3:Ty Int:=TyOf 3 [.int .i64] fun x=>(x,())
def Ty4:Ty Bool:=TyOf 4 [.bool] fun x=>(x,())
def Ty5:Ty UInt8:=TU8 5
def Ty9:Ty (List UInt8):=TyOf 9 [.str] fun x=>(x,())
def Ty22:Ty (List Int):=TyOf 22 [.sl Int Ty3] fun x=>(x,())
def Ty53:Ty PlantElement:=TyOf 53 [.int .i64, .str, .int .i64, .int .i64, .int .i64, .int .i64] fun x=>(x.kind,x.name,x.a,x.b,x.c,x.length,())
def Ty23:Ty (List PlantElement):=TyOf 23 [.sl PlantElement Ty53] fun x=>(x,())
def Ty33:Ty Setting:=TyOf 33 [.int .i64, .int .i64] fun x=>(x.element,x.position,())
def Ty48:Ty Maker:=TyOf 48 [.sl Int Ty3, .int .i64] fun x=>(x.l,x.n,())
def Ty60:Ty (List (Int×Int)):=TyOf 60 [.mp Int Int ⟨kInt .i64,kInt .i64,60⟩] fun x=>(x,())
def Ty67:Ty (List (Int×Bool)):=TyOf 67 [.mp Int Bool ⟨kInt .i64,qim,67⟩] fun x=>(x,())
def Ty70:Ty Visit:=TyOf 70 [.int .i64, .int .i64, .int .i64] fun x=>(x.element,x.in_,x.out,())
def Ty71:Ty (List (Spot×Bool)):=TyOf 71 [.mp Spot Bool ⟨fun x=>[.int .i64 x.element, .int .i64 x.node],qim,71⟩] fun x=>(x,())
def Ty72:Ty (Option Nat):=TyOf 72 [.fn] fun x=>(x,())
def Ty74:Ty Spot:=TyOf 74 [.int .i64, .int .i64] fun x=>(x.element,x.node,())
def Ty88:Ty (Option Nat):=TyOf 88 [.fn] fun x=>(x,())
def Ty91:Ty (List (Step×Int)):=TyOf 91 [.mp Step Int ⟨fun x=>[.int .i64 x.element, .int .i64 x.in_],kInt .i64,91⟩] fun x=>(x,())
def Ty97:Ty Step:=TyOf 97 [.int .i64, .int .i64] fun x=>(x.element,x.in_,())
def Ty98:Ty (Option Nat):=TyOf 98 [.fn] fun x=>(x,())
def qDS:Ty (List ((List UInt8)×Bool)):=TyOf 122 [.mp (List UInt8) Bool ⟨kStr,qim,122⟩] fun x=>(x,())
structure TE where
 α:Type
 T:Ty α
 kc:α→List Value
def tabL:Nat→TE
 |3=>⟨Int,Ty3,kInt .i64⟩
 |4=>⟨Bool,Ty4,qim⟩
 |5=>⟨UInt8,Ty5,fun _=>[]⟩
 |9=>⟨(List UInt8),Ty9,kStr⟩
 |22=>⟨(List Int),Ty22,fun _=>[]⟩
 |53=>⟨PlantElement,Ty53,fun _=>[]⟩
 |23=>⟨(List PlantElement),Ty23,fun _=>[]⟩
 |33=>⟨Setting,Ty33,fun _=>[]⟩
 |48=>⟨Maker,Ty48,fun _=>[]⟩
 |60=>⟨(List (Int×Int)),Ty60,fun _=>[]⟩
 |67=>⟨(List (Int×Bool)),Ty67,fun _=>[]⟩
 |70=>⟨Visit,Ty70,fun _=>[]⟩
 |71=>⟨(List (Spot×Bool)),Ty71,fun _=>[]⟩
 |72=>⟨(Option Nat),Ty72,fun _=>[]⟩
 |74=>⟨Spot,Ty74,fun x=>[.int .i64 x.element, .int .i64 x.node]⟩
 |88=>⟨(Option Nat),Ty88,fun _=>[]⟩
 |91=>⟨(List (Step×Int)),Ty91,fun _=>[]⟩
 |97=>⟨Step,Ty97,fun x=>[.int .i64 x.element, .int .i64 x.in_]⟩
 |98=>⟨(Option Nat),Ty98,fun _=>[]⟩
 |122=>⟨(List ((List UInt8)×Bool)),qDS,fun _=>[]⟩
 |_=>⟨Bool,qmD 4,qim⟩
def D (t:Nat):Type:=(tabL t).α
def G:Tab D:=⟨fun t=>(tabL t).T,fun t=>(tabL t).kc⟩
def ti3:TI Try.prog G 3:=tiOf [.int .i64] (fun (x:Int)=>(x,())) (fun y=>(y.1:Int)) (fun _=>rfl) (fun _=>rfl) (0:Int) Try.t3 (.int .i64 0) rfl Try.type3 rfl rfl rfl rfl rfl rfl (fun z=>⟨rfl,trivial⟩) rfl
def ti4:TI Try.prog G 4:=tiOf [.bool] (fun (x:Bool)=>(x,())) (fun y=>(y.1:Bool)) (fun _=>rfl) (fun _=>rfl) (false:Bool) Try.t4 (.bool false) rfl Try.type4 rfl rfl rfl rfl rfl rfl (fun z=>⟨rfl,trivial⟩) rfl
def ti5:TI Try.prog G 5:=tiU8 (fun (x:UInt8)=>x) (fun x=>x) (fun x=>x) (fun o=>by cases o<;>rfl) (fun _=>rfl) (fun _=>rfl) Try.t5 rfl rfl (fun _ _ _=>Iff.rfl) Try.type5 rfl rfl rfl
def ti9:TI Try.prog G 9:=tiOf [.str] (fun (x:(List UInt8))=>(x,())) (fun y=>(y.1:(List UInt8))) (fun _=>rfl) (fun _=>rfl) ([]:(List UInt8)) Try.t9 (.string ⟨#[]⟩) rfl Try.type9 rfl rfl rfl rfl rfl rfl (fun z=>⟨rfl,trivial⟩) rfl
def ti22:TI Try.prog G 22:=tiOf [.sl 3] (fun (x:(List Int))=>(x,())) (fun y=>(y.1:(List Int))) (fun _=>rfl) (fun _=>rfl) ([]:(List Int)) Try.t22 (.slice none 0 0) rfl Try.type22 rfl rfl rfl rfl rfl rfl (fun z=>⟨.inl ⟨rfl,rfl⟩,trivial⟩) rfl
def ti53:TI Try.prog G 53:=tiOf [.int .i64, .str, .int .i64, .int .i64, .int .i64, .int .i64] (fun (x:PlantElement)=>(x.kind,x.name,x.a,x.b,x.c,x.length,())) (fun y=>((PlantElement.mk y.1 y.2.1 y.2.2.1 y.2.2.2.1 y.2.2.2.2.1 y.2.2.2.2.2.1):PlantElement)) (fun _=>rfl) (fun _=>rfl) ((PlantElement.mk 0 [] 0 0 0 0):PlantElement) Try.t53 (.agg #[.int .i64 0, .string ⟨#[]⟩, .int .i64 0, .int .i64 0, .int .i64 0, .int .i64 0]) rfl Try.type53 rfl rfl rfl rfl rfl rfl (fun z=>⟨rfl,rfl,rfl,rfl,rfl,rfl,trivial⟩) rfl
def ti23:TI Try.prog G 23:=tiOf [.sl 53] (fun (x:(List PlantElement))=>(x,())) (fun y=>(y.1:(List PlantElement))) (fun _=>rfl) (fun _=>rfl) ([]:(List PlantElement)) Try.t23 (.slice none 0 0) rfl Try.type23 rfl rfl rfl rfl rfl rfl (fun z=>⟨.inl ⟨rfl,rfl⟩,trivial⟩) rfl
def ti33:TI Try.prog G 33:=tiOf [.int .i64, .int .i64] (fun (x:Setting)=>(x.element,x.position,())) (fun y=>((Setting.mk y.1 y.2.1):Setting)) (fun _=>rfl) (fun _=>rfl) ((Setting.mk 0 0):Setting) Try.t33 (.agg #[.int .i64 0, .int .i64 0]) rfl Try.type33 rfl rfl rfl rfl rfl rfl (fun z=>⟨rfl,rfl,trivial⟩) rfl
def ti48:TI Try.prog G 48:=tiOf [.sl 3, .int .i64] (fun (x:Maker)=>(x.l,x.n,())) (fun y=>((Maker.mk y.1 y.2.1):Maker)) (fun _=>rfl) (fun _=>rfl) ((Maker.mk [] 0):Maker) Try.t48 (.agg #[.slice none 0 0, .int .i64 0]) rfl Try.type48 rfl rfl rfl rfl rfl rfl (fun z=>⟨.inl ⟨rfl,rfl⟩,rfl,trivial⟩) rfl
def ti60:TI Try.prog G 60:=tiOf [.mp 60 3 3] (fun (x:(List (Int×Int)))=>(x,())) (fun y=>(y.1:(List (Int×Int)))) (fun _=>rfl) (fun _=>rfl) ([]:(List (Int×Int))) Try.t60 (.map none) rfl Try.type60 rfl rfl rfl rfl rfl rfl (fun z=>⟨.inl ⟨rfl,rfl⟩,trivial⟩) rfl
def ti67:TI Try.prog G 67:=tiOf [.mp 67 3 4] (fun (x:(List (Int×Bool)))=>(x,())) (fun y=>(y.1:(List (Int×Bool)))) (fun _=>rfl) (fun _=>rfl) ([]:(List (Int×Bool))) Try.t67 (.map none) rfl Try.type67 rfl rfl rfl rfl rfl rfl (fun z=>⟨.inl ⟨rfl,rfl⟩,trivial⟩) rfl
def ti70:TI Try.prog G 70:=tiOf [.int .i64, .int .i64, .int .i64] (fun (x:Visit)=>(x.element,x.in_,x.out,())) (fun y=>((Visit.mk y.1 y.2.1 y.2.2.1):Visit)) (fun _=>rfl) (fun _=>rfl) ((Visit.mk 0 0 0):Visit) Try.t70 (.agg #[.int .i64 0, .int .i64 0, .int .i64 0]) rfl Try.type70 rfl rfl rfl rfl rfl rfl (fun z=>⟨rfl,rfl,rfl,trivial⟩) rfl
def ti71:TI Try.prog G 71:=tiOf [.mp 71 74 4] (fun (x:(List (Spot×Bool)))=>(x,())) (fun y=>(y.1:(List (Spot×Bool)))) (fun _=>rfl) (fun _=>rfl) ([]:(List (Spot×Bool))) Try.t71 (.map none) rfl Try.type71 rfl rfl rfl rfl rfl rfl (fun z=>⟨.inl ⟨rfl,rfl⟩,trivial⟩) rfl
def ti72:TI Try.prog G 72:=tiOf [.fn] (fun (x:(Option Nat))=>(x,())) (fun y=>(y.1:(Option Nat))) (fun _=>rfl) (fun _=>rfl) ((none:Option Nat):(Option Nat)) Try.t72 (.nilFunc) rfl Try.type72 rfl rfl rfl rfl rfl rfl (fun z=>⟨rfl,trivial⟩) rfl
def ti74:TI Try.prog G 74:=tiOf [.int .i64, .int .i64] (fun (x:Spot)=>(x.element,x.node,())) (fun y=>((Spot.mk y.1 y.2.1):Spot)) (fun _=>rfl) (fun _=>rfl) ((Spot.mk 0 0):Spot) Try.t74 (.agg #[.int .i64 0, .int .i64 0]) rfl Try.type74 rfl rfl rfl rfl rfl rfl (fun z=>⟨rfl,rfl,trivial⟩) rfl
def ti88:TI Try.prog G 88:=tiOf [.fn] (fun (x:(Option Nat))=>(x,())) (fun y=>(y.1:(Option Nat))) (fun _=>rfl) (fun _=>rfl) ((none:Option Nat):(Option Nat)) Try.t88 (.nilFunc) rfl Try.type88 rfl rfl rfl rfl rfl rfl (fun z=>⟨rfl,trivial⟩) rfl
def ti91:TI Try.prog G 91:=tiOf [.mp 91 97 3] (fun (x:(List (Step×Int)))=>(x,())) (fun y=>(y.1:(List (Step×Int)))) (fun _=>rfl) (fun _=>rfl) ([]:(List (Step×Int))) Try.t91 (.map none) rfl Try.type91 rfl rfl rfl rfl rfl rfl (fun z=>⟨.inl ⟨rfl,rfl⟩,trivial⟩) rfl
def ti97:TI Try.prog G 97:=tiOf [.int .i64, .int .i64] (fun (x:Step)=>(x.element,x.in_,())) (fun y=>((Step.mk y.1 y.2.1):Step)) (fun _=>rfl) (fun _=>rfl) ((Step.mk 0 0):Step) Try.t97 (.agg #[.int .i64 0, .int .i64 0]) rfl Try.type97 rfl rfl rfl rfl rfl rfl (fun z=>⟨rfl,rfl,trivial⟩) rfl
def ti98:TI Try.prog G 98:=tiOf [.fn] (fun (x:(Option Nat))=>(x,())) (fun y=>(y.1:(Option Nat))) (fun _=>rfl) (fun _=>rfl) ((none:Option Nat):(Option Nat)) Try.t98 (.nilFunc) rfl Try.type98 rfl rfl rfl rfl rfl rfl (fun z=>⟨rfl,trivial⟩) rfl
def qEN:TI Try.prog G 122:=tiOf [.mp 122 9 4] (fun (x:(List ((List UInt8)×Bool)))=>(x,())) (fun y=>(y.1:(List ((List UInt8)×Bool)))) (fun _=>rfl) (fun _=>rfl) ([]:(List ((List UInt8)×Bool))) Try.t122 (.map none) rfl Try.type122 rfl rfl rfl rfl rfl rfl (fun z=>⟨.inl ⟨rfl,rfl⟩,trivial⟩) rfl
def qi33:QI Try.prog G 33:=qiOf [.int .i64, .int .i64] (fun (x:Setting)=>(x.element,x.position,())) (fun y=>((Setting.mk y.1 y.2.1):Setting)) (fun _=>rfl) _ (fun (x y:Setting)=>decide (x=y)) rfl (fun (x y:Setting)=>decide_eq_true_iff) Try.underlying33 (by kernel_rfl) (by kernel_rfl) (by kernel_rfl)
def bi5:BI Try.prog G 5:=⟨fun xs=>xs,fun xs=>xs,fun _ _ _ h=>h,fun _ _ _ _ _ _ h=>h,fun _ _ _ _ _ _ h=>h,Try.t5,Try.underlying5,Try.type5,rfl⟩
def ki3:KI Try.prog G 3:=kiI .i64 (fun n=>n) (inferInstance:DecidableEq Int) Try.t3 Try.underlying3 (qCO Try.underlying3 Try.type3 rfl) (fun _=>rfl)
def vi3:VI Try.prog G 3:=viI .i64 (fun n=>n) (fun n=>n) (fun _=>rfl) Try.t3 Try.underlying3 Try.type3 (qDq Try.underlying3 Try.type3 rfl) (fun _=>rfl) rfl
def vi4:VI Try.prog G 4:=viB (fun n=>n) (fun n=>n) (fun _=>rfl) Try.t4 Try.underlying4 Try.type4 (qyB Try.underlying4 Try.type4 rfl) (fun _=>rfl) rfl
def ki74:KI Try.prog G 74:=kiA (inferInstance:DecidableEq Spot) ti74 [.int .i64, .int .i64] (fun (x:Spot)=>(x.element,x.node,())) (fun y=>((Spot.mk y.1 y.2.1):Spot)) (fun _=>rfl) _ Try.t74 rfl Try.underlying74 Try.type74 (by kernel_rfl) rfl (by kernel_rfl) (fun _=>rfl) (fun _=>rfl)
def ki97:KI Try.prog G 97:=kiA (inferInstance:DecidableEq Step) ti97 [.int .i64, .int .i64] (fun (x:Step)=>(x.element,x.in_,())) (fun y=>((Step.mk y.1 y.2.1):Step)) (fun _=>rfl) _ Try.t97 rfl Try.underlying97 Try.type97 (by kernel_rfl) rfl (by kernel_rfl) (fun _=>rfl) (fun _=>rfl)
def ki9:KI Try.prog G 9:=kiS (fun n=>n) (inferInstance:DecidableEq (List UInt8)) Try.underlying9 (qCP Try.underlying9 Try.type9 rfl) (fun _=>rfl)
def qDT:AI Try.prog G 108:=⟨3,64,ti3,Try.t108, .agg #[.int .i64 0, .int .i64 0, .int .i64 0, .int .i64 0, .int .i64 0, .int .i64 0, .int .i64 0, .int .i64 0, .int .i64 0, .int .i64 0, .int .i64 0, .int .i64 0, .int .i64 0, .int .i64 0, .int .i64 0, .int .i64 0, .int .i64 0, .int .i64 0, .int .i64 0, .int .i64 0, .int .i64 0, .int .i64 0, .int .i64 0, .int .i64 0, .int .i64 0, .int .i64 0, .int .i64 0, .int .i64 0, .int .i64 0, .int .i64 0, .int .i64 0, .int .i64 0, .int .i64 0, .int .i64 0, .int .i64 0, .int .i64 0, .int .i64 0, .int .i64 0, .int .i64 0, .int .i64 0, .int .i64 0, .int .i64 0, .int .i64 0, .int .i64 0, .int .i64 0, .int .i64 0, .int .i64 0, .int .i64 0, .int .i64 0, .int .i64 0, .int .i64 0, .int .i64 0, .int .i64 0, .int .i64 0, .int .i64 0, .int .i64 0, .int .i64 0, .int .i64 0, .int .i64 0, .int .i64 0, .int .i64 0, .int .i64 0, .int .i64 0, .int .i64 0],Try.underlying108,Try.type108,rfl,rfl,rfl,rfl,rfl⟩
def qyw:SI Try.prog G:=siOf (t:=33) [.int .i64, .int .i64] (fun (x:Setting)=>(x.element,x.position,())) rfl rfl ((Setting.mk 0 0):Setting) (fun (x:Setting)=>x.element) qox 31 32 rfl (by kernel_rfl) Try.isAgg33 Try.sizeOf33 (Go.Proofs.enters_of Try.func32 (by kernel_rfl) rfl) rfl qz5
def si31_56:SI Try.prog G:=siOf (t:=33) [.int .i64, .int .i64] (fun (x:Setting)=>(x.element,x.position,())) rfl rfl ((Setting.mk 0 0):Setting) (fun (x:Setting)=>x.element) qox 31 56 rfl (by kernel_rfl) Try.isAgg33 Try.sizeOf33 (Go.Proofs.enters_of Try.func56 (by kernel_rfl) rfl) rfl qz6
def X0:Ev Try.prog D where
 G:=G
 S:=[qyw,si31_56]
 I:=fun t=>match t with|3=>some ti3|4=>some ti4|5=>some ti5|9=>some ti9|22=>some ti22|53=>some ti53|23=>some ti23|33=>some ti33|48=>some ti48|60=>some ti60|67=>some ti67|70=>some ti70|71=>some ti71|72=>some ti72|74=>some ti74|88=>some ti88|91=>some ti91|97=>some ti97|98=>some ti98|122=>some qEN|_=>none
 A:=fun t=>match t with|108=>some qDT|_=>none
 J:=fun k v=>match k,v with|3,3=>some (miOf ki3 vi3)|3,4=>some (miOf ki3 vi4)|9,4=>some (miOf ki9 vi4)|74,4=>some (miOf ki74 vi4)|97,3=>some (miOf ki97 vi3)|_,_=>none
 B:=fun t=>match t with|5=>some bi5|_=>none
 Q:=fun t=>match t with|33=>some qi33|_=>none
 F:=fun _ _ _=>false
 C:=fun _ _ _ _ _=>none
def fs0 (N:Nat):List (FE D):=[]
theorem all0 (N:Nat):∀y∈fs0 N,CallOk X0 y.d y.F:=fun y h=>absurd h (by simp[fs0])
def X00 (N:Nat):Ev Try.prog D:=X0.with (fs0 N)
theorem cok0 (N:Nat):COk (X00 N):=COk.of (all0 N)
def qwp (N:Nat):List (Pc D):=[]
theorem qrB (N:Nat):∀u∈qwp N,PcOk (X00 N) (qab Try.f7) u:=qam
def dzcO:FD D:={f:=7,np:=1,ins:=[.v 0 (.sl 3)],fx:=[],rcv:=none,rk:=0,outs:=[.o 2 (.box 48)],ofx:=[(2, .box 0 0)],rvs:=[.tmp 2],flat:=false}
def FzcO (N:Nat):dzcO.F:=fun r x=>zcO N x.1
theorem ozcO (N:Nat):FOk Try.prog (X00 N) dzcO (FzcO N):=⟨⟨Try.f7,_,Try.func7,rfl,by kernel_rfl,by kernel_rfl,rfl,FC.of (cok0 N) (us:=qwp N) (fun u h _=>qrB N u h) (fun r x=>by kernel_rfl)⟩,by kernel_rfl,by kernel_rfl,by kernel_rfl,by kernel_rfl⟩
def fs1 (N:Nat):List (FE D):=⟨dzcO,FzcO N⟩::fs0 N
theorem all1 (N:Nat):∀y∈fs1 N,CallOk X0 y.d y.F:=all_cons (x:=⟨dzcO,FzcO N⟩) (ozcO N) (all0 N)
def X1 (N:Nat):Ev Try.prog D:=X0.with (fs1 N)
theorem cok1 (N:Nat):COk (X1 N):=COk.of (all1 N)
def qwj (N:Nat):List (Pc D):=[]
theorem qrv (N:Nat):∀u∈qwj N,PcOk (X1 N) (qab Try.f41) u:=qam
def dzbF:FD D:={f:=41,np:=1,ins:=[.v 0 (.int .i64)],fx:=[],rcv:=none,rk:=0,outs:=[.v 2 .str],ofx:=[],rvs:=[.tmp 2],flat:=true}
def FzbF (N:Nat):dzbF.F:=fun r x=>zbF N x.1
theorem ozbF (N:Nat):FOk Try.prog (X1 N) dzbF (FzbF N):=⟨⟨Try.f41,_,Try.func41,rfl,by kernel_rfl,by kernel_rfl,rfl,FC.of (cok1 N) (us:=qwj N) (fun u h _=>qrv N u h) (fun r x=>by kernel_rfl)⟩,by kernel_rfl,by kernel_rfl,by kernel_rfl,by kernel_rfl⟩
def fs2 (N:Nat):List (FE D):=⟨dzbF,FzbF N⟩::fs1 N
theorem all2 (N:Nat):∀y∈fs2 N,CallOk X0 y.d y.F:=all_cons (x:=⟨dzbF,FzbF N⟩) (ozbF N) (all1 N)
def X2 (N:Nat):Ev Try.prog D:=X0.with (fs2 N)
theorem cok2 (N:Nat):COk (X2 N):=COk.of (all2 N)
def qo7 (N:Nat):List (Pc D):=[]
theorem qjO (N:Nat):∀u∈qo7 N,PcOk (X2 N) (qab Try.f10) u:=qam
def PzbQ_0:PD D:={path:=[1,1,0,1],ins:=[.o 0 (.recv 48), .v 5 (.int .i64), .v 11 .bool],fx:=[(0, .box 0 0)],ks:=[1],exs:=[⟨.normal,[.v 5 (.int .i64)],[]⟩],keep:=[0,1]}
def quI (N:Nat):PzbQ_0.F:=fun x=>qtl N x.1 x.2.1 x.2.2.1
theorem qBy (N:Nat):CC (X2 N) (qab Try.f10) PzbQ_0 (quI N):=CC.of (cok2 N) (us:=qo7 N) (fun u h _=>qjO N u h) (fun x=>by kernel_rfl)
def qqc (N:Nat):List (Pc D):=PzbQ_0.pc (X2 N) (quI N)::qo7 N
theorem qkT (N:Nat):∀u∈qqc N,PcOk (X2 N) (qab Try.f10) u:=qac ((qBy N).pc (by kernel_rfl)) (qjO N)
def PzbQ_1:PD D:={path:=[1,1,1,1,1,0,1],ins:=[.o 0 (.recv 48), .v 1 (.int .i64), .v 5 (.int .i64), .v 51 .bool],fx:=[(0, .box 0 0)],ks:=[1],exs:=[⟨.normal,[.v 5 (.int .i64)],[]⟩],keep:=[0]}
def quJ (N:Nat):PzbQ_1.F:=fun x=>qy0 N x.2.1 x.2.2.1 x.2.2.2.1
theorem qBz (N:Nat):CC (X2 N) (qab Try.f10) PzbQ_1 (quJ N):=CC.of (cok2 N) (us:=qqc N) (fun u h _=>qkT N u h) (fun x=>by kernel_rfl)
def qwR (N:Nat):List (Pc D):=PzbQ_1.pc (X2 N) (quJ N)::qqc N
theorem qr2 (N:Nat):∀u∈qwR N,PcOk (X2 N) (qab Try.f10) u:=qac ((qBz N).pc (by kernel_rfl)) (qkT N)
def dzbQ:FD D:={f:=10,np:=2,ins:=[.v 1 (.int .i64)],fx:=[],rcv:=some (0,48),rk:=2,outs:=[.v 4 (.int .i64), .u 0 (.recv 48)],ofx:=[],rvs:=[.tmp 4],flat:=false}
def FzbQ (N:Nat):dzbQ.F:=fun r x=>zbQ N r x.1
theorem ozbQ (N:Nat):FOk Try.prog (X2 N) dzbQ (FzbQ N):=⟨⟨Try.f10,_,Try.func10,rfl,by kernel_rfl,by kernel_rfl,rfl,FC.of (cok2 N) (us:=qwR N) (fun u h _=>qr2 N u h) (fun r x=>by kernel_rfl)⟩,by kernel_rfl,by kernel_rfl,by kernel_rfl,by kernel_rfl⟩
def fs3 (N:Nat):List (FE D):=⟨dzbQ,FzbQ N⟩::fs2 N
theorem all3 (N:Nat):∀y∈fs3 N,CallOk X0 y.d y.F:=all_cons (x:=⟨dzbQ,FzbQ N⟩) (ozbQ N) (all2 N)
def X3 (N:Nat):Ev Try.prog D:=X0.with (fs3 N)
theorem cok3 (N:Nat):COk (X3 N):=COk.of (all3 N)
def qwl (N:Nat):List (Pc D):=[]
theorem qrx (N:Nat):∀u∈qwl N,PcOk (X3 N) (qab Try.f22) u:=qam
def dzbR:FD D:={f:=22,np:=2,ins:=[.v 1 (.sl 3)],fx:=[],rcv:=some (0,48),rk:=2,outs:=[.v 4 (.int .i64), .u 0 (.recv 48)],ofx:=[],rvs:=[.tmp 4],flat:=false}
def FzbR (N:Nat):dzbR.F:=fun r x=>zbR N r x.1
theorem ozbR (N:Nat):FOk Try.prog (X3 N) dzbR (FzbR N):=⟨⟨Try.f22,_,Try.func22,rfl,by kernel_rfl,by kernel_rfl,rfl,FC.of (cok3 N) (us:=qwl N) (fun u h _=>qrx N u h) (fun r x=>by kernel_rfl)⟩,by kernel_rfl,by kernel_rfl,by kernel_rfl,by kernel_rfl⟩
def fs4 (N:Nat):List (FE D):=⟨dzbR,FzbR N⟩::fs3 N
theorem all4 (N:Nat):∀y∈fs4 N,CallOk X0 y.d y.F:=all_cons (x:=⟨dzbR,FzbR N⟩) (ozbR N) (all3 N)
def X4 (N:Nat):Ev Try.prog D:=X0.with (fs4 N)
theorem cok4 (N:Nat):COk (X4 N):=COk.of (all4 N)
def Y4 (N:Nat):Ev Try.prog D:=(X4 N).cuts fun x lo hi=>match x,lo,hi with| .tmp 42,none,some (.tmp 43)=>1| .tmp 45,some (.tmp 47),none=>1| .tmp 80,none,some (.tmp 83)=>2| .tmp 178,some (.const _),none=>2|_,_,_=>0
theorem qe7 (N:Nat):COk (Y4 N):=COk.cuts (cok4 N)
def qoY (N:Nat):List (Pc D):=[]
theorem qjF (N:Nat):∀u∈qoY N,PcOk (Y4 N) (qab Try.f19) u:=qam
def PzaZ_0:PD D:={path:=[1,1,1,0,1],ins:=[.o 0 (.recv 48), .o 5 (.sl 53), .o 6 (.sl 3), .v 17 .bool],fx:=[(0, .box 0 0),(5, .c (.own 1)),(6, .c (.own 2))],ks:=[1,1,0],exs:=[⟨.normal,[.o 6 (.sl 3)],[(6, .c (.own 3))]⟩],keep:=[0,1,5,7]}
def quh (N:Nat):PzaZ_0.F:=fun x=>qs7 N x.2.2.1 x.2.2.2.1
theorem qA8 (N:Nat):CC (Y4 N) (qab Try.f19) PzaZ_0 (quh N):=CC.of (qe7 N) (us:=qoY N) (fun u h _=>qjF N u h) (fun x=>by kernel_rfl)
def qpV (N:Nat):List (Pc D):=PzaZ_0.pc (Y4 N) (quh N)::qoY N
theorem qkC (N:Nat):∀u∈qpV N,PcOk (Y4 N) (qab Try.f19) u:=qac ((qA8 N).pc (by kernel_rfl)) (qjF N)
def PzaZ_2:PD D:={path:=[1,1,1,1,0,0,0,0,0],ins:=[.o 0 (.recv 48), .v 1 (.int .i64), .o 5 (.sl 53), .o 6 (.sl 3), .v 7 (.int .i64)],fx:=[(0, .box 0 0),(5, .c (.own 1)),(6, .c (.own 2))],ks:=[1,1,1],exs:=[⟨.normal,[.v 33 .bool],[]⟩],keep:=[0,1,5,6,7]}
def quj (N:Nat):PzaZ_2.F:=fun x=>qs8 N x.2.1 x.2.2.1 x.2.2.2.1 x.2.2.2.2.1
theorem qBa (N:Nat):CC (Y4 N) (qab Try.f19) PzaZ_2 (quj N):=CC.of (qe7 N) (us:=qpV N) (fun u h _=>qkC N u h) (fun x=>by kernel_rfl)
def qpX (N:Nat):List (Pc D):=PzaZ_2.pc (Y4 N) (quj N)::qpV N
theorem qkE (N:Nat):∀u∈qpX N,PcOk (Y4 N) (qab Try.f19) u:=qac ((qBa N).pc (by kernel_rfl)) (qkC N)
def PzaZ_4:PD D:={path:=[1,1,1,1,0,0,0,1,0,1,1,1,1,0,1,0,0,1],ins:=[.o 0 (.recv 48), .o 5 (.sl 53), .o 6 (.sl 3), .o 10 (.box 53), .v 55 (.int .i64), .v 96 .bool],fx:=[(0, .box 0 0),(5, .c (.own 1)),(6, .c (.own 2)),(10, .box 3 0)],ks:=[1,1,1,1],exs:=[⟨.normal,[.v 96 .bool],[]⟩],keep:=[0,1,5,6,7,9,10,55]}
def qul (N:Nat):PzaZ_4.F:=fun x=>qta N x.2.2.2.2.1 x.2.2.2.2.2.1
theorem qBc (N:Nat):CC (Y4 N) (qab Try.f19) PzaZ_4 (qul N):=CC.of (qe7 N) (us:=qpX N) (fun u h _=>qkE N u h) (fun x=>by kernel_rfl)
def qpZ (N:Nat):List (Pc D):=PzaZ_4.pc (Y4 N) (qul N)::qpX N
theorem qkG (N:Nat):∀u∈qpZ N,PcOk (Y4 N) (qab Try.f19) u:=qac ((qBc N).pc (by kernel_rfl)) (qkE N)
def PzaZ_5:PD D:={path:=[1,1,1,1,0,0,0,1,0,1,1,1,1,0,1,0,1,1,1,1,1,1,1,0],ins:=[.o 0 (.recv 48), .o 5 (.sl 53), .o 6 (.sl 3), .o 10 (.box 53)],fx:=[(0, .box 0 0),(5, .c (.own 1)),(6, .c (.own 2)),(10, .box 3 0)],ks:=[2,1,1,1],exs:=[⟨.normal,[.u 0 (.recv 48), .v 72 .bool],[]⟩],keep:=[0,1,5,6,7,10]}
def qum (N:Nat):PzaZ_5.F:=fun x=>qyU N x.1 x.2.2.1
theorem qBd (N:Nat):CC (Y4 N) (qab Try.f19) PzaZ_5 (qum N):=CC.of (qe7 N) (us:=qpZ N) (fun u h _=>qkG N u h) (fun x=>by kernel_rfl)
def qp0 (N:Nat):List (Pc D):=PzaZ_5.pc (Y4 N) (qum N)::qpZ N
theorem qkH (N:Nat):∀u∈qp0 N,PcOk (Y4 N) (qab Try.f19) u:=qac ((qBd N).pc (by kernel_rfl)) (qkG N)
def PzaZ_3:PD D:={path:=[1,1,1,1,0,0,0,1,0,1,1,1,1,0,1],ins:=[.o 0 (.recv 48), .o 5 (.sl 53), .o 6 (.sl 3), .v 7 (.int .i64), .v 9 (.int .i64), .o 10 (.box 53), .v 55 (.int .i64)],fx:=[(0, .box 0 0),(5, .c (.own 1)),(6, .c (.own 2)),(10, .box 3 0)],ks:=[2,1,0,2],exs:=[⟨.normal,[.u 0 (.recv 48), .o 6 (.sl 3), .v 7 (.int .i64), .u 3 (.box 53)],[(6, .c (.own 4))]⟩],keep:=[0,1,5,10]}
def quk (N:Nat):PzaZ_3.F:=fun x=>qs9 N x.1 x.2.2.1 x.2.2.2.1 x.2.2.2.2.1 x.2.2.2.2.2.1 x.2.2.2.2.2.2.1
theorem qBb (N:Nat):CC (Y4 N) (qab Try.f19) PzaZ_3 (quk N):=CC.of (qe7 N) (us:=qp0 N) (fun u h _=>qkH N u h) (fun x=>by kernel_rfl)
def qpY (N:Nat):List (Pc D):=PzaZ_3.pc (Y4 N) (quk N)::qp0 N
theorem qkF (N:Nat):∀u∈qpY N,PcOk (Y4 N) (qab Try.f19) u:=qac ((qBb N).pc (by kernel_rfl)) (qkH N)
def PzaZ_1:PD D:={path:=[1,1,1,1,0,0],ins:=[.o 0 (.recv 48), .v 1 (.int .i64), .o 5 (.sl 53), .o 6 (.sl 3), .v 7 (.int .i64)],fx:=[(0, .box 0 0),(5, .c (.own 1)),(6, .c (.own 2))],ks:=[2,0,0],exs:=[⟨.exit 0,[.u 0 (.recv 48), .o 5 (.sl 53), .o 6 (.sl 3), .v 7 (.int .i64)],[(5, .c (.own 3)),(6, .c (.own 4))]⟩],keep:=[0]}
def qui (N:Nat) (n:Nat):PzaZ_1.F:=fun x=>qqL N x.2.1 n x.1 x.2.2.1 x.2.2.2.1 x.2.2.2.2.1
theorem qA9 (N:Nat) (n:Nat):CC (Y4 N) (qab Try.f19) PzaZ_1 (qui N n):=CC.loop (qe7 N) (us:=qpY N) (c:=sub (qab Try.f19) [1,1,1,1,0,0,0]) (by kernel_rfl) (by kernel_rfl) (fun u h _=>qkF N u h) (fun x=>rfl) (fun n x=>by kernel_rfl) n
def qpW (N:Nat):List (Pc D):=PzaZ_1.pc (Y4 N) (qui N N)::qpY N
theorem qkD (N:Nat):∀u∈qpW N,PcOk (Y4 N) (qab Try.f19) u:=qac ((qA9 N N).pc (by kernel_rfl)) (qkF N)
def PzaZ_7:PD D:={path:=[1,1,1,1,1,0,0,0,0,0],ins:=[.o 0 (.recv 48), .o 5 (.sl 53), .o 6 (.sl 3), .v 7 (.int .i64)],fx:=[(0, .box 0 0),(5, .c (.own 1)),(6, .c (.own 2))],ks:=[1,1,1],exs:=[⟨.normal,[.v 161 .bool],[]⟩],keep:=[0,5,6,7]}
def qup (N:Nat):PzaZ_7.F:=fun x=>qtb N x.2.1 x.2.2.1 x.2.2.2.1
theorem qBf (N:Nat):CC (Y4 N) (qab Try.f19) PzaZ_7 (qup N):=CC.of (qe7 N) (us:=qpW N) (fun u h _=>qkD N u h) (fun x=>by kernel_rfl)
def qp1 (N:Nat):List (Pc D):=PzaZ_7.pc (Y4 N) (qup N)::qpW N
theorem qkI (N:Nat):∀u∈qp1 N,PcOk (Y4 N) (qab Try.f19) u:=qac ((qBf N).pc (by kernel_rfl)) (qkD N)
def PzaZ_8:PD D:={path:=[1,1,1,1,1,0,0,0,1,0,0,1],ins:=[.o 0 (.recv 48), .o 5 (.sl 53), .o 6 (.sl 3), .v 7 (.int .i64), .v 164 .bool],fx:=[(0, .box 0 0),(5, .c (.own 1)),(6, .c (.own 2))],ks:=[1,0,1],exs:=[⟨.normal,[.o 5 (.sl 53), .v 7 (.int .i64)],[(5, .c (.own 3))]⟩],keep:=[0,6]}
def quq (N:Nat):PzaZ_8.F:=fun x=>qyV N x.2.1 x.2.2.1 x.2.2.2.1 x.2.2.2.2.1
theorem qBg (N:Nat):CC (Y4 N) (qab Try.f19) PzaZ_8 (quq N):=CC.of (qe7 N) (us:=qp1 N) (fun u h _=>qkI N u h) (fun x=>by kernel_rfl)
def qp2 (N:Nat):List (Pc D):=PzaZ_8.pc (Y4 N) (quq N)::qp1 N
theorem qkJ (N:Nat):∀u∈qp2 N,PcOk (Y4 N) (qab Try.f19) u:=qac ((qBg N).pc (by kernel_rfl)) (qkI N)
def PzaZ_6:PD D:={path:=[1,1,1,1,1,0,0],ins:=[.o 0 (.recv 48), .o 5 (.sl 53), .o 6 (.sl 3), .v 7 (.int .i64)],fx:=[(0, .box 0 0),(5, .c (.own 1)),(6, .c (.own 2))],ks:=[2,0,0],exs:=[⟨.exit 3,[.u 0 (.recv 48), .o 5 (.sl 53)],[(5, .c (.own 3))]⟩],keep:=[0]}
def qun (N:Nat) (n:Nat):PzaZ_6.F:=fun x=>qqM N n x.1 x.2.1 x.2.2.1 x.2.2.2.1
theorem qBe (N:Nat) (n:Nat):CC (Y4 N) (qab Try.f19) PzaZ_6 (qun N n):=CC.loop (qe7 N) (us:=qp2 N) (c:=sub (qab Try.f19) [1,1,1,1,1,0,0,0]) (by kernel_rfl) (by kernel_rfl) (fun u h _=>qkJ N u h) (fun x=>rfl) (fun n x=>by kernel_rfl) n
def qwI (N:Nat):List (Pc D):=PzaZ_6.pc (Y4 N) (qun N N)::qp2 N
theorem qrT (N:Nat):∀u∈qwI N,PcOk (Y4 N) (qab Try.f19) u:=qac ((qBe N N).pc (by kernel_rfl)) (qkJ N)
def dzaZ:FD D:={f:=19,np:=2,ins:=[.v 1 (.int .i64)],fx:=[],rcv:=some (0,48),rk:=2,outs:=[.o 4 (.sl 53), .u 0 (.recv 48)],ofx:=[(4, .c (.own 1))],rvs:=[.tmp 4],flat:=false}
def FzaZ (N:Nat):dzaZ.F:=fun r x=>zaZ N r x.1
theorem ozaZ (N:Nat):FOk Try.prog (Y4 N) dzaZ (FzaZ N):=⟨⟨Try.f19,_,Try.func19,rfl,by kernel_rfl,by kernel_rfl,rfl,FC.of (qe7 N) (us:=qwI N) (fun u h _=>qrT N u h) (fun r x=>by kernel_rfl)⟩,by kernel_rfl,by kernel_rfl,by kernel_rfl,by kernel_rfl⟩
def fs5 (N:Nat):List (FE D):=⟨dzaZ,FzaZ N⟩::fs4 N
theorem all5 (N:Nat):∀y∈fs5 N,CallOk X0 y.d y.F:=qqO (x:=⟨dzaZ,FzaZ N⟩) ((ozaZ N).call.cuts) (all4 N)
def X5 (N:Nat):Ev Try.prog D:=X0.with (fs5 N)
theorem cok5 (N:Nat):COk (X5 N):=COk.of (all5 N)
def qoR (N:Nat):List (Pc D):=[]
theorem qjy (N:Nat):∀u∈qoR N,PcOk (X5 N) (qab Try.f42) u:=qam
def PzaP_1:PD D:={path:=[1,1,0,1,0,0,1,0],ins:=[.v 0 (.sl 53), .o 3 (.sl 3), .v 4 (.int .i64)],fx:=[(3, .c (.own 0))],ks:=[0],exs:=[⟨.normal,[.o 3 (.sl 3)],[(3, .c (.own 1))]⟩],keep:=[0,4]}
def qtS (N:Nat):PzaP_1.F:=fun x=>qyJ N x.1 x.2.1 x.2.2.1
theorem qAJ (N:Nat):CC (X5 N) (qab Try.f42) PzaP_1 (qtS N):=CC.of (cok5 N) (us:=qoR N) (fun u h _=>qjy N u h) (fun x=>by kernel_rfl)
def qpD (N:Nat):List (Pc D):=PzaP_1.pc (X5 N) (qtS N)::qoR N
theorem qkk (N:Nat):∀u∈qpD N,PcOk (X5 N) (qab Try.f42) u:=qac ((qAJ N).pc (by kernel_rfl)) (qjy N)
def PzaP_0:PD D:={path:=[1,1,0,1,0],ins:=[.v 0 (.sl 53), .o 3 (.sl 3), .v 4 (.int .i64)],fx:=[(3, .c (.own 0))],ks:=[0],exs:=[⟨.exit 0,[.o 3 (.sl 3)],[(3, .c (.own 1))]⟩],keep:=[]}
def qtR (N:Nat) (n:Nat):PzaP_0.F:=fun x=>qms N x.1 n x.2.1 x.2.2.1
theorem qAI (N:Nat) (n:Nat):CC (X5 N) (qab Try.f42) PzaP_0 (qtR N n):=CC.loop (cok5 N) (us:=qpD N) (c:=sub (qab Try.f42) [1,1,0,1,0,0]) (by kernel_rfl) (by kernel_rfl) (fun u h _=>qkk N u h) (fun x=>rfl) (fun n x=>by kernel_rfl) n
def qwA (N:Nat):List (Pc D):=PzaP_0.pc (X5 N) (qtR N N)::qpD N
theorem qrL (N:Nat):∀u∈qwA N,PcOk (X5 N) (qab Try.f42) u:=qac ((qAI N N).pc (by kernel_rfl)) (qkk N)
def dzaP:FD D:={f:=42,np:=1,ins:=[.v 0 (.sl 53)],fx:=[],rcv:=none,rk:=0,outs:=[.o 2 (.sl 3)],ofx:=[(2, .c (.own 0))],rvs:=[.tmp 2],flat:=false}
def FzaP (N:Nat):dzaP.F:=fun r x=>zaP N x.1
theorem ozaP (N:Nat):FOk Try.prog (X5 N) dzaP (FzaP N):=⟨⟨Try.f42,_,Try.func42,rfl,by kernel_rfl,by kernel_rfl,rfl,FC.of (cok5 N) (us:=qwA N) (fun u h _=>qrL N u h) (fun r x=>by kernel_rfl)⟩,by kernel_rfl,by kernel_rfl,by kernel_rfl,by kernel_rfl⟩
def fs6 (N:Nat):List (FE D):=⟨dzaP,FzaP N⟩::fs5 N
theorem all6 (N:Nat):∀y∈fs6 N,CallOk X0 y.d y.F:=all_cons (x:=⟨dzaP,FzaP N⟩) (ozaP N) (all5 N)
def X6 (N:Nat):Ev Try.prog D:=X0.with (fs6 N)
theorem cok6 (N:Nat):COk (X6 N):=COk.of (all6 N)
def qpm (N:Nat):List (Pc D):=[]
theorem qj3 (N:Nat):∀u∈qpm N,PcOk (X6 N) (qab Try.f43) u:=qam
def PzcK_0:PD D:={path:=[1,0,0],ins:=[.v 0 (.sl 53), .v 1 (.int .i64)],fx:=[],ks:=[],exs:=[⟨.normal,[.v 12 .bool],[]⟩],keep:=[0,1]}
def qvj (N:Nat):PzcK_0.F:=fun x=>qzd N x.1 x.2.1
theorem qB9 (N:Nat):CC (X6 N) (qab Try.f43) PzcK_0 (qvj N):=CC.of (cok6 N) (us:=qpm N) (fun u h _=>qj3 N u h) (fun x=>by kernel_rfl)
def qqy (N:Nat):List (Pc D):=PzcK_0.pc (X6 N) (qvj N)::qpm N
theorem qlf (N:Nat):∀u∈qqy N,PcOk (X6 N) (qab Try.f43) u:=qac ((qB9 N).pc (by kernel_rfl)) (qj3 N)
def PzcK_1:PD D:={path:=[1,1,0,1,0,0,1],ins:=[.v 17 (.int .i64), .v 18 .bool],fx:=[],ks:=[],exs:=[⟨.normal,[.v 18 .bool],[]⟩],keep:=[0,1,17]}
def qvk (N:Nat):PzcK_1.F:=fun x=>qze N x.1 x.2.1
theorem qCa (N:Nat):CC (X6 N) (qab Try.f43) PzcK_1 (qvk N):=CC.of (cok6 N) (us:=qqy N) (fun u h _=>qlf N u h) (fun x=>by kernel_rfl)
def qw6 (N:Nat):List (Pc D):=PzcK_1.pc (X6 N) (qvk N)::qqy N
theorem qsh (N:Nat):∀u∈qw6 N,PcOk (X6 N) (qab Try.f43) u:=qac ((qCa N).pc (by kernel_rfl)) (qlf N)
def dzcK:FD D:={f:=43,np:=2,ins:=[.v 0 (.sl 53), .v 1 (.int .i64)],fx:=[],rcv:=none,rk:=0,outs:=[.o 4 (.sl 3)],ofx:=[(4, .c (.own 0))],rvs:=[.tmp 4],flat:=false}
def FzcK (N:Nat):dzcK.F:=fun r x=>zcK N x.1 x.2.1
theorem ozcK (N:Nat):FOk Try.prog (X6 N) dzcK (FzcK N):=⟨⟨Try.f43,_,Try.func43,rfl,by kernel_rfl,by kernel_rfl,rfl,FC.of (cok6 N) (us:=qw6 N) (fun u h _=>qsh N u h) (fun r x=>by kernel_rfl)⟩,by kernel_rfl,by kernel_rfl,by kernel_rfl,by kernel_rfl⟩
def fs7 (N:Nat):List (FE D):=⟨dzcK,FzcK N⟩::fs6 N
theorem all7 (N:Nat):∀y∈fs7 N,CallOk X0 y.d y.F:=all_cons (x:=⟨dzcK,FzcK N⟩) (ozcK N) (all6 N)
def X7 (N:Nat):Ev Try.prog D:=X0.with (fs7 N)
theorem cok7 (N:Nat):COk (X7 N):=COk.of (all7 N)
def qpq (N:Nat):List (Pc D):=[]
theorem qj7 (N:Nat):∀u∈qpq N,PcOk (X7 N) (qab Try.f69) u:=qam
def PzcQ_0:PD D:={path:=[1,0,1,0],ins:=[.v 0 (.sl 3), .v 1 (.int .i64), .v 5 (.int .i64)],fx:=[],ks:=[],exs:=[⟨.exit 0,[],[]⟩,⟨.ret,[.v 4 .bool],[]⟩],keep:=[]}
def qvu (N:Nat) (n:Nat):PzcQ_0.F:=fun x=>qh2 N x.1 x.2.1 n x.2.2.1
theorem qCk (N:Nat) (n:Nat):CC (X7 N) (qab Try.f69) PzcQ_0 (qvu N n):=CC.loop (cok7 N) (us:=qpq N) (c:=sub (qab Try.f69) [1,0,1,0,0]) (by kernel_rfl) (by kernel_rfl) (fun u h _=>qj7 N u h) (fun x=>rfl) (fun n x=>by kernel_rfl) n
def qxa (N:Nat):List (Pc D):=PzcQ_0.pc (X7 N) (qvu N N)::qpq N
theorem qsl (N:Nat):∀u∈qxa N,PcOk (X7 N) (qab Try.f69) u:=qac ((qCk N N).pc (by kernel_rfl)) (qj7 N)
def dzcQ:FD D:={f:=69,np:=2,ins:=[.v 0 (.sl 3), .v 1 (.int .i64)],fx:=[],rcv:=none,rk:=0,outs:=[.v 4 .bool],ofx:=[],rvs:=[.tmp 4],flat:=true}
def FzcQ (N:Nat):dzcQ.F:=fun r x=>zcQ N x.1 x.2.1
theorem ozcQ (N:Nat):FOk Try.prog (X7 N) dzcQ (FzcQ N):=⟨⟨Try.f69,_,Try.func69,rfl,by kernel_rfl,by kernel_rfl,rfl,FC.of (cok7 N) (us:=qxa N) (fun u h _=>qsl N u h) (fun r x=>by kernel_rfl)⟩,by kernel_rfl,by kernel_rfl,by kernel_rfl,by kernel_rfl⟩
def fs8 (N:Nat):List (FE D):=⟨dzcQ,FzcQ N⟩::fs7 N
theorem all8 (N:Nat):∀y∈fs8 N,CallOk X0 y.d y.F:=all_cons (x:=⟨dzcQ,FzcQ N⟩) (ozcQ N) (all7 N)
def X8 (N:Nat):Ev Try.prog D:=X0.with (fs8 N)
theorem cok8 (N:Nat):COk (X8 N):=COk.of (all8 N)
def qoW (N:Nat):List (Pc D):=[]
theorem qjD (N:Nat):∀u∈qoW N,PcOk (X8 N) (qab Try.f44) u:=qam
def PzaW_1:PD D:={path:=[1,0,1,0,0,1,0,0,0],ins:=[.v 0 (.sl 53), .v 1 (.int .i64), .v 2 (.int .i64), .v 7 (.int .i64)],fx:=[],ks:=[],exs:=[⟨.normal,[.v 23 .bool],[]⟩],keep:=[0,1,2,7]}
def qua (N:Nat):PzaW_1.F:=fun x=>qyP N x.1 x.2.1 x.2.2.1 x.2.2.2.1
theorem qA1 (N:Nat):CC (X8 N) (qab Try.f44) PzaW_1 (qua N):=CC.of (cok8 N) (us:=qoW N) (fun u h _=>qjD N u h) (fun x=>by kernel_rfl)
def qpP (N:Nat):List (Pc D):=PzaW_1.pc (X8 N) (qua N)::qoW N
theorem qkw (N:Nat):∀u∈qpP N,PcOk (X8 N) (qab Try.f44) u:=qac ((qA1 N).pc (by kernel_rfl)) (qjD N)
def PzaW_0:PD D:={path:=[1,0,1,0],ins:=[.v 0 (.sl 53), .v 1 (.int .i64), .v 2 (.int .i64), .v 7 (.int .i64)],fx:=[],ks:=[],exs:=[⟨.exit 0,[],[]⟩,⟨.ret,[.v 6 (.int .i64)],[]⟩],keep:=[]}
def qt9 (N:Nat) (n:Nat):PzaW_0.F:=fun x=>qhU N x.1 x.2.1 x.2.2.1 n x.2.2.2.1
theorem qA0 (N:Nat) (n:Nat):CC (X8 N) (qab Try.f44) PzaW_0 (qt9 N n):=CC.loop (cok8 N) (us:=qpP N) (c:=sub (qab Try.f44) [1,0,1,0,0]) (by kernel_rfl) (by kernel_rfl) (fun u h _=>qkw N u h) (fun x=>rfl) (fun n x=>by kernel_rfl) n
def qwG (N:Nat):List (Pc D):=PzaW_0.pc (X8 N) (qt9 N N)::qpP N
theorem qrR (N:Nat):∀u∈qwG N,PcOk (X8 N) (qab Try.f44) u:=qac ((qA0 N N).pc (by kernel_rfl)) (qkw N)
def dzaW:FD D:={f:=44,np:=3,ins:=[.v 0 (.sl 53), .v 1 (.int .i64), .v 2 (.int .i64)],fx:=[],rcv:=none,rk:=0,outs:=[.v 6 (.int .i64)],ofx:=[],rvs:=[.tmp 6],flat:=true}
def FzaW (N:Nat):dzaW.F:=fun r x=>zaW N x.1 x.2.1 x.2.2.1
theorem ozaW (N:Nat):FOk Try.prog (X8 N) dzaW (FzaW N):=⟨⟨Try.f44,_,Try.func44,rfl,by kernel_rfl,by kernel_rfl,rfl,FC.of (cok8 N) (us:=qwG N) (fun u h _=>qrR N u h) (fun r x=>by kernel_rfl)⟩,by kernel_rfl,by kernel_rfl,by kernel_rfl,by kernel_rfl⟩
def fs9 (N:Nat):List (FE D):=⟨dzaW,FzaW N⟩::fs8 N
theorem all9 (N:Nat):∀y∈fs9 N,CallOk X0 y.d y.F:=all_cons (x:=⟨dzaW,FzaW N⟩) (ozaW N) (all8 N)
def X9 (N:Nat):Ev Try.prog D:=X0.with (fs9 N)
theorem cok9 (N:Nat):COk (X9 N):=COk.of (all9 N)
def qwk (N:Nat):List (Pc D):=[]
theorem qrw (N:Nat):∀u∈qwk N,PcOk (X9 N) (qab Try.f45) u:=qam
def dzbK:FD D:={f:=45,np:=3,ins:=[.v 0 (.sl 53), .v 1 (.int .i64), .v 2 (.int .i64)],fx:=[],rcv:=none,rk:=0,outs:=[.o 6 (.sl 3)],ofx:=[(6, .c (.own 0))],rvs:=[.tmp 6],flat:=false}
def FzbK (N:Nat):dzbK.F:=fun r x=>zbK N x.1 x.2.1 x.2.2.1
theorem ozbK (N:Nat):FOk Try.prog (X9 N) dzbK (FzbK N):=⟨⟨Try.f45,_,Try.func45,rfl,by kernel_rfl,by kernel_rfl,rfl,FC.of (cok9 N) (us:=qwk N) (fun u h _=>qrw N u h) (fun r x=>by kernel_rfl)⟩,by kernel_rfl,by kernel_rfl,by kernel_rfl,by kernel_rfl⟩
def fs10 (N:Nat):List (FE D):=⟨dzbK,FzbK N⟩::fs9 N
theorem qzi (N:Nat):∀y∈fs10 N,CallOk X0 y.d y.F:=all_cons (x:=⟨dzbK,FzbK N⟩) (ozbK N) (all9 N)
def X10 (N:Nat):Ev Try.prog D:=X0.with (fs10 N)
theorem qxt (N:Nat):COk (X10 N):=COk.of (qzi N)
def qo0 (N:Nat):List (Pc D):=[]
theorem qjH (N:Nat):∀u∈qo0 N,PcOk (X10 N) (qab Try.f20) u:=qam
def PzbE_1:PD D:={path:=[1,1,1,1,1,1,0,1,0,0,1,0,0,1,1,1,1,0,0],ins:=[.o 0 (.recv 48), .v 1 (.sl 53), .o 6 (.box 70), .o 8 (.sl 70), .v 10 (.int .i64), .o 11 (.sl 3)],fx:=[(0, .box 0 0),(6, .box 1 0),(8, .c (.own 2)),(11, .c (.own 3))],ks:=[2,1,1,1],exs:=[⟨.normal,[.u 0 (.recv 48), .v 76 .bool],[]⟩],keep:=[0,1,6,8,9,11]}
def quv (N:Nat):PzbE_1.F:=fun x=>qtf N x.1 x.2.1 x.2.2.2.2.1 x.2.2.2.2.2.1
theorem qBl (N:Nat):CC (X10 N) (qab Try.f20) PzbE_1 (quv N):=CC.of (qxt N) (us:=qo0 N) (fun u h _=>qjH N u h) (fun x=>by kernel_rfl)
def qp5 (N:Nat):List (Pc D):=PzbE_1.pc (X10 N) (quv N)::qo0 N
theorem qkM (N:Nat):∀u∈qp5 N,PcOk (X10 N) (qab Try.f20) u:=qac ((qBl N).pc (by kernel_rfl)) (qjH N)
def PzbE_0:PD D:={path:=[1,1,1,1,1,1,0,1,0],ins:=[.o 0 (.recv 48), .v 1 (.sl 53), .o 6 (.box 70), .o 8 (.sl 70), .v 9 (.int .i64)],fx:=[(0, .box 0 0),(6, .box 1 0),(8, .c (.own 2))],ks:=[2,0,0],exs:=[⟨.exit 0,[.u 0 (.recv 48), .o 8 (.sl 70)],[(8, .c (.own 3))]⟩,⟨.ret,[.u 0 (.recv 48), .o 4 (.sl 70)],[(4, .c (.own 3))]⟩],keep:=[0]}
def quu (N:Nat) (n:Nat):PzbE_0.F:=fun x=>qgR N x.2.1 n x.1 x.2.2.1 x.2.2.2.1 x.2.2.2.2.1
theorem qBk (N:Nat) (n:Nat):CC (X10 N) (qab Try.f20) PzbE_0 (quu N n):=CC.loop (qxt N) (us:=qp5 N) (c:=sub (qab Try.f20) [1,1,1,1,1,1,0,1,0,0]) (by kernel_rfl) (by kernel_rfl) (fun u h _=>qkM N u h) (fun x=>rfl) (fun n x=>by kernel_rfl) n
def qwK (N:Nat):List (Pc D):=PzbE_0.pc (X10 N) (quu N N)::qp5 N
theorem qrV (N:Nat):∀u∈qwK N,PcOk (X10 N) (qab Try.f20) u:=qac ((qBk N N).pc (by kernel_rfl)) (qkM N)
def dzbE:FD D:={f:=20,np:=2,ins:=[.v 1 (.sl 53)],fx:=[],rcv:=some (0,48),rk:=2,outs:=[.o 4 (.sl 70), .u 0 (.recv 48)],ofx:=[(4, .c (.own 1))],rvs:=[.tmp 4],flat:=false}
def FzbE (N:Nat):dzbE.F:=fun r x=>zbE N r x.1
theorem ozbE (N:Nat):FOk Try.prog (X10 N) dzbE (FzbE N):=⟨⟨Try.f20,_,Try.func20,rfl,by kernel_rfl,by kernel_rfl,rfl,FC.of (qxt N) (us:=qwK N) (fun u h _=>qrV N u h) (fun r x=>by kernel_rfl)⟩,by kernel_rfl,by kernel_rfl,by kernel_rfl,by kernel_rfl⟩
def fs11 (N:Nat):List (FE D):=⟨dzbE,FzbE N⟩::fs10 N
theorem qzj (N:Nat):∀y∈fs11 N,CallOk X0 y.d y.F:=all_cons (x:=⟨dzbE,FzbE N⟩) (ozbE N) (qzi N)
def X11 (N:Nat):Ev Try.prog D:=X0.with (fs11 N)
theorem qqS (N:Nat):COk (X11 N):=COk.of (qzj N)
def qpl (N:Nat):List (Pc D):=[]
theorem qj2 (N:Nat):∀u∈qpl N,PcOk (X11 N) (qab Try.f86) u:=qam
def PzcJ_1:PD D:={path:=[1,0,1,0,0,1,0,0,0],ins:=[.v 0 .str, .v 3 (.int .i64)],fx:=[],ks:=[],exs:=[⟨.normal,[.v 32 .bool],[]⟩],keep:=[0,3]}
def qvh (N:Nat):PzcJ_1.F:=fun x=>qtv N x.1 x.2.1
theorem qB7 (N:Nat):CC (X11 N) (qab Try.f86) PzcJ_1 (qvh N):=CC.of (qqS N) (us:=qpl N) (fun u h _=>qj2 N u h) (fun x=>by kernel_rfl)
def qqx (N:Nat):List (Pc D):=PzcJ_1.pc (X11 N) (qvh N)::qpl N
theorem qle (N:Nat):∀u∈qqx N,PcOk (X11 N) (qab Try.f86) u:=qac ((qB7 N).pc (by kernel_rfl)) (qj2 N)
def PzcJ_0:PD D:={path:=[1,0,1,0],ins:=[.v 0 .str, .v 3 (.int .i64)],fx:=[],ks:=[],exs:=[⟨.exit 0,[],[]⟩,⟨.ret,[.v 2 .bool],[]⟩],keep:=[0]}
def qvg (N:Nat) (n:Nat):PzcJ_0.F:=fun x=>qh1 N x.1 n x.2.1
theorem qB6 (N:Nat) (n:Nat):CC (X11 N) (qab Try.f86) PzcJ_0 (qvg N n):=CC.loop (qqS N) (us:=qqx N) (c:=sub (qab Try.f86) [1,0,1,0,0]) (by kernel_rfl) (by kernel_rfl) (fun u h _=>qle N u h) (fun x=>rfl) (fun n x=>by kernel_rfl) n
def qqw (N:Nat):List (Pc D):=PzcJ_0.pc (X11 N) (qvg N N)::qqx N
theorem qld (N:Nat):∀u∈qqw N,PcOk (X11 N) (qab Try.f86) u:=qac ((qB6 N N).pc (by kernel_rfl)) (qle N)
def PzcJ_2:PD D:={path:=[1,1,0],ins:=[.v 0 .str],fx:=[],ks:=[],exs:=[⟨.normal,[.v 2 .bool],[]⟩],keep:=[]}
def qvi (N:Nat):PzcJ_2.F:=fun x=>qzc N x.1
theorem qB8 (N:Nat):CC (X11 N) (qab Try.f86) PzcJ_2 (qvi N):=CC.of (qqS N) (us:=qqw N) (fun u h _=>qld N u h) (fun x=>by kernel_rfl)
def qw5 (N:Nat):List (Pc D):=PzcJ_2.pc (X11 N) (qvi N)::qqw N
theorem qsg (N:Nat):∀u∈qw5 N,PcOk (X11 N) (qab Try.f86) u:=qac ((qB8 N).pc (by kernel_rfl)) (qld N)
def dzcJ:FD D:={f:=86,np:=1,ins:=[.v 0 .str],fx:=[],rcv:=none,rk:=0,outs:=[.v 2 .bool],ofx:=[],rvs:=[.tmp 2],flat:=true}
def FzcJ (N:Nat):dzcJ.F:=fun r x=>zcJ N x.1
theorem ozcJ (N:Nat):FOk Try.prog (X11 N) dzcJ (FzcJ N):=⟨⟨Try.f86,_,Try.func86,rfl,by kernel_rfl,by kernel_rfl,rfl,FC.of (qqS N) (us:=qw5 N) (fun u h _=>qsg N u h) (fun r x=>by kernel_rfl)⟩,by kernel_rfl,by kernel_rfl,by kernel_rfl,by kernel_rfl⟩
def fs12 (N:Nat):List (FE D):=⟨dzcJ,FzcJ N⟩::fs11 N
theorem qzk (N:Nat):∀y∈fs12 N,CallOk X0 y.d y.F:=all_cons (x:=⟨dzcJ,FzcJ N⟩) (ozcJ N) (qzj N)
def X12 (N:Nat):Ev Try.prog D:=X0.with (fs12 N)
theorem qlV (N:Nat):COk (X12 N):=COk.of (qzk N)
def qpf (N:Nat):List (Pc D):=[]
theorem qjW (N:Nat):∀u∈qpf N,PcOk (X12 N) (qab Try.f70) u:=qam
def PzcC_0:PD D:={path:=[1,1,0,0],ins:=[.o 5 (.box 53), .o 6 (.sl 3)],fx:=[(5, .box 0 0),(6, .c (.own 1))],ks:=[1,1],exs:=[⟨.normal,[.v 23 .bool],[]⟩],keep:=[5,6]}
def quY (N:Nat):PzcC_0.F:=fun x=>qy5 N x.1 x.2.1
theorem qBO (N:Nat):CC (X12 N) (qab Try.f70) PzcC_0 (quY N):=CC.of (qlV N) (us:=qpf N) (fun u h _=>qjW N u h) (fun x=>by kernel_rfl)
def qqk (N:Nat):List (Pc D):=PzcC_0.pc (X12 N) (quY N)::qpf N
theorem qk1 (N:Nat):∀u∈qqk N,PcOk (X12 N) (qab Try.f70) u:=qac ((qBO N).pc (by kernel_rfl)) (qjW N)
def PzcC_2:PD D:={path:=[1,1,1,0,1,0,0,1,0,0,0],ins:=[.o 5 (.box 53), .v 6 (.sl 3), .v 7 (.int .i64)],fx:=[(5, .box 0 0)],ks:=[1],exs:=[⟨.normal,[.v 51 .bool],[]⟩],keep:=[5,6,7]}
def qu0 (N:Nat):PzcC_2.F:=fun x=>qy6 N x.2.1 x.2.2.1
theorem qBQ (N:Nat):CC (X12 N) (qab Try.f70) PzcC_2 (qu0 N):=CC.of (qlV N) (us:=qqk N) (fun u h _=>qk1 N u h) (fun x=>by kernel_rfl)
def qqm (N:Nat):List (Pc D):=PzcC_2.pc (X12 N) (qu0 N)::qqk N
theorem qk3 (N:Nat):∀u∈qqm N,PcOk (X12 N) (qab Try.f70) u:=qac ((qBQ N).pc (by kernel_rfl)) (qk1 N)
def PzcC_1:PD D:={path:=[1,1,1,0,1,0],ins:=[.o 5 (.box 53), .v 6 (.sl 3), .v 7 (.int .i64)],fx:=[(5, .box 0 0)],ks:=[1],exs:=[⟨.exit 0,[],[]⟩,⟨.ret,[.v 4 .bool],[]⟩],keep:=[5,6]}
def quZ (N:Nat) (n:Nat):PzcC_1.F:=fun x=>qgY N x.2.1 n x.2.2.1
theorem qBP (N:Nat) (n:Nat):CC (X12 N) (qab Try.f70) PzcC_1 (quZ N n):=CC.loop (qlV N) (us:=qqm N) (c:=sub (qab Try.f70) [1,1,1,0,1,0,0]) (by kernel_rfl) (by kernel_rfl) (fun u h _=>qk3 N u h) (fun x=>rfl) (fun n x=>by kernel_rfl) n
def qql (N:Nat):List (Pc D):=PzcC_1.pc (X12 N) (quZ N N)::qqm N
theorem qk2 (N:Nat):∀u∈qql N,PcOk (X12 N) (qab Try.f70) u:=qac ((qBP N N).pc (by kernel_rfl)) (qk3 N)
def PzcC_3:PD D:={path:=[1,1,1,1,0,0],ins:=[.o 5 (.box 53), .v 6 (.sl 3)],fx:=[(5, .box 0 0)],ks:=[1],exs:=[⟨.normal,[.v 59 .bool],[]⟩],keep:=[5]}
def qu1 (N:Nat):PzcC_3.F:=fun x=>qy7 N x.1 x.2.1
theorem qBR (N:Nat):CC (X12 N) (qab Try.f70) PzcC_3 (qu1 N):=CC.of (qlV N) (us:=qql N) (fun u h _=>qk2 N u h) (fun x=>by kernel_rfl)
def qqn (N:Nat):List (Pc D):=PzcC_3.pc (X12 N) (qu1 N)::qql N
theorem qk4 (N:Nat):∀u∈qqn N,PcOk (X12 N) (qab Try.f70) u:=qac ((qBR N).pc (by kernel_rfl)) (qk2 N)
def PzcC_4:PD D:={path:=[1,1,1,1,1,0,1,0,0],ins:=[.o 5 (.box 53)],fx:=[(5, .box 0 0)],ks:=[1],exs:=[⟨.normal,[.v 4 .bool],[]⟩],keep:=[]}
def qu2 (N:Nat):PzcC_4.F:=fun x=>qy8 N x.1
theorem qBS (N:Nat):CC (X12 N) (qab Try.f70) PzcC_4 (qu2 N):=CC.of (qlV N) (us:=qqn N) (fun u h _=>qk4 N u h) (fun x=>by kernel_rfl)
def qwZ (N:Nat):List (Pc D):=PzcC_4.pc (X12 N) (qu2 N)::qqn N
theorem qsa (N:Nat):∀u∈qwZ N,PcOk (X12 N) (qab Try.f70) u:=qac ((qBS N).pc (by kernel_rfl)) (qk4 N)
def dzcC:FD D:={f:=70,np:=2,ins:=[.v 0 (.sl 53), .v 1 (.int .i64)],fx:=[],rcv:=none,rk:=0,outs:=[.v 4 .bool],ofx:=[],rvs:=[.tmp 4],flat:=true}
def FzcC (N:Nat):dzcC.F:=fun r x=>zcC N x.1 x.2.1
theorem ozcC (N:Nat):FOk Try.prog (X12 N) dzcC (FzcC N):=⟨⟨Try.f70,_,Try.func70,rfl,by kernel_rfl,by kernel_rfl,rfl,FC.of (qlV N) (us:=qwZ N) (fun u h _=>qsa N u h) (fun r x=>by kernel_rfl)⟩,by kernel_rfl,by kernel_rfl,by kernel_rfl,by kernel_rfl⟩
def fs13 (N:Nat):List (FE D):=⟨dzcC,FzcC N⟩::fs12 N
theorem qzl (N:Nat):∀y∈fs13 N,CallOk X0 y.d y.F:=all_cons (x:=⟨dzcC,FzcC N⟩) (ozcC N) (qzk N)
def X13 (N:Nat):Ev Try.prog D:=X0.with (fs13 N)
theorem qmP (N:Nat):COk (X13 N):=COk.of (qzl N)
def qpe (N:Nat):List (Pc D):=[]
theorem qjV (N:Nat):∀u∈qpe N,PcOk (X13 N) (qab Try.f46) u:=qam
def PzcB_1:PD D:={path:=[1,1,1,0,1,0,0,1,0,0,1,0,1,0],ins:=[.v 0 (.sl 53), .o 3 (.arr 3 108 64), .v 4 (.int .i64), .v 5 (.int .i64)],fx:=[(3, .arr 0)],ks:=[1],exs:=[⟨.exit 2,[],[]⟩,⟨.ret,[.v 2 (.int .i64)],[]⟩],keep:=[0,3,4]}
def quV (N:Nat) (n:Nat):PzcB_1.F:=fun x=>qgW N x.1 x.2.2.1 n x.2.2.2.1
theorem qBL (N:Nat) (n:Nat):CC (X13 N) (qab Try.f46) PzcB_1 (quV N n):=CC.loop (qmP N) (us:=qpe N) (c:=sub (qab Try.f46) [1,1,1,0,1,0,0,1,0,0,1,0,1,0,0]) (by kernel_rfl) (by kernel_rfl) (fun u h _=>qjV N u h) (fun x=>rfl) (fun n x=>by kernel_rfl) n
def qqh (N:Nat):List (Pc D):=PzcB_1.pc (X13 N) (quV N N)::qpe N
theorem qkY (N:Nat):∀u∈qqh N,PcOk (X13 N) (qab Try.f46) u:=qac ((qBL N N).pc (by kernel_rfl)) (qjV N)
def PzcB_2:PD D:={path:=[1,1,1,0,1,0,0,1,0,0,1,1,1,0,1,0],ins:=[.o 3 (.arr 3 108 64), .o 6 (.sl 3), .v 7 (.int .i64)],fx:=[(3, .arr 0),(6, .c (.own 1))],ks:=[1,1],exs:=[⟨.exit 4,[],[]⟩,⟨.ret,[.v 2 (.int .i64)],[]⟩],keep:=[0,3,4,6]}
def quW (N:Nat) (n:Nat):PzcB_2.F:=fun x=>qgX N x.1 x.2.1 n x.2.2.1
theorem qBM (N:Nat) (n:Nat):CC (X13 N) (qab Try.f46) PzcB_2 (quW N n):=CC.loop (qmP N) (us:=qqh N) (c:=sub (qab Try.f46) [1,1,1,0,1,0,0,1,0,0,1,1,1,0,1,0,0]) (by kernel_rfl) (by kernel_rfl) (fun u h _=>qkY N u h) (fun x=>rfl) (fun n x=>by kernel_rfl) n
def qqi (N:Nat):List (Pc D):=PzcB_2.pc (X13 N) (quW N N)::qqh N
theorem qkZ (N:Nat):∀u∈qqi N,PcOk (X13 N) (qab Try.f46) u:=qac ((qBM N N).pc (by kernel_rfl)) (qkY N)
def PzcB_3:PD D:={path:=[1,1,1,0,1,0,0,1,0,0,1,1,1,1,1,0],ins:=[.o 3 (.arr 3 108 64), .o 6 (.sl 3), .v 8 (.int .i64)],fx:=[(3, .arr 0),(6, .c (.own 1))],ks:=[2,1],exs:=[⟨.exit 6,[.u 0 (.arr 3 108 64)],[]⟩],keep:=[0,3,4]}
def quX (N:Nat) (n:Nat):PzcB_3.F:=fun x=>qiS N x.2.1 n x.1 x.2.2.1
theorem qBN (N:Nat) (n:Nat):CC (X13 N) (qab Try.f46) PzcB_3 (quX N n):=CC.loop (qmP N) (us:=qqi N) (c:=sub (qab Try.f46) [1,1,1,0,1,0,0,1,0,0,1,1,1,1,1,0,0]) (by kernel_rfl) (by kernel_rfl) (fun u h _=>qkZ N u h) (fun x=>rfl) (fun n x=>by kernel_rfl) n
def qqj (N:Nat):List (Pc D):=PzcB_3.pc (X13 N) (quX N N)::qqi N
theorem qk0 (N:Nat):∀u∈qqj N,PcOk (X13 N) (qab Try.f46) u:=qac ((qBN N N).pc (by kernel_rfl)) (qkZ N)
def PzcB_0:PD D:={path:=[1,1,1,0,1,0],ins:=[.v 0 (.sl 53), .o 3 (.arr 3 108 64), .v 4 (.int .i64)],fx:=[(3, .arr 0)],ks:=[0],exs:=[⟨.exit 0,[],[]⟩,⟨.ret,[.v 2 (.int .i64)],[]⟩],keep:=[]}
def quU (N:Nat) (n:Nat):PzcB_0.F:=fun x=>qmw N x.1 n x.2.1 x.2.2.1
theorem qBK (N:Nat) (n:Nat):CC (X13 N) (qab Try.f46) PzcB_0 (quU N n):=CC.loop (qmP N) (us:=qqj N) (c:=sub (qab Try.f46) [1,1,1,0,1,0,0]) (by kernel_rfl) (by kernel_rfl) (fun u h _=>qk0 N u h) (fun x=>rfl) (fun n x=>by kernel_rfl) n
def qwY (N:Nat):List (Pc D):=PzcB_0.pc (X13 N) (quU N N)::qqj N
theorem qr9 (N:Nat):∀u∈qwY N,PcOk (X13 N) (qab Try.f46) u:=qac ((qBK N N).pc (by kernel_rfl)) (qk0 N)
def dzcB:FD D:={f:=46,np:=1,ins:=[.v 0 (.sl 53)],fx:=[],rcv:=none,rk:=0,outs:=[.v 2 (.int .i64)],ofx:=[],rvs:=[.tmp 2],flat:=true}
def FzcB (N:Nat):dzcB.F:=fun r x=>zcB N x.1
theorem ozcB (N:Nat):FOk Try.prog (X13 N) dzcB (FzcB N):=⟨⟨Try.f46,_,Try.func46,rfl,by kernel_rfl,by kernel_rfl,rfl,FC.of (qmP N) (us:=qwY N) (fun u h _=>qr9 N u h) (fun r x=>by kernel_rfl)⟩,by kernel_rfl,by kernel_rfl,by kernel_rfl,by kernel_rfl⟩
def fs14 (N:Nat):List (FE D):=⟨dzcB,FzcB N⟩::fs13 N
theorem qzm (N:Nat):∀y∈fs14 N,CallOk X0 y.d y.F:=all_cons (x:=⟨dzcB,FzcB N⟩) (ozcB N) (qzl N)
def X14 (N:Nat):Ev Try.prog D:=X0.with (fs14 N)
theorem qz7 (N:Nat):COk (X14 N):=COk.of (qzm N)
def qph (N:Nat):List (Pc D):=[]
theorem qjY (N:Nat):∀u∈qph N,PcOk (X14 N) (qab Try.f47) u:=qam
def PzcE_0:PD D:={path:=[1,0],ins:=[.v 0 (.sl 53), .v 1 (.int .i64)],fx:=[],ks:=[],exs:=[⟨.normal,[.v 4 .bool],[]⟩],keep:=[]}
def qu8 (N:Nat):PzcE_0.F:=fun x=>qy9 N x.1 x.2.1
theorem qBY (N:Nat):CC (X14 N) (qab Try.f47) PzcE_0 (qu8 N):=CC.of (qz7 N) (us:=qph N) (fun u h _=>qjY N u h) (fun x=>by kernel_rfl)
def qw1 (N:Nat):List (Pc D):=PzcE_0.pc (X14 N) (qu8 N)::qph N
theorem qsc (N:Nat):∀u∈qw1 N,PcOk (X14 N) (qab Try.f47) u:=qac ((qBY N).pc (by kernel_rfl)) (qjY N)
def dzcE:FD D:={f:=47,np:=2,ins:=[.v 0 (.sl 53), .v 1 (.int .i64)],fx:=[],rcv:=none,rk:=0,outs:=[.v 4 .bool],ofx:=[],rvs:=[.tmp 4],flat:=true}
def FzcE (N:Nat):dzcE.F:=fun r x=>zcE N x.1 x.2.1
theorem ozcE (N:Nat):FOk Try.prog (X14 N) dzcE (FzcE N):=⟨⟨Try.f47,_,Try.func47,rfl,by kernel_rfl,by kernel_rfl,rfl,FC.of (qz7 N) (us:=qw1 N) (fun u h _=>qsc N u h) (fun r x=>by kernel_rfl)⟩,by kernel_rfl,by kernel_rfl,by kernel_rfl,by kernel_rfl⟩
def fs15 (N:Nat):List (FE D):=⟨dzcE,FzcE N⟩::fs14 N
theorem qzn (N:Nat):∀y∈fs15 N,CallOk X0 y.d y.F:=all_cons (x:=⟨dzcE,FzcE N⟩) (ozcE N) (qzm N)
def X15 (N:Nat):Ev Try.prog D:=X0.with (fs15 N)
theorem qz8 (N:Nat):COk (X15 N):=COk.of (qzn N)
def qpc (N:Nat):List (Pc D):=[]
theorem qjT (N:Nat):∀u∈qpc N,PcOk (X15 N) (qab Try.f17) u:=qam
def PzbX_0:PD D:={path:=[1,0,1,0],ins:=[.v 0 (.sl 70), .v 1 (.int .i64), .v 5 (.int .i64)],fx:=[],ks:=[],exs:=[⟨.exit 0,[],[]⟩,⟨.ret,[.v 4 .bool],[]⟩],keep:=[]}
def quQ (N:Nat) (n:Nat):PzbX_0.F:=fun x=>qhX N x.1 x.2.1 n x.2.2.1
theorem qBG (N:Nat) (n:Nat):CC (X15 N) (qab Try.f17) PzbX_0 (quQ N n):=CC.loop (qz8 N) (us:=qpc N) (c:=sub (qab Try.f17) [1,0,1,0,0]) (by kernel_rfl) (by kernel_rfl) (fun u h _=>qjT N u h) (fun x=>rfl) (fun n x=>by kernel_rfl) n
def qwW (N:Nat):List (Pc D):=PzbX_0.pc (X15 N) (quQ N N)::qpc N
theorem qr7 (N:Nat):∀u∈qwW N,PcOk (X15 N) (qab Try.f17) u:=qac ((qBG N N).pc (by kernel_rfl)) (qjT N)
def dzbX:FD D:={f:=17,np:=2,ins:=[.v 0 (.sl 70), .v 1 (.int .i64)],fx:=[],rcv:=none,rk:=0,outs:=[.v 4 .bool],ofx:=[],rvs:=[.tmp 4],flat:=true}
def FzbX (N:Nat):dzbX.F:=fun r x=>zbX N x.1 x.2.1
theorem ozbX (N:Nat):FOk Try.prog (X15 N) dzbX (FzbX N):=⟨⟨Try.f17,_,Try.func17,rfl,by kernel_rfl,by kernel_rfl,rfl,FC.of (qz8 N) (us:=qwW N) (fun u h _=>qr7 N u h) (fun r x=>by kernel_rfl)⟩,by kernel_rfl,by kernel_rfl,by kernel_rfl,by kernel_rfl⟩
def fs16 (N:Nat):List (FE D):=⟨dzbX,FzbX N⟩::fs15 N
theorem qzo (N:Nat):∀y∈fs16 N,CallOk X0 y.d y.F:=all_cons (x:=⟨dzbX,FzbX N⟩) (ozbX N) (qzn N)
def X16 (N:Nat):Ev Try.prog D:=X0.with (fs16 N)
theorem qz9 (N:Nat):COk (X16 N):=COk.of (qzo N)
def qpr (N:Nat):List (Pc D):=[]
theorem qj8 (N:Nat):∀u∈qpr N,PcOk (X16 N) (qab Try.f48) u:=qam
def PzcR_0:PD D:={path:=[1,0,1,0],ins:=[.v 0 (.sl 3), .v 1 (.int .i64), .v 5 (.int .i64)],fx:=[],ks:=[],exs:=[⟨.exit 0,[],[]⟩,⟨.ret,[.v 4 .bool],[]⟩],keep:=[]}
def qvv (N:Nat) (n:Nat):PzcR_0.F:=fun x=>qh3 N x.1 x.2.1 n x.2.2.1
theorem qCl (N:Nat) (n:Nat):CC (X16 N) (qab Try.f48) PzcR_0 (qvv N n):=CC.loop (qz9 N) (us:=qpr N) (c:=sub (qab Try.f48) [1,0,1,0,0]) (by kernel_rfl) (by kernel_rfl) (fun u h _=>qj8 N u h) (fun x=>rfl) (fun n x=>by kernel_rfl) n
def qxb (N:Nat):List (Pc D):=PzcR_0.pc (X16 N) (qvv N N)::qpr N
theorem qsm (N:Nat):∀u∈qxb N,PcOk (X16 N) (qab Try.f48) u:=qac ((qCl N N).pc (by kernel_rfl)) (qj8 N)
def dzcR:FD D:={f:=48,np:=2,ins:=[.v 0 (.sl 3), .v 1 (.int .i64)],fx:=[],rcv:=none,rk:=0,outs:=[.v 4 .bool],ofx:=[],rvs:=[.tmp 4],flat:=true}
def FzcR (N:Nat):dzcR.F:=fun r x=>zcR N x.1 x.2.1
theorem ozcR (N:Nat):FOk Try.prog (X16 N) dzcR (FzcR N):=⟨⟨Try.f48,_,Try.func48,rfl,by kernel_rfl,by kernel_rfl,rfl,FC.of (qz9 N) (us:=qxb N) (fun u h _=>qsm N u h) (fun r x=>by kernel_rfl)⟩,by kernel_rfl,by kernel_rfl,by kernel_rfl,by kernel_rfl⟩
def fs17 (N:Nat):List (FE D):=⟨dzcR,FzcR N⟩::fs16 N
theorem qzp (N:Nat):∀y∈fs17 N,CallOk X0 y.d y.F:=all_cons (x:=⟨dzcR,FzcR N⟩) (ozcR N) (qzo N)
def X17 (N:Nat):Ev Try.prog D:=X0.with (fs17 N)
theorem qlW (N:Nat):COk (X17 N):=COk.of (qzp N)
def qpg (N:Nat):List (Pc D):=[]
theorem qjX (N:Nat):∀u∈qpg N,PcOk (X17 N) (qab Try.f21) u:=qam
def PzcD_0:PD D:={path:=[1,1,0,0],ins:=[.v 0 (.sl 53), .v 1 (.sl 70), .v 5 (.int .i64)],fx:=[],ks:=[],exs:=[⟨.normal,[.v 50 .bool],[]⟩],keep:=[0,1,5]}
def qu3 (N:Nat):PzcD_0.F:=fun x=>qhY N x.1 x.2.1 x.2.2.1
theorem qBT (N:Nat):CC (X17 N) (qab Try.f21) PzcD_0 (qu3 N):=CC.of (qlW N) (us:=qpg N) (fun u h _=>qjX N u h) (fun x=>by kernel_rfl)
def qqo (N:Nat):List (Pc D):=PzcD_0.pc (X17 N) (qu3 N)::qpg N
theorem qk5 (N:Nat):∀u∈qqo N,PcOk (X17 N) (qab Try.f21) u:=qac ((qBT N).pc (by kernel_rfl)) (qjX N)
def PzcD_2:PD D:={path:=[1,1,1,0,1,0,0,1,0,0,0,0],ins:=[.v 0 (.sl 53), .v 1 (.sl 70), .v 6 (.int .i64)],fx:=[],ks:=[],exs:=[⟨.normal,[.v 82 .bool],[]⟩],keep:=[0,1,5,6]}
def qu5 (N:Nat):PzcD_2.F:=fun x=>qtp N x.1 x.2.1 x.2.2.1
theorem qBV (N:Nat):CC (X17 N) (qab Try.f21) PzcD_2 (qu5 N):=CC.of (qlW N) (us:=qqo N) (fun u h _=>qk5 N u h) (fun x=>by kernel_rfl)
def qqp (N:Nat):List (Pc D):=PzcD_2.pc (X17 N) (qu5 N)::qqo N
theorem qk6 (N:Nat):∀u∈qqp N,PcOk (X17 N) (qab Try.f21) u:=qac ((qBV N).pc (by kernel_rfl)) (qk5 N)
def PzcD_3:PD D:={path:=[1,1,1,0,1,0,0,1,0,0,1,0,0],ins:=[.v 0 (.sl 53), .v 1 (.sl 70), .v 5 (.int .i64), .v 6 (.int .i64)],fx:=[],ks:=[],exs:=[⟨.normal,[.v 136 .bool],[]⟩],keep:=[0,1,5,6]}
def qu6 (N:Nat):PzcD_3.F:=fun x=>qtq N x.1 x.2.1 x.2.2.1 x.2.2.2.1
theorem qBW (N:Nat):CC (X17 N) (qab Try.f21) PzcD_3 (qu6 N):=CC.of (qlW N) (us:=qqp N) (fun u h _=>qk6 N u h) (fun x=>by kernel_rfl)
def qqq (N:Nat):List (Pc D):=PzcD_3.pc (X17 N) (qu6 N)::qqp N
theorem qk7 (N:Nat):∀u∈qqq N,PcOk (X17 N) (qab Try.f21) u:=qac ((qBW N).pc (by kernel_rfl)) (qk6 N)
def PzcD_4:PD D:={path:=[1,1,1,0,1,0,0,1,0,0,1,1,0],ins:=[.v 0 (.sl 53), .v 1 (.sl 70), .v 5 (.int .i64), .v 6 (.int .i64)],fx:=[],ks:=[],exs:=[⟨.normal,[.v 164 .bool],[]⟩],keep:=[0,1,5,6]}
def qu7 (N:Nat):PzcD_4.F:=fun x=>qtr N x.1 x.2.1 x.2.2.1 x.2.2.2.1
theorem qBX (N:Nat):CC (X17 N) (qab Try.f21) PzcD_4 (qu7 N):=CC.of (qlW N) (us:=qqq N) (fun u h _=>qk7 N u h) (fun x=>by kernel_rfl)
def qqr (N:Nat):List (Pc D):=PzcD_4.pc (X17 N) (qu7 N)::qqq N
theorem qk8 (N:Nat):∀u∈qqr N,PcOk (X17 N) (qab Try.f21) u:=qac ((qBX N).pc (by kernel_rfl)) (qk7 N)
def PzcD_1:PD D:={path:=[1,1,1,0,1,0],ins:=[.v 0 (.sl 53), .v 1 (.sl 70), .v 5 (.int .i64), .v 6 (.int .i64)],fx:=[],ks:=[],exs:=[⟨.exit 0,[],[]⟩,⟨.ret,[.v 4 .bool],[]⟩],keep:=[]}
def qu4 (N:Nat) (n:Nat):PzcD_1.F:=fun x=>qhZ N x.1 x.2.1 x.2.2.1 n x.2.2.2.1
theorem qBU (N:Nat) (n:Nat):CC (X17 N) (qab Try.f21) PzcD_1 (qu4 N n):=CC.loop (qlW N) (us:=qqr N) (c:=sub (qab Try.f21) [1,1,1,0,1,0,0]) (by kernel_rfl) (by kernel_rfl) (fun u h _=>qk8 N u h) (fun x=>rfl) (fun n x=>by kernel_rfl) n
def qw0 (N:Nat):List (Pc D):=PzcD_1.pc (X17 N) (qu4 N N)::qqr N
theorem qsb (N:Nat):∀u∈qw0 N,PcOk (X17 N) (qab Try.f21) u:=qac ((qBU N N).pc (by kernel_rfl)) (qk8 N)
def dzcD:FD D:={f:=21,np:=2,ins:=[.v 0 (.sl 53), .v 1 (.sl 70)],fx:=[],rcv:=none,rk:=0,outs:=[.v 4 .bool],ofx:=[],rvs:=[.tmp 4],flat:=true}
def FzcD (N:Nat):dzcD.F:=fun r x=>zcD N x.1 x.2.1
theorem ozcD (N:Nat):FOk Try.prog (X17 N) dzcD (FzcD N):=⟨⟨Try.f21,_,Try.func21,rfl,by kernel_rfl,by kernel_rfl,rfl,FC.of (qlW N) (us:=qw0 N) (fun u h _=>qsb N u h) (fun r x=>by kernel_rfl)⟩,by kernel_rfl,by kernel_rfl,by kernel_rfl,by kernel_rfl⟩
def fs18 (N:Nat):List (FE D):=⟨dzcD,FzcD N⟩::fs17 N
theorem qzq (N:Nat):∀y∈fs18 N,CallOk X0 y.d y.F:=all_cons (x:=⟨dzcD,FzcD N⟩) (ozcD N) (qzp N)
def X18 (N:Nat):Ev Try.prog D:=X0.with (fs18 N)
theorem qAa (N:Nat):COk (X18 N):=COk.of (qzq N)
def qpp (N:Nat):List (Pc D):=[]
theorem qj6 (N:Nat):∀u∈qpp N,PcOk (X18 N) (qab Try.f8) u:=qam
def PzcP_0:PD D:={path:=[1,1,0,1,0],ins:=[.o 0 (.recv 48), .v 4 (.sl 53), .v 5 (.int .i64)],fx:=[(0, .box 0 0)],ks:=[2],exs:=[⟨.exit 0,[.u 0 (.recv 48)],[]⟩,⟨.ret,[.u 0 (.recv 48), .v 2 (.sl 53), .o 3 (.sl 70)],[(3, .c (.own 1))]⟩],keep:=[0,4]}
def qvt (N:Nat) (n:Nat):PzcP_0.F:=fun x=>qgZ N x.2.1 n x.1 x.2.2.1
theorem qCj (N:Nat) (n:Nat):CC (X18 N) (qab Try.f8) PzcP_0 (qvt N n):=CC.loop (qAa N) (us:=qpp N) (c:=sub (qab Try.f8) [1,1,0,1,0,0]) (by kernel_rfl) (by kernel_rfl) (fun u h _=>qj6 N u h) (fun x=>rfl) (fun n x=>by kernel_rfl) n
def qw9 (N:Nat):List (Pc D):=PzcP_0.pc (X18 N) (qvt N N)::qpp N
theorem qsk (N:Nat):∀u∈qw9 N,PcOk (X18 N) (qab Try.f8) u:=qac ((qCj N N).pc (by kernel_rfl)) (qj6 N)
def dzcP:FD D:={f:=8,np:=1,ins:=[],fx:=[],rcv:=some (0,48),rk:=2,outs:=[.v 2 (.sl 53), .o 3 (.sl 70), .u 0 (.recv 48)],ofx:=[(3, .c (.own 1))],rvs:=[.tmp 2, .tmp 3],flat:=false}
def FzcP (N:Nat):dzcP.F:=fun r x=>zcP N r
theorem ozcP (N:Nat):FOk Try.prog (X18 N) dzcP (FzcP N):=⟨⟨Try.f8,_,Try.func8,rfl,by kernel_rfl,by kernel_rfl,rfl,FC.of (qAa N) (us:=qw9 N) (fun u h _=>qsk N u h) (fun r x=>by kernel_rfl)⟩,by kernel_rfl,by kernel_rfl,by kernel_rfl,by kernel_rfl⟩
def fs19 (N:Nat):List (FE D):=⟨dzcP,FzcP N⟩::fs18 N
theorem qzr (N:Nat):∀y∈fs19 N,CallOk X0 y.d y.F:=all_cons (x:=⟨dzcP,FzcP N⟩) (ozcP N) (qzq N)
def X19 (N:Nat):Ev Try.prog D:=X0.with (fs19 N)
theorem qAb (N:Nat):COk (X19 N):=COk.of (qzr N)
def qpa (N:Nat):List (Pc D):=[]
theorem qjR (N:Nat):∀u∈qpa N,PcOk (X19 N) (qab Try.f67) u:=qam
def PzbV_0:PD D:={path:=[1,0,1,0,0,1],ins:=[.o 1 (.box 53), .v 4 (.int .i64), .v 5 .bool],fx:=[(1, .box 0 0)],ks:=[1],exs:=[⟨.normal,[.v 5 .bool],[]⟩],keep:=[1,4]}
def quM (N:Nat):PzbV_0.F:=fun x=>qy2 N x.2.1 x.2.2.1
theorem qBC (N:Nat):CC (X19 N) (qab Try.f67) PzbV_0 (quM N):=CC.of (qAb N) (us:=qpa N) (fun u h _=>qjR N u h) (fun x=>by kernel_rfl)
def qwU (N:Nat):List (Pc D):=PzbV_0.pc (X19 N) (quM N)::qpa N
theorem qr5 (N:Nat):∀u∈qwU N,PcOk (X19 N) (qab Try.f67) u:=qac ((qBC N).pc (by kernel_rfl)) (qjR N)
def dzbV:FD D:={f:=67,np:=1,ins:=[.v 0 (.agg 53)],fx:=[],rcv:=none,rk:=0,outs:=[.o 2 (.sl 3)],ofx:=[(2, .c (.own 0))],rvs:=[.tmp 2],flat:=false}
def FzbV (N:Nat):dzbV.F:=fun r x=>zbV N x.1
theorem ozbV (N:Nat):FOk Try.prog (X19 N) dzbV (FzbV N):=⟨⟨Try.f67,_,Try.func67,rfl,by kernel_rfl,by kernel_rfl,rfl,FC.of (qAb N) (us:=qwU N) (fun u h _=>qr5 N u h) (fun r x=>by kernel_rfl)⟩,by kernel_rfl,by kernel_rfl,by kernel_rfl,by kernel_rfl⟩
def fs20 (N:Nat):List (FE D):=⟨dzbV,FzbV N⟩::fs19 N
theorem qzs (N:Nat):∀y∈fs20 N,CallOk X0 y.d y.F:=all_cons (x:=⟨dzbV,FzbV N⟩) (ozbV N) (qzr N)
def X20 (N:Nat):Ev Try.prog D:=X0.with (fs20 N)
theorem qqT (N:Nat):COk (X20 N):=COk.of (qzs N)
def qpb (N:Nat):List (Pc D):=[]
theorem qjS (N:Nat):∀u∈qpb N,PcOk (X20 N) (qab Try.f92) u:=qam
def PzbW_0:PD D:={path:=[1,0,0],ins:=[.v 0 .str],fx:=[],ks:=[],exs:=[⟨.normal,[.v 11 .bool],[]⟩],keep:=[0]}
def quN (N:Nat):PzbW_0.F:=fun x=>qy3 N x.1
theorem qBD (N:Nat):CC (X20 N) (qab Try.f92) PzbW_0 (quN N):=CC.of (qqT N) (us:=qpb N) (fun u h _=>qjS N u h) (fun x=>by kernel_rfl)
def qqd (N:Nat):List (Pc D):=PzbW_0.pc (X20 N) (quN N)::qpb N
theorem qkU (N:Nat):∀u∈qqd N,PcOk (X20 N) (qab Try.f92) u:=qac ((qBD N).pc (by kernel_rfl)) (qjS N)
def PzbW_2:PD D:={path:=[1,1,0,1,0,0,1,1,0,0,1,0],ins:=[.v 0 .str, .v 3 (.int .i64)],fx:=[],ks:=[],exs:=[⟨.normal,[.v 38 .bool],[]⟩],keep:=[0,13,14]}
def quP (N:Nat):PzbW_2.F:=fun x=>qtn N x.1 x.2.1
theorem qBF (N:Nat):CC (X20 N) (qab Try.f92) PzbW_2 (quP N):=CC.of (qqT N) (us:=qqd N) (fun u h _=>qkU N u h) (fun x=>by kernel_rfl)
def qqe (N:Nat):List (Pc D):=PzbW_2.pc (X20 N) (quP N)::qqd N
theorem qkV (N:Nat):∀u∈qqe N,PcOk (X20 N) (qab Try.f92) u:=qac ((qBF N).pc (by kernel_rfl)) (qkU N)
def PzbW_1:PD D:={path:=[1,1,0,1,0],ins:=[.v 0 .str, .v 13 (.int .i64), .v 14 (.int .i64)],fx:=[],ks:=[],exs:=[⟨.exit 0,[],[]⟩,⟨.ret,[.v 2 .bool],[]⟩],keep:=[]}
def quO (N:Nat) (n:Nat):PzbW_1.F:=fun x=>qhW N x.1 x.2.1 n x.2.2.1
theorem qBE (N:Nat) (n:Nat):CC (X20 N) (qab Try.f92) PzbW_1 (quO N n):=CC.loop (qqT N) (us:=qqe N) (c:=sub (qab Try.f92) [1,1,0,1,0,0]) (by kernel_rfl) (by kernel_rfl) (fun u h _=>qkV N u h) (fun x=>rfl) (fun n x=>by kernel_rfl) n
def qwV (N:Nat):List (Pc D):=PzbW_1.pc (X20 N) (quO N N)::qqe N
theorem qr6 (N:Nat):∀u∈qwV N,PcOk (X20 N) (qab Try.f92) u:=qac ((qBE N N).pc (by kernel_rfl)) (qkV N)
def dzbW:FD D:={f:=92,np:=1,ins:=[.v 0 .str],fx:=[],rcv:=none,rk:=0,outs:=[.v 2 .bool],ofx:=[],rvs:=[.tmp 2],flat:=true}
def FzbW (N:Nat):dzbW.F:=fun r x=>zbW N x.1
theorem ozbW (N:Nat):FOk Try.prog (X20 N) dzbW (FzbW N):=⟨⟨Try.f92,_,Try.func92,rfl,by kernel_rfl,by kernel_rfl,rfl,FC.of (qqT N) (us:=qwV N) (fun u h _=>qr6 N u h) (fun r x=>by kernel_rfl)⟩,by kernel_rfl,by kernel_rfl,by kernel_rfl,by kernel_rfl⟩
def fs21 (N:Nat):List (FE D):=⟨dzbW,FzbW N⟩::fs20 N
theorem qzt (N:Nat):∀y∈fs21 N,CallOk X0 y.d y.F:=all_cons (x:=⟨dzbW,FzbW N⟩) (ozbW N) (qzs N)
def X21 (N:Nat):Ev Try.prog D:=X0.with (fs21 N)
theorem qe6 (N:Nat):COk (X21 N):=COk.of (qzt N)
def qoV (N:Nat):List (Pc D):=[]
theorem qjC (N:Nat):∀u∈qoV N,PcOk (X21 N) (qab Try.f82) u:=qam
def PzaV_0:PD D:={path:=[1,1,0,0],ins:=[.o 1 (.box 53), .o 3 (.sl 3)],fx:=[(1, .box 0 0),(3, .c (.own 1))],ks:=[1,1],exs:=[⟨.normal,[.v 17 .bool],[]⟩],keep:=[1,3]}
def qt3 (N:Nat):PzaV_0.F:=fun x=>qyL N x.1 x.2.1
theorem qAU (N:Nat):CC (X21 N) (qab Try.f82) PzaV_0 (qt3 N):=CC.of (qe6 N) (us:=qoV N) (fun u h _=>qjC N u h) (fun x=>by kernel_rfl)
def qpK (N:Nat):List (Pc D):=PzaV_0.pc (X21 N) (qt3 N)::qoV N
theorem qkr (N:Nat):∀u∈qpK N,PcOk (X21 N) (qab Try.f82) u:=qac ((qAU N).pc (by kernel_rfl)) (qjC N)
def PzaV_2:PD D:={path:=[1,1,1,0,1,0,0,1,1,0,0,1,0,0],ins:=[.o 1 (.box 53), .v 5 (.int .i64)],fx:=[(1, .box 0 0)],ks:=[1],exs:=[⟨.normal,[.v 30 .bool],[]⟩],keep:=[1,3,4,5,18,19,20]}
def qt5 (N:Nat):PzaV_2.F:=fun x=>qyM N x.2.1
theorem qAW (N:Nat):CC (X21 N) (qab Try.f82) PzaV_2 (qt5 N):=CC.of (qe6 N) (us:=qpK N) (fun u h _=>qkr N u h) (fun x=>by kernel_rfl)
def qpM (N:Nat):List (Pc D):=PzaV_2.pc (X21 N) (qt5 N)::qpK N
theorem qkt (N:Nat):∀u∈qpM N,PcOk (X21 N) (qab Try.f82) u:=qac ((qAW N).pc (by kernel_rfl)) (qkr N)
def PzaV_3:PD D:={path:=[1,1,1,0,1,0,0,1,1,0,0,1,1,1,0],ins:=[.o 1 (.box 53), .v 5 (.int .i64), .v 33 (.sl 3), .v 34 (.int .i64), .v 35 (.int .i64)],fx:=[(1, .box 0 0)],ks:=[1],exs:=[⟨.exit 2,[],[]⟩,⟨.ret,[.v 2 .bool],[]⟩],keep:=[1,3,18,19,20]}
def qt6 (N:Nat) (n:Nat):PzaV_3.F:=fun x=>qgQ N x.2.1 x.2.2.1 x.2.2.2.1 n x.2.2.2.2.1
theorem qAX (N:Nat) (n:Nat):CC (X21 N) (qab Try.f82) PzaV_3 (qt6 N n):=CC.loop (qe6 N) (us:=qpM N) (c:=sub (qab Try.f82) [1,1,1,0,1,0,0,1,1,0,0,1,1,1,0,0]) (by kernel_rfl) (by kernel_rfl) (fun u h _=>qkt N u h) (fun x=>rfl) (fun n x=>by kernel_rfl) n
def qpN (N:Nat):List (Pc D):=PzaV_3.pc (X21 N) (qt6 N N)::qpM N
theorem qku (N:Nat):∀u∈qpN N,PcOk (X21 N) (qab Try.f82) u:=qac ((qAX N N).pc (by kernel_rfl)) (qkt N)
def PzaV_1:PD D:={path:=[1,1,1,0,1,0],ins:=[.o 1 (.box 53), .v 3 (.sl 3), .v 18 (.sl 3), .v 19 (.int .i64), .v 20 (.int .i64)],fx:=[(1, .box 0 0)],ks:=[1],exs:=[⟨.exit 0,[],[]⟩,⟨.ret,[.v 2 .bool],[]⟩],keep:=[1]}
def qt4 (N:Nat) (n:Nat):PzaV_1.F:=fun x=>qgP N x.2.1 x.2.2.1 x.2.2.2.1 n x.2.2.2.2.1
theorem qAV (N:Nat) (n:Nat):CC (X21 N) (qab Try.f82) PzaV_1 (qt4 N n):=CC.loop (qe6 N) (us:=qpN N) (c:=sub (qab Try.f82) [1,1,1,0,1,0,0]) (by kernel_rfl) (by kernel_rfl) (fun u h _=>qku N u h) (fun x=>rfl) (fun n x=>by kernel_rfl) n
def qpL (N:Nat):List (Pc D):=PzaV_1.pc (X21 N) (qt4 N N)::qpN N
theorem qks (N:Nat):∀u∈qpL N,PcOk (X21 N) (qab Try.f82) u:=qac ((qAV N N).pc (by kernel_rfl)) (qku N)
def PzaV_4:PD D:={path:=[1,1,1,1,0,1,0,0],ins:=[.o 1 (.box 53)],fx:=[(1, .box 0 0)],ks:=[1],exs:=[⟨.normal,[.v 2 .bool],[]⟩],keep:=[]}
def qt7 (N:Nat):PzaV_4.F:=fun x=>qyN N x.1
theorem qAY (N:Nat):CC (X21 N) (qab Try.f82) PzaV_4 (qt7 N):=CC.of (qe6 N) (us:=qpL N) (fun u h _=>qks N u h) (fun x=>by kernel_rfl)
def qpO (N:Nat):List (Pc D):=PzaV_4.pc (X21 N) (qt7 N)::qpL N
theorem qkv (N:Nat):∀u∈qpO N,PcOk (X21 N) (qab Try.f82) u:=qac ((qAY N).pc (by kernel_rfl)) (qks N)
def PzaV_5:PD D:={path:=[1,1,1,1,1,0],ins:=[.o 1 (.box 53)],fx:=[(1, .box 0 0)],ks:=[1],exs:=[⟨.normal,[.v 2 .bool],[]⟩],keep:=[]}
def qt8 (N:Nat):PzaV_5.F:=fun x=>qyO N x.1
theorem qAZ (N:Nat):CC (X21 N) (qab Try.f82) PzaV_5 (qt8 N):=CC.of (qe6 N) (us:=qpO N) (fun u h _=>qkv N u h) (fun x=>by kernel_rfl)
def qwF (N:Nat):List (Pc D):=PzaV_5.pc (X21 N) (qt8 N)::qpO N
theorem qrQ (N:Nat):∀u∈qwF N,PcOk (X21 N) (qab Try.f82) u:=qac ((qAZ N).pc (by kernel_rfl)) (qkv N)
def dzaV:FD D:={f:=82,np:=1,ins:=[.v 0 (.agg 53)],fx:=[],rcv:=none,rk:=0,outs:=[.v 2 .bool],ofx:=[],rvs:=[.tmp 2],flat:=true}
def FzaV (N:Nat):dzaV.F:=fun r x=>zaV N x.1
theorem ozaV (N:Nat):FOk Try.prog (X21 N) dzaV (FzaV N):=⟨⟨Try.f82,_,Try.func82,rfl,by kernel_rfl,by kernel_rfl,rfl,FC.of (qe6 N) (us:=qwF N) (fun u h _=>qrQ N u h) (fun r x=>by kernel_rfl)⟩,by kernel_rfl,by kernel_rfl,by kernel_rfl,by kernel_rfl⟩
theorem nzaV (N:Nat):CallOk X0 dzaV (FzaV N):=(ozaV N).call.base
def qoP (N:Nat):List (Pc D):=[]
theorem qjw (N:Nat):∀u∈qoP N,PcOk (X21 N) (qab Try.f67) u:=qam
def PzaN_0:PD D:={path:=[1,0,1,0,0,1],ins:=[.o 1 (.box 53), .v 4 (.int .i64), .v 5 .bool],fx:=[(1, .box 0 0)],ks:=[1],exs:=[⟨.normal,[.v 5 .bool],[]⟩],keep:=[1,4]}
def qtN (N:Nat):PzaN_0.F:=fun x=>qyI N x.2.1 x.2.2.1
theorem qAE (N:Nat):CC (X21 N) (qab Try.f67) PzaN_0 (qtN N):=CC.of (qe6 N) (us:=qoP N) (fun u h _=>qjw N u h) (fun x=>by kernel_rfl)
def qwy (N:Nat):List (Pc D):=PzaN_0.pc (X21 N) (qtN N)::qoP N
theorem qrJ (N:Nat):∀u∈qwy N,PcOk (X21 N) (qab Try.f67) u:=qac ((qAE N).pc (by kernel_rfl)) (qjw N)
def dzaN:FD D:={f:=67,np:=1,ins:=[.v 0 (.agg 53)],fx:=[],rcv:=none,rk:=0,outs:=[],ofx:=[(2, .c .nilS)],rvs:=[.tmp 2],flat:=false}
def FzaN (N:Nat):dzaN.F:=fun r x=>zaN N x.1
theorem ozaN (N:Nat):FOk Try.prog (X21 N) dzaN (FzaN N):=⟨⟨Try.f67,_,Try.func67,rfl,by kernel_rfl,by kernel_rfl,rfl,FC.of (qe6 N) (us:=qwy N) (fun u h _=>qrJ N u h) (fun r x=>by kernel_rfl)⟩,by kernel_rfl,by kernel_rfl,by kernel_rfl,by kernel_rfl⟩
theorem nzaN (N:Nat):CallOk X0 dzaN (FzaN N):=(ozaN N).call.base
def Y21 (N:Nat):Ev Try.prog D:=(X21 N).sub ⟨dzaN,FzaN N⟩
theorem qhe (N:Nat):COk (Y21 N):=COk.sub (qe6 N) (nzaN N).up
def qoU (N:Nat):List (Pc D):=[]
theorem qjB (N:Nat):∀u∈qoU N,PcOk (Y21 N) (qab Try.f82) u:=qam
def PzaU_0:PD D:={path:=[1,1,0,0],ins:=[.o 1 (.box 53)],fx:=[(1, .box 0 0),(3, .c .nilS)],ks:=[1],exs:=[⟨.normal,[.v 17 .bool],[]⟩],keep:=[1,3]}
def qtZ (N:Nat):PzaU_0.F:=fun x=>qyK N
theorem qAQ (N:Nat):CC (Y21 N) (qab Try.f82) PzaU_0 (qtZ N):=CC.of (qhe N) (us:=qoU N) (fun u h _=>qjB N u h) (fun x=>by kernel_rfl)
def qpH (N:Nat):List (Pc D):=PzaU_0.pc (Y21 N) (qtZ N)::qoU N
theorem qko (N:Nat):∀u∈qpH N,PcOk (Y21 N) (qab Try.f82) u:=qac ((qAQ N).pc (by kernel_rfl)) (qjB N)
def PzaU_1:PD D:={path:=[1,1,1,0,1,0],ins:=[.o 1 (.box 53), .v 19 (.int .i64), .v 20 (.int .i64)],fx:=[(1, .box 0 0),(3, .c .nilS),(18, .c .nilS)],ks:=[1],exs:=[⟨.exit 0,[],[]⟩],keep:=[1]}
def qt0 (N:Nat) (n:Nat):PzaU_1.F:=fun x=>qDB N x.2.1 n x.2.2.1
theorem qAR (N:Nat) (n:Nat):CC (Y21 N) (qab Try.f82) PzaU_1 (qt0 N n):=CC.loop (qhe N) (us:=qpH N) (c:=sub (qab Try.f82) [1,1,1,0,1,0,0]) (by kernel_rfl) (by kernel_rfl) (fun u h _=>qko N u h) (fun x=>rfl) (fun n x=>by kernel_rfl) n
def qpI (N:Nat):List (Pc D):=PzaU_1.pc (Y21 N) (qt0 N N)::qpH N
theorem qkp (N:Nat):∀u∈qpI N,PcOk (Y21 N) (qab Try.f82) u:=qac ((qAR N N).pc (by kernel_rfl)) (qko N)
def PzaU_2:PD D:={path:=[1,1,1,1,0,1,0,0],ins:=[.o 1 (.box 53)],fx:=[(1, .box 0 0)],ks:=[1],exs:=[⟨.normal,[.v 2 .bool],[]⟩],keep:=[]}
def qt1 (N:Nat):PzaU_2.F:=fun x=>qDC N x.1
theorem qAS (N:Nat):CC (Y21 N) (qab Try.f82) PzaU_2 (qt1 N):=CC.of (qhe N) (us:=qpI N) (fun u h _=>qkp N u h) (fun x=>by kernel_rfl)
def qpJ (N:Nat):List (Pc D):=PzaU_2.pc (Y21 N) (qt1 N)::qpI N
theorem qkq (N:Nat):∀u∈qpJ N,PcOk (Y21 N) (qab Try.f82) u:=qac ((qAS N).pc (by kernel_rfl)) (qkp N)
def PzaU_3:PD D:={path:=[1,1,1,1,1,0],ins:=[.o 1 (.box 53)],fx:=[(1, .box 0 0)],ks:=[1],exs:=[⟨.normal,[.v 2 .bool],[]⟩],keep:=[]}
def qt2 (N:Nat):PzaU_3.F:=fun x=>qDD N x.1
theorem qAT (N:Nat):CC (Y21 N) (qab Try.f82) PzaU_3 (qt2 N):=CC.of (qhe N) (us:=qpJ N) (fun u h _=>qkq N u h) (fun x=>by kernel_rfl)
def qwE (N:Nat):List (Pc D):=PzaU_3.pc (Y21 N) (qt2 N)::qpJ N
theorem qrP (N:Nat):∀u∈qwE N,PcOk (Y21 N) (qab Try.f82) u:=qac ((qAT N).pc (by kernel_rfl)) (qkq N)
def dzaU:FD D:={f:=82,np:=1,ins:=[.v 0 (.agg 53)],fx:=[],rcv:=none,rk:=0,outs:=[.v 2 .bool],ofx:=[],rvs:=[.tmp 2],flat:=true}
def FzaU (N:Nat):dzaU.F:=fun r x=>zaU N x.1
theorem ozaU (N:Nat):FOk Try.prog (Y21 N) dzaU (FzaU N):=⟨⟨Try.f82,_,Try.func82,rfl,by kernel_rfl,by kernel_rfl,rfl,FC.of (qhe N) (us:=qwE N) (fun u h _=>qrP N u h) (fun r x=>by kernel_rfl)⟩,by kernel_rfl,by kernel_rfl,by kernel_rfl,by kernel_rfl⟩
theorem nzaU (N:Nat):CallOk X0 dzaU (FzaU N):=(ozaU N).call.sub.base
def dzbJ:FD D:=dzaV
def FzbJ (N:Nat):dzbJ.F:=fun r x=>orI (FzaU N r x) (FzaV N r x)
theorem wzbJ (N:Nat):CallOk X0 dzbJ (FzbJ N):=CallOk.or (F1:=FzaU N) (F2:=FzaV N) rfl (fun r x y h=>qC6 h) (nzaU N) (nzaV N)
def fs22 (N:Nat):List (FE D):=⟨dzbJ,FzbJ N⟩::fs21 N
theorem qzu (N:Nat):∀y∈fs22 N,CallOk X0 y.d y.F:=qap (x:=⟨dzbJ,FzbJ N⟩) (wzbJ N) (qzt N)
def X22 (N:Nat):Ev Try.prog D:=X0.with (fs22 N)
theorem qxu (N:Nat):COk (X22 N):=COk.of (qzu N)
def qo3 (N:Nat):List (Pc D):=[]
theorem qjK (N:Nat):∀u∈qo3 N,PcOk (X22 N) (qab Try.f64) u:=qam
def PzbI_1:PD D:={path:=[1,1,1,1,0,1,0,0,1,1,0,0,1,1,1,1,1,0],ins:=[.o 3 (.map 122 9 4), .o 4 (.map 60 3 3), .o 31 (.sl 3), .v 32 (.int .i64), .v 33 (.int .i64)],fx:=[(3, .c (.own 0)),(4, .c (.own 1)),(31, .c (.own 2))],ks:=[1,2,1],exs:=[⟨.exit 2,[.u 1 (.map 60 3 3)],[]⟩,⟨.ret,[.v 2 (.int .i64)],[]⟩],keep:=[3,4,14,15,16]}
def quE (N:Nat) (n:Nat):PzbI_1.F:=fun x=>qgU N x.2.2.1 x.2.2.2.1 n x.2.1 x.2.2.2.2.1
theorem qBu (N:Nat) (n:Nat):CC (X22 N) (qab Try.f64) PzbI_1 (quE N n):=CC.loop (qxu N) (us:=qo3 N) (c:=sub (qab Try.f64) [1,1,1,1,0,1,0,0,1,1,0,0,1,1,1,1,1,0,0]) (by kernel_rfl) (by kernel_rfl) (fun u h _=>qjK N u h) (fun x=>rfl) (fun n x=>by kernel_rfl) n
def qqb (N:Nat):List (Pc D):=PzbI_1.pc (X22 N) (quE N N)::qo3 N
theorem qkS (N:Nat):∀u∈qqb N,PcOk (X22 N) (qab Try.f64) u:=qac ((qBu N N).pc (by kernel_rfl)) (qjK N)
def PzbI_0:PD D:={path:=[1,1,1,1,0,1,0],ins:=[.o 3 (.map 122 9 4), .o 4 (.map 60 3 3), .v 14 (.sl 53), .v 15 (.int .i64), .v 16 (.int .i64)],fx:=[(3, .c (.own 0)),(4, .c (.own 1))],ks:=[0,0],exs:=[⟨.exit 0,[],[]⟩,⟨.ret,[.v 2 (.int .i64)],[]⟩],keep:=[]}
def quD (N:Nat) (n:Nat):PzbI_0.F:=fun x=>qmu N x.2.2.1 x.2.2.2.1 n x.1 x.2.1 x.2.2.2.2.1
theorem qBt (N:Nat) (n:Nat):CC (X22 N) (qab Try.f64) PzbI_0 (quD N n):=CC.loop (qxu N) (us:=qqb N) (c:=sub (qab Try.f64) [1,1,1,1,0,1,0,0]) (by kernel_rfl) (by kernel_rfl) (fun u h _=>qkS N u h) (fun x=>rfl) (fun n x=>by kernel_rfl) n
def qwN (N:Nat):List (Pc D):=PzbI_0.pc (X22 N) (quD N N)::qqb N
theorem qrY (N:Nat):∀u∈qwN N,PcOk (X22 N) (qab Try.f64) u:=qac ((qBt N N).pc (by kernel_rfl)) (qkS N)
def dzbI:FD D:={f:=64,np:=1,ins:=[.v 0 (.sl 53)],fx:=[],rcv:=none,rk:=0,outs:=[.v 2 (.int .i64)],ofx:=[],rvs:=[.tmp 2],flat:=true}
def FzbI (N:Nat):dzbI.F:=fun r x=>zbI N x.1
theorem ozbI (N:Nat):FOk Try.prog (X22 N) dzbI (FzbI N):=⟨⟨Try.f64,_,Try.func64,rfl,by kernel_rfl,by kernel_rfl,rfl,FC.of (qxu N) (us:=qwN N) (fun u h _=>qrY N u h) (fun r x=>by kernel_rfl)⟩,by kernel_rfl,by kernel_rfl,by kernel_rfl,by kernel_rfl⟩
def fs23 (N:Nat):List (FE D):=⟨dzbI,FzbI N⟩::fs22 N
theorem qzv (N:Nat):∀y∈fs23 N,CallOk X0 y.d y.F:=all_cons (x:=⟨dzbI,FzbI N⟩) (ozbI N) (qzu N)
def X23 (N:Nat):Ev Try.prog D:=X0.with (fs23 N)
theorem qAc (N:Nat):COk (X23 N):=COk.of (qzv N)
def qo5 (N:Nat):List (Pc D):=[]
theorem qjM (N:Nat):∀u∈qo5 N,PcOk (X23 N) (qab Try.f83) u:=qam
def PzbO_0:PD D:={path:=[1,0],ins:=[.v 0 (.sl 53), .v 1 (.int .i64)],fx:=[],ks:=[],exs:=[⟨.normal,[.v 4 .bool],[]⟩],keep:=[]}
def quG (N:Nat):PzbO_0.F:=fun x=>qtk N x.1 x.2.1
theorem qBw (N:Nat):CC (X23 N) (qab Try.f83) PzbO_0 (quG N):=CC.of (qAc N) (us:=qo5 N) (fun u h _=>qjM N u h) (fun x=>by kernel_rfl)
def qwP (N:Nat):List (Pc D):=PzbO_0.pc (X23 N) (quG N)::qo5 N
theorem qr0 (N:Nat):∀u∈qwP N,PcOk (X23 N) (qab Try.f83) u:=qac ((qBw N).pc (by kernel_rfl)) (qjM N)
def dzbO:FD D:={f:=83,np:=2,ins:=[.v 0 (.sl 53), .v 1 (.int .i64)],fx:=[],rcv:=none,rk:=0,outs:=[.v 4 .bool],ofx:=[],rvs:=[.tmp 4],flat:=true}
def FzbO (N:Nat):dzbO.F:=fun r x=>zbO N x.1 x.2.1
theorem ozbO (N:Nat):FOk Try.prog (X23 N) dzbO (FzbO N):=⟨⟨Try.f83,_,Try.func83,rfl,by kernel_rfl,by kernel_rfl,rfl,FC.of (qAc N) (us:=qwP N) (fun u h _=>qr0 N u h) (fun r x=>by kernel_rfl)⟩,by kernel_rfl,by kernel_rfl,by kernel_rfl,by kernel_rfl⟩
def fs24 (N:Nat):List (FE D):=⟨dzbO,FzbO N⟩::fs23 N
theorem qzw (N:Nat):∀y∈fs24 N,CallOk X0 y.d y.F:=all_cons (x:=⟨dzbO,FzbO N⟩) (ozbO N) (qzv N)
def X24 (N:Nat):Ev Try.prog D:=X0.with (fs24 N)
theorem qAd (N:Nat):COk (X24 N):=COk.of (qzw N)
def qo9 (N:Nat):List (Pc D):=[]
theorem qjQ (N:Nat):∀u∈qo9 N,PcOk (X24 N) (qab Try.f85) u:=qam
def PzbU_0:PD D:={path:=[1,0,0],ins:=[.v 0 (.sl 53), .v 1 (.int .i64)],fx:=[],ks:=[],exs:=[⟨.normal,[.v 12 .bool],[]⟩],keep:=[0,1]}
def quL (N:Nat):PzbU_0.F:=fun x=>qy1 N x.1 x.2.1
theorem qBB (N:Nat):CC (X24 N) (qab Try.f85) PzbU_0 (quL N):=CC.of (qAd N) (us:=qo9 N) (fun u h _=>qjQ N u h) (fun x=>by kernel_rfl)
def qwT (N:Nat):List (Pc D):=PzbU_0.pc (X24 N) (quL N)::qo9 N
theorem qr4 (N:Nat):∀u∈qwT N,PcOk (X24 N) (qab Try.f85) u:=qac ((qBB N).pc (by kernel_rfl)) (qjQ N)
def dzbU:FD D:={f:=85,np:=2,ins:=[.v 0 (.sl 53), .v 1 (.int .i64)],fx:=[],rcv:=none,rk:=0,outs:=[.o 4 (.sl 3)],ofx:=[(4, .c (.own 0))],rvs:=[.tmp 4],flat:=false}
def FzbU (N:Nat):dzbU.F:=fun r x=>zbU N x.1 x.2.1
theorem ozbU (N:Nat):FOk Try.prog (X24 N) dzbU (FzbU N):=⟨⟨Try.f85,_,Try.func85,rfl,by kernel_rfl,by kernel_rfl,rfl,FC.of (qAd N) (us:=qwT N) (fun u h _=>qr4 N u h) (fun r x=>by kernel_rfl)⟩,by kernel_rfl,by kernel_rfl,by kernel_rfl,by kernel_rfl⟩
def fs25 (N:Nat):List (FE D):=⟨dzbU,FzbU N⟩::fs24 N
theorem qzx (N:Nat):∀y∈fs25 N,CallOk X0 y.d y.F:=all_cons (x:=⟨dzbU,FzbU N⟩) (ozbU N) (qzw N)
def X25 (N:Nat):Ev Try.prog D:=X0.with (fs25 N)
theorem qAe (N:Nat):COk (X25 N):=COk.of (qzx N)
def qoI (N:Nat):List (Pc D):=[]
theorem qjp (N:Nat):∀u∈qoI N,PcOk (X25 N) (qab Try.f93) u:=qam
def PzaC_0:PD D:={path:=[1,0,1,0],ins:=[.v 0 (.sl 3), .v 1 (.int .i64), .v 7 (.int .i64), .v 8 (.int .i64)],fx:=[],ks:=[],exs:=[⟨.exit 0,[],[]⟩,⟨.ret,[.v 4 (.int .i64)],[]⟩],keep:=[]}
def qtB (N:Nat) (n:Nat):PzaC_0.F:=fun x=>qhQ N x.1 x.2.1 x.2.2.1 n x.2.2.2.1
theorem qAs (N:Nat) (n:Nat):CC (X25 N) (qab Try.f93) PzaC_0 (qtB N n):=CC.loop (qAe N) (us:=qoI N) (c:=sub (qab Try.f93) [1,0,1,0,0]) (by kernel_rfl) (by kernel_rfl) (fun u h _=>qjp N u h) (fun x=>rfl) (fun n x=>by kernel_rfl) n
def qwr (N:Nat):List (Pc D):=PzaC_0.pc (X25 N) (qtB N N)::qoI N
theorem qrC (N:Nat):∀u∈qwr N,PcOk (X25 N) (qab Try.f93) u:=qac ((qAs N N).pc (by kernel_rfl)) (qjp N)
def dzaC:FD D:={f:=93,np:=2,ins:=[.v 0 (.sl 3), .v 1 (.int .i64)],fx:=[],rcv:=none,rk:=0,outs:=[.v 4 (.int .i64)],ofx:=[],rvs:=[.tmp 4],flat:=true}
def FzaC (N:Nat):dzaC.F:=fun r x=>zaC N x.1 x.2.1
theorem ozaC (N:Nat):FOk Try.prog (X25 N) dzaC (FzaC N):=⟨⟨Try.f93,_,Try.func93,rfl,by kernel_rfl,by kernel_rfl,rfl,FC.of (qAe N) (us:=qwr N) (fun u h _=>qrC N u h) (fun r x=>by kernel_rfl)⟩,by kernel_rfl,by kernel_rfl,by kernel_rfl,by kernel_rfl⟩
def fs26 (N:Nat):List (FE D):=⟨dzaC,FzaC N⟩::fs25 N
theorem qzy (N:Nat):∀y∈fs26 N,CallOk X0 y.d y.F:=all_cons (x:=⟨dzaC,FzaC N⟩) (ozaC N) (qzx N)
def X26 (N:Nat):Ev Try.prog D:=X0.with (fs26 N)
theorem qDZ (N:Nat):COk (X26 N):=COk.of (qzy N)
def qwg (N:Nat):List (Pc D):=[]
theorem qrs (N:Nat):∀u∈qwg N,PcOk (X26 N) (qab Try.f84) u:=qam
def dzaA:FD D:={f:=84,np:=2,ins:=[.v 0 (.sl 3), .v 1 (.int .i64)],fx:=[],rcv:=none,rk:=0,outs:=[.v 4 .bool],ofx:=[],rvs:=[.tmp 4],flat:=true}
def FzaA (N:Nat):dzaA.F:=fun r x=>zaA N x.1 x.2.1
theorem ozaA (N:Nat):FOk Try.prog (X26 N) dzaA (FzaA N):=⟨⟨Try.f84,_,Try.func84,rfl,by kernel_rfl,by kernel_rfl,rfl,FC.of (qDZ N) (us:=qwg N) (fun u h _=>qrs N u h) (fun r x=>by kernel_rfl)⟩,by kernel_rfl,by kernel_rfl,by kernel_rfl,by kernel_rfl⟩
def fs27 (N:Nat):List (FE D):=⟨dzaA,FzaA N⟩::fs26 N
theorem qzz (N:Nat):∀y∈fs27 N,CallOk X0 y.d y.F:=all_cons (x:=⟨dzaA,FzaA N⟩) (ozaA N) (qzy N)
def X27 (N:Nat):Ev Try.prog D:=X0.with (fs27 N)
theorem qqU (N:Nat):COk (X27 N):=COk.of (qzz N)
def qoN (N:Nat):List (Pc D):=[]
theorem qju (N:Nat):∀u∈qoN N,PcOk (X27 N) (qab Try.f38) u:=qam
def PzaJ_2:PD D:={path:=[1,0,1,0,0,1,1,0,0,1,1,1,0],ins:=[.v 2 (.int .i64), .v 7 (.int .i64), .o 22 (.sl 3), .v 23 (.int .i64), .v 24 (.int .i64)],fx:=[(22, .c (.own 0))],ks:=[1],exs:=[⟨.exit 2,[],[]⟩,⟨.ret,[.v 6 (.int .i64)],[]⟩],keep:=[1,2,11,12,13]}
def qtL (N:Nat) (n:Nat):PzaJ_2.F:=fun x=>qgO N x.1 x.2.1 x.2.2.1 x.2.2.2.1 n x.2.2.2.2.1
theorem qAC (N:Nat) (n:Nat):CC (X27 N) (qab Try.f38) PzaJ_2 (qtL N n):=CC.loop (qqU N) (us:=qoN N) (c:=sub (qab Try.f38) [1,0,1,0,0,1,1,0,0,1,1,1,0,0]) (by kernel_rfl) (by kernel_rfl) (fun u h _=>qju N u h) (fun x=>rfl) (fun n x=>by kernel_rfl) n
def qpA (N:Nat):List (Pc D):=PzaJ_2.pc (X27 N) (qtL N N)::qoN N
theorem qkh (N:Nat):∀u∈qpA N,PcOk (X27 N) (qab Try.f38) u:=qac ((qAC N N).pc (by kernel_rfl)) (qju N)
def PzaJ_1:PD D:={path:=[1,0,1,0,0,1,1,0],ins:=[.v 1 (.int .i64), .v 2 (.int .i64), .v 11 (.sl 53), .v 13 (.int .i64)],fx:=[],ks:=[],exs:=[⟨.normal,[],[]⟩,⟨.ret,[.v 6 (.int .i64)],[]⟩],keep:=[1,2,11,12,13]}
def qtK (N:Nat):PzaJ_1.F:=fun x=>qyH N x.1 x.2.1 x.2.2.1 x.2.2.2.1
theorem qAB (N:Nat):CC (X27 N) (qab Try.f38) PzaJ_1 (qtK N):=CC.of (qqU N) (us:=qpA N) (fun u h _=>qkh N u h) (fun x=>by kernel_rfl)
def qpz (N:Nat):List (Pc D):=PzaJ_1.pc (X27 N) (qtK N)::qpA N
theorem qkg (N:Nat):∀u∈qpz N,PcOk (X27 N) (qab Try.f38) u:=qac ((qAB N).pc (by kernel_rfl)) (qkh N)
def PzaJ_0:PD D:={path:=[1,0,1,0],ins:=[.v 1 (.int .i64), .v 2 (.int .i64), .v 11 (.sl 53), .v 12 (.int .i64), .v 13 (.int .i64)],fx:=[],ks:=[],exs:=[⟨.exit 0,[],[]⟩,⟨.ret,[.v 6 (.int .i64)],[]⟩],keep:=[]}
def qtJ (N:Nat) (n:Nat):PzaJ_0.F:=fun x=>qhS N x.1 x.2.1 x.2.2.1 x.2.2.2.1 n x.2.2.2.2.1
theorem qAA (N:Nat) (n:Nat):CC (X27 N) (qab Try.f38) PzaJ_0 (qtJ N n):=CC.loop (qqU N) (us:=qpz N) (c:=sub (qab Try.f38) [1,0,1,0,0]) (by kernel_rfl) (by kernel_rfl) (fun u h _=>qkg N u h) (fun x=>rfl) (fun n x=>by kernel_rfl) n
def qww (N:Nat):List (Pc D):=PzaJ_0.pc (X27 N) (qtJ N N)::qpz N
theorem qrH (N:Nat):∀u∈qww N,PcOk (X27 N) (qab Try.f38) u:=qac ((qAA N N).pc (by kernel_rfl)) (qkg N)
def dzaJ:FD D:={f:=38,np:=3,ins:=[.v 0 (.sl 53), .v 1 (.int .i64), .v 2 (.int .i64)],fx:=[],rcv:=none,rk:=0,outs:=[.v 6 (.int .i64)],ofx:=[],rvs:=[.tmp 6],flat:=true}
def FzaJ (N:Nat):dzaJ.F:=fun r x=>zaJ N x.1 x.2.1 x.2.2.1
theorem ozaJ (N:Nat):FOk Try.prog (X27 N) dzaJ (FzaJ N):=⟨⟨Try.f38,_,Try.func38,rfl,by kernel_rfl,by kernel_rfl,rfl,FC.of (qqU N) (us:=qww N) (fun u h _=>qrH N u h) (fun r x=>by kernel_rfl)⟩,by kernel_rfl,by kernel_rfl,by kernel_rfl,by kernel_rfl⟩
def fs28 (N:Nat):List (FE D):=⟨dzaJ,FzaJ N⟩::fs27 N
theorem qzA (N:Nat):∀y∈fs28 N,CallOk X0 y.d y.F:=all_cons (x:=⟨dzaJ,FzaJ N⟩) (ozaJ N) (qzz N)
def X28 (N:Nat):Ev Try.prog D:=X0.with (fs28 N)
theorem qAf (N:Nat):COk (X28 N):=COk.of (qzA N)
def qoT (N:Nat):List (Pc D):=[]
theorem qjA (N:Nat):∀u∈qoT N,PcOk (X28 N) (qab Try.f68) u:=qam
def PzaT_0:PD D:={path:=[1,1,0,1,0],ins:=[.v 2 (.int .i64), .o 7 (.sl 3), .v 14 (.int .i64), .v 15 (.int .i64)],fx:=[(7, .c (.own 0)),(13, .c (.own 0))],ks:=[0],exs:=[⟨.exit 0,[],[]⟩,⟨.ret,[.v 6 (.sl 3)],[]⟩],keep:=[]}
def qtY (N:Nat) (n:Nat):PzaT_0.F:=fun x=>qcK N x.1 x.2.2.1 n x.2.1 x.2.2.2.1
theorem qAP (N:Nat) (n:Nat):CC (X28 N) (qab Try.f68) PzaT_0 (qtY N n):=CC.loop (qAf N) (us:=qoT N) (c:=sub (qab Try.f68) [1,1,0,1,0,0]) (by kernel_rfl) (by kernel_rfl) (fun u h _=>qjA N u h) (fun x=>rfl) (fun n x=>by kernel_rfl) n
def qwD (N:Nat):List (Pc D):=PzaT_0.pc (X28 N) (qtY N N)::qoT N
theorem qrO (N:Nat):∀u∈qwD N,PcOk (X28 N) (qab Try.f68) u:=qac ((qAP N N).pc (by kernel_rfl)) (qjA N)
def dzaT:FD D:={f:=68,np:=3,ins:=[.v 0 (.sl 53), .v 1 (.int .i64), .v 2 (.int .i64)],fx:=[],rcv:=none,rk:=0,outs:=[.v 6 (.sl 3)],ofx:=[],rvs:=[.tmp 6],flat:=false}
def FzaT (N:Nat):dzaT.F:=fun r x=>zaT N x.1 x.2.1 x.2.2.1
theorem ozaT (N:Nat):FOk Try.prog (X28 N) dzaT (FzaT N):=⟨⟨Try.f68,_,Try.func68,rfl,by kernel_rfl,by kernel_rfl,rfl,FC.of (qAf N) (us:=qwD N) (fun u h _=>qrO N u h) (fun r x=>by kernel_rfl)⟩,by kernel_rfl,by kernel_rfl,by kernel_rfl,by kernel_rfl⟩
def fs29 (N:Nat):List (FE D):=⟨dzaT,FzaT N⟩::fs28 N
theorem qzB (N:Nat):∀y∈fs29 N,CallOk X0 y.d y.F:=all_cons (x:=⟨dzaT,FzaT N⟩) (ozaT N) (qzA N)
def X29 (N:Nat):Ev Try.prog D:=X0.with (fs29 N)
theorem qlX (N:Nat):COk (X29 N):=COk.of (qzB N)
def qpi (N:Nat):List (Pc D):=[]
theorem qjZ (N:Nat):∀u∈qpi N,PcOk (X29 N) (qab Try.f65) u:=qam
def PzcG_0:PD D:={path:=[1,1,0,0],ins:=[.v 0 (.sl 53), .v 1 (.sl 70), .v 5 (.int .i64)],fx:=[],ks:=[],exs:=[⟨.normal,[.v 47 .bool],[]⟩],keep:=[0,1,5]}
def qu9 (N:Nat):PzcG_0.F:=fun x=>qmx N x.1 x.2.1 x.2.2.1
theorem qBZ (N:Nat):CC (X29 N) (qab Try.f65) PzcG_0 (qu9 N):=CC.of (qlX N) (us:=qpi N) (fun u h _=>qjZ N u h) (fun x=>by kernel_rfl)
def qqs (N:Nat):List (Pc D):=PzcG_0.pc (X29 N) (qu9 N)::qpi N
theorem qk9 (N:Nat):∀u∈qqs N,PcOk (X29 N) (qab Try.f65) u:=qac ((qBZ N).pc (by kernel_rfl)) (qjZ N)
def PzcG_1:PD D:={path:=[1,1,1,0,0],ins:=[.v 0 (.sl 53), .v 1 (.sl 70), .v 5 (.int .i64)],fx:=[],ks:=[],exs:=[⟨.normal,[.v 75 .bool],[]⟩],keep:=[0,1,5]}
def qva (N:Nat):PzcG_1.F:=fun x=>qts N x.1 x.2.1 x.2.2.1
theorem qB0 (N:Nat):CC (X29 N) (qab Try.f65) PzcG_1 (qva N):=CC.of (qlX N) (us:=qqs N) (fun u h _=>qk9 N u h) (fun x=>by kernel_rfl)
def qqt (N:Nat):List (Pc D):=PzcG_1.pc (X29 N) (qva N)::qqs N
theorem qla (N:Nat):∀u∈qqt N,PcOk (X29 N) (qab Try.f65) u:=qac ((qB0 N).pc (by kernel_rfl)) (qk9 N)
def PzcG_3:PD D:={path:=[1,1,1,1,0,1,0,0,1,1,0,0,1,1,0,0],ins:=[.v 0 (.sl 53), .o 7 (.box 70), .o 8 (.box 70)],fx:=[(7, .box 0 0),(8, .box 1 0)],ks:=[1,1],exs:=[⟨.normal,[.v 108 .bool],[]⟩],keep:=[0,1,5,6,7,77,78,79]}
def qvc (N:Nat):PzcG_3.F:=fun x=>qtt N x.1 x.2.1 x.2.2.1
theorem qB2 (N:Nat):CC (X29 N) (qab Try.f65) PzcG_3 (qvc N):=CC.of (qlX N) (us:=qqt N) (fun u h _=>qla N u h) (fun x=>by kernel_rfl)
def qqu (N:Nat):List (Pc D):=PzcG_3.pc (X29 N) (qvc N)::qqt N
theorem qlb (N:Nat):∀u∈qqu N,PcOk (X29 N) (qab Try.f65) u:=qac ((qB2 N).pc (by kernel_rfl)) (qla N)
def PzcG_4:PD D:={path:=[1,1,1,1,0,1,0,0,1,1,0,0,1,1,1,0],ins:=[.v 0 (.sl 53), .v 5 (.int .i64), .v 6 (.int .i64), .o 7 (.box 70)],fx:=[(7, .box 0 0)],ks:=[1],exs:=[⟨.normal,[.v 124 .bool],[]⟩],keep:=[0,1,5,77,78,79]}
def qvd (N:Nat):PzcG_4.F:=fun x=>qtu N x.1 x.2.1 x.2.2.1 x.2.2.2.1
theorem qB3 (N:Nat):CC (X29 N) (qab Try.f65) PzcG_4 (qvd N):=CC.of (qlX N) (us:=qqu N) (fun u h _=>qlb N u h) (fun x=>by kernel_rfl)
def qqv (N:Nat):List (Pc D):=PzcG_4.pc (X29 N) (qvd N)::qqu N
theorem qlc (N:Nat):∀u∈qqv N,PcOk (X29 N) (qab Try.f65) u:=qac ((qB3 N).pc (by kernel_rfl)) (qlb N)
def PzcG_2:PD D:={path:=[1,1,1,1,0,1,0],ins:=[.v 0 (.sl 53), .v 1 (.sl 70), .v 5 (.int .i64), .v 77 (.sl 70), .v 78 (.int .i64), .v 79 (.int .i64)],fx:=[],ks:=[],exs:=[⟨.exit 0,[],[]⟩,⟨.ret,[.v 4 .bool],[]⟩],keep:=[]}
def qvb (N:Nat) (n:Nat):PzcG_2.F:=fun x=>qh0 N x.1 x.2.1 x.2.2.1 x.2.2.2.1 x.2.2.2.2.1 n x.2.2.2.2.2.1
theorem qB1 (N:Nat) (n:Nat):CC (X29 N) (qab Try.f65) PzcG_2 (qvb N n):=CC.loop (qlX N) (us:=qqv N) (c:=sub (qab Try.f65) [1,1,1,1,0,1,0,0]) (by kernel_rfl) (by kernel_rfl) (fun u h _=>qlc N u h) (fun x=>rfl) (fun n x=>by kernel_rfl) n
def qw2 (N:Nat):List (Pc D):=PzcG_2.pc (X29 N) (qvb N N)::qqv N
theorem qsd (N:Nat):∀u∈qw2 N,PcOk (X29 N) (qab Try.f65) u:=qac ((qB1 N N).pc (by kernel_rfl)) (qlc N)
def dzcG:FD D:={f:=65,np:=2,ins:=[.v 0 (.sl 53), .v 1 (.sl 70)],fx:=[],rcv:=none,rk:=0,outs:=[.v 4 .bool],ofx:=[],rvs:=[.tmp 4],flat:=true}
def FzcG (N:Nat):dzcG.F:=fun r x=>zcG N x.1 x.2.1
theorem ozcG (N:Nat):FOk Try.prog (X29 N) dzcG (FzcG N):=⟨⟨Try.f65,_,Try.func65,rfl,by kernel_rfl,by kernel_rfl,rfl,FC.of (qlX N) (us:=qw2 N) (fun u h _=>qsd N u h) (fun r x=>by kernel_rfl)⟩,by kernel_rfl,by kernel_rfl,by kernel_rfl,by kernel_rfl⟩
def fs30 (N:Nat):List (FE D):=⟨dzcG,FzcG N⟩::fs29 N
theorem qzC (N:Nat):∀y∈fs30 N,CallOk X0 y.d y.F:=all_cons (x:=⟨dzcG,FzcG N⟩) (ozcG N) (qzB N)
def X30 (N:Nat):Ev Try.prog D:=X0.with (fs30 N)
theorem qAg (N:Nat):COk (X30 N):=COk.of (qzC N)
def qo6 (N:Nat):List (Pc D):=[]
theorem qjN (N:Nat):∀u∈qo6 N,PcOk (X30 N) (qab Try.f66) u:=qam
def PzbP_0:PD D:={path:=[1,1,0,1,0],ins:=[.o 3 (.map 67 3 4), .v 7 (.sl 70), .v 8 (.int .i64), .v 9 (.int .i64)],fx:=[(3, .c (.own 0))],ks:=[0],exs:=[⟨.exit 0,[],[]⟩,⟨.ret,[.v 2 .bool],[]⟩],keep:=[]}
def quH (N:Nat) (n:Nat):PzbP_0.F:=fun x=>qgV N x.2.1 x.2.2.1 n x.1 x.2.2.2.1
theorem qBx (N:Nat) (n:Nat):CC (X30 N) (qab Try.f66) PzbP_0 (quH N n):=CC.loop (qAg N) (us:=qo6 N) (c:=sub (qab Try.f66) [1,1,0,1,0,0]) (by kernel_rfl) (by kernel_rfl) (fun u h _=>qjN N u h) (fun x=>rfl) (fun n x=>by kernel_rfl) n
def qwQ (N:Nat):List (Pc D):=PzbP_0.pc (X30 N) (quH N N)::qo6 N
theorem qr1 (N:Nat):∀u∈qwQ N,PcOk (X30 N) (qab Try.f66) u:=qac ((qBx N N).pc (by kernel_rfl)) (qjN N)
def dzbP:FD D:={f:=66,np:=1,ins:=[.v 0 (.sl 70)],fx:=[],rcv:=none,rk:=0,outs:=[.v 2 .bool],ofx:=[],rvs:=[.tmp 2],flat:=true}
def FzbP (N:Nat):dzbP.F:=fun r x=>zbP N x.1
theorem ozbP (N:Nat):FOk Try.prog (X30 N) dzbP (FzbP N):=⟨⟨Try.f66,_,Try.func66,rfl,by kernel_rfl,by kernel_rfl,rfl,FC.of (qAg N) (us:=qwQ N) (fun u h _=>qr1 N u h) (fun r x=>by kernel_rfl)⟩,by kernel_rfl,by kernel_rfl,by kernel_rfl,by kernel_rfl⟩
def fs31 (N:Nat):List (FE D):=⟨dzbP,FzbP N⟩::fs30 N
theorem qzD (N:Nat):∀y∈fs31 N,CallOk X0 y.d y.F:=all_cons (x:=⟨dzbP,FzbP N⟩) (ozbP N) (qzC N)
def X31 (N:Nat):Ev Try.prog D:=X0.with (fs31 N)
theorem qAh (N:Nat):COk (X31 N):=COk.of (qzD N)
def qo4 (N:Nat):List (Pc D):=[]
theorem qjL (N:Nat):∀u∈qo4 N,PcOk (X31 N) (qab Try.f34) u:=qam
def PzbN_0:PD D:={path:=[1,0],ins:=[.v 0 (.sl 53), .v 1 (.sl 70)],fx:=[],ks:=[],exs:=[⟨.normal,[.v 4 .bool],[]⟩],keep:=[]}
def quF (N:Nat):PzbN_0.F:=fun x=>qyZ N x.1 x.2.1
theorem qBv (N:Nat):CC (X31 N) (qab Try.f34) PzbN_0 (quF N):=CC.of (qAh N) (us:=qo4 N) (fun u h _=>qjL N u h) (fun x=>by kernel_rfl)
def qwO (N:Nat):List (Pc D):=PzbN_0.pc (X31 N) (quF N)::qo4 N
theorem qrZ (N:Nat):∀u∈qwO N,PcOk (X31 N) (qab Try.f34) u:=qac ((qBv N).pc (by kernel_rfl)) (qjL N)
def dzbN:FD D:={f:=34,np:=2,ins:=[.v 0 (.sl 53), .v 1 (.sl 70)],fx:=[],rcv:=none,rk:=0,outs:=[.v 4 .bool],ofx:=[],rvs:=[.tmp 4],flat:=true}
def FzbN (N:Nat):dzbN.F:=fun r x=>zbN N x.1 x.2.1
theorem ozbN (N:Nat):FOk Try.prog (X31 N) dzbN (FzbN N):=⟨⟨Try.f34,_,Try.func34,rfl,by kernel_rfl,by kernel_rfl,rfl,FC.of (qAh N) (us:=qwO N) (fun u h _=>qrZ N u h) (fun r x=>by kernel_rfl)⟩,by kernel_rfl,by kernel_rfl,by kernel_rfl,by kernel_rfl⟩
def fs32 (N:Nat):List (FE D):=⟨dzbN,FzbN N⟩::fs31 N
theorem qzE (N:Nat):∀y∈fs32 N,CallOk X0 y.d y.F:=all_cons (x:=⟨dzbN,FzbN N⟩) (ozbN N) (qzD N)
def X32 (N:Nat):Ev Try.prog D:=X0.with (fs32 N)
theorem qqV (N:Nat):COk (X32 N):=COk.of (qzE N)
def qoQ (N:Nat):List (Pc D):=[]
theorem qjx (N:Nat):∀u∈qoQ N,PcOk (X32 N) (qab Try.f29) u:=qam
def PzaO_2:PD D:={path:=[1,1,1,0,1,0,0,1,1,0,0,1,1,0,1,1,0],ins:=[.o 6 (.sl 33), .o 8 (.box 70), .o 9 (.box 53)],fx:=[(6, .c (.own 0)),(8, .box 1 0),(9, .box 2 0)],ks:=[1,1,1],exs:=[⟨.normal,[.v 35 .bool],[]⟩],keep:=[0,6,8,9,14,15,16]}
def qtQ (N:Nat):PzaO_2.F:=fun x=>qmr N x.2.1 x.2.2.1
theorem qAH (N:Nat):CC (X32 N) (qab Try.f29) PzaO_2 (qtQ N):=CC.of (qqV N) (us:=qoQ N) (fun u h _=>qjx N u h) (fun x=>by kernel_rfl)
def qpC (N:Nat):List (Pc D):=PzaO_2.pc (X32 N) (qtQ N)::qoQ N
theorem qkj (N:Nat):∀u∈qpC N,PcOk (X32 N) (qab Try.f29) u:=qac ((qAH N).pc (by kernel_rfl)) (qjx N)
def PzaO_1:PD D:={path:=[1,1,1,0,1,0,0,1,1,0],ins:=[.v 0 (.sl 53), .o 6 (.sl 33), .v 14 (.sl 70), .v 16 (.int .i64)],fx:=[(6, .c (.own 0))],ks:=[0],exs:=[⟨.normal,[.o 6 (.sl 33)],[(6, .c (.own 1))]⟩],keep:=[0,14,15,16]}
def qtP (N:Nat):PzaO_1.F:=fun x=>qs3 N x.1 x.2.1 x.2.2.1 x.2.2.2.1
theorem qAG (N:Nat):CC (X32 N) (qab Try.f29) PzaO_1 (qtP N):=CC.of (qqV N) (us:=qpC N) (fun u h _=>qkj N u h) (fun x=>by kernel_rfl)
def qpB (N:Nat):List (Pc D):=PzaO_1.pc (X32 N) (qtP N)::qpC N
theorem qki (N:Nat):∀u∈qpB N,PcOk (X32 N) (qab Try.f29) u:=qac ((qAG N).pc (by kernel_rfl)) (qkj N)
def PzaO_0:PD D:={path:=[1,1,1,0,1,0],ins:=[.v 0 (.sl 53), .o 6 (.sl 33), .v 14 (.sl 70), .v 15 (.int .i64), .v 16 (.int .i64)],fx:=[(6, .c (.own 0))],ks:=[0],exs:=[⟨.exit 0,[.o 6 (.sl 33)],[(6, .c (.own 1))]⟩],keep:=[]}
def qtO (N:Nat) (n:Nat):PzaO_0.F:=fun x=>qhT N x.1 x.2.2.1 x.2.2.2.1 n x.2.1 x.2.2.2.2.1
theorem qAF (N:Nat) (n:Nat):CC (X32 N) (qab Try.f29) PzaO_0 (qtO N n):=CC.loop (qqV N) (us:=qpB N) (c:=sub (qab Try.f29) [1,1,1,0,1,0,0]) (by kernel_rfl) (by kernel_rfl) (fun u h _=>qki N u h) (fun x=>rfl) (fun n x=>by kernel_rfl) n
def qwz (N:Nat):List (Pc D):=PzaO_0.pc (X32 N) (qtO N N)::qpB N
theorem qrK (N:Nat):∀u∈qwz N,PcOk (X32 N) (qab Try.f29) u:=qac ((qAF N N).pc (by kernel_rfl)) (qki N)
def dzaO:FD D:={f:=29,np:=2,ins:=[.v 0 (.sl 53), .v 1 (.sl 70)],fx:=[],rcv:=none,rk:=0,outs:=[.o 4 (.sl 33), .v 5 (.int .i64)],ofx:=[(4, .c (.own 0))],rvs:=[.tmp 4, .tmp 5],flat:=false}
def FzaO (N:Nat):dzaO.F:=fun r x=>zaO N x.1 x.2.1
theorem ozaO (N:Nat):FOk Try.prog (X32 N) dzaO (FzaO N):=⟨⟨Try.f29,_,Try.func29,rfl,by kernel_rfl,by kernel_rfl,rfl,FC.of (qqV N) (us:=qwz N) (fun u h _=>qrK N u h) (fun r x=>by kernel_rfl)⟩,by kernel_rfl,by kernel_rfl,by kernel_rfl,by kernel_rfl⟩
def fs33 (N:Nat):List (FE D):=⟨dzaO,FzaO N⟩::fs32 N
theorem qzF (N:Nat):∀y∈fs33 N,CallOk X0 y.d y.F:=all_cons (x:=⟨dzaO,FzaO N⟩) (ozaO N) (qzE N)
def X33 (N:Nat):Ev Try.prog D:=X0.with (fs33 N)
theorem qAi (N:Nat):COk (X33 N):=COk.of (qzF N)
def qoO (N:Nat):List (Pc D):=[]
theorem qjv (N:Nat):∀u∈qoO N,PcOk (X33 N) (qab Try.f36) u:=qam
def PzaK_0:PD D:={path:=[1,1,0,1,0],ins:=[.o 3 (.map 67 3 4), .v 7 (.sl 70), .v 8 (.int .i64), .v 9 (.int .i64)],fx:=[(3, .c (.own 0))],ks:=[2],exs:=[⟨.exit 0,[.u 0 (.map 67 3 4)],[]⟩],keep:=[3]}
def qtM (N:Nat) (n:Nat):PzaK_0.F:=fun x=>qiP N x.2.1 x.2.2.1 n x.1 x.2.2.2.1
theorem qAD (N:Nat) (n:Nat):CC (X33 N) (qab Try.f36) PzaK_0 (qtM N n):=CC.loop (qAi N) (us:=qoO N) (c:=sub (qab Try.f36) [1,1,0,1,0,0]) (by kernel_rfl) (by kernel_rfl) (fun u h _=>qjv N u h) (fun x=>rfl) (fun n x=>by kernel_rfl) n
def qwx (N:Nat):List (Pc D):=PzaK_0.pc (X33 N) (qtM N N)::qoO N
theorem qrI (N:Nat):∀u∈qwx N,PcOk (X33 N) (qab Try.f36) u:=qac ((qAD N N).pc (by kernel_rfl)) (qjv N)
def dzaK:FD D:={f:=36,np:=1,ins:=[.v 0 (.sl 70)],fx:=[],rcv:=none,rk:=0,outs:=[.o 2 (.map 67 3 4)],ofx:=[(2, .c (.own 0))],rvs:=[.tmp 2],flat:=false}
def FzaK (N:Nat):dzaK.F:=fun r x=>zaK N x.1
theorem ozaK (N:Nat):FOk Try.prog (X33 N) dzaK (FzaK N):=⟨⟨Try.f36,_,Try.func36,rfl,by kernel_rfl,by kernel_rfl,rfl,FC.of (qAi N) (us:=qwx N) (fun u h _=>qrI N u h) (fun r x=>by kernel_rfl)⟩,by kernel_rfl,by kernel_rfl,by kernel_rfl,by kernel_rfl⟩
def fs34 (N:Nat):List (FE D):=⟨dzaK,FzaK N⟩::fs33 N
theorem qzG (N:Nat):∀y∈fs34 N,CallOk X0 y.d y.F:=all_cons (x:=⟨dzaK,FzaK N⟩) (ozaK N) (qzF N)
def X34 (N:Nat):Ev Try.prog D:=X0.with (fs34 N)
theorem qAj (N:Nat):COk (X34 N):=COk.of (qzG N)
def qo8 (N:Nat):List (Pc D):=[]
theorem qjP (N:Nat):∀u∈qo8 N,PcOk (X34 N) (qab Try.f60) u:=qam
def PzbT_0:PD D:={path:=[1,0,0],ins:=[.o 2 (.box 53), .o 3 (.box 70)],fx:=[(2, .box 0 0),(3, .box 1 0)],ks:=[1,1],exs:=[⟨.normal,[.v 16 .bool],[]⟩],keep:=[2]}
def quK (N:Nat):PzbT_0.F:=fun x=>qtm N x.1 x.2.1
theorem qBA (N:Nat):CC (X34 N) (qab Try.f60) PzbT_0 (quK N):=CC.of (qAj N) (us:=qo8 N) (fun u h _=>qjP N u h) (fun x=>by kernel_rfl)
def qwS (N:Nat):List (Pc D):=PzbT_0.pc (X34 N) (quK N)::qo8 N
theorem qr3 (N:Nat):∀u∈qwS N,PcOk (X34 N) (qab Try.f60) u:=qac ((qBA N).pc (by kernel_rfl)) (qjP N)
def dzbT:FD D:={f:=60,np:=2,ins:=[.v 0 (.agg 53), .v 1 (.agg 70)],fx:=[],rcv:=none,rk:=0,outs:=[.v 4 (.int .i64)],ofx:=[],rvs:=[.tmp 4],flat:=true}
def FzbT (N:Nat):dzbT.F:=fun r x=>zbT N x.1 x.2.1
theorem ozbT (N:Nat):FOk Try.prog (X34 N) dzbT (FzbT N):=⟨⟨Try.f60,_,Try.func60,rfl,by kernel_rfl,by kernel_rfl,rfl,FC.of (qAj N) (us:=qwS N) (fun u h _=>qr3 N u h) (fun r x=>by kernel_rfl)⟩,by kernel_rfl,by kernel_rfl,by kernel_rfl,by kernel_rfl⟩
def fs35 (N:Nat):List (FE D):=⟨dzbT,FzbT N⟩::fs34 N
theorem qzH (N:Nat):∀y∈fs35 N,CallOk X0 y.d y.F:=all_cons (x:=⟨dzbT,FzbT N⟩) (ozbT N) (qzG N)
def X35 (N:Nat):Ev Try.prog D:=X0.with (fs35 N)
theorem qAk (N:Nat):COk (X35 N):=COk.of (qzH N)
def dzaE:GD D:={f:=57,np:=3,ins:=[.o 100000000 (.box 23), .o 100000001 (.bx 71 [(0,5)]), .o 100000002 (.bx 67 [(0,6)]), .o 100000003 (.fb 88 57 [7]), .o 100000004 (.fb 98 58 [0,1,2,3,4]), .o 100000005 (.map 71 74 4), .o 100000006 (.map 67 3 4), .v 0 (.int .i64), .v 1 (.int .i64), .o 2 (.bx 60 [(0,8)]), .o 2002000 (.map 60 3 3)],fx:=[(2, .box 7 0)],ks:=[1,1,1,1,1,1,1,1,2],outs:=[.v 5 (.int .i64), .u 8 (.map 60 3 3)],ofx:=[],res:=[5]}
def FzaE (N:Nat):dzaE.pd.F:=fun x=>zaE N x.2.2.2.2.2.2.2.1 x.2.2.2.2.2.2.2.2.1 x.2.2.2.2.2.2.2.2.2.2.1
def qoJ (N:Nat):List (Pc D):=[]
theorem qjq (N:Nat):∀u∈qoJ N,PcOk (X35 N) (qab Try.f57) u:=qam
def PzaE_0:PD D:={path:=[1,0,1,0],ins:=[.o 100000000 (.box 23), .o 100000001 (.bx 71 [(0,5)]), .o 100000002 (.bx 67 [(0,6)]), .o 100000003 (.fb 88 57 [7]), .o 100000004 (.fb 98 58 [0,1,2,3,4]), .o 100000005 (.map 71 74 4), .o 100000006 (.map 67 3 4), .v 1 (.int .i64), .o 2 (.bx 60 [(0,8)]), .v 6 (.int .i64), .v 7 .bool, .o 2002000 (.map 60 3 3)],fx:=[(2, .box 7 0)],ks:=[1,1,1,1,1,1,1,1,1],exs:=[⟨.normal,[.v 19 .bool],[]⟩],keep:=[0,1,2]}
def qtC (N:Nat):PzaE_0.F:=fun x=>qsX N x.2.2.2.2.2.2.2.1 x.2.2.2.2.2.2.2.2.2.1 x.2.2.2.2.2.2.2.2.2.2.1
theorem qAt (N:Nat):CC (X35 N) (qab Try.f57) PzaE_0 (qtC N):=CC.of (qAk N) (us:=qoJ N) (fun u h _=>qjq N u h) (fun x=>by kernel_rfl)
def qws (N:Nat):List (Pc D):=PzaE_0.pc (X35 N) (qtC N)::qoJ N
theorem qrD (N:Nat):∀u∈qws N,PcOk (X35 N) (qab Try.f57) u:=qac ((qAt N).pc (by kernel_rfl)) (qjq N)
theorem ozaE (N:Nat):GOk Try.prog (X35 N) dzaE (FzaE N):=⟨⟨Try.f57,_,Try.func57,rfl,by kernel_rfl,by kernel_rfl,rfl,by kernel_rfl,CCn.of (qAk N) (us:=qws N) (fun u h _=>qrD N u h) (fun x=>by kernel_rfl)⟩⟩
theorem wzaE (N:Nat):CallG X0 dzaE (FzaE N):=(ozaE N).call.base
def fs36 (N:Nat):List (FE D):=fs35 N
theorem qzI (N:Nat):∀y∈fs36 N,CallOk X0 y.d y.F:=qzH N
def gs36 (N:Nat):List (GE D):=⟨dzaE,FzaE N⟩::[]
theorem qvH (N:Nat):∀y∈gs36 N,CallG X0 y.d y.F:=qcw (x:=⟨dzaE,FzaE N⟩) (wzaE N) (qxH)
def X36 (N:Nat):Ev Try.prog D:=(X0.with (fs36 N)).gen (gs36 N)
theorem qD0 (N:Nat):COk (X36 N):=COk.gen0 (COk.of (qzI N)) (qvH N)
def qwm (N:Nat):List (Pc D):=[]
theorem qry (N:Nat):∀u∈qwm N,PcOk (X36 N) (qab Try.f59) u:=qam
def dzbS:FD D:={f:=59,np:=2,ins:=[.v 0 (.agg 53), .v 1 (.int .i64)],fx:=[],rcv:=none,rk:=0,outs:=[.v 4 (.int .i64)],ofx:=[],rvs:=[.tmp 4],flat:=true}
def FzbS (N:Nat):dzbS.F:=fun r x=>zbS N x.1 x.2.1
theorem ozbS (N:Nat):FOk Try.prog (X36 N) dzbS (FzbS N):=⟨⟨Try.f59,_,Try.func59,rfl,by kernel_rfl,by kernel_rfl,rfl,FC.of (qD0 N) (us:=qwm N) (fun u h _=>qry N u h) (fun r x=>by kernel_rfl)⟩,by kernel_rfl,by kernel_rfl,by kernel_rfl,by kernel_rfl⟩
def fs37 (N:Nat):List (FE D):=⟨dzbS,FzbS N⟩::fs36 N
theorem qxi (N:Nat):∀y∈fs37 N,CallOk X0 y.d y.F:=qap (x:=⟨dzbS,FzbS N⟩) (CallOk.ch (CallOk.ch (ozbS N).call)) (qzI N)
def gs37 (N:Nat):List (GE D):=gs36 N
theorem qnb (N:Nat):∀y∈gs37 N,CallG X0 y.d y.F:=qvH N
def X37 (N:Nat):Ev Try.prog D:=(X0.with (fs37 N)).gen (gs37 N)
theorem qFk (N:Nat):COk (X37 N):=COk.gen0 (COk.of (qxi N)) (qnb N)
def dzaF:GD D:={f:=58,np:=6,ins:=[.v 0 (.agg 74), .o 1 (.box 23), .o 2 (.bx 71 [(0,5)]), .o 3 (.bx 67 [(0,6)]), .o 4 (.fb 88 57 [7]), .o 5 (.fb 98 58 [0,1,2,3,4]), .o 2002000 (.map 71 74 4), .o 2003000 (.map 67 3 4), .o 200016385 (.bx 60 [(0,8)]), .o 201048641 (.map 60 3 3)],fx:=[(1, .box 0 0),(2, .box 1 0),(3, .box 2 0),(4, .box 3 0),(5, .box 4 0)],ks:=[1,1,1,1,1,2,1,1,2],outs:=[.v 7 (.int .i64), .u 5 (.map 71 74 4), .u 8 (.map 60 3 3)],ofx:=[],res:=[7],fz:=true}
def FzaF (N rc:Nat):dzaF.pd.F:=fun x=>zaF N rc x.1 x.2.1 x.2.2.1 x.2.2.2.1 x.2.2.2.2.2.2.1 x.2.2.2.2.2.2.2.1 x.2.2.2.2.2.2.2.2.1 x.2.2.2.2.2.2.2.2.2.1
def Xr37 (N rc:Nat):Ev Try.prog D:=(X0.with (fs37 N)).gen (⟨dzaF,FzaF N rc⟩::gs37 N)
theorem qvB (N rc:Nat) (hr:CallG X0 dzaF (FzaF N rc)):COk (Xr37 N rc):=COk.gen0 (COk.of (qxi N)) (qcw (x:=⟨dzaF,FzaF N rc⟩) hr (qnb N))
def qoK (N rc:Nat):List (Pc D):=[]
theorem qjr (N rc:Nat) (hr:CallG X0 dzaF (FzaF N rc)):∀u∈qoK N rc,PcOk (Xr37 N rc) (qab Try.f58) u:=qam
def PzaF_0:PD D:={path:=[1,1,0,0],ins:=[.o 1 (.box 23), .o 2 (.bx 71 [(0,5)]), .o 3 (.bx 67 [(0,6)]), .o 4 (.fb 88 57 [7]), .o 5 (.fb 98 58 [0,1,2,3,4]), .v 6 (.rp 74), .v 8 (.int .i64), .o 2002000 (.map 71 74 4), .o 2003000 (.map 67 3 4), .o 200016385 (.bx 60 [(0,8)]), .o 201048641 (.map 60 3 3)],fx:=[(1, .box 0 0),(2, .box 1 0),(3, .box 2 0),(4, .box 3 0),(5, .box 4 0)],ks:=[1,1,1,1,1,1,1,1,1],exs:=[⟨.normal,[.v 28 .bool],[]⟩],keep:=[1,2,3,4,5,6,8]}
def qtD (N rc:Nat):PzaF_0.F:=fun x=>qsY N (zaF N rc) x.2.2.2.2.2.1 x.2.2.2.2.2.2.1 x.2.2.2.2.2.2.2.1 x.2.2.2.2.2.2.2.2.1
theorem qAu (N rc:Nat) (hr:CallG X0 dzaF (FzaF N rc)):CC (Xr37 N rc) (qab Try.f58) PzaF_0 (qtD N rc):=CC.of (qvB N rc hr) (us:=qoK N rc) (fun u h _=>qjr N rc hr u h) (fun x=>by kernel_rfl)
def qwt (N rc:Nat):List (Pc D):=PzaF_0.pc (Xr37 N rc) (qtD N rc)::qoK N rc
theorem qrE (N rc:Nat) (hr:CallG X0 dzaF (FzaF N rc)):∀u∈qwt N rc,PcOk (Xr37 N rc) (qab Try.f58) u:=qac ((qAu N rc hr).pc (by kernel_rfl)) (qjr N rc hr)
theorem ozaF (N rc:Nat) (hr:CallG X0 dzaF (FzaF N rc)):GOk Try.prog (Xr37 N rc) dzaF (FzaF N (rc+1)):=⟨⟨Try.f58,_,Try.func58,rfl,by kernel_rfl,by kernel_rfl,rfl,by kernel_rfl,CCn.of (qvB N rc hr) (us:=qwt N rc) (fun u h _=>qrE N rc hr u h) (fun x=>by kernel_rfl)⟩⟩
theorem wzaF (N:Nat):∀rc:Nat,CallG X0 dzaF (FzaF N rc)
 |0=>CallG.none fun x=>rfl
 |rc+1=>(ozaF N rc (wzaF N rc)).call.base.base
def fs38 (N:Nat):List (FE D):=fs37 N
theorem qzJ (N:Nat):∀y∈fs38 N,CallOk X0 y.d y.F:=qxi N
def gs38 (N:Nat):List (GE D):=⟨dzaF,FzaF N N⟩::gs37 N
theorem qvI (N:Nat):∀y∈gs38 N,CallG X0 y.d y.F:=qcw (x:=⟨dzaF,FzaF N N⟩) (wzaF N N) (qnb N)
def X38 (N:Nat):Ev Try.prog D:=(X0.with (fs38 N)).gen (gs38 N)
theorem qD1 (N:Nat):COk (X38 N):=COk.gen0 (COk.of (qzJ N)) (qvI N)
def Y38 (N:Nat):Ev Try.prog D:=(X38 N).cuts fun x lo hi=>match x,lo,hi with| .func 57,none,none=>5| .func 58,none,none=>5|_,_,_=>0
theorem qmR (N:Nat):COk (Y38 N):=COk.cuts (qD1 N)
def qo2 (N:Nat):List (Pc D):=[]
theorem qjJ (N:Nat):∀u∈qo2 N,PcOk (Y38 N) (qab Try.f30) u:=qam
def PzbH_1:PD D:={path:=[1,1,1,1,1,1,1,0,1,0,0,1,1,0],ins:=[.o 2 (.box 23), .o 8 (.bx 60 [(0,3)]), .o 10 (.fb 98 58 [0,4,5,6,2]), .v 21 (.sl 70), .v 23 (.int .i64), .o 2008000 (.map 60 3 3), .o 200040962 (.bx 71 [(0,7)]), .o 200040963 (.bx 67 [(0,8)]), .o 200040964 (.fb 88 57 [1]), .o 202621569 (.map 71 74 4), .o 202621633 (.map 67 3 4)],fx:=[(2, .box 0 0),(8, .box 1 0),(10, .box 2 0)],ks:=[1,1,1,2,1,1,1,2,1],exs:=[⟨.normal,[.u 3 (.map 60 3 3), .u 7 (.map 71 74 4)],[]⟩,⟨.ret,[.v 5 (.int .i64)],[(4, .c .nilM)]⟩],keep:=[2,8,10,21,22,23]}
def quC (N:Nat):PzbH_1.F:=fun x=>qyX N x.1 x.2.2.2.1 x.2.2.2.2.1 x.2.2.2.2.2.1 x.2.2.2.2.2.2.2.2.2.1 x.2.2.2.2.2.2.2.2.2.2.1
theorem qBs (N:Nat):CC (Y38 N) (qab Try.f30) PzbH_1 (quC N):=CC.of (qmR N) (us:=qo2 N) (fun u h _=>qjJ N u h) (fun x=>by kernel_rfl)
def qqa (N:Nat):List (Pc D):=PzbH_1.pc (Y38 N) (quC N)::qo2 N
theorem qkR (N:Nat):∀u∈qqa N,PcOk (Y38 N) (qab Try.f30) u:=qac ((qBs N).pc (by kernel_rfl)) (qjJ N)
def PzbH_0:PD D:={path:=[1,1,1,1,1,1,1,0,1,0],ins:=[.o 2 (.box 23), .o 8 (.bx 60 [(0,3)]), .o 10 (.fb 98 58 [0,4,5,6,2]), .v 21 (.sl 70), .v 22 (.int .i64), .v 23 (.int .i64), .o 2008000 (.map 60 3 3), .o 200040962 (.bx 71 [(0,7)]), .o 200040963 (.bx 67 [(0,8)]), .o 200040964 (.fb 88 57 [1]), .o 202621569 (.map 71 74 4), .o 202621633 (.map 67 3 4)],fx:=[(2, .box 0 0),(8, .box 1 0),(10, .box 2 0)],ks:=[1,2,1,0,2,1,1,0,1],exs:=[⟨.exit 0,[.u 1 (.bx 60 [(0,9)]), .o 2008000 (.map 60 3 3)],[]⟩,⟨.ret,[.v 5 (.int .i64)],[(4, .c .nilM)]⟩],keep:=[8]}
def quB (N:Nat) (n:Nat):PzbH_0.F:=fun x=>qgT N x.1 x.2.2.2.1 x.2.2.2.2.1 x.2.2.2.2.2.2.2.2.2.2.2.1 n x.2.1 x.2.2.2.2.2.1 x.2.2.2.2.2.2.1 x.2.2.2.2.2.2.2.1 x.2.2.2.2.2.2.2.2.2.2.1
theorem qBr (N:Nat) (n:Nat):CC (Y38 N) (qab Try.f30) PzbH_0 (quB N n):=CC.loop (qmR N) (us:=qqa N) (c:=sub (qab Try.f30) [1,1,1,1,1,1,1,0,1,0,0]) (by kernel_rfl) (by kernel_rfl) (fun u h _=>qkR N u h) (fun x=>rfl) (fun n x=>by kernel_rfl) n
def qwM (N:Nat):List (Pc D):=PzbH_0.pc (Y38 N) (quB N N)::qqa N
theorem qrX (N:Nat):∀u∈qwM N,PcOk (Y38 N) (qab Try.f30) u:=qac ((qBr N N).pc (by kernel_rfl)) (qkR N)
def dzbH:FD D:={f:=30,np:=2,ins:=[.v 0 (.sl 53), .v 1 (.sl 70)],fx:=[],rcv:=none,rk:=0,outs:=[.v 4 (.mp 60 3 3), .v 5 (.int .i64)],ofx:=[],rvs:=[.tmp 4, .tmp 5],flat:=false}
def FzbH (N:Nat):dzbH.F:=fun r x=>zbH N x.1 x.2.1
theorem ozbH (N:Nat):FOk Try.prog (Y38 N) dzbH (FzbH N):=⟨⟨Try.f30,_,Try.func30,rfl,by kernel_rfl,by kernel_rfl,rfl,FC.of (qmR N) (us:=qwM N) (fun u h _=>qrX N u h) (fun r x=>by kernel_rfl)⟩,by kernel_rfl,by kernel_rfl,by kernel_rfl,by kernel_rfl⟩
def fs39 (N:Nat):List (FE D):=⟨dzbH,FzbH N⟩::fs38 N
theorem qzK (N:Nat):∀y∈fs39 N,CallOk X0 y.d y.F:=qap (x:=⟨dzbH,FzbH N⟩) (CallOk.ch (CallOk.ch (CallOk.ch (ozbH N).call))) (qzJ N)
def gs39 (N:Nat):List (GE D):=gs38 N
theorem qvJ (N:Nat):∀y∈gs39 N,CallG X0 y.d y.F:=qvI N
def X39 (N:Nat):Ev Try.prog D:=(X0.with (fs39 N)).gen (gs39 N)
theorem qAl (N:Nat):COk (X39 N):=COk.gen0 (COk.of (qzK N)) (qvJ N)
def qwi (N:Nat):List (Pc D):=[]
theorem qru (N:Nat):∀u∈qwi N,PcOk (X39 N) (qab Try.f13) u:=qam
def PzaR_0:PD D:=rngP D [1,1,1,1,1] 33 3 3 60
def qtX (N:Nat):PzaR_0.F:=fun x=>qqK N x.1 x.2.1
theorem qAO (N:Nat):CC (X39 N) (qab Try.f13) PzaR_0 (qtX N):=qom (e:=33) (kt:=3) (vt:=3) (t:=60) (qAl N) (by kernel_rfl) .i64 .i64 rfl rfl (fun (a:Int) (b:Int)=>(Setting.mk a b)) ((Setting.mk 0 0):Setting) (fun (x:Setting)=>x.element) (by kernel_rfl) (by kernel_rfl) (by kernel_rfl) (by kernel_rfl) rfl ki3.K vi3.V (fun _=>rfl) (fun _=>rfl) (by kernel_rfl) (fun a b ys wf=>by kernel_rfl) (fun ys wf=>by kernel_rfl) (fun ys wf=>by kernel_rfl) si31_56.hv si31_56.hr si31_56.hf (Nat.le_of_ble_eq_true (by kernel_rfl)) (by kernel_rfl) (by kernel_rfl)
def qwC (N:Nat):List (Pc D):=PzaR_0.pc (X39 N) (qtX N)::qwi N
theorem qrN (N:Nat):∀u∈qwC N,PcOk (X39 N) (qab Try.f13) u:=qac ((qAO N).pc (by kernel_rfl)) (qru N)
def dzaR:FD D:={f:=13,np:=2,ins:=[.v 0 (.sl 53), .v 1 (.sl 70)],fx:=[],rcv:=none,rk:=0,outs:=[.v 4 (.sl 33), .v 5 (.int .i64)],ofx:=[],rvs:=[.tmp 4, .tmp 5],flat:=false}
def FzaR (N:Nat):dzaR.F:=fun r x=>zaR N x.1 x.2.1
theorem ozaR (N:Nat):FOk Try.prog (X39 N) dzaR (FzaR N):=⟨⟨Try.f13,_,Try.func13,rfl,by kernel_rfl,by kernel_rfl,rfl,FC.of (qAl N) (us:=qwC N) (fun u h _=>qrN N u h) (fun r x=>by kernel_rfl)⟩,by kernel_rfl,by kernel_rfl,by kernel_rfl,by kernel_rfl⟩
def fs40 (N:Nat):List (FE D):=⟨dzaR,FzaR N⟩::fs39 N
theorem qzL (N:Nat):∀y∈fs40 N,CallOk X0 y.d y.F:=qap (x:=⟨dzaR,FzaR N⟩) (CallOk.ch (CallOk.ch (ozaR N).call)) (qzK N)
def gs40 (N:Nat):List (GE D):=gs39 N
theorem qvK (N:Nat):∀y∈gs40 N,CallG X0 y.d y.F:=qvJ N
def X40 (N:Nat):Ev Try.prog D:=(X0.with (fs40 N)).gen (gs40 N)
theorem qqW (N:Nat):COk (X40 N):=COk.gen0 (COk.of (qzL N)) (qvK N)
def qpd (N:Nat):List (Pc D):=[]
theorem qjU (N:Nat):∀u∈qpd N,PcOk (X40 N) (qab Try.f9) u:=qam
def PzbZ_2:PD D:={path:=[1,1,0,1,0,0,1,0,0,0,0],ins:=[.o 0 (.recv 48), .v 1 (.sl 53), .o 5 (.sl 33), .v 6 (.int .i64)],fx:=[(0, .box 0 0),(5, .c (.own 1))],ks:=[2,1],exs:=[⟨.normal,[.u 0 (.recv 48), .v 21 .bool],[]⟩],keep:=[0,1,5,6]}
def quT (N:Nat):PzbZ_2.F:=fun x=>qto N x.1 x.2.1 x.2.2.2.1
theorem qBJ (N:Nat):CC (X40 N) (qab Try.f9) PzbZ_2 (quT N):=CC.of (qqW N) (us:=qpd N) (fun u h _=>qjU N u h) (fun x=>by kernel_rfl)
def qqg (N:Nat):List (Pc D):=PzbZ_2.pc (X40 N) (quT N)::qpd N
theorem qkX (N:Nat):∀u∈qqg N,PcOk (X40 N) (qab Try.f9) u:=qac ((qBJ N).pc (by kernel_rfl)) (qjU N)
def PzbZ_1:PD D:={path:=[1,1,0,1,0,0,1,0],ins:=[.o 0 (.recv 48), .v 1 (.sl 53), .o 5 (.sl 33), .v 6 (.int .i64)],fx:=[(0, .box 0 0),(5, .c (.own 1))],ks:=[2,0],exs:=[⟨.normal,[.u 0 (.recv 48), .o 5 (.sl 33)],[(5, .c (.own 2))]⟩],keep:=[0,1,6]}
def quS (N:Nat):PzbZ_1.F:=fun x=>qy4 N x.1 x.2.1 x.2.2.1 x.2.2.2.1
theorem qBI (N:Nat):CC (X40 N) (qab Try.f9) PzbZ_1 (quS N):=CC.of (qqW N) (us:=qqg N) (fun u h _=>qkX N u h) (fun x=>by kernel_rfl)
def qqf (N:Nat):List (Pc D):=PzbZ_1.pc (X40 N) (quS N)::qqg N
theorem qkW (N:Nat):∀u∈qqf N,PcOk (X40 N) (qab Try.f9) u:=qac ((qBI N).pc (by kernel_rfl)) (qkX N)
def PzbZ_0:PD D:={path:=[1,1,0,1,0],ins:=[.o 0 (.recv 48), .v 1 (.sl 53), .o 5 (.sl 33), .v 6 (.int .i64)],fx:=[(0, .box 0 0),(5, .c (.own 1))],ks:=[2,0],exs:=[⟨.exit 0,[.u 0 (.recv 48), .o 5 (.sl 33)],[(5, .c (.own 2))]⟩],keep:=[0]}
def quR (N:Nat) (n:Nat):PzbZ_0.F:=fun x=>qiR N x.2.1 n x.1 x.2.2.1 x.2.2.2.1
theorem qBH (N:Nat) (n:Nat):CC (X40 N) (qab Try.f9) PzbZ_0 (quR N n):=CC.loop (qqW N) (us:=qqf N) (c:=sub (qab Try.f9) [1,1,0,1,0,0]) (by kernel_rfl) (by kernel_rfl) (fun u h _=>qkW N u h) (fun x=>rfl) (fun n x=>by kernel_rfl) n
def qwX (N:Nat):List (Pc D):=PzbZ_0.pc (X40 N) (quR N N)::qqf N
theorem qr8 (N:Nat):∀u∈qwX N,PcOk (X40 N) (qab Try.f9) u:=qac ((qBH N N).pc (by kernel_rfl)) (qkW N)
def dzbZ:FD D:={f:=9,np:=2,ins:=[.v 1 (.sl 53)],fx:=[],rcv:=some (0,48),rk:=2,outs:=[.o 4 (.sl 33), .u 0 (.recv 48)],ofx:=[(4, .c (.own 1))],rvs:=[.tmp 4],flat:=false}
def FzbZ (N:Nat):dzbZ.F:=fun r x=>zbZ N r x.1
theorem ozbZ (N:Nat):FOk Try.prog (X40 N) dzbZ (FzbZ N):=⟨⟨Try.f9,_,Try.func9,rfl,by kernel_rfl,by kernel_rfl,rfl,FC.of (qqW N) (us:=qwX N) (fun u h _=>qr8 N u h) (fun r x=>by kernel_rfl)⟩,by kernel_rfl,by kernel_rfl,by kernel_rfl,by kernel_rfl⟩
def fs41 (N:Nat):List (FE D):=⟨dzbZ,FzbZ N⟩::fs40 N
theorem qzM (N:Nat):∀y∈fs41 N,CallOk X0 y.d y.F:=qap (x:=⟨dzbZ,FzbZ N⟩) (CallOk.ch (CallOk.ch (ozbZ N).call)) (qzL N)
def gs41 (N:Nat):List (GE D):=gs40 N
theorem qvL (N:Nat):∀y∈gs41 N,CallG X0 y.d y.F:=qvK N
def X41 (N:Nat):Ev Try.prog D:=(X0.with (fs41 N)).gen (gs41 N)
theorem qqX (N:Nat):COk (X41 N):=COk.gen0 (COk.of (qzM N)) (qvL N)
def qps (N:Nat):List (Pc D):=[]
theorem qj9 (N:Nat):∀u∈qps N,PcOk (X41 N) (qab Try.f14) u:=qam
def PzcS_1:PD D:={path:=[1,1,0,0,0,0,0],ins:=[.v 0 (.sl 33), .o 3 (.box 33), .v 5 (.int .i64)],fx:=[(3, .box 0 0)],ks:=[1],exs:=[⟨.normal,[.v 20 .bool],[]⟩],keep:=[0,3,5]}
def qvx (N:Nat):PzcS_1.F:=fun x=>qmz N x.1 x.2.1 x.2.2.1
theorem qCn (N:Nat):CC (X41 N) (qab Try.f14) PzcS_1 (qvx N):=CC.of (qqX N) (us:=qps N) (fun u h _=>qj9 N u h) (fun x=>by kernel_rfl)
def qqG (N:Nat):List (Pc D):=PzcS_1.pc (X41 N) (qvx N)::qps N
theorem qln (N:Nat):∀u∈qqG N,PcOk (X41 N) (qab Try.f14) u:=qac ((qCn N).pc (by kernel_rfl)) (qj9 N)
def PzcS_0:PD D:={path:=[1,1,0,0],ins:=[.v 0 (.sl 33), .o 3 (.box 33), .v 5 (.int .i64)],fx:=[(3, .box 0 0)],ks:=[1],exs:=[⟨.exit 0,[.v 5 (.int .i64)],[]⟩],keep:=[0,3]}
def qvw (N:Nat) (n:Nat):PzcS_0.F:=fun x=>qmy N x.1 x.2.1 n x.2.2.1
theorem qCm (N:Nat) (n:Nat):CC (X41 N) (qab Try.f14) PzcS_0 (qvw N n):=CC.loop (qqX N) (us:=qqG N) (c:=sub (qab Try.f14) [1,1,0,0,0]) (by kernel_rfl) (by kernel_rfl) (fun u h _=>qln N u h) (fun x=>rfl) (fun n x=>by kernel_rfl) n
def qqF (N:Nat):List (Pc D):=PzcS_0.pc (X41 N) (qvw N N)::qqG N
theorem qlm (N:Nat):∀u∈qqF N,PcOk (X41 N) (qab Try.f14) u:=qac ((qCm N N).pc (by kernel_rfl)) (qln N)
def PzcS_2:PD D:={path:=[1,1,1,0,0],ins:=[.v 0 (.sl 33), .o 3 (.box 33), .v 5 (.int .i64)],fx:=[(3, .box 0 0)],ks:=[1],exs:=[⟨.normal,[.v 36 .bool],[]⟩],keep:=[0,3,5]}
def qvy (N:Nat):PzcS_2.F:=fun x=>qmA N x.1 x.2.1 x.2.2.1
theorem qCo (N:Nat):CC (X41 N) (qab Try.f14) PzcS_2 (qvy N):=CC.of (qqX N) (us:=qqF N) (fun u h _=>qlm N u h) (fun x=>by kernel_rfl)
def qxc (N:Nat):List (Pc D):=PzcS_2.pc (X41 N) (qvy N)::qqF N
theorem qsn (N:Nat):∀u∈qxc N,PcOk (X41 N) (qab Try.f14) u:=qac ((qCo N).pc (by kernel_rfl)) (qlm N)
def dzcS:FD D:={f:=14,np:=2,ins:=[.v 0 (.sl 33), .v 1 (.agg 33)],fx:=[],rcv:=none,rk:=0,outs:=[.v 4 (.sl 33)],ofx:=[],rvs:=[.tmp 4],flat:=false}
def FzcS (N:Nat):dzcS.F:=fun r x=>zcS N x.1 x.2.1
theorem ozcS (N:Nat):FOk Try.prog (X41 N) dzcS (FzcS N):=⟨⟨Try.f14,_,Try.func14,rfl,by kernel_rfl,by kernel_rfl,rfl,FC.of (qqX N) (us:=qxc N) (fun u h _=>qsn N u h) (fun r x=>by kernel_rfl)⟩,by kernel_rfl,by kernel_rfl,by kernel_rfl,by kernel_rfl⟩
def fs42 (N:Nat):List (FE D):=⟨dzcS,FzcS N⟩::fs41 N
theorem qzN (N:Nat):∀y∈fs42 N,CallOk X0 y.d y.F:=qap (x:=⟨dzcS,FzcS N⟩) (CallOk.ch (CallOk.ch (ozcS N).call)) (qzM N)
def gs42 (N:Nat):List (GE D):=gs41 N
theorem qvM (N:Nat):∀y∈gs42 N,CallG X0 y.d y.F:=qvL N
def X42 (N:Nat):Ev Try.prog D:=(X0.with (fs42 N)).gen (gs42 N)
theorem qlY (N:Nat):COk (X42 N):=COk.gen0 (COk.of (qzN N)) (qvM N)
def qo1 (N:Nat):List (Pc D):=[]
theorem qjI (N:Nat):∀u∈qo1 N,PcOk (X42 N) (qab Try.f35) u:=qam
def PzbG_1:PD D:={path:=[1,1,0,1,0,0,1,1,0,0,1,0,0],ins:=[.v 0 (.sl 53), .o 6 (.map 60 3 3), .o 8 (.box 33)],fx:=[(6, .c (.own 0)),(8, .box 1 0)],ks:=[1,1],exs:=[⟨.normal,[.v 35 .bool],[]⟩],keep:=[0,6,8,13,14,15]}
def qux (N:Nat):PzbG_1.F:=fun x=>qtg N x.1 x.2.1 x.2.2.1
theorem qBn (N:Nat):CC (X42 N) (qab Try.f35) PzbG_1 (qux N):=CC.of (qlY N) (us:=qo1 N) (fun u h _=>qjI N u h) (fun x=>by kernel_rfl)
def qp6 (N:Nat):List (Pc D):=PzbG_1.pc (X42 N) (qux N)::qo1 N
theorem qkN (N:Nat):∀u∈qp6 N,PcOk (X42 N) (qab Try.f35) u:=qac ((qBn N).pc (by kernel_rfl)) (qjI N)
def PzbG_2:PD D:={path:=[1,1,0,1,0,0,1,1,0,0,1,1,0],ins:=[.o 6 (.map 60 3 3), .o 8 (.box 33)],fx:=[(6, .c (.own 0)),(8, .box 1 0)],ks:=[1,1],exs:=[⟨.normal,[.v 9 .bool],[]⟩],keep:=[0,6,8,13,14,15]}
def quy (N:Nat):PzbG_2.F:=fun x=>qth N x.2.1
theorem qBo (N:Nat):CC (X42 N) (qab Try.f35) PzbG_2 (quy N):=CC.of (qlY N) (us:=qp6 N) (fun u h _=>qkN N u h) (fun x=>by kernel_rfl)
def qp7 (N:Nat):List (Pc D):=PzbG_2.pc (X42 N) (quy N)::qp6 N
theorem qkO (N:Nat):∀u∈qp7 N,PcOk (X42 N) (qab Try.f35) u:=qac ((qBo N).pc (by kernel_rfl)) (qkN N)
def PzbG_3:PD D:={path:=[1,1,0,1,0,0,1,1,0,0,1,1,1,0],ins:=[.o 6 (.map 60 3 3), .o 8 (.box 33)],fx:=[(6, .c (.own 0)),(8, .box 1 0)],ks:=[1,1],exs:=[⟨.normal,[.v 10 .bool],[]⟩],keep:=[0,6,8,9,13,14,15]}
def quz (N:Nat):PzbG_3.F:=fun x=>qti N x.2.1
theorem qBp (N:Nat):CC (X42 N) (qab Try.f35) PzbG_3 (quz N):=CC.of (qlY N) (us:=qp7 N) (fun u h _=>qkO N u h) (fun x=>by kernel_rfl)
def qp8 (N:Nat):List (Pc D):=PzbG_3.pc (X42 N) (quz N)::qp7 N
theorem qkP (N:Nat):∀u∈qp8 N,PcOk (X42 N) (qab Try.f35) u:=qac ((qBp N).pc (by kernel_rfl)) (qkO N)
def PzbG_4:PD D:={path:=[1,1,0,1,0,0,1,1,0,0,1,1,1,1,1,0,0],ins:=[.o 6 (.map 60 3 3), .o 8 (.box 33), .v 9 .bool, .v 10 .bool, .v 11 (.int .i64)],fx:=[(6, .c (.own 0)),(8, .box 1 0)],ks:=[1,1],exs:=[⟨.normal,[.v 71 .bool],[]⟩],keep:=[0,6,8,13,14,15]}
def quA (N:Nat):PzbG_4.F:=fun x=>qtj N x.2.2.1 x.2.2.2.1 x.2.2.2.2.1
theorem qBq (N:Nat):CC (X42 N) (qab Try.f35) PzbG_4 (quA N):=CC.of (qlY N) (us:=qp8 N) (fun u h _=>qkP N u h) (fun x=>by kernel_rfl)
def qp9 (N:Nat):List (Pc D):=PzbG_4.pc (X42 N) (quA N)::qp8 N
theorem qkQ (N:Nat):∀u∈qp9 N,PcOk (X42 N) (qab Try.f35) u:=qac ((qBq N).pc (by kernel_rfl)) (qkP N)
def PzbG_0:PD D:={path:=[1,1,0,1,0],ins:=[.v 0 (.sl 53), .o 6 (.map 60 3 3), .v 13 (.sl 33), .v 14 (.int .i64), .v 15 (.int .i64)],fx:=[(6, .c (.own 0))],ks:=[2],exs:=[⟨.exit 0,[.u 0 (.map 60 3 3)],[]⟩,⟨.ret,[.v 5 .bool],[(4, .c .nilM)]⟩],keep:=[6]}
def quw (N:Nat) (n:Nat):PzbG_0.F:=fun x=>qgS N x.1 x.2.2.1 x.2.2.2.1 n x.2.1 x.2.2.2.2.1
theorem qBm (N:Nat) (n:Nat):CC (X42 N) (qab Try.f35) PzbG_0 (quw N n):=CC.loop (qlY N) (us:=qp9 N) (c:=sub (qab Try.f35) [1,1,0,1,0,0]) (by kernel_rfl) (by kernel_rfl) (fun u h _=>qkQ N u h) (fun x=>rfl) (fun n x=>by kernel_rfl) n
def qwL (N:Nat):List (Pc D):=PzbG_0.pc (X42 N) (quw N N)::qp9 N
theorem qrW (N:Nat):∀u∈qwL N,PcOk (X42 N) (qab Try.f35) u:=qac ((qBm N N).pc (by kernel_rfl)) (qkQ N)
def dzbG:FD D:={f:=35,np:=2,ins:=[.v 0 (.sl 53), .v 1 (.sl 33)],fx:=[],rcv:=none,rk:=0,outs:=[.v 4 (.mp 60 3 3), .v 5 .bool],ofx:=[],rvs:=[.tmp 4, .tmp 5],flat:=false}
def FzbG (N:Nat):dzbG.F:=fun r x=>zbG N x.1 x.2.1
theorem ozbG (N:Nat):FOk Try.prog (X42 N) dzbG (FzbG N):=⟨⟨Try.f35,_,Try.func35,rfl,by kernel_rfl,by kernel_rfl,rfl,FC.of (qlY N) (us:=qwL N) (fun u h _=>qrW N u h) (fun r x=>by kernel_rfl)⟩,by kernel_rfl,by kernel_rfl,by kernel_rfl,by kernel_rfl⟩
def fs43 (N:Nat):List (FE D):=⟨dzbG,FzbG N⟩::fs42 N
theorem qzO (N:Nat):∀y∈fs43 N,CallOk X0 y.d y.F:=qap (x:=⟨dzbG,FzbG N⟩) (CallOk.ch (CallOk.ch (ozbG N).call)) (qzN N)
def gs43 (N:Nat):List (GE D):=gs42 N
theorem qvN (N:Nat):∀y∈gs43 N,CallG X0 y.d y.F:=qvM N
def X43 (N:Nat):Ev Try.prog D:=(X0.with (fs43 N)).gen (gs43 N)
theorem qqY (N:Nat):COk (X43 N):=COk.gen0 (COk.of (qzO N)) (qvN N)
def qoZ (N:Nat):List (Pc D):=[]
theorem qjG (N:Nat):∀u∈qoZ N,PcOk (X43 N) (qab Try.f39) u:=qam
def PzbA_0:PD D:={path:=[1,1,0,0,0],ins:=[.o 9 (.box 53), .v 10 (.int .i64)],fx:=[(9, .box 0 0)],ks:=[1],exs:=[⟨.normal,[.v 18 .bool],[]⟩],keep:=[0,2,3,9,10]}
def qur (N:Nat):PzbA_0.F:=fun x=>qtc N x.1 x.2.1
theorem qBh (N:Nat):CC (X43 N) (qab Try.f39) PzbA_0 (qur N):=CC.of (qqY N) (us:=qoZ N) (fun u h _=>qjG N u h) (fun x=>by kernel_rfl)
def qp3 (N:Nat):List (Pc D):=PzbA_0.pc (X43 N) (qur N)::qoZ N
theorem qkK (N:Nat):∀u∈qp3 N,PcOk (X43 N) (qab Try.f39) u:=qac ((qBh N).pc (by kernel_rfl)) (qjG N)
def PzbA_1:PD D:={path:=[1,1,0,0,1,1,0],ins:=[.v 3 (.int .i64), .o 9 (.box 53), .v 10 (.int .i64)],fx:=[(9, .box 0 0)],ks:=[1],exs:=[⟨.normal,[.v 26 .bool],[]⟩],keep:=[0,2,3,9,10]}
def qus (N:Nat):PzbA_1.F:=fun x=>qtd N x.1 x.2.1 x.2.2.1
theorem qBi (N:Nat):CC (X43 N) (qab Try.f39) PzbA_1 (qus N):=CC.of (qqY N) (us:=qp3 N) (fun u h _=>qkK N u h) (fun x=>by kernel_rfl)
def qp4 (N:Nat):List (Pc D):=PzbA_1.pc (X43 N) (qus N)::qp3 N
theorem qkL (N:Nat):∀u∈qp4 N,PcOk (X43 N) (qab Try.f39) u:=qac ((qBi N).pc (by kernel_rfl)) (qkK N)
def PzbA_2:PD D:={path:=[1,1,0,0,1,1,1,1,0],ins:=[.v 3 (.int .i64), .o 9 (.box 53), .v 10 (.int .i64)],fx:=[(9, .box 0 0)],ks:=[1],exs:=[⟨.normal,[.v 43 .bool],[]⟩],keep:=[0,2,3,9]}
def qut (N:Nat):PzbA_2.F:=fun x=>qte N x.1 x.2.1 x.2.2.1
theorem qBj (N:Nat):CC (X43 N) (qab Try.f39) PzbA_2 (qut N):=CC.of (qqY N) (us:=qp4 N) (fun u h _=>qkL N u h) (fun x=>by kernel_rfl)
def qwJ (N:Nat):List (Pc D):=PzbA_2.pc (X43 N) (qut N)::qp4 N
theorem qrU (N:Nat):∀u∈qwJ N,PcOk (X43 N) (qab Try.f39) u:=qac ((qBj N).pc (by kernel_rfl)) (qkL N)
def dzbA:FD D:={f:=39,np:=4,ins:=[.v 0 (.sl 53), .v 1 (.mp 60 3 3), .v 2 (.int .i64), .v 3 (.int .i64)],fx:=[],rcv:=none,rk:=0,outs:=[.v 8 (.sl 3)],ofx:=[],rvs:=[.tmp 8],flat:=false}
def FzbA (N:Nat):dzbA.F:=fun r x=>zbA N x.1 x.2.1 x.2.2.1 x.2.2.2.1
theorem ozbA (N:Nat):FOk Try.prog (X43 N) dzbA (FzbA N):=⟨⟨Try.f39,_,Try.func39,rfl,by kernel_rfl,by kernel_rfl,rfl,FC.of (qqY N) (us:=qwJ N) (fun u h _=>qrU N u h) (fun r x=>by kernel_rfl)⟩,by kernel_rfl,by kernel_rfl,by kernel_rfl,by kernel_rfl⟩
def fs44 (N:Nat):List (FE D):=⟨dzbA,FzbA N⟩::fs43 N
theorem qxj (N:Nat):∀y∈fs44 N,CallOk X0 y.d y.F:=qap (x:=⟨dzbA,FzbA N⟩) (CallOk.ch (CallOk.ch (ozbA N).call)) (qzO N)
def gs44 (N:Nat):List (GE D):=gs43 N
theorem qnc (N:Nat):∀y∈gs44 N,CallG X0 y.d y.F:=qvN N
def X44 (N:Nat):Ev Try.prog D:=(X0.with (fs44 N)).gen (gs44 N)
theorem qFl (N:Nat):COk (X44 N):=COk.gen0 (COk.of (qxj N)) (qnc N)
def dzaB:GD D:={f:=37,np:=8,ins:=[.o 100000000 (.sl 3), .v 0 (.agg 74), .o 1 (.box 23), .o 2 (.bx 71 [(0,8)]), .o 3 (.bx 67 [(0,9)]), .o 4 (.box 3), .o 5 (.box 3), .o 6 (.box 60), .o 7 (.fb 72 37 [1,2,3,4,5,6,7]), .o 2002000 (.map 71 74 4), .o 2003000 (.map 67 3 4)],fx:=[(1, .box 1 0),(2, .box 2 0),(3, .box 3 0),(4, .box 4 0),(5, .box 5 0),(6, .box 6 0),(7, .box 7 0)],ks:=[1,1,1,1,1,1,1,1,2,1],outs:=[.v 9 .bool, .u 8 (.map 71 74 4)],ofx:=[],res:=[9],fz:=true}
def FzaB (N rc:Nat):dzaB.pd.F:=fun x=>zaB N rc x.1 x.2.1 x.2.2.1 x.2.2.2.1 x.2.2.2.2.1 x.2.2.2.2.2.1 x.2.2.2.2.2.2.1 x.2.2.2.2.2.2.2.1 x.2.2.2.2.2.2.2.2.2.1 x.2.2.2.2.2.2.2.2.2.2.1
def Xr44 (N rc:Nat):Ev Try.prog D:=(X0.with (fs44 N)).gen (⟨dzaB,FzaB N rc⟩::gs44 N)
theorem qhd (N rc:Nat) (hr:CallG X0 dzaB (FzaB N rc)):COk (Xr44 N rc):=COk.gen0 (COk.of (qxj N)) (qcw (x:=⟨dzaB,FzaB N rc⟩) hr (qnc N))
def qoH (N rc:Nat):List (Pc D):=[]
theorem qjo (N rc:Nat) (hr:CallG X0 dzaB (FzaB N rc)):∀u∈qoH N rc,PcOk (Xr44 N rc) (qab Try.f37) u:=qam
def PzaB_0:PD D:={path:=[1,1,0,0],ins:=[.o 100000000 (.sl 3), .o 1 (.box 23), .o 2 (.bx 71 [(0,8)]), .o 3 (.bx 67 [(0,9)]), .o 4 (.box 3), .o 5 (.box 3), .o 6 (.box 60), .o 7 (.fb 72 37 [1,2,3,4,5,6,7]), .v 8 (.rp 74), .v 10 (.int .i64), .o 2002000 (.map 71 74 4), .o 2003000 (.map 67 3 4)],fx:=[(1, .box 1 0),(2, .box 2 0),(3, .box 3 0),(4, .box 4 0),(5, .box 5 0),(6, .box 6 0),(7, .box 7 0)],ks:=[1,1,1,1,1,1,1,1,1,1],exs:=[⟨.normal,[.v 25 .bool],[]⟩],keep:=[1,2,3,4,5,6,7,8,10]}
def qty (N rc:Nat):PzaB_0.F:=fun x=>qsW N (zaB N rc) x.2.2.2.2.2.2.2.2.1 x.2.2.2.2.2.2.2.2.2.1 x.2.2.2.2.2.2.2.2.2.2.1
theorem qAp (N rc:Nat) (hr:CallG X0 dzaB (FzaB N rc)):CC (Xr44 N rc) (qab Try.f37) PzaB_0 (qty N rc):=CC.of (qhd N rc hr) (us:=qoH N rc) (fun u h _=>qjo N rc hr u h) (fun x=>by kernel_rfl)
def qpt (N rc:Nat):List (Pc D):=PzaB_0.pc (Xr44 N rc) (qty N rc)::qoH N rc
theorem qka (N rc:Nat) (hr:CallG X0 dzaB (FzaB N rc)):∀u∈qpt N rc,PcOk (Xr44 N rc) (qab Try.f37) u:=qac ((qAp N rc hr).pc (by kernel_rfl)) (qjo N rc hr)
def PzaB_1:PD D:={path:=[1,1,1,1,0,1,0,0],ins:=[.o 100000000 (.sl 3), .o 1 (.box 23), .o 2 (.bx 71 [(0,8)]), .o 3 (.bx 67 [(0,9)]), .o 4 (.box 3), .o 5 (.box 3), .o 6 (.box 60), .o 7 (.fb 72 37 [1,2,3,4,5,6,7]), .v 10 (.int .i64), .o 2002000 (.map 71 74 4), .o 2003000 (.map 67 3 4)],fx:=[(1, .box 1 0),(2, .box 2 0),(3, .box 3 0),(4, .box 4 0),(5, .box 5 0),(6, .box 6 0),(7, .box 7 0)],ks:=[1,1,1,1,1,1,1,1,1,1],exs:=[⟨.normal,[.v 9 .bool],[]⟩],keep:=[1,2,3,4,5,6,7]}
def qtz (N rc:Nat):PzaB_1.F:=fun x=>qyE N (zaB N rc) x.2.2.2.2.1 x.2.2.2.2.2.1 x.2.2.2.2.2.2.2.2.1
theorem qAq (N rc:Nat) (hr:CallG X0 dzaB (FzaB N rc)):CC (Xr44 N rc) (qab Try.f37) PzaB_1 (qtz N rc):=CC.of (qhd N rc hr) (us:=qpt N rc) (fun u h _=>qka N rc hr u h) (fun x=>by kernel_rfl)
def qpu (N rc:Nat):List (Pc D):=PzaB_1.pc (Xr44 N rc) (qtz N rc)::qpt N rc
theorem qkb (N rc:Nat) (hr:CallG X0 dzaB (FzaB N rc)):∀u∈qpu N rc,PcOk (Xr44 N rc) (qab Try.f37) u:=qac ((qAq N rc hr).pc (by kernel_rfl)) (qka N rc hr)
def PzaB_2:PD D:={path:=[1,1,1,1,1,0,1,0],ins:=[.o 100000000 (.sl 3), .o 1 (.box 23), .o 2 (.bx 71 [(0,8)]), .o 3 (.bx 67 [(0,9)]), .o 4 (.box 3), .o 5 (.box 3), .o 6 (.box 60), .o 7 (.fb 72 37 [1,2,3,4,5,6,7]), .v 10 (.int .i64), .v 44 (.sl 3), .v 45 (.int .i64), .v 46 (.int .i64), .o 2002000 (.map 71 74 4), .o 2003000 (.map 67 3 4)],fx:=[(1, .box 1 0),(2, .box 2 0),(3, .box 3 0),(4, .box 4 0),(5, .box 5 0),(6, .box 6 0),(7, .box 7 0)],ks:=[1,1,1,1,1,1,1,1,2,1],exs:=[⟨.exit 0,[.u 8 (.map 71 74 4)],[]⟩,⟨.ret,[.v 9 .bool, .u 8 (.map 71 74 4)],[]⟩],keep:=[1,2,3,4,5,6,7]}
def qtA (N rc:Nat) (n:Nat):PzaB_2.F:=fun x=>qmq N (zaB N rc) x.1 x.2.1 x.2.2.2.2.1 x.2.2.2.2.2.1 x.2.2.2.2.2.2.1 x.2.2.2.2.2.2.2.2.1 x.2.2.2.2.2.2.2.2.2.1 x.2.2.2.2.2.2.2.2.2.2.1 x.2.2.2.2.2.2.2.2.2.2.2.2.2.1 n x.2.2.2.2.2.2.2.2.2.2.2.1 x.2.2.2.2.2.2.2.2.2.2.2.2.1
theorem qAr (N rc:Nat) (hr:CallG X0 dzaB (FzaB N rc)) (n:Nat):CC (Xr44 N rc) (qab Try.f37) PzaB_2 (qtA N rc n):=CC.loop (qhd N rc hr) (us:=qpu N rc) (c:=sub (qab Try.f37) [1,1,1,1,1,0,1,0,0]) (by kernel_rfl) (by kernel_rfl) (fun u h _=>qkb N rc hr u h) (fun x=>rfl) (fun n x=>by kernel_rfl) n
def qpv (N rc:Nat):List (Pc D):=PzaB_2.pc (Xr44 N rc) (qtA N rc N)::qpu N rc
theorem qkc (N rc:Nat) (hr:CallG X0 dzaB (FzaB N rc)):∀u∈qpv N rc,PcOk (Xr44 N rc) (qab Try.f37) u:=qac ((qAr N rc hr N).pc (by kernel_rfl)) (qkb N rc hr)
theorem ozaB (N rc:Nat) (hr:CallG X0 dzaB (FzaB N rc)):GOk Try.prog (Xr44 N rc) dzaB (FzaB N (rc+1)):=⟨⟨Try.f37,_,Try.func37,rfl,by kernel_rfl,by kernel_rfl,rfl,by kernel_rfl,CCn.of (qhd N rc hr) (us:=qpv N rc) (fun u h _=>qkc N rc hr u h) (fun x=>by kernel_rfl)⟩⟩
theorem wzaB (N:Nat):∀rc:Nat,CallG X0 dzaB (FzaB N rc)
 |0=>CallG.none fun x=>rfl
 |rc+1=>(ozaB N rc (wzaB N rc)).call.base.base
def fs45 (N:Nat):List (FE D):=fs44 N
theorem qzP (N:Nat):∀y∈fs45 N,CallOk X0 y.d y.F:=qxj N
def gs45 (N:Nat):List (GE D):=⟨dzaB,FzaB N N⟩::gs44 N
theorem qvO (N:Nat):∀y∈gs45 N,CallG X0 y.d y.F:=qcw (x:=⟨dzaB,FzaB N N⟩) (wzaB N N) (qnc N)
def X45 (N:Nat):Ev Try.prog D:=(X0.with (fs45 N)).gen (gs45 N)
theorem qFm (N:Nat):COk (X45 N):=COk.gen0 (COk.of (qzP N)) (qvO N)
def qfY:GD D:={f:=37,np:=8,ins:=[.o 100000005 (.sl 3), .v 0 (.agg 74), .o 1 (.box 23), .o 2 (.bx 71 [(0,8)]), .o 3 (.bx 67 [(0,9)]), .o 4 (.box 3), .o 5 (.box 3), .o 6 (.box 60), .o 7 (.fb 72 37 [1,2,3,4,5,6,7]), .o 2002000 (.map 71 74 4), .o 2003000 (.map 67 3 4)],fx:=[(1, .box 1 0),(2, .box 2 0),(3, .box 3 0),(4, .box 4 0),(5, .box 5 0),(6, .box 6 0),(7, .box 7 0)],ks:=[1,1,1,1,1,1,1,1,2,1],outs:=[.v 9 .bool, .u 8 (.map 71 74 4)],ofx:=[],res:=[9],fz:=true}
theorem qyc (N rc:Nat) (hr:CallG X0 dzaB (FzaB N rc)):GOk Try.prog (Xr44 N rc) qfY (FzaB N (rc+1)):=⟨⟨Try.f37,_,Try.func37,rfl,by kernel_rfl,by kernel_rfl,rfl,by kernel_rfl,CCn.of (qhd N rc hr) (us:=qpv N rc) (fun u h _=>qkc N rc hr u h) (fun x=>by kernel_rfl)⟩⟩
theorem qyD (N:Nat):∀rc:Nat,CallG X0 qfY (FzaB N rc)
 |0=>CallG.none fun x=>rfl
 |rc+1=>(qyc N rc (wzaB N rc)).call.base.base
def fs46 (N:Nat):List (FE D):=fs45 N
theorem qzQ (N:Nat):∀y∈fs46 N,CallOk X0 y.d y.F:=qzP N
def gs46 (N:Nat):List (GE D):=⟨qfY,FzaB N N⟩::gs45 N
theorem qvP (N:Nat):∀y∈gs46 N,CallG X0 y.d y.F:=qcw (x:=⟨qfY,FzaB N N⟩) (qyD N N) (qvO N)
def X46 (N:Nat):Ev Try.prog D:=(X0.with (fs46 N)).gen (gs46 N)
theorem qD2 (N:Nat):COk (X46 N):=COk.gen0 (COk.of (qzQ N)) (qvP N)
def Y46 (N:Nat):Ev Try.prog D:=(X46 N).cuts fun x lo hi=>match x,lo,hi with| .func 37,none,none=>5|_,_,_=>0
theorem qhf (N:Nat):COk (Y46 N):=COk.cuts (qD2 N)
def qoS (N:Nat):List (Pc D):=[]
theorem qjz (N:Nat):∀u∈qoS N,PcOk (Y46 N) (qab Try.f15) u:=qam
def PzaQ_2:PD D:={path:=[1,1,1,1,1,1,1,0,1,0,0,1,1,0,0,1,0,0],ins:=[.o 3 (.box 23), .o 8 (.box 60), .o 10 (.bx 67 [(0,7)]), .o 11 (.box 3), .o 12 (.box 3), .o 13 (.sl 3), .v 14 (.int .i64), .o 15 (.box 53), .o 2010000 (.map 67 3 4)],fx:=[(3, .box 0 0),(8, .box 1 0),(10, .box 2 0),(11, .box 3 0),(12, .box 4 0),(13, .c (.own 5)),(15, .box 6 0)],ks:=[1,1,1,1,1,1,1,1],exs:=[⟨.normal,[.v 57 .bool],[]⟩],keep:=[3,8,10,11,12,13,14,15,43,44,45]}
def qtV (N:Nat):PzaQ_2.F:=fun x=>qs5 N x.2.2.2.2.2.2.1 x.2.2.2.2.2.2.2.1 x.2.2.2.2.2.2.2.2.1
theorem qAM (N:Nat):CC (Y46 N) (qab Try.f15) PzaQ_2 (qtV N):=CC.of (qhf N) (us:=qoS N) (fun u h _=>qjz N u h) (fun x=>by kernel_rfl)
def qpF (N:Nat):List (Pc D):=PzaQ_2.pc (Y46 N) (qtV N)::qoS N
theorem qkm (N:Nat):∀u∈qpF N,PcOk (Y46 N) (qab Try.f15) u:=qac ((qAM N).pc (by kernel_rfl)) (qjz N)
def PzaQ_3:PD D:={path:=[1,1,1,1,1,1,1,0,1,0,0,1,1,0,0,1,1,1,1,1,0],ins:=[.o 3 (.box 23), .o 8 (.box 60), .o 10 (.bx 67 [(0,8)]), .o 11 (.box 3), .o 12 (.box 3), .o 13 (.sl 3), .v 14 (.int .i64), .o 15 (.box 53), .o 17 (.fb 72 37 [0,9,2,3,4,1,7]), .o 2010000 (.map 67 3 4), .o 200069634 (.bx 71 [(0,10)]), .o 204456577 (.map 71 74 4)],fx:=[(3, .box 0 0),(8, .box 1 0),(10, .box 2 0),(11, .box 3 0),(12, .box 4 0),(13, .c (.own 5)),(15, .box 6 0),(17, .box 7 0)],ks:=[1,1,1,1,1,1,0,1,1,1,2],exs:=[⟨.normal,[.v 73 .bool],[]⟩],keep:=[3,8,10,11,12,13,14,43,44,45]}
def qtW (N:Nat):PzaQ_3.F:=fun x=>qs6 N x.1 x.2.1 x.2.2.2.1 x.2.2.2.2.1 x.2.2.2.2.2.1 x.2.2.2.2.2.2.1 x.2.2.2.2.2.2.2.1 x.2.2.2.2.2.2.2.2.2.1 x.2.2.2.2.2.2.2.2.2.2.2.1
theorem qAN (N:Nat):CC (Y46 N) (qab Try.f15) PzaQ_3 (qtW N):=CC.of (qhf N) (us:=qpF N) (fun u h _=>qkm N u h) (fun x=>by kernel_rfl)
def qpG (N:Nat):List (Pc D):=PzaQ_3.pc (Y46 N) (qtW N)::qpF N
theorem qkn (N:Nat):∀u∈qpG N,PcOk (Y46 N) (qab Try.f15) u:=qac ((qAN N).pc (by kernel_rfl)) (qkm N)
def PzaQ_1:PD D:={path:=[1,1,1,1,1,1,1,0,1,0,0,1,1,0],ins:=[.o 3 (.box 23), .o 8 (.box 60), .o 10 (.bx 67 [(0,6)]), .o 11 (.box 3), .o 12 (.box 3), .o 13 (.sl 3), .v 43 (.sl 53), .v 45 (.int .i64), .o 2010000 (.map 67 3 4)],fx:=[(3, .box 0 0),(8, .box 1 0),(10, .box 2 0),(11, .box 3 0),(12, .box 4 0),(13, .c (.own 5))],ks:=[1,1,1,1,1,0,1],exs:=[⟨.normal,[.o 13 (.sl 3)],[(13, .c (.own 7))]⟩],keep:=[3,8,10,11,12,43,44,45]}
def qtU (N:Nat):PzaQ_1.F:=fun x=>qs4 N x.1 x.2.1 x.2.2.2.1 x.2.2.2.2.1 x.2.2.2.2.2.1 x.2.2.2.2.2.2.1 x.2.2.2.2.2.2.2.1 x.2.2.2.2.2.2.2.2.1
theorem qAL (N:Nat):CC (Y46 N) (qab Try.f15) PzaQ_1 (qtU N):=CC.of (qhf N) (us:=qpG N) (fun u h _=>qkn N u h) (fun x=>by kernel_rfl)
def qpE (N:Nat):List (Pc D):=PzaQ_1.pc (Y46 N) (qtU N)::qpG N
theorem qkl (N:Nat):∀u∈qpE N,PcOk (Y46 N) (qab Try.f15) u:=qac ((qAL N).pc (by kernel_rfl)) (qkn N)
def PzaQ_0:PD D:={path:=[1,1,1,1,1,1,1,0,1,0],ins:=[.o 3 (.box 23), .o 8 (.box 60), .o 10 (.bx 67 [(0,6)]), .o 11 (.box 3), .o 12 (.box 3), .o 13 (.sl 3), .v 43 (.sl 53), .v 44 (.int .i64), .v 45 (.int .i64), .o 2010000 (.map 67 3 4)],fx:=[(3, .box 0 0),(8, .box 1 0),(10, .box 2 0),(11, .box 3 0),(12, .box 4 0),(13, .c (.own 5))],ks:=[1,1,1,1,1,0,1],exs:=[⟨.exit 0,[.o 13 (.sl 3)],[(13, .c (.own 7))]⟩],keep:=[]}
def qtT (N:Nat) (n:Nat):PzaQ_0.F:=fun x=>qiQ N x.1 x.2.1 x.2.2.2.1 x.2.2.2.2.1 x.2.2.2.2.2.2.1 x.2.2.2.2.2.2.2.1 x.2.2.2.2.2.2.2.2.2.1 n x.2.2.2.2.2.1 x.2.2.2.2.2.2.2.2.1
theorem qAK (N:Nat) (n:Nat):CC (Y46 N) (qab Try.f15) PzaQ_0 (qtT N n):=CC.loop (qhf N) (us:=qpE N) (c:=sub (qab Try.f15) [1,1,1,1,1,1,1,0,1,0,0]) (by kernel_rfl) (by kernel_rfl) (fun u h _=>qkl N u h) (fun x=>rfl) (fun n x=>by kernel_rfl) n
def qwB (N:Nat):List (Pc D):=PzaQ_0.pc (Y46 N) (qtT N N)::qpE N
theorem qrM (N:Nat):∀u∈qwB N,PcOk (Y46 N) (qab Try.f15) u:=qac ((qAK N N).pc (by kernel_rfl)) (qkl N)
def dzaQ:FD D:={f:=15,np:=3,ins:=[.v 0 (.sl 53), .v 1 (.sl 70), .v 2 (.sl 33)],fx:=[],rcv:=none,rk:=0,outs:=[.o 6 (.sl 3), .v 7 (.int .i64)],ofx:=[(6, .c (.own 0))],rvs:=[.tmp 6, .tmp 7],flat:=false}
def FzaQ (N:Nat):dzaQ.F:=fun r x=>zaQ N x.1 x.2.1 x.2.2.1
theorem ozaQ (N:Nat):FOk Try.prog (Y46 N) dzaQ (FzaQ N):=⟨⟨Try.f15,_,Try.func15,rfl,by kernel_rfl,by kernel_rfl,rfl,FC.of (qhf N) (us:=qwB N) (fun u h _=>qrM N u h) (fun r x=>by kernel_rfl)⟩,by kernel_rfl,by kernel_rfl,by kernel_rfl,by kernel_rfl⟩
def fs47 (N:Nat):List (FE D):=⟨dzaQ,FzaQ N⟩::fs46 N
theorem qzR (N:Nat):∀y∈fs47 N,CallOk X0 y.d y.F:=qap (x:=⟨dzaQ,FzaQ N⟩) (CallOk.ch (CallOk.ch (CallOk.ch (ozaQ N).call))) (qzQ N)
def gs47 (N:Nat):List (GE D):=gs46 N
theorem qvQ (N:Nat):∀y∈gs47 N,CallG X0 y.d y.F:=qvP N
def X47 (N:Nat):Ev Try.prog D:=(X0.with (fs47 N)).gen (gs47 N)
theorem qD3 (N:Nat):COk (X47 N):=COk.gen0 (COk.of (qzR N)) (qvQ N)
def qwn (N:Nat):List (Pc D):=[]
theorem qrz (N:Nat):∀u∈qwn N,PcOk (X47 N) (qab Try.f28) u:=qam
def dzcA:FD D:={f:=28,np:=0,ins:=[],fx:=[],rcv:=none,rk:=0,outs:=[.o 0 (.sl 53)],ofx:=[(0, .c (.own 0))],rvs:=[.tmp 0],flat:=false}
def FzcA (N:Nat):dzcA.F:=fun r x=>zcA N
theorem ozcA (N:Nat):FOk Try.prog (X47 N) dzcA (FzcA N):=⟨⟨Try.f28,_,Try.func28,rfl,by kernel_rfl,by kernel_rfl,rfl,FC.of (qD3 N) (us:=qwn N) (fun u h _=>qrz N u h) (fun r x=>by kernel_rfl)⟩,by kernel_rfl,by kernel_rfl,by kernel_rfl,by kernel_rfl⟩
def fs48 (N:Nat):List (FE D):=⟨dzcA,FzcA N⟩::fs47 N
theorem qzS (N:Nat):∀y∈fs48 N,CallOk X0 y.d y.F:=qap (x:=⟨dzcA,FzcA N⟩) (CallOk.ch (CallOk.ch (ozcA N).call)) (qzR N)
def gs48 (N:Nat):List (GE D):=gs47 N
theorem qvR (N:Nat):∀y∈gs48 N,CallG X0 y.d y.F:=qvQ N
def X48 (N:Nat):Ev Try.prog D:=(X0.with (fs48 N)).gen (gs48 N)
theorem qD4 (N:Nat):COk (X48 N):=COk.gen0 (COk.of (qzS N)) (qvR N)
def qwo (N:Nat):List (Pc D):=[]
theorem qrA (N:Nat):∀u∈qwo N,PcOk (X48 N) (qab Try.f55) u:=qam
def dzcN:FD D:={f:=55,np:=2,ins:=[.v 0 (.sl 53), .v 1 (.agg 70)],fx:=[],rcv:=none,rk:=0,outs:=[.o 4 (.sl 3)],ofx:=[(4, .c (.own 0))],rvs:=[.tmp 4],flat:=false}
def FzcN (N:Nat):dzcN.F:=fun r x=>zcN N x.1 x.2.1
theorem ozcN (N:Nat):FOk Try.prog (X48 N) dzcN (FzcN N):=⟨⟨Try.f55,_,Try.func55,rfl,by kernel_rfl,by kernel_rfl,rfl,FC.of (qD4 N) (us:=qwo N) (fun u h _=>qrA N u h) (fun r x=>by kernel_rfl)⟩,by kernel_rfl,by kernel_rfl,by kernel_rfl,by kernel_rfl⟩
def fs49 (N:Nat):List (FE D):=⟨dzcN,FzcN N⟩::fs48 N
theorem qzT (N:Nat):∀y∈fs49 N,CallOk X0 y.d y.F:=qap (x:=⟨dzcN,FzcN N⟩) (CallOk.ch (CallOk.ch (ozcN N).call)) (qzS N)
def gs49 (N:Nat):List (GE D):=gs48 N
theorem qvS (N:Nat):∀y∈gs49 N,CallG X0 y.d y.F:=qvR N
def X49 (N:Nat):Ev Try.prog D:=(X0.with (fs49 N)).gen (gs49 N)
theorem qqZ (N:Nat):COk (X49 N):=COk.gen0 (COk.of (qzT N)) (qvS N)
def qpo (N:Nat):List (Pc D):=[]
theorem qj5 (N:Nat):∀u∈qpo N,PcOk (X49 N) (qab Try.f54) u:=qam
def PzcM_2:PD D:={path:=[1,1,1,0,1,0,0,1,0,0,1,0],ins:=[.o 5 (.box 70), .v 8 (.int .i64), .v 9 .bool, .o 10 (.sl 3), .v 12 (.int .i64), .v 13 .bool],fx:=[(5, .box 0 0),(10, .c (.own 1))],ks:=[1,1],exs:=[⟨.normal,[.v 50 .bool],[]⟩],keep:=[0,1,5,8,9,10,11,12]}
def qvs (N:Nat):PzcM_2.F:=fun x=>qDO N x.2.1 x.2.2.1 x.2.2.2.2.1 x.2.2.2.2.2.1
theorem qCi (N:Nat):CC (X49 N) (qab Try.f54) PzcM_2 (qvs N):=CC.of (qqZ N) (us:=qpo N) (fun u h _=>qj5 N u h) (fun x=>by kernel_rfl)
def qqE (N:Nat):List (Pc D):=PzcM_2.pc (X49 N) (qvs N)::qpo N
theorem qll (N:Nat):∀u∈qqE N,PcOk (X49 N) (qab Try.f54) u:=qac ((qCi N).pc (by kernel_rfl)) (qj5 N)
def PzcM_1:PD D:={path:=[1,1,1,0,1,0,0,1,0],ins:=[.v 0 (.sl 53), .v 1 (.mp 91 97 3), .o 5 (.box 70), .v 8 (.int .i64), .v 9 .bool, .o 10 (.sl 3), .v 11 (.int .i64)],fx:=[(5, .box 0 0),(10, .c (.own 1))],ks:=[1,1],exs:=[⟨.normal,[.v 8 (.int .i64), .v 9 .bool],[]⟩],keep:=[0,1,5,10,11]}
def qvr (N:Nat):PzcM_1.F:=fun x=>qDN N x.1 x.2.1 x.2.2.1 x.2.2.2.1 x.2.2.2.2.1 x.2.2.2.2.2.1 x.2.2.2.2.2.2.1
theorem qCh (N:Nat):CC (X49 N) (qab Try.f54) PzcM_1 (qvr N):=CC.of (qqZ N) (us:=qqE N) (fun u h _=>qll N u h) (fun x=>by kernel_rfl)
def qqD (N:Nat):List (Pc D):=PzcM_1.pc (X49 N) (qvr N)::qqE N
theorem qlk (N:Nat):∀u∈qqD N,PcOk (X49 N) (qab Try.f54) u:=qac ((qCh N).pc (by kernel_rfl)) (qll N)
def PzcM_0:PD D:={path:=[1,1,1,0,1,0],ins:=[.v 0 (.sl 53), .v 1 (.mp 91 97 3), .o 5 (.box 70), .v 8 (.int .i64), .v 9 .bool, .o 10 (.sl 3), .v 11 (.int .i64)],fx:=[(5, .box 0 0),(10, .c (.own 1))],ks:=[1,1],exs:=[⟨.exit 0,[.v 8 (.int .i64), .v 9 .bool],[]⟩],keep:=[]}
def qvq (N:Nat) (n:Nat):PzcM_0.F:=fun x=>qzh N x.1 x.2.1 x.2.2.1 x.2.2.2.2.2.1 n x.2.2.2.1 x.2.2.2.2.1 x.2.2.2.2.2.2.1
theorem qCg (N:Nat) (n:Nat):CC (X49 N) (qab Try.f54) PzcM_0 (qvq N n):=CC.loop (qqZ N) (us:=qqD N) (c:=sub (qab Try.f54) [1,1,1,0,1,0,0]) (by kernel_rfl) (by kernel_rfl) (fun u h _=>qlk N u h) (fun x=>rfl) (fun n x=>by kernel_rfl) n
def qw8 (N:Nat):List (Pc D):=PzcM_0.pc (X49 N) (qvq N N)::qqD N
theorem qsj (N:Nat):∀u∈qw8 N,PcOk (X49 N) (qab Try.f54) u:=qac ((qCg N N).pc (by kernel_rfl)) (qlk N)
def dzcM:FD D:={f:=54,np:=3,ins:=[.v 0 (.sl 53), .v 1 (.mp 91 97 3), .v 2 (.agg 70)],fx:=[],rcv:=none,rk:=0,outs:=[.v 6 (.int .i64), .v 7 .bool],ofx:=[],rvs:=[.tmp 6, .tmp 7],flat:=true}
def FzcM (N:Nat):dzcM.F:=fun r x=>zcM N x.1 x.2.1 x.2.2.1
theorem ozcM (N:Nat):FOk Try.prog (X49 N) dzcM (FzcM N):=⟨⟨Try.f54,_,Try.func54,rfl,by kernel_rfl,by kernel_rfl,rfl,FC.of (qqZ N) (us:=qw8 N) (fun u h _=>qsj N u h) (fun r x=>by kernel_rfl)⟩,by kernel_rfl,by kernel_rfl,by kernel_rfl,by kernel_rfl⟩
def fs50 (N:Nat):List (FE D):=⟨dzcM,FzcM N⟩::fs49 N
theorem qzU (N:Nat):∀y∈fs50 N,CallOk X0 y.d y.F:=qap (x:=⟨dzcM,FzcM N⟩) (CallOk.ch (CallOk.ch (ozcM N).call)) (qzT N)
def gs50 (N:Nat):List (GE D):=gs49 N
theorem qvT (N:Nat):∀y∈gs50 N,CallG X0 y.d y.F:=qvS N
def X50 (N:Nat):Ev Try.prog D:=(X0.with (fs50 N)).gen (gs50 N)
theorem qia (N:Nat):COk (X50 N):=COk.gen0 (COk.of (qzU N)) (qvT N)
def qoX (N:Nat):List (Pc D):=[]
theorem qjE (N:Nat):∀u∈qoX N,PcOk (X50 N) (qab Try.f53) u:=qam
def PzaX_0:PD D:={path:=[1,1,1,0,1,0],ins:=[.v 1 (.int .i64), .o 5 (.map 91 97 3), .o 6 (.sl 3), .v 7 (.int .i64)],fx:=[(5, .c (.own 0)),(6, .c (.own 1))],ks:=[2,1],exs:=[⟨.exit 0,[.u 0 (.map 91 97 3)],[]⟩],keep:=[0,1,5]}
def qub (N:Nat) (n:Nat):PzaX_0.F:=fun x=>qyQ N x.1 x.2.2.1 n x.2.1 x.2.2.2.1
theorem qA2 (N:Nat) (n:Nat):CC (X50 N) (qab Try.f53) PzaX_0 (qub N n):=CC.loop (qia N) (us:=qoX N) (c:=sub (qab Try.f53) [1,1,1,0,1,0,0]) (by kernel_rfl) (by kernel_rfl) (fun u h _=>qjE N u h) (fun x=>rfl) (fun n x=>by kernel_rfl) n
def qpQ (N:Nat):List (Pc D):=PzaX_0.pc (X50 N) (qub N N)::qoX N
theorem qkx (N:Nat):∀u∈qpQ N,PcOk (X50 N) (qab Try.f53) u:=qac ((qA2 N N).pc (by kernel_rfl)) (qjE N)
def PzaX_5:PD D:={path:=[1,1,1,1,0,1,0,0,1,0,1,1,0,0,1,0,0,1,1,0,0,1,0,0,1,1,1,0],ins:=[.o 5 (.map 91 97 3), .o 10 (.sl 3), .v 12 (.int .i64), .v 13 .bool, .v 14 (.int .i64), .v 15 .bool],fx:=[(5, .c (.own 0)),(10, .c (.own 1))],ks:=[1,1],exs:=[⟨.normal,[.v 85 .bool],[]⟩],keep:=[0,1,5,8,9,10,11,12]}
def qug (N:Nat):PzaX_5.F:=fun x=>qDF N x.2.2.1 x.2.2.2.1 x.2.2.2.2.1 x.2.2.2.2.2.1
theorem qA7 (N:Nat):CC (X50 N) (qab Try.f53) PzaX_5 (qug N):=CC.of (qia N) (us:=qpQ N) (fun u h _=>qkx N u h) (fun x=>by kernel_rfl)
def qpU (N:Nat):List (Pc D):=PzaX_5.pc (X50 N) (qug N)::qpQ N
theorem qkB (N:Nat):∀u∈qpU N,PcOk (X50 N) (qab Try.f53) u:=qac ((qA7 N).pc (by kernel_rfl)) (qkx N)
def PzaX_4:PD D:={path:=[1,1,1,1,0,1,0,0,1,0,1,1,0,0,1,0,0,1,1,0,0,1,0],ins:=[.v 0 (.sl 53), .v 1 (.int .i64), .o 5 (.map 91 97 3), .v 8 .bool, .v 9 (.int .i64), .o 10 (.sl 3), .v 11 (.int .i64)],fx:=[(5, .c (.own 0)),(10, .c (.own 1))],ks:=[2,1],exs:=[⟨.normal,[.u 0 (.map 91 97 3), .v 8 .bool],[]⟩],keep:=[0,1,5,9,10,11]}
def quf (N:Nat):PzaX_4.F:=fun x=>qDE N x.1 x.2.1 x.2.2.1 x.2.2.2.1 x.2.2.2.2.1 x.2.2.2.2.2.1 x.2.2.2.2.2.2.1
theorem qA6 (N:Nat):CC (X50 N) (qab Try.f53) PzaX_4 (quf N):=CC.of (qia N) (us:=qpU N) (fun u h _=>qkB N u h) (fun x=>by kernel_rfl)
def qpT (N:Nat):List (Pc D):=PzaX_4.pc (X50 N) (quf N)::qpU N
theorem qkA (N:Nat):∀u∈qpT N,PcOk (X50 N) (qab Try.f53) u:=qac ((qA6 N).pc (by kernel_rfl)) (qkB N)
def PzaX_3:PD D:={path:=[1,1,1,1,0,1,0,0,1,0,1,1,0,0,1,0,0,1,1,0],ins:=[.v 0 (.sl 53), .v 1 (.int .i64), .o 5 (.map 91 97 3), .v 8 .bool, .v 9 (.int .i64), .o 10 (.sl 3), .v 11 (.int .i64)],fx:=[(5, .c (.own 0)),(10, .c (.own 1))],ks:=[2,1],exs:=[⟨.exit 6,[.u 0 (.map 91 97 3), .v 8 .bool],[]⟩],keep:=[0,1,5,9]}
def que (N:Nat) (n:Nat):PzaX_3.F:=fun x=>qyT N x.1 x.2.1 x.2.2.2.2.1 x.2.2.2.2.2.1 n x.2.2.1 x.2.2.2.1 x.2.2.2.2.2.2.1
theorem qA5 (N:Nat) (n:Nat):CC (X50 N) (qab Try.f53) PzaX_3 (que N n):=CC.loop (qia N) (us:=qpT N) (c:=sub (qab Try.f53) [1,1,1,1,0,1,0,0,1,0,1,1,0,0,1,0,0,1,1,0,0]) (by kernel_rfl) (by kernel_rfl) (fun u h _=>qkA N u h) (fun x=>rfl) (fun n x=>by kernel_rfl) n
def qpS (N:Nat):List (Pc D):=PzaX_3.pc (X50 N) (que N N)::qpT N
theorem qkz (N:Nat):∀u∈qpS N,PcOk (X50 N) (qab Try.f53) u:=qac ((qA5 N N).pc (by kernel_rfl)) (qkA N)
def PzaX_2:PD D:={path:=[1,1,1,1,0,1,0,0,1,0,1,1,0],ins:=[.v 0 (.sl 53), .v 1 (.int .i64), .o 5 (.map 91 97 3), .v 8 .bool, .v 9 (.int .i64)],fx:=[(5, .c (.own 0))],ks:=[2],exs:=[⟨.exit 4,[.u 0 (.map 91 97 3), .v 8 .bool],[]⟩],keep:=[0,1,5]}
def qud (N:Nat) (n:Nat):PzaX_2.F:=fun x=>qyS N x.1 x.2.1 n x.2.2.1 x.2.2.2.1 x.2.2.2.2.1
theorem qA4 (N:Nat) (n:Nat):CC (X50 N) (qab Try.f53) PzaX_2 (qud N n):=CC.loop (qia N) (us:=qpS N) (c:=sub (qab Try.f53) [1,1,1,1,0,1,0,0,1,0,1,1,0,0]) (by kernel_rfl) (by kernel_rfl) (fun u h _=>qkz N u h) (fun x=>rfl) (fun n x=>by kernel_rfl) n
def qpR (N:Nat):List (Pc D):=PzaX_2.pc (X50 N) (qud N N)::qpS N
theorem qky (N:Nat):∀u∈qpR N,PcOk (X50 N) (qab Try.f53) u:=qac ((qA4 N N).pc (by kernel_rfl)) (qkz N)
def PzaX_1:PD D:={path:=[1,1,1,1,0,1,0],ins:=[.v 0 (.sl 53), .v 1 (.int .i64), .o 5 (.map 91 97 3), .v 8 .bool],fx:=[(5, .c (.own 0))],ks:=[2],exs:=[⟨.exit 2,[.u 0 (.map 91 97 3)],[]⟩],keep:=[5]}
def quc (N:Nat) (n:Nat):PzaX_1.F:=fun x=>qyR N x.1 x.2.1 n x.2.2.1 x.2.2.2.1
theorem qA3 (N:Nat) (n:Nat):CC (X50 N) (qab Try.f53) PzaX_1 (quc N n):=CC.loop (qia N) (us:=qpR N) (c:=sub (qab Try.f53) [1,1,1,1,0,1,0,0]) (by kernel_rfl) (by kernel_rfl) (fun u h _=>qky N u h) (fun x=>rfl) (fun n x=>by kernel_rfl) n
def qwH (N:Nat):List (Pc D):=PzaX_1.pc (X50 N) (quc N N)::qpR N
theorem qrS (N:Nat):∀u∈qwH N,PcOk (X50 N) (qab Try.f53) u:=qac ((qA3 N N).pc (by kernel_rfl)) (qky N)
def dzaX:FD D:={f:=53,np:=2,ins:=[.v 0 (.sl 53), .v 1 (.int .i64)],fx:=[],rcv:=none,rk:=0,outs:=[.o 4 (.map 91 97 3)],ofx:=[(4, .c (.own 0))],rvs:=[.tmp 4],flat:=false}
def FzaX (N:Nat):dzaX.F:=fun r x=>zaX N x.1 x.2.1
theorem ozaX (N:Nat):FOk Try.prog (X50 N) dzaX (FzaX N):=⟨⟨Try.f53,_,Try.func53,rfl,by kernel_rfl,by kernel_rfl,rfl,FC.of (qia N) (us:=qwH N) (fun u h _=>qrS N u h) (fun r x=>by kernel_rfl)⟩,by kernel_rfl,by kernel_rfl,by kernel_rfl,by kernel_rfl⟩
def fs51 (N:Nat):List (FE D):=⟨dzaX,FzaX N⟩::fs50 N
theorem qzV (N:Nat):∀y∈fs51 N,CallOk X0 y.d y.F:=qap (x:=⟨dzaX,FzaX N⟩) (CallOk.ch (CallOk.ch (ozaX N).call)) (qzU N)
def gs51 (N:Nat):List (GE D):=gs50 N
theorem qvU (N:Nat):∀y∈gs51 N,CallG X0 y.d y.F:=qvT N
def X51 (N:Nat):Ev Try.prog D:=(X0.with (fs51 N)).gen (gs51 N)
theorem qlZ (N:Nat):COk (X51 N):=COk.gen0 (COk.of (qzV N)) (qvU N)
def qpn (N:Nat):List (Pc D):=[]
theorem qj4 (N:Nat):∀u∈qpn N,PcOk (X51 N) (qab Try.f27) u:=qam
def PzcL_0:PD D:={path:=[1,1,0,0],ins:=[.v 0 (.sl 53), .v 1 (.int .i64), .v 2 (.int .i64)],fx:=[],ks:=[],exs:=[⟨.normal,[.v 39 .bool],[]⟩],keep:=[0,1,2]}
def qvl (N:Nat):PzcL_0.F:=fun x=>qDK N x.1 x.2.1 x.2.2.1
theorem qCb (N:Nat):CC (X51 N) (qab Try.f27) PzcL_0 (qvl N):=CC.of (qlZ N) (us:=qpn N) (fun u h _=>qj4 N u h) (fun x=>by kernel_rfl)
def qqz (N:Nat):List (Pc D):=PzcL_0.pc (X51 N) (qvl N)::qpn N
theorem qlg (N:Nat):∀u∈qqz N,PcOk (X51 N) (qab Try.f27) u:=qac ((qCb N).pc (by kernel_rfl)) (qj4 N)
def PzcL_4:PD D:={path:=[1,1,1,1,1,1,1,1,0,0,0,1,0,0,1,1,1,0,1,0,0,1,0,0,1,1,0],ins:=[.o 9 (.map 91 97 3), .o 10 (.box 70), .v 11 (.int .i64), .o 13 (.sl 70), .o 14 (.sl 3), .v 15 (.int .i64), .v 16 (.int .i64), .v 17 (.int .i64), .v 18 (.int .i64), .v 19 .bool],fx:=[(9, .c (.own 0)),(10, .box 1 0),(13, .c (.own 2)),(14, .c (.own 3))],ks:=[1,1,1,1],exs:=[⟨.normal,[.v 115 .bool],[]⟩],keep:=[0,2,9,10,11,13,14,15,16,17]}
def qvp (N:Nat):PzcL_4.F:=fun x=>qDM N x.2.1 x.2.2.1 x.2.2.2.2.1 x.2.2.2.2.2.1 x.2.2.2.2.2.2.1 x.2.2.2.2.2.2.2.1 x.2.2.2.2.2.2.2.2.1 x.2.2.2.2.2.2.2.2.2.1
theorem qCf (N:Nat):CC (X51 N) (qab Try.f27) PzcL_4 (qvp N):=CC.of (qlZ N) (us:=qqz N) (fun u h _=>qlg N u h) (fun x=>by kernel_rfl)
def qqC (N:Nat):List (Pc D):=PzcL_4.pc (X51 N) (qvp N)::qqz N
theorem qlj (N:Nat):∀u∈qqC N,PcOk (X51 N) (qab Try.f27) u:=qac ((qCf N).pc (by kernel_rfl)) (qlg N)
def PzcL_3:PD D:={path:=[1,1,1,1,1,1,1,1,0,0,0,1,0,0,1,1,1,0,1,0,0,1,0],ins:=[.v 0 (.sl 53), .o 9 (.map 91 97 3), .o 10 (.box 70), .v 11 (.int .i64), .o 13 (.sl 70), .o 14 (.sl 3), .v 15 (.int .i64), .v 16 (.int .i64)],fx:=[(9, .c (.own 0)),(10, .box 1 0),(13, .c (.own 2)),(14, .c (.own 3))],ks:=[1,2,1,1],exs:=[⟨.normal,[.u 1 (.box 70), .v 15 (.int .i64)],[]⟩],keep:=[0,2,9,10,11,13,14,16]}
def qvo (N:Nat):PzcL_3.F:=fun x=>qDL N x.1 x.2.1 x.2.2.1 x.2.2.2.1 x.2.2.2.2.2.1 x.2.2.2.2.2.2.1 x.2.2.2.2.2.2.2.1
theorem qCe (N:Nat):CC (X51 N) (qab Try.f27) PzcL_3 (qvo N):=CC.of (qlZ N) (us:=qqC N) (fun u h _=>qlj N u h) (fun x=>by kernel_rfl)
def qqB (N:Nat):List (Pc D):=PzcL_3.pc (X51 N) (qvo N)::qqC N
theorem qli (N:Nat):∀u∈qqB N,PcOk (X51 N) (qab Try.f27) u:=qac ((qCe N).pc (by kernel_rfl)) (qlj N)
def PzcL_2:PD D:={path:=[1,1,1,1,1,1,1,1,0,0,0,1,0,0,1,1,1,0,1,0],ins:=[.v 0 (.sl 53), .o 9 (.map 91 97 3), .o 10 (.box 70), .v 11 (.int .i64), .o 13 (.sl 70), .o 14 (.sl 3), .v 15 (.int .i64), .v 16 (.int .i64)],fx:=[(9, .c (.own 0)),(10, .box 1 0),(13, .c (.own 2)),(14, .c (.own 3))],ks:=[1,2,1,1],exs:=[⟨.exit 2,[.u 1 (.box 70), .v 15 (.int .i64)],[]⟩],keep:=[0,2,9,10,11,13]}
def qvn (N:Nat) (n:Nat):PzcL_2.F:=fun x=>qzg N x.1 x.2.1 x.2.2.2.1 x.2.2.2.2.2.1 n x.2.2.1 x.2.2.2.2.2.2.1 x.2.2.2.2.2.2.2.1
theorem qCd (N:Nat) (n:Nat):CC (X51 N) (qab Try.f27) PzcL_2 (qvn N n):=CC.loop (qlZ N) (us:=qqB N) (c:=sub (qab Try.f27) [1,1,1,1,1,1,1,1,0,0,0,1,0,0,1,1,1,0,1,0,0]) (by kernel_rfl) (by kernel_rfl) (fun u h _=>qli N u h) (fun x=>rfl) (fun n x=>by kernel_rfl) n
def qqA (N:Nat):List (Pc D):=PzcL_2.pc (X51 N) (qvn N N)::qqB N
theorem qlh (N:Nat):∀u∈qqA N,PcOk (X51 N) (qab Try.f27) u:=qac ((qCd N N).pc (by kernel_rfl)) (qli N)
def PzcL_1:PD D:={path:=[1,1,1,1,1,1,1,1,0,0],ins:=[.v 0 (.sl 53), .o 9 (.map 91 97 3), .o 10 (.box 70), .v 11 (.int .i64), .o 13 (.sl 70)],fx:=[(9, .c (.own 0)),(10, .box 1 0),(13, .c (.own 2))],ks:=[1,2,0],exs:=[⟨.exit 0,[.u 1 (.box 70), .o 13 (.sl 70)],[(13, .c (.own 3))]⟩,⟨.ret,[.v 7 (.int .i64)],[(6, .c .nilS)]⟩],keep:=[2,10]}
def qvm (N:Nat) (n:Nat):PzcL_1.F:=fun x=>qzf N x.1 x.2.1 n x.2.2.1 x.2.2.2.1 x.2.2.2.2.1
theorem qCc (N:Nat) (n:Nat):CC (X51 N) (qab Try.f27) PzcL_1 (qvm N n):=CC.loop (qlZ N) (us:=qqA N) (c:=sub (qab Try.f27) [1,1,1,1,1,1,1,1,0,0,0]) (by kernel_rfl) (by kernel_rfl) (fun u h _=>qlh N u h) (fun x=>rfl) (fun n x=>by kernel_rfl) n
def qw7 (N:Nat):List (Pc D):=PzcL_1.pc (X51 N) (qvm N N)::qqA N
theorem qsi (N:Nat):∀u∈qw7 N,PcOk (X51 N) (qab Try.f27) u:=qac ((qCc N N).pc (by kernel_rfl)) (qlh N)
def dzcL:FD D:={f:=27,np:=3,ins:=[.v 0 (.sl 53), .v 1 (.int .i64), .v 2 (.int .i64)],fx:=[],rcv:=none,rk:=0,outs:=[.o 6 (.sl 70), .v 7 (.int .i64)],ofx:=[(6, .c (.own 0))],rvs:=[.tmp 6, .tmp 7],flat:=false}
def FzcL (N:Nat):dzcL.F:=fun r x=>zcL N x.1 x.2.1 x.2.2.1
theorem ozcL (N:Nat):FOk Try.prog (X51 N) dzcL (FzcL N):=⟨⟨Try.f27,_,Try.func27,rfl,by kernel_rfl,by kernel_rfl,rfl,FC.of (qlZ N) (us:=qw7 N) (fun u h _=>qsi N u h) (fun r x=>by kernel_rfl)⟩,by kernel_rfl,by kernel_rfl,by kernel_rfl,by kernel_rfl⟩
def fs52 (N:Nat):List (FE D):=⟨dzcL,FzcL N⟩::fs51 N
theorem qzW (N:Nat):∀y∈fs52 N,CallOk X0 y.d y.F:=qap (x:=⟨dzcL,FzcL N⟩) (CallOk.ch (CallOk.ch (ozcL N).call)) (qzV N)
def gs52 (N:Nat):List (GE D):=gs51 N
theorem qvV (N:Nat):∀y∈gs52 N,CallG X0 y.d y.F:=qvU N
def X52 (N:Nat):Ev Try.prog D:=(X0.with (fs52 N)).gen (gs52 N)
theorem qAm (N:Nat):COk (X52 N):=COk.gen0 (COk.of (qzW N)) (qvV N)
def qoM (N:Nat):List (Pc D):=[]
theorem qjt (N:Nat):∀u∈qoM N,PcOk (X52 N) (qab Try.f52) u:=qam
def PzaI_0:PD D:={path:=[1,1,0,1,0],ins:=[.v 0 (.sl 33), .v 1 (.sl 33), .v 5 (.int .i64)],fx:=[],ks:=[],exs:=[⟨.exit 0,[],[]⟩,⟨.ret,[.v 4 .bool],[]⟩],keep:=[]}
def qtI (N:Nat) (n:Nat):PzaI_0.F:=fun x=>qyG N x.1 x.2.1 n x.2.2.1
theorem qAz (N:Nat) (n:Nat):CC (X52 N) (qab Try.f52) PzaI_0 (qtI N n):=CC.loop (qAm N) (us:=qoM N) (c:=sub (qab Try.f52) [1,1,0,1,0,0]) (by kernel_rfl) (by kernel_rfl) (fun u h _=>qjt N u h) (fun x=>rfl) (fun n x=>by kernel_rfl) n
def qwv (N:Nat):List (Pc D):=PzaI_0.pc (X52 N) (qtI N N)::qoM N
theorem qrG (N:Nat):∀u∈qwv N,PcOk (X52 N) (qab Try.f52) u:=qac ((qAz N N).pc (by kernel_rfl)) (qjt N)
def dzaI:FD D:={f:=52,np:=2,ins:=[.v 0 (.sl 33), .v 1 (.sl 33)],fx:=[],rcv:=none,rk:=0,outs:=[.v 4 .bool],ofx:=[],rvs:=[.tmp 4],flat:=true}
def FzaI (N:Nat):dzaI.F:=fun r x=>zaI N x.1 x.2.1
theorem ozaI (N:Nat):FOk Try.prog (X52 N) dzaI (FzaI N):=⟨⟨Try.f52,_,Try.func52,rfl,by kernel_rfl,by kernel_rfl,rfl,FC.of (qAm N) (us:=qwv N) (fun u h _=>qrG N u h) (fun r x=>by kernel_rfl)⟩,by kernel_rfl,by kernel_rfl,by kernel_rfl,by kernel_rfl⟩
def fs53 (N:Nat):List (FE D):=⟨dzaI,FzaI N⟩::fs52 N
theorem qzX (N:Nat):∀y∈fs53 N,CallOk X0 y.d y.F:=qap (x:=⟨dzaI,FzaI N⟩) (CallOk.ch (CallOk.ch (ozaI N).call)) (qzW N)
def gs53 (N:Nat):List (GE D):=gs52 N
theorem qvW (N:Nat):∀y∈gs53 N,CallG X0 y.d y.F:=qvV N
def X53 (N:Nat):Ev Try.prog D:=(X0.with (fs53 N)).gen (gs53 N)
theorem qD5 (N:Nat):COk (X53 N):=COk.gen0 (COk.of (qzX N)) (qvW N)
def qwh (N:Nat):List (Pc D):=[]
theorem qrt (N:Nat):∀u∈qwh N,PcOk (X53 N) (qab Try.f25) u:=qam
def dzaD:FD D:={f:=25,np:=2,ins:=[.v 0 (.sl 33), .v 1 (.sl 33)],fx:=[],rcv:=none,rk:=0,outs:=[.v 4 .bool],ofx:=[],rvs:=[.tmp 4],flat:=true}
def FzaD (N:Nat):dzaD.F:=fun r x=>zaD N x.1 x.2.1
theorem ozaD (N:Nat):FOk Try.prog (X53 N) dzaD (FzaD N):=⟨⟨Try.f25,_,Try.func25,rfl,by kernel_rfl,by kernel_rfl,rfl,FC.of (qD5 N) (us:=qwh N) (fun u h _=>qrt N u h) (fun r x=>by kernel_rfl)⟩,by kernel_rfl,by kernel_rfl,by kernel_rfl,by kernel_rfl⟩
def fs54 (N:Nat):List (FE D):=⟨dzaD,FzaD N⟩::fs53 N
theorem qzY (N:Nat):∀y∈fs54 N,CallOk X0 y.d y.F:=qap (x:=⟨dzaD,FzaD N⟩) (CallOk.ch (CallOk.ch (ozaD N).call)) (qzX N)
def gs54 (N:Nat):List (GE D):=gs53 N
theorem qvX (N:Nat):∀y∈gs54 N,CallG X0 y.d y.F:=qvW N
def X54 (N:Nat):Ev Try.prog D:=(X0.with (fs54 N)).gen (gs54 N)
theorem qAn (N:Nat):COk (X54 N):=COk.gen0 (COk.of (qzY N)) (qvX N)
def qpj (N:Nat):List (Pc D):=[]
theorem qj0 (N:Nat):∀u∈qpj N,PcOk (X54 N) (qab Try.f26) u:=qam
def PzcH_0:PD D:={path:=[1,1,0,1,0],ins:=[.v 0 (.sl 3), .v 1 (.sl 3), .v 5 (.int .i64)],fx:=[],ks:=[],exs:=[⟨.exit 0,[],[]⟩,⟨.ret,[.v 4 .bool],[]⟩],keep:=[]}
def qve (N:Nat) (n:Nat):PzcH_0.F:=fun x=>qza N x.1 x.2.1 n x.2.2.1
theorem qB4 (N:Nat) (n:Nat):CC (X54 N) (qab Try.f26) PzcH_0 (qve N n):=CC.loop (qAn N) (us:=qpj N) (c:=sub (qab Try.f26) [1,1,0,1,0,0]) (by kernel_rfl) (by kernel_rfl) (fun u h _=>qj0 N u h) (fun x=>rfl) (fun n x=>by kernel_rfl) n
def qw3 (N:Nat):List (Pc D):=PzcH_0.pc (X54 N) (qve N N)::qpj N
theorem qse (N:Nat):∀u∈qw3 N,PcOk (X54 N) (qab Try.f26) u:=qac ((qB4 N N).pc (by kernel_rfl)) (qj0 N)
def dzcH:FD D:={f:=26,np:=2,ins:=[.v 0 (.sl 3), .v 1 (.sl 3)],fx:=[],rcv:=none,rk:=0,outs:=[.v 4 .bool],ofx:=[],rvs:=[.tmp 4],flat:=true}
def FzcH (N:Nat):dzcH.F:=fun r x=>zcH N x.1 x.2.1
theorem ozcH (N:Nat):FOk Try.prog (X54 N) dzcH (FzcH N):=⟨⟨Try.f26,_,Try.func26,rfl,by kernel_rfl,by kernel_rfl,rfl,FC.of (qAn N) (us:=qw3 N) (fun u h _=>qse N u h) (fun r x=>by kernel_rfl)⟩,by kernel_rfl,by kernel_rfl,by kernel_rfl,by kernel_rfl⟩
def fs55 (N:Nat):List (FE D):=⟨dzcH,FzcH N⟩::fs54 N
theorem qzZ (N:Nat):∀y∈fs55 N,CallOk X0 y.d y.F:=qap (x:=⟨dzcH,FzcH N⟩) (CallOk.ch (CallOk.ch (ozcH N).call)) (qzY N)
def gs55 (N:Nat):List (GE D):=gs54 N
theorem qvY (N:Nat):∀y∈gs55 N,CallG X0 y.d y.F:=qvX N
def X55 (N:Nat):Ev Try.prog D:=(X0.with (fs55 N)).gen (gs55 N)
theorem qAo (N:Nat):COk (X55 N):=COk.gen0 (COk.of (qzZ N)) (qvY N)
def qpk (N:Nat):List (Pc D):=[]
theorem qj1 (N:Nat):∀u∈qpk N,PcOk (X55 N) (qab Try.f12) u:=qam
def PzcI_0:PD D:={path:=[1,1,1,1,1,1,0],ins:=[.v 3 (.sl 33), .v 4 (.int .i64), .o 5 (.sl 3), .v 6 (.int .i64), .o 7 (.sl 3), .v 8 (.int .i64), .v 10 (.int .i64)],fx:=[(5, .c (.own 0)),(7, .c (.own 1))],ks:=[1,1],exs:=[⟨.normal,[.v 0 .bool],[]⟩],keep:=[]}
def qvf (N:Nat):PzcI_0.F:=fun x=>qzb N x.1 x.2.1 x.2.2.1 x.2.2.2.1 x.2.2.2.2.1 x.2.2.2.2.2.1 x.2.2.2.2.2.2.1
theorem qB5 (N:Nat):CC (X55 N) (qab Try.f12) PzcI_0 (qvf N):=CC.of (qAo N) (us:=qpk N) (fun u h _=>qj1 N u h) (fun x=>by kernel_rfl)
def qw4 (N:Nat):List (Pc D):=PzcI_0.pc (X55 N) (qvf N)::qpk N
theorem qsf (N:Nat):∀u∈qw4 N,PcOk (X55 N) (qab Try.f12) u:=qac ((qB5 N).pc (by kernel_rfl)) (qj1 N)
def dzcI:FD D:={f:=12,np:=0,ins:=[],fx:=[],rcv:=none,rk:=0,outs:=[.v 0 .bool],ofx:=[],rvs:=[.tmp 0],flat:=true}
def FzcI (N:Nat):dzcI.F:=fun r x=>zcI N
theorem ozcI (N:Nat):FOk Try.prog (X55 N) dzcI (FzcI N):=⟨⟨Try.f12,_,Try.func12,rfl,by kernel_rfl,by kernel_rfl,rfl,FC.of (qAo N) (us:=qw4 N) (fun u h _=>qsf N u h) (fun r x=>by kernel_rfl)⟩,by kernel_rfl,by kernel_rfl,by kernel_rfl,by kernel_rfl⟩
def fs56 (N:Nat):List (FE D):=⟨dzcI,FzcI N⟩::fs55 N
theorem qz0 (N:Nat):∀y∈fs56 N,CallOk X0 y.d y.F:=qap (x:=⟨dzcI,FzcI N⟩) (CallOk.ch (CallOk.ch (ozcI N).call)) (qzZ N)
def gs56 (N:Nat):List (GE D):=gs55 N
theorem qvZ (N:Nat):∀y∈gs56 N,CallG X0 y.d y.F:=qvY N
def X56 (N:Nat):Ev Try.prog D:=(X0.with (fs56 N)).gen (gs56 N)
theorem qmQ (N:Nat):COk (X56 N):=COk.gen0 (COk.of (qz0 N)) (qvZ N)
def qoL (N:Nat):List (Pc D):=[]
theorem qjs (N:Nat):∀u∈qoL N,PcOk (X56 N) (qab Try.f4) u:=qam
def PzaG_2:PD D:={path:=[1,1,0,1,0,0,1,0,0,1,1,1,1,1,0,1,0],ins:=[.o 3 (.box 48), .o 9 (.sl 33), .v 10 (.sl 33), .v 11 (.int .i64)],fx:=[(3, .box 0 0),(9, .c (.own 1))],ks:=[1,1],exs:=[⟨.exit 2,[.v 10 (.sl 33)],[]⟩],keep:=[3,4,5,6,7]}
def qtG (N:Nat) (n:Nat):PzaG_2.F:=fun x=>qhR N x.2.1 n x.2.2.1 x.2.2.2.1
theorem qAx (N:Nat) (n:Nat):CC (X56 N) (qab Try.f4) PzaG_2 (qtG N n):=CC.loop (qmQ N) (us:=qoL N) (c:=sub (qab Try.f4) [1,1,0,1,0,0,1,0,0,1,1,1,1,1,0,1,0,0]) (by kernel_rfl) (by kernel_rfl) (fun u h _=>qjs N u h) (fun x=>rfl) (fun n x=>by kernel_rfl) n
def qpx (N:Nat):List (Pc D):=PzaG_2.pc (X56 N) (qtG N N)::qoL N
theorem qke (N:Nat):∀u∈qpx N,PcOk (X56 N) (qab Try.f4) u:=qac ((qAx N N).pc (by kernel_rfl)) (qjs N)
def PzaG_3:PD D:={path:=[1,1,0,1,0,0,1,0,0,1,1,1,1,1,1,1,1,0],ins:=[.o 3 (.box 48), .o 12 (.sl 3), .v 13 (.int .i64), .o 14 (.sl 3), .v 15 (.int .i64)],fx:=[(3, .box 0 0),(12, .c (.own 1)),(14, .c (.own 2))],ks:=[1,1,1],exs:=[⟨.normal,[.v 80 .bool],[]⟩],keep:=[3,4]}
def qtH (N:Nat):PzaG_3.F:=fun x=>qyF N x.2.1 x.2.2.1 x.2.2.2.1 x.2.2.2.2.1
theorem qAy (N:Nat):CC (X56 N) (qab Try.f4) PzaG_3 (qtH N):=CC.of (qmQ N) (us:=qpx N) (fun u h _=>qke N u h) (fun x=>by kernel_rfl)
def qpy (N:Nat):List (Pc D):=PzaG_3.pc (X56 N) (qtH N)::qpx N
theorem qkf (N:Nat):∀u∈qpy N,PcOk (X56 N) (qab Try.f4) u:=qac ((qAy N).pc (by kernel_rfl)) (qke N)
def PzaG_1:PD D:={path:=[1,1,0,1,0,0,1,0],ins:=[.o 3 (.box 48)],fx:=[(3, .box 0 0)],ks:=[2],exs:=[⟨.normal,[.u 0 (.box 48)],[]⟩,⟨.ret,[.v 2 .bool],[]⟩],keep:=[3,4]}
def qtF (N:Nat):PzaG_1.F:=fun x=>qsZ N x.1
theorem qAw (N:Nat):CC (X56 N) (qab Try.f4) PzaG_1 (qtF N):=CC.of (qmQ N) (us:=qpy N) (fun u h _=>qkf N u h) (fun x=>by kernel_rfl)
def qpw (N:Nat):List (Pc D):=PzaG_1.pc (X56 N) (qtF N)::qpy N
theorem qkd (N:Nat):∀u∈qpw N,PcOk (X56 N) (qab Try.f4) u:=qac ((qAw N).pc (by kernel_rfl)) (qkf N)
def PzaG_0:PD D:={path:=[1,1,0,1,0],ins:=[.o 3 (.box 48), .v 4 (.int .i64)],fx:=[(3, .box 0 0)],ks:=[0],exs:=[⟨.exit 0,[],[]⟩,⟨.ret,[.v 2 .bool],[]⟩],keep:=[]}
def qtE (N:Nat) (n:Nat):PzaG_0.F:=fun x=>qiO N n x.1 x.2.1
theorem qAv (N:Nat) (n:Nat):CC (X56 N) (qab Try.f4) PzaG_0 (qtE N n):=CC.loop (qmQ N) (us:=qpw N) (c:=sub (qab Try.f4) [1,1,0,1,0,0]) (by kernel_rfl) (by kernel_rfl) (fun u h _=>qkd N u h) (fun x=>rfl) (fun n x=>by kernel_rfl) n
def qwu (N:Nat):List (Pc D):=PzaG_0.pc (X56 N) (qtE N N)::qpw N
theorem qrF (N:Nat):∀u∈qwu N,PcOk (X56 N) (qab Try.f4) u:=qac ((qAv N N).pc (by kernel_rfl)) (qkd N)
def dzaG:FD D:={f:=4,np:=1,ins:=[.v 0 (.sl 3)],fx:=[],rcv:=none,rk:=0,outs:=[.v 2 .bool],ofx:=[],rvs:=[.tmp 2],flat:=true}
def FzaG (N:Nat):dzaG.F:=fun r x=>zaG N x.1
theorem ozaG (N:Nat):FOk Try.prog (X56 N) dzaG (FzaG N):=⟨⟨Try.f4,_,Try.func4,rfl,by kernel_rfl,by kernel_rfl,rfl,FC.of (qmQ N) (us:=qwu N) (fun u h _=>qrF N u h) (fun r x=>by kernel_rfl)⟩,by kernel_rfl,by kernel_rfl,by kernel_rfl,by kernel_rfl⟩
def fs57 (N:Nat):List (FE D):=⟨dzaG,FzaG N⟩::fs56 N
theorem qDU (N:Nat):∀y∈fs57 N,CallOk X0 y.d y.F:=qap (x:=⟨dzaG,FzaG N⟩) (CallOk.ch (CallOk.ch (ozaG N).call)) (qz0 N)
def gs57 (N:Nat):List (GE D):=gs56 N
theorem qCG (N:Nat):∀y∈gs57 N,CallG X0 y.d y.F:=qvZ N
def X57 (N:Nat):Ev Try.prog D:=(X0.with (fs57 N)).gen (gs57 N)
theorem qFn (N:Nat):COk (X57 N):=COk.gen0 (COk.of (qDU N)) (qCG N)
end
end Go.W
end
section
set_option linter.unusedVariables false
set_option linter.unusedSimpArgs false
namespace Go.W
open Go.AM
theorem w64 {n:Int} (h: -9223372036854775808≤n) (h':n≤9223372036854775807):IntKind.wrap .i64 n=n:=by rw[IntKind.wrap_i64];omega
theorem w8 {n:Int} (h:0≤n) (h':n≤255):IntKind.wrap .u8 n=n:=by rw[IntKind.wrap_u8];omega
theorem qad {α β:Type} (x:α) (f:α→Option β):AM.lt x f=f x:=rfl
theorem qaa {α β:Type} (x:α) (f:α→Option β):Option.bind (some x) f=f x:=rfl
theorem qnd {α:Type} {xs:List α} {i:Int} (h0:0≤i) (h1:i<xs.length):∃x,getI xs i=some x∧x∈xs∧xs[i.toNat]? =some x:=by
 have hlt:i.toNat<xs.length:=by omega
 exact ⟨xs[i.toNat],by simp[getI,h0,hlt],by simp,by simp[hlt]⟩
def Mk (c:Int) (s:Maker):Prop:=0≤s.n∧s.n≤c
theorem qbc (N:Nat) {c:Int} {s:Maker} (k:Int) (hk:1≤k) (hk2:k≤1000000) (hs:Mk c s) (hc:c≤1000000000000):∃r s',zbQ N s k=some (r,s')∧0≤r∧r<k∧Mk (c+1) s':=by
 obtain ⟨h0,h1⟩:=hs
 have h15:∃y,qtl N s 0 (decide (0<(s.l.length:Int)))=some y:=by
  unfold qtl
  by_cases hl:0<(s.l.length:Int)
  ·rw[if_pos (by simpa using hl)]
   have hne:(s.l.length:Int)≠0:=by omega
   have hm:modI s.n s.l.length=some (s.n.tmod s.l.length):=by unfold modI;rw[if_neg hne]
   have hd:divI s.n s.l.length=some (s.n.tdiv s.l.length):=by unfold divI;rw[if_neg hne]
   have hr0:0≤s.n.tmod s.l.length:=Int.tmod_nonneg _ h0
   have hr1:s.n.tmod s.l.length<s.l.length:=Int.tmod_lt_of_pos _ hl
   obtain ⟨x,hx,_,_⟩:=qnd hr0 hr1
   rw[hm,qaa,hx,qaa,hd,qaa,qad]
   exact ⟨_,rfl⟩
  ·rw[if_neg (by simpa using hl)]
   exact ⟨_,rfl⟩
 obtain ⟨y,hy⟩:=h15
 unfold zbQ
 rw[hy,qaa]
 have hm:modI y k=some (y.tmod k):=by simp[modI];omega
 have hlt:y.tmod k<k:=Int.tmod_lt_of_pos _ (by omega)
 have hgt: -k<y.tmod k:=by
  have:=Int.lt_tmod_of_pos y (by omega:0<k)
  omega
 have hn:IntKind.wrap .i64 (s.n+1)=s.n+1:=w64 (by omega) (by omega)
 simp only[hm,qaa,hn]
 unfold qy0
 by_cases hneg:y.tmod k<0
 ·rw[if_pos (by simpa using hneg),qad,qaa,w64 (by omega) (by omega)]
  exact ⟨_,_,rfl,by omega,by omega,by constructor<;>simp<;>omega⟩
 ·rw[if_neg (by simpa using hneg),qaa]
  exact ⟨_,_,rfl,by omega,by omega,by constructor<;>simp<;>omega⟩
theorem qix (N:Nat) {c:Int} {s:Maker} (l:List Int) (hl:1≤l.length) (hl2:l.length≤1000) (hs:Mk c s) (hc:c≤1000000000000):∃x s',zbR N s l=some (x,s')∧x∈l∧Mk (c+1) s':=by
 obtain ⟨r,s',h1,h2,h3,h4⟩:=qbc N (s:=s) (c:=c) (l.length:Int) (by omega) (by omega) hs hc
 obtain ⟨x,hx,hm,_⟩:=qnd h2 h3
 unfold zbR
 rw[h1,qaa]
 simp only[hx,qaa]
 exact ⟨x,s',rfl,hm,h4⟩
end Go.W
end
section
set_option linter.unusedVariables false
set_option linter.unusedSimpArgs false
namespace Go.W
open Go.AM
theorem qae {α:Type} {xs:List α} {i:Nat} {x:α} (h:xs[i]? =some x):getI xs (i:Int)=some x:=by simp[getI,h]
theorem qao {α:Type} {xs:List α} {i:Nat} (h:i<xs.length):xs[i]? =some xs[i]:=by simp[h]
theorem qbm {α:Type} {xs:List α} {i:Nat} {x:α} (h:xs[i]? =some x):xs.drop i=x::xs.drop (i+1):=by
 obtain ⟨hlt,rfl⟩:=List.getElem?_eq_some_iff.1 h
 exact List.drop_eq_getElem_cons hlt
theorem w64s {i:Nat} (h:i<9223372036854775807):IntKind.wrap .i64 ((i:Int)+1)=((i+1:Nat):Int):=by rw[w64 (by omega) (by omega)];omega
theorem w64p {i:Nat} (h:i<9223372036854775807):IntKind.wrap .i64 (((i+1:Nat):Int) - 1)=(i:Int):=by rw[w64 (by omega) (by omega)];omega
theorem dpos {a b:Int} (h:a<b):decide (a<b)=true:=decide_eq_true h
theorem dneg {a b:Int} (h:¬a<b):¬decide (a<b)=true:=by simpa using h
theorem lpos {a b:Int} (h:a≤b):decide (a≤b)=true:=decide_eq_true h
theorem lneg {a b:Int} (h:¬a≤b):¬decide (a≤b)=true:=by simpa using h
theorem qaH {α:Type} {xs ys:List α} (h:xs.length+ys.length≤4294967296):appI xs ys=some (xs++ys):=if_pos h
theorem qb8 {α:Type} {xs:List α} {i:Nat} (h:i≤xs.length):cutI xs (i:Int) (xs.length:Int)=some (xs.drop i):=by
 unfold cutI;rw[if_pos (by omega)];simp
theorem qb9 {α:Type} {xs:List α} {i:Nat} (h:i≤xs.length):cutI xs 0 (i:Int)=some (xs.take i):=by
 unfold cutI;rw[if_pos (by omega)];simp
theorem Mk.le {c c':Int} {s:Maker} (h:Mk c s) (hc:c≤c'):Mk c' s:=⟨h.1,Int.le_trans h.2 hc⟩
theorem mk0 (t:List Int):Mk 0 (Maker.mk t 0):=⟨by simp,by simp⟩
def res {α β:Type} (p:Nat→α→Bool) (out:Nat→α→β):Nat→List α→Sum Unit β
 |_,[]=> .inl ()
 |i,x::xs=>if p i x=true then .inr (out i x) else res p out (i+1) xs
theorem qat {α β:Type} {l:List α} (p:Nat→α→Bool) (out:Nat→α→β) (F:Nat→Int→Option (Sum Unit β)) (h0:∀n,F (n+1) (l.length:Int)=some (.inl ()))
  (h1:∀(n i:Nat) (x:α),l[i]? =some x→F (n+1) (i:Int)=if p i x=true then some (.inr (out i x)) else F n ((i+1:Nat):Int)):∀(k n i:Nat),k<n→i+k=l.length→F n (i:Int)=some (res p out i (l.drop i))
 |k,0,i,hn,_=>by omega
 |0,n+1,i,hn,hi=>by
  obtain rfl:i=l.length:=by omega
  rw[h0,List.drop_length,res]
 |k+1,n+1,i,hn,hi=>by
  have hlt:i<l.length:=by omega
  rw[h1 n i _ (qao hlt),qbm (qao hlt),res]
  split
  ·rfl
  ·exact qat p out F h0 h1 k n (i+1) (by omega) (by omega)
def qc5 {α:Type} (p:Nat→α→Bool):Nat→List α→Int
 |_,[]=> -1
 |i,x::xs=>if p i x=true then (i:Int) else qc5 p (i+1) xs
theorem qeU {α:Type} (p:Nat→α→Bool):∀(l:List α) (i:Nat),res p (fun i _=>(i:Int)) i l= .inl ()∧qc5 p i l= -1∨res p (fun i _=>(i:Int)) i l= .inr (qc5 p i l)∧0≤qc5 p i l
 |[],i=> .inl ⟨rfl,rfl⟩
 |x::xs,i=>by
  rw[res,qc5]
  by_cases h:p i x=true
  ·rw[if_pos h,if_pos h];exact .inr ⟨rfl,by omega⟩
  ·rw[if_neg h,if_neg h];exact qeU p xs (i+1)
theorem qeB {α:Type} (p:Nat→α→Bool):∀(l:List α) (i:Nat),(qc5 p i l= -1∧∀(j:Nat) (x:α),l[j]? =some x→p (i+j) x=false)∨
  ∃(j:Nat) (x:α),qc5 p i l=((i+j:Nat):Int)∧l[j]? =some x∧p (i+j) x=true∧∀(j':Nat) (y:α),j'<j→l[j']? =some y→p (i+j') y=false
 |[],i=> .inl ⟨rfl,fun j x h=>by simp at h⟩
 |x::xs,i=>by
  rw[qc5]
  by_cases h:p i x=true
  ·rw[if_pos h]
   exact .inr ⟨0,x,by simp,by simp,by simpa using h,fun j' y hj=>by omega⟩
  ·rw[if_neg h]
   have h':p i x=false:=by simpa using h
   rcases qeB p xs (i+1) with ⟨h1,h2⟩|⟨j,y,h1,h2,h3,h4⟩
   ·refine .inl ⟨h1,fun j y hj=> ?_⟩
    cases j with
    |zero=>simp at hj;subst hj;exact h'
    |succ j=>have:=h2 j y (by simpa using hj);rwa [show i+1+j=i+(j+1) by omega] at this
   ·refine .inr ⟨j+1,y,by rw[h1];omega,by simpa using h2,by rwa [show i+1+j=i+(j+1) by omega] at h3,fun j' z hj hz=> ?_⟩
    cases j' with
    |zero=>simp at hz;subst hz;exact h'
    |succ j'=>have:=h4 j' z (by omega) (by simpa using hz);rwa [show i+1+j'=i+(j'+1) by omega] at this
theorem qaE {α β:Type} [DecidableEq α] (m:List (α×β)) (a k:α) (b:β):qaf (qax m a b) k=if a=k then some b else qaf m k:=by
 induction m with
 |nil=>simp[qax,qaf]
 |cons p m ih=>
  simp only[qax]
  by_cases h:p.1=a
  ·rw[if_pos h]
   simp only[qaf]
   by_cases h2:a=k
   ·simp[h,h2]
   ·simp[h,h2]
  ·rw[if_neg h]
   simp only[qaf,ih]
   by_cases h2:p.1=k
   ·have:¬a=k:=fun h3=>h (h2.trans h3.symm)
    simp[h2,this]
   ·simp[h2]
end Go.W
end
section
set_option linter.unusedVariables false
set_option linter.unusedSimpArgs false
namespace Go.W
open Go.AM
theorem qiB {α:Type} (p:α→Bool):∀(l:List α) (i:Nat),res (fun _ y=>p y) (fun _ _=>true) i l=if l.any p=true then .inr true else .inl ()
 |[],i=>rfl
 |y::l,i=>by
  rw[res,List.any_cons]
  by_cases h:p y=true
  ·simp[h]
  ·simp only[Bool.not_eq_true] at h
   rw[h,if_neg (by simp),qiB p l (i+1),Bool.false_or]
theorem qiX {l:List Int} {x:Int}:(l.any fun y=>y==x)=l.contains x:=by
 induction l with
 |nil=>rfl
 |cons y l ih=>
  rw[List.any_cons,List.contains_cons,ih]
  congr 1
  by_cases h:y=x
  ·rw[h]
  ·have h':¬x=y:=fun hh=>h hh.symm
   have e1:(y==x)=false:=by simpa using h
   have e2:(x==y)=false:=by simpa using h'
   rw[e1,e2]
def qag (x:PlantElement):List Int:=if x.kind=1∨x.kind=3 then [x.a,x.b] else if x.kind=2 then [x.a,x.b,x.c] else []
def eI (l:List PlantElement) (i:Int):List Int:=if 0≤i then (match l[i.toNat]? with|some x=>qag x|none=>[]) else []
theorem qa7 (x:PlantElement):(qag x).length≤3:=by unfold qag;split<;>(try split)<;>simp
theorem qdY (l:List PlantElement) (i:Int):(eI l i).length≤3:=by
 unfold eI
 split
 ·split
  ·exact qa7 _
  ·simp
 ·simp
theorem qc0 {l:List PlantElement} {i:Nat} {x:PlantElement} (h:l[i]? =some x):eI l (i:Int)=qag x:=by
 unfold eI;rw[if_pos (by omega)];simp[h]
theorem qb1 {l:List PlantElement} {i n:Int} (h:n∈eI l i):0≤i∧i<l.length∧∃x,l[i.toNat]? =some x∧n∈qag x:=by
 unfold eI at h
 split at h
 ·rename_i h0
  split at h
  ·rename_i x hx
   have:=(List.getElem?_eq_some_iff.1 hx).1
   exact ⟨h0,by omega,x,hx,h⟩
  ·simp at h
 ·simp at h
theorem qeq (N:Nat) (x:PlantElement):zbV N x=some (qag x):=by
 unfold zbV qag qy2
 simp only[qad]
 by_cases h1:x.kind=1
 ·simp[h1,qaa]
 ·by_cases h3:x.kind=3
  ·simp[h3,qaa]
  ·by_cases h2:x.kind=2
   ·simp[h2,qaa]
   ·simp[h1,h2,h3,qaa]
theorem qlv (N:Nat) (l:List PlantElement) (i:Int):zbU N l i=some (eI l i):=by
 unfold zbU qy1 eI
 by_cases h0:i<0
 ·rw[if_pos (dpos h0),qaa,if_pos rfl,if_neg (by omega)]
 ·rw[if_neg (dneg h0),qaa,if_pos (by omega:0≤i)]
  by_cases h1:(l.length:Int)≤i
  ·rw[if_pos (lpos h1),List.getElem?_eq_none (by omega)]
  ·rw[if_neg (lneg h1)]
   have hlt:i.toNat<l.length:=by omega
   have hg:getI l i=some l[i.toNat]:=by simp[getI,hlt];omega
   rw[hg,qaa,qeq,qaa,qao hlt]
theorem qcB (N:Nat) (l:List PlantElement) (i:Int):zcK N l i=some (eI l i):=by
 unfold zcK qzd eI
 by_cases h0:i<0
 ·rw[if_pos (dpos h0),qaa,if_pos rfl,if_neg (by omega)]
 ·rw[if_neg (dneg h0),qaa,if_pos (by omega:0≤i)]
  by_cases h1:(l.length:Int)≤i
  ·rw[if_pos (lpos h1),List.getElem?_eq_none (by omega)]
  ·rw[if_neg (lneg h1)]
   have hlt:i.toNat<l.length:=by omega
   have hg:getI l i=some l[i.toNat]:=by simp[getI,hlt];omega
   rw[hg,qaa,qao hlt]
   generalize l[i.toNat]=x at*
   simp only[hg,qaa,qad]
   unfold qag qze
   by_cases h1:x.kind=1
   ·simp[h1,qaa]
   ·by_cases h3:x.kind=3
    ·simp[h3,qaa,qad]
    ·by_cases h2:x.kind=2
     ·simp[h2,qaa,qad]
     ·simp[h1,h2,h3,qaa,qad]
theorem qnf {l:List Int} {x:Int} (F:Nat→Int→Option (Sum Unit Bool)) (h0:∀n,F (n+1) (l.length:Int)=some (.inl ())) (h1:∀(n i:Nat) (y:Int),l[i]? =some y→F (n+1) (i:Int)=if (y==x)=true then some (.inr true) else F n ((i+1:Nat):Int))
  {n:Nat} (hn:l.length<n):F n 0=some (if l.contains x=true then .inr true else .inl ()):=by
 have h:=qat (l:=l) (fun _ y=>y==x) (fun _ _=>true) F h0 h1 l.length n 0 hn (by omega)
 simp only[Int.natCast_zero,List.drop_zero] at h
 rw[h,qiB (fun y=>y==x),qiX]
theorem qiD (N:Nat) {l:List Int} (hN:l.length<N) (hl:l.length≤1000000) (x:Int):zcQ N l x=some (l.contains x):=by
 have h:=qnf (l:=l) (x:=x) (fun n i=>qh2 N l x n i) (fun n=>by
  show qh2 N l x (n+1) _=_
  rw[qh2,if_neg (dneg (by omega))]) (fun n i y hy=>by
  show qh2 N l x (n+1) _=_
  have hlt:=(List.getElem?_eq_some_iff.1 hy).1
  rw[qh2,if_pos (dpos (by omega)),qae hy,qaa,qad,w64s (by omega)]) hN
 unfold zcQ
 rw[h,qaa]
 cases l.contains x<;>rfl
def nbrB (i n:Int) (k:Nat) (x:PlantElement):Bool:=((k:Int) !=i)&&(qag x).contains n
def nbr (l:List PlantElement) (i n:Int):Int:=qc5 (nbrB i n) 0 l
theorem qEG (N:Nat) (hN:4≤N) (x:PlantElement) (n k:Int):qgO N n k (qag x) (qag x).length N 0=some (if (qag x).contains n=true then .inr k else .inl ()):=by
 have h:=qat (l:=qag x) (fun _ y=>y==n) (fun _ _=>k) (fun m i=>qgO N n k (qag x) (qag x).length m i) (fun m=>by
  show qgO N n k (qag x) (qag x).length (m+1) _=_
  rw[qgO,if_neg (dneg (by omega))]) (fun m i y hy=>by
  show qgO N n k (qag x) (qag x).length (m+1) _=_
  have hlt:=(List.getElem?_eq_some_iff.1 hy).1
  have:=qa7 x
  rw[qgO,if_pos (dpos (by omega)),qae hy]
  simp only[qaa,w64s (show i<9223372036854775807 by omega)]) (qag x).length N 0 (by have:=qa7 x;omega) (by omega)
 simp only[Int.natCast_zero,List.drop_zero] at h
 rw[h]
 congr 1
 rw[←qiX]
 generalize qag x=e
 have key:∀(e:List Int) (i:Nat),res (fun _ y=>y==n) (fun _ _=>k) i e=if (e.any fun y=>y==n)=true then .inr k else .inl ():=by
  intro e
  induction e with
  |nil=>intro i;rfl
  |cons y e ih=>
   intro i
   rw[res,List.any_cons]
   by_cases h:(y==n)=true
   ·simp[h]
   ·simp only[Bool.not_eq_true] at h
    rw[h,if_neg (by simp),ih,Bool.false_or]
 exact key e 0
theorem qnE {F:Option (Sum Unit Int)} {l:List PlantElement} {i n:Int} (h:F=some (res (nbrB i n) (fun k _=>(k:Int)) 0 l)):(Option.bind F fun y=>match y with| .inl _=>some (-1)| .inr y=>some y)=some (nbr l i n):=by
 rw[h,qaa]
 unfold nbr
 rcases qeU (nbrB i n) l 0 with ⟨h1,h2⟩|⟨h1,h2⟩
 ·rw[h1,h2]
 ·rw[h1]
theorem qiy (N:Nat) {l:List PlantElement} (hN:l.length+4≤N) (hl:l.length≤1000000) (i n:Int):zaJ N l i n=some (nbr l i n):=by
 unfold zaJ
 refine qnE ?_
 have h:=qat (l:=l) (nbrB i n) (fun k _=>(k:Int)) (fun m j=>qhS N i n l l.length m j) (fun m=>by
  show qhS N i n l l.length (m+1) _=_
  rw[qhS,if_neg (dneg (by omega))]) (fun m j x hx=>by
  show qhS N i n l l.length (m+1) _=_
  have hlt:=(List.getElem?_eq_some_iff.1 hx).1
  rw[qhS,if_pos (dpos (by omega))]
  unfold qyH nbrB
  rw[qae hx,qaa]
  by_cases hji:(j:Int)=i
  ·rw[if_pos (by simpa using hji)]
   simp only[qaa,hji,bne_self_eq_false,Bool.false_and,Bool.false_eq_true,if_false]
   rw[←hji,w64s (by omega)]
  ·rw[if_neg (by simpa using hji),qeq,qaa,qEG N (by omega),qaa]
   have hb:((j:Int) !=i)=true:=by simpa using hji
   rw[hb,Bool.true_and]
   by_cases hc:(qag x).contains n=true
   ·rw[if_pos hc,if_pos hc];rfl
   ·rw[if_neg hc,if_neg hc]
    simp only[qaa]
    rw[w64s (by omega)]) l.length N 0 (by omega) (by omega)
 simpa using h
theorem qeW (N:Nat) {l:List PlantElement} (hN:l.length+4≤N) (hl:l.length≤1000000) (i n:Int):zaW N l i n=some (nbr l i n):=by
 unfold zaW
 refine qnE ?_
 have h:=qat (l:=l) (nbrB i n) (fun k _=>(k:Int)) (fun m j=>qhU N l i n m j) (fun m=>by
  show qhU N l i n (m+1) _=_
  rw[qhU,if_neg (dneg (by omega))]) (fun m j x hx=>by
  show qhU N l i n (m+1) _=_
  have hlt:=(List.getElem?_eq_some_iff.1 hx).1
  have hlen:=qa7 x
  rw[qhU,if_pos (dpos (by omega))]
  unfold qyP nbrB
  by_cases hji:(j:Int)=i
  ·have hb:((j:Int) !=i)=false:=by simpa using hji
   rw[hb,Bool.false_and]
   simp only[Bool.false_eq_true,if_false,qaa,qad]
   rw[w64s (by omega)]
  ·have hb:((j:Int) !=i)=true:=by simpa using hji
   rw[hb,if_pos rfl,qcB,qaa,qc0 hx,qiD N (by omega) (by omega),qaa,qaa,Bool.true_and,qad,w64s (by omega)]) l.length N 0 (by omega) (by omega)
 simpa using h
def thrE (e:List Int) (n:Int):List Int:=if e.contains n=true then (if e.head? =some n then e.tail else e.take 1) else []
def thr (l:List PlantElement) (i n:Int):List Int:=thrE (eI l i) n
theorem qn4 (N:Nat) (n:Int) {e:List Int} (he:e.length≤3):qcK N n e.length 4 e 0=some (if e.contains n=true then .inr (thrE e n) else .inl ()):=by
 match e,he with
 |[],_=>rfl
 |[a],_=>
  by_cases h:a=n
  ·subst h
   simp[qcK,getI,qaa,qad,cutI,thrE,w64s]
  ·have h':¬n=a:=fun hh=>h hh.symm
   simp[qcK,getI,qaa,qad,cutI,thrE,h,h',w64]
 |[a,b],_=>
  by_cases h:a=n
  ·subst h
   simp[qcK,getI,qaa,qad,cutI,thrE,w64s]
  ·have h':¬n=a:=fun hh=>h hh.symm
   by_cases h2:b=n
   ·subst h2
    simp[qcK,getI,qaa,qad,cutI,thrE,h,h',w64]
   ·have h2':¬n=b:=fun hh=>h2 hh.symm
    simp[qcK,getI,qaa,qad,cutI,thrE,h,h',h2,h2',w64]
 |[a,b,c],_=>
  by_cases h:a=n
  ·subst h
   simp[qcK,getI,qaa,qad,cutI,thrE,w64s]
  ·have h':¬n=a:=fun hh=>h hh.symm
   by_cases h2:b=n
   ·subst h2
    simp[qcK,getI,qaa,qad,cutI,thrE,h,h',w64]
   ·have h2':¬n=b:=fun hh=>h2 hh.symm
    by_cases h3:c=n
    ·subst h3
     simp[qcK,getI,qaa,qad,cutI,thrE,h,h',h2,h2',w64]
    ·have h3':¬n=c:=fun hh=>h3 hh.symm
     simp[qcK,getI,qaa,qad,cutI,thrE,h,h',h2,h2',h3,h3',w64]
 |a::b::c::d::e,h=>simp at h
theorem qfw {N:Nat} {n m:Int}:∀{k k':Nat} {e:List Int} {i:Int} {r:Sum Unit (List Int)},k≤k'→qcK N n m k e i=some r→qcK N n m k' e i=some r
 |0,_,_,_,_,_,h=>by cases h
 |k+1,0,_,_,_,hk,_=>by omega
 |k+1,k'+1,e,i,r,hk,h=>by
  rw[qcK] at h⊢
  split at h
  ·rename_i hc
   rw[if_pos hc]
   cases h1:getI e i with
   |none=>rw[h1] at h;cases h
   |some a=>
    rw[h1] at h
    simp only[qaa] at h⊢
    split at h
    ·rename_i hn
     rw[if_pos hn]
     exact qfw (by omega) h
    ·rename_i hn
     rw[if_neg hn]
     exact h
  ·rename_i hc
   rw[if_neg hc]
   exact h
theorem qn5 (N:Nat) (hN:4≤N) (l:List PlantElement) (i n:Int):zaT N l i n=some (thr l i n):=by
 unfold zaT thr
 rw[qlv,qaa,qfw hN (qn4 N n (qdY l i)),qaa]
 by_cases hc:(eI l i).contains n=true
 ·rw[if_pos hc]
 ·rw[if_neg hc,thrE,if_neg hc]
theorem qop (N:Nat) (hN:4≤N) (l:List PlantElement) (i n:Int):zbK N l i n=some (thr l i n):=by
 unfold zbK thr
 have hl:=qdY l i
 rw[qcB,qaa,qiD N (by omega) (by omega),qaa,qad]
 generalize eI l i=e at*
 unfold thrE
 by_cases hc:e.contains n=true
 ·rw[hc]
  cases e with
  |nil=>simp at hc
  |cons a e=>
   simp only[Bool.not_true,Bool.false_eq_true,if_false,getI,Int.le_refl,if_true,Int.toNat_zero,List.getElem?_cons_zero,qaa,qad,List.head?_cons,List.tail_cons]
   by_cases ha:a=n
   ·subst ha
    have:=qb8 (xs:=a::e) (i:=1) (by simp)
    simp only[beq_self_eq_true,if_true]
    rw[show (1:Int)=((1:Nat):Int) from rfl,this,qaa,qaH (by simp at hl⊢;omega),qaa]
    simp
   ·have:(a==n)=false:=by simpa using ha
    rw[this]
    simp[ha]
 ·simp only[Bool.not_eq_true] at hc
  rw[hc]
  simp
end Go.W
end
section
set_option linter.unusedVariables false
set_option linter.unusedSimpArgs false
namespace Go.W
open Go.AM
def pnCh (u:UInt8):Bool:=(decide (97≤u.toNat)&&decide (u.toNat≤122))||(decide (48≤u.toNat)&&decide (u.toNat≤57))
def pnOk (l:List UInt8):Bool:=l.all pnCh&&(decide (1≤l.length)&&decide (l.length≤12))
theorem qDd (N:Nat) {l:List UInt8} {i:Nat} {u:UInt8} (h:l[i]? =some u):qtn N l i=some (!pnCh u):=by
 unfold qtn pnCh
 rw[qae h]
 simp only[qaa]
 by_cases a:97≤u.toNat
 ·rw[if_neg (by simp;omega)]
  by_cases b:u.toNat≤122
  ·rw[if_neg (by simp;omega)];simp[a,b]
  ·rw[if_pos (by simp;omega),if_neg (by simp;omega)]
   simp[a,b,show ¬u.toNat≤57 by omega,show (57:Int)<u.toNat by omega]
 ·rw[if_pos (by simp;omega)]
  by_cases c:u.toNat<48
  ·rw[if_pos (by simp;omega)];simp[a,show ¬48≤u.toNat by omega]
  ·rw[if_neg (by simp;omega)]
   by_cases d:u.toNat≤57
   ·simp[a,show 48≤u.toNat by omega,d,show ¬(57:Int)<u.toNat by omega]
   ·simp[a,show 48≤u.toNat by omega,d,show (57:Int)<u.toNat by omega]
theorem qDg (N:Nat) {l:List UInt8} {i:Nat} {u:UInt8} (h:l[i]? =some u):qtv N l i=some (!pnCh u):=by
 unfold qtv pnCh
 rw[qae h]
 simp only[qaa]
 by_cases a:97≤u.toNat
 ·rw[if_pos (by simp;omega)]
  by_cases b:u.toNat≤122
  ·rw[if_pos (by simp;omega)];simp[a,b]
  ·rw[if_neg (by simp;omega)]
   by_cases c:48≤u.toNat
   ·rw[if_pos (by simp;omega)];simp[a,b,c];omega
   ·omega
 ·rw[if_neg (by simp;omega)]
  by_cases c:48≤u.toNat
  ·rw[if_pos (by simp;omega)]
   simp[a,c]
   omega
  ·rw[if_neg (by simp;omega)];simp[a,c]
theorem qiA {α β:Type} (p:α→Bool) (b:β):∀(l:List α) (i:Nat),res (fun _ y=> !p y) (fun _ _=>b) i l=if l.all p=true then .inl () else .inr b
 |[],i=>rfl
 |y::l,i=>by
  rw[res,List.all_cons]
  by_cases h:p y=true
  ·rw[h];simp only[Bool.not_true,Bool.false_eq_true,if_false,Bool.true_and];exact qiA p b l (i+1)
  ·simp only[Bool.not_eq_true] at h
   rw[h];simp
theorem qsD (N:Nat) {l:List UInt8} (hN:14≤N):zbW N l=some (pnOk l):=by
 unfold zbW qy3 pnOk
 by_cases h1:l.length<1
 ·rw[if_pos (dpos (by omega)),qaa,if_pos rfl]
  simp[show ¬1≤l.length by omega]
 ·rw[if_neg (dneg (by omega)),qaa]
  by_cases h2:12<l.length
  ·rw[if_pos (by simpa using by omega)]
   simp[show ¬l.length≤12 by omega]
  ·rw[if_neg (by simpa using by omega)]
   have h:=qat (l:=l) (fun _ y=> !pnCh y) (fun _ _=>false) (fun m i=>qhW N l l.length m i) (fun m=>by
    show qhW N l l.length (m+1) _=_
    rw[qhW,if_neg (dneg (by omega))]) (fun m i y hy=>by
    show qhW N l l.length (m+1) _=_
    have hlt:=(List.getElem?_eq_some_iff.1 hy).1
    rw[qhW,if_pos (dpos (by omega)),qDd N hy,qaa,w64s (by omega)]) l.length N 0 (by omega) (by omega)
   simp only[Int.natCast_zero,List.drop_zero] at h
   rw[h,qiA pnCh,qaa]
   by_cases h3:l.all pnCh=true
   ·rw[if_pos h3,h3];simp[show 1≤l.length by omega,show l.length≤12 by omega]
   ·rw[if_neg h3];simp only[Bool.not_eq_true] at h3;rw[h3];simp
theorem qsK (N:Nat) {l:List UInt8} (hN:l.length<N) (hl:l.length≤9223372036854775807):zcJ N l=some (pnOk l):=by
 unfold zcJ pnOk
 have h:=qat (l:=l) (fun _ y=> !pnCh y) (fun _ _=>false) (fun m i=>qh1 N l m i) (fun m=>by
  show qh1 N l (m+1) _=_
  rw[qh1,if_neg (dneg (by omega))]) (fun m i y hy=>by
  show qh1 N l (m+1) _=_
  have hlt:=(List.getElem?_eq_some_iff.1 hy).1
  rw[qh1,if_pos (dpos (by omega)),qDg N hy,qaa,qad,w64s (by omega)]) l.length N 0 (by omega) (by omega)
 simp only[Int.natCast_zero,List.drop_zero] at h
 rw[h,qiA pnCh,qaa]
 by_cases h3:l.all pnCh=true
 ·rw[if_pos h3,h3]
  unfold qzc
  by_cases a:1≤l.length
  ·rw[if_pos (lpos (by omega))];simp only[qad,qaa,decide_eq_true a,Bool.true_and];congr 1;rw[decide_eq_decide];omega
  ·rw[if_neg (lneg (by omega))];simp[a,qaa]
 ·rw[if_neg h3];simp only[Bool.not_eq_true] at h3;rw[h3];simp
def pE (e:List Int) (i:Nat) (a:Int):Bool:=(decide (a<0)||decide (64≤a))||(e.take i).contains a
def okE (e:List Int):Bool:=match res (pE e) (fun _ _=>false) 0 e with| .inl _=>true| .inr _=>false
def qaP (x:PlantElement):Bool:=
 (!(qag x).isEmpty&&pnOk x.name)&&(okE (qag x)&&if x.kind=1 then x.c==0&&(decide (1≤x.length)&&decide (x.length≤100000)) else x.length==0&&(x.kind==2||x.c==0))
theorem qbT {α β:Type} {p:Nat→α→Bool} {out:Nat→α→β}:∀{l:List α} {i:Nat},res p out i l= .inl ()↔∀(j:Nat) (x:α),l[j]? =some x→p (i+j) x=false
 |[],i=>by simp[res]
 |x::l,i=>by
  rw[res]
  by_cases h:p i x=true
  ·rw[if_pos h]
   constructor
   ·intro hh;cases hh
   ·intro hh
    have:=hh 0 x rfl
    rw[Nat.add_zero,h] at this;cases this
  ·rw[if_neg h,qbT]
   simp only[Bool.not_eq_true] at h
   constructor
   ·intro hh j y hj
    cases j with
    |zero=>simp at hj;subst hj;exact h
    |succ j=>have:=hh j y (by simpa using hj);rwa [show i+1+j=i+(j+1) by omega] at this
   ·intro hh j y hj
    have:=hh (j+1) y (by simpa using hj)
    rwa [show i+(j+1)=i+1+j by omega] at this
theorem qgo {e:List Int}:okE e=true↔e.Nodup∧∀a∈e,0≤a∧a<64:=by
 have h1:okE e=true↔res (pE e) (fun _ _=>false) 0 e= .inl ():=by
  unfold okE
  split
  ·rename_i u h;simp[h]
  ·rename_i u h;simp[h]
 rw[h1,qbT]
 constructor
 ·intro h
  refine ⟨?_,fun a ha=> ?_⟩
  ·refine List.pairwise_iff_getElem.2 fun i j hi hj hij heq=> ?_
   have hj':=qao hj
   have:=h j _ hj'
   rw[Nat.zero_add] at this
   simp only[pE,Bool.or_eq_false_iff,List.contains_eq_mem,decide_eq_false_iff_not] at this
   apply this.2
   refine List.mem_of_getElem? (i:=i) ?_
   rw[List.getElem?_take,if_pos hij,qao hi,heq]
  ·obtain ⟨j,hj⟩:=List.getElem?_of_mem ha
   have:=h j a hj
   simp only[pE,Bool.or_eq_false_iff,decide_eq_false_iff_not] at this
   omega
 ·rintro ⟨h2,h3⟩ j x hj
  rw[Nat.zero_add]
  have:=h3 x (List.mem_of_getElem? hj)
  simp only[pE,Bool.or_eq_false_iff,decide_eq_false_iff_not]
  refine ⟨⟨by omega,by omega⟩, ?_⟩
  simp only[List.contains_eq_mem,decide_eq_false_iff_not]
  intro hm
  obtain ⟨i,hi⟩:=List.getElem?_of_mem hm
  rw[List.getElem?_take] at hi
  split at hi
  ·rename_i hij
   have hjl:=(List.getElem?_eq_some_iff.1 hj).1
   obtain ⟨hil,hi⟩:=List.getElem?_eq_some_iff.1 hi
   obtain ⟨_,hj⟩:=List.getElem?_eq_some_iff.1 hj
   exact List.pairwise_iff_getElem.1 h2 i j hil hjl hij (by rw[hi,hj])
  ·cases hi
theorem qyl (N:Nat) {e:List Int} (hN:e.length<N) (hl:e.length≤1000000) (a:Int):qgQ N a e e.length N 0=some (if e.contains a=true then .inr false else .inl ()):=by
 have h:=qat (l:=e) (fun _ y=>y==a) (fun _ _=>false) (fun m i=>qgQ N a e e.length m i) (fun m=>by
  show qgQ N a e e.length (m+1) _=_
  rw[qgQ,if_neg (dneg (by omega))]) (fun m i y hy=>by
  show qgQ N a e e.length (m+1) _=_
  have hlt:=(List.getElem?_eq_some_iff.1 hy).1
  rw[qgQ,if_pos (dpos (by omega)),qae hy,qaa,w64s (by omega)]
  by_cases hay:a=y
  ·rw[if_pos (by simpa using hay),if_pos (by simpa using hay.symm)]
  ·rw[if_neg (by simpa using hay),if_neg (by simpa using fun hh:y=a=>hay hh.symm)]) e.length N 0 hN (by omega)
 simp only[Int.natCast_zero,List.drop_zero] at h
 rw[h]
 congr 1
 have key:∀(e:List Int) (i:Nat),res (fun _ y=>y==a) (fun _ _=>false) i e=if (e.any fun y=>y==a)=true then .inr false else .inl ():=by
  intro e
  induction e with
  |nil=>intro i;rfl
  |cons y e ih=>
   intro i
   rw[res,List.any_cons]
   by_cases h:(y==a)=true
   ·simp[h]
   ·simp only[Bool.not_eq_true] at h
    rw[h,if_neg (by simp),ih,Bool.false_or]
 rw[key,qiX]
theorem qyk (N:Nat) (hN:10≤N) {e:List Int} (he:e.length≤3):qgP N e e e.length N 0=some (res (pE e) (fun _ _=>false) 0 e):=by
 have h:=qat (l:=e) (pE e) (fun _ _=>false) (fun m i=>qgP N e e e.length m i) (fun m=>by
  show qgP N e e e.length (m+1) _=_
  rw[qgP,if_neg (dneg (by omega))]) (fun m i a ha=>by
  show qgP N e e e.length (m+1) _=_
  have hlt:=(List.getElem?_eq_some_iff.1 ha).1
  rw[qgP,if_pos (dpos (by omega)),qae ha,qaa]
  unfold qyM pE
  by_cases h0:a<0
  ·rw[if_pos (dpos h0),qaa];simp[h0]
  ·rw[if_neg (dneg h0),qaa]
   by_cases h1:64≤a
   ·simp[h1]
   ·rw[if_neg (by simpa using by omega),qb9 (by omega),qaa,qyl N (by rw[List.length_take];omega) (by rw[List.length_take];omega),qaa]
    have e1:decide (a<0)=false:=by simpa using by omega
    have e2:decide (64≤a)=false:=by simpa using by omega
    rw[e1,e2,Bool.false_or,Bool.false_or]
    by_cases hc:(e.take i).contains a=true
    ·rw[if_pos hc,if_pos hc]
    ·rw[if_neg hc,if_neg hc]
     simp only[]
     rw[w64s (by omega)]) e.length N 0 (by omega) (by omega)
 simpa using h
theorem qyt (N:Nat) (hN:10≤N) {e:List Int} (he:e.length≤3):qgY N e N 0=some (res (pE e) (fun _ _=>false) 0 e):=by
 have h:=qat (l:=e) (pE e) (fun _ _=>false) (fun m i=>qgY N e m i) (fun m=>by
  show qgY N e (m+1) _=_
  rw[qgY,if_neg (dneg (by omega))]) (fun m i a ha=>by
  show qgY N e (m+1) _=_
  have hlt:=(List.getElem?_eq_some_iff.1 ha).1
  rw[qgY,if_pos (dpos (by omega))]
  unfold qy6 pE
  rw[qae ha]
  simp only[qaa]
  by_cases h0:a<0
  ·rw[if_pos (dpos h0),qaa];simp[h0]
  ·rw[if_neg (dneg h0)]
   by_cases h1:64≤a
   ·rw[if_pos (lpos h1),qaa];simp[h1]
   ·rw[if_neg (lneg h1),qb9 (by omega),qaa,qiD N (by rw[List.length_take];omega) (by rw[List.length_take];omega),qaa,qaa]
    have e1:decide (a<0)=false:=by simpa using by omega
    have e2:decide (64≤a)=false:=by simpa using by omega
    rw[e1,e2,Bool.false_or,Bool.false_or,qad,w64s (by omega)]) e.length N 0 (by omega) (by omega)
 simpa using h
theorem qmh (N:Nat) (hN:20≤N) (x:PlantElement) (hx:qag x≠[]∨pnOk x.name=false):zaV N x=some (qaP x):=by
 unfold zaV qaP qyL
 have he:=qa7 x
 rw[qeq,qaa,qsD N (by omega)]
 by_cases hne:qag x=[]
 ·have hn:pnOk x.name=false:=by rcases hx with h|h;exact absurd hne h;exact h
  rw[hne,hn]
  simp[nilT,qaa]
 ·have hnil:∀{β:Type} (f:Bool→Option β),nilT (qag x) f=f false:=fun f=>by unfold nilT;rw[if_neg hne]
  rw[hnil]
  have hie:(qag x).isEmpty=false:=by cases h:qag x with|nil=>exact absurd h hne|cons _ _=>rfl
  simp only[Bool.false_eq_true,if_false,qaa,hie,Bool.not_false,Bool.true_and]
  by_cases hn:pnOk x.name=true
  ·rw[hn]
   simp only[Bool.not_true,Bool.false_eq_true,if_false,Bool.true_and]
   rw[qyk N (by omega) he,qaa]
   unfold okE
   cases hr:res (pE (qag x)) (fun _ _=>false) 0 (qag x) with
   |inr b=>
    have:b=false:=by
     have key:∀(e:List Int) (i:Nat) (b:Bool),res (pE (qag x)) (fun _ _=>false) i e= .inr b→b=false:=by
      intro e
      induction e with
      |nil=>intro i b h;cases h
      |cons y e ih=>
       intro i b h
       rw[res] at h
       split at h
       ·cases h;rfl
       ·exact ih _ _ h
     exact key _ _ _ hr
    subst this
    simp
   |inl u=>
    simp only[Bool.true_and]
    by_cases h1:x.kind=1
    ·rw[if_pos (by simpa using h1),if_pos h1]
     unfold qyN
     by_cases hc:x.c=0
     ·rw[if_pos (by simpa using hc)]
      by_cases ha:1≤x.length
      ·rw[if_pos (lpos ha)];simp[qad,qaa,hc,ha]
      ·rw[if_neg (lneg ha)];simp[qaa,ha]
     ·rw[if_neg (by simpa using hc)];simp[qaa,hc]
    ·rw[if_neg (by simpa using h1),if_neg h1]
     unfold qyO
     by_cases ha:x.length=0
     ·rw[if_pos (by simpa using ha)]
      by_cases h2:x.kind=2
      ·rw[if_pos (by simpa using h2)];simp[qaa,ha,h2]
      ·rw[if_neg (by simpa using h2)];simp[qad,qaa,ha,h2]
     ·rw[if_neg (by simpa using ha)];simp[qaa,ha]
  ·simp only[Bool.not_eq_true] at hn
   rw[hn];simp
theorem qn0 (N:Nat) (x:PlantElement):zaN N x=if qag x=[] then some () else none:=by
 unfold zaN qyI qag
 simp only[qad]
 by_cases h1:x.kind=1
 ·simp[h1,qaa]
 ·by_cases h3:x.kind=3
  ·simp[h3,qaa]
  ·by_cases h2:x.kind=2
   ·simp[h2,qaa]
   ·simp[h1,h2,h3,qaa]
theorem qn3 (N:Nat) (hN:20≤N) (x:PlantElement):zbJ N x=some (qaP x):=by
 unfold zbJ zaU
 rw[qn0]
 by_cases he:qag x=[]
 ·rw[if_pos he,qaa]
  have h0:qyK N=some true:=rfl
  rw[h0,qaa,if_pos rfl]
  unfold qaP
  rw[he]
  rfl
 ·rw[if_neg he,qmh N hN x (.inl he)]
  rfl
theorem qoo (N:Nat) {l:List PlantElement} {i:Nat} {x:PlantElement} (hx:l[i]? =some x) (hN:20≤N) (hn:x.name.length<N) (hn2:x.name.length≤9223372036854775807):zcC N l i=some (qaP x):=by
 unfold zcC qaP qy5
 have he:=qa7 x
 rw[qae hx,qaa,qcB,qc0 hx,qaa,qsK N hn hn2]
 by_cases hne:qag x=[]
 ·rw[hne];simp[qaa]
 ·have hie:(qag x).isEmpty=false:=by cases h:qag x with|nil=>exact absurd h hne|cons _ _=>rfl
  have hlen:((qag x).length:Int)≠0:=by cases h:qag x with|nil=>exact absurd h hne|cons _ _=>simp;omega
  rw[if_neg (by simpa using hlen)]
  simp only[qaa,hie,Bool.not_false,Bool.true_and]
  by_cases hnm:pnOk x.name=true
  ·rw[hnm]
   simp only[Bool.not_true,Bool.false_eq_true,if_false,Bool.true_and]
   rw[qyt N (by omega) he,qaa]
   unfold okE
   cases hr:res (pE (qag x)) (fun _ _=>false) 0 (qag x) with
   |inr b=>
    have:b=false:=by
     have key:∀(e:List Int) (i:Nat) (b:Bool),res (pE (qag x)) (fun _ _=>false) i e= .inr b→b=false:=by
      intro e
      induction e with
      |nil=>intro i b h;cases h
      |cons y e ih=>
       intro i b h
       rw[res] at h
       split at h
       ·cases h;rfl
       ·exact ih _ _ h
     exact key _ _ _ hr
    subst this
    simp
   |inl u=>
    simp only[Bool.true_and]
    unfold qy7
    have hl2:((qag x).length:Int)=2↔(x.kind=1∨x.kind=3):=by
     unfold qag
     split
     ·rename_i h;simp[h]
     ·rename_i h
      split
      ·simp[h]
      ·simp[h]
    by_cases h1:x.kind=1
    ·rw[if_pos (by simpa using hl2.2 (.inl h1)),qaa,if_pos h1]
     by_cases hc:x.c=0
     ·unfold qy8
      by_cases ha:1≤x.length
      ·simp[qad,qaa,hc,ha,h1]
      ·simp[qaa,ha,h1,hc]
     ·simp[hc]
    ·by_cases h3:x.kind=3
     ·rw[if_pos (by simpa using hl2.2 (.inr h3)),qaa,if_neg h1]
      by_cases hc:x.c=0
      ·simp[qad,hc,h3]
      ·simp[hc,h3]
     ·have h2:x.kind=2:=by
       have:=hne
       unfold qag at this
       rw[if_neg (by omega)] at this
       split at this
       ·assumption
       ·exact absurd rfl this
      have hl:¬((qag x).length:Int)=2:=by rw[hl2];omega
      rw[if_neg (by simpa using hl),qaa,if_neg h1]
      simp[qad,h2]
  ·simp only[Bool.not_eq_true] at hnm
   rw[hnm];simp
end Go.W
end
section
set_option linter.unusedVariables false
set_option linter.unusedSimpArgs false
namespace Go.W
open Go.AM
def cnt (l:List PlantElement) (n:Int):Int:=((l.filter fun x=>(qag x).contains n).length:Int)
theorem qdA (l:List PlantElement) (n:Int):0≤cnt l n:=by unfold cnt;omega
theorem qvA (l:List PlantElement) (n:Int):cnt l n≤l.length:=by unfold cnt;have:=List.length_filter_le (fun x=>(qag x).contains n) l;omega
theorem qbd {α:Type} {l:List α} {i:Nat} {x:α} (h:l[i]? =some x):l.take (i+1)=l.take i++[x]:=by
 rw[List.take_add_one,h];rfl
theorem qb6 (l:List PlantElement) (x:PlantElement) (n:Int):cnt (l++[x]) n=cnt l n+if n∈qag x then 1 else 0:=by
 unfold cnt
 rw[List.filter_append]
 by_cases h:n∈qag x
 ·simp[h]
 ·simp[h]
def qaB (l:List PlantElement) (i:Nat) (x:PlantElement):Int:=
 if qaP x=false then 1 else if ((l.take i).any fun y=>y.name==x.name)=true then 8 else if ((qag x).any fun n=>cnt (l.take i) n==2)=true then 17 else 0
def pC (l:List PlantElement) (i:Nat) (x:PlantElement):Bool:=qaB l i x !=0
def vErr (l:List PlantElement):Int:=if 96<l.length then 3 else match res (pC l) (qaB l) 0 l with| .inl _=>0| .inr c=>c
structure VInv (l:List PlantElement) (i:Nat) (x3:List (List UInt8×Bool)) (x4:List (Int×Int)):Prop where
 nm:∀k,(qaf x3 k).getD false=(l.take i).any fun y=>y.name==k
 ct:∀n,(qaf x4 n).getD 0=cnt (l.take i) n
theorem pv1 (N:Nat) {e:List Int} (hd:e.Nodup) (hl:e.length≤3):∀(k n i:Nat) (x4:List (Int×Int)),k<n→i+k=e.length→(∀a,0≤(qaf x4 a).getD 0∧(qaf x4 a).getD 0≤1000+i)→
  (((e.drop i).any fun a=>(qaf x4 a).getD 0==2)=true∧qgU N e e.length n x4 i=some (.inr 17))∨
  (((e.drop i).any fun a=>(qaf x4 a).getD 0==2)=false∧∃x4',qgU N e e.length n x4 i=some (.inl x4')∧∀m,(qaf x4' m).getD 0=(qaf x4 m).getD 0+if m∈e.drop i then 1 else 0)
 |k,0,i,x4,hn,_,_=>by omega
 |0,n+1,i,x4,hn,hi,hb=>by
  obtain rfl:i=e.length:=by omega
  rw[qgU,if_neg (dneg (by omega)),List.drop_length]
  exact .inr ⟨rfl,x4,rfl,fun m=>by simp⟩
 |k+1,n+1,i,x4,hn,hi,hb=>by
  have hlt:i<e.length:=by omega
  have ha:=qao hlt
  rw[qgU,if_pos (dpos (by omega)),qae ha,qbm ha,List.any_cons]
  simp only[qaa,qad]
  have hba:=hb e[i]
  by_cases h2:(qaf x4 e[i]).getD 0=2
  ·have h2':((qaf x4 e[i]).getD 0==2)=true:=by simpa using h2
   rw[if_pos h2',h2']
   exact .inl ⟨rfl,rfl⟩
  ·have h2':((qaf x4 e[i]).getD 0==2)=false:=by simpa using h2
   rw[if_neg (by rw[h2'];simp),w64s (by omega),w64 (by omega) (by omega),h2',Bool.false_or]
   have hset:∀m,(qaf (qax x4 e[i] ((qaf x4 e[i]).getD 0+1)) m).getD 0=(qaf x4 m).getD 0+if m=e[i] then 1 else 0:=by
    intro m
    rw[qaE]
    by_cases hm:m=e[i]
    ·subst hm;simp
    ·rw[if_neg (fun hh=>hm hh.symm),if_neg hm];simp
   have hnot:e[i]∉e.drop (i+1):=by
    intro hm
    obtain ⟨j,hj⟩:=List.getElem?_of_mem hm
    rw[List.getElem?_drop] at hj
    obtain ⟨hjl,hj⟩:=List.getElem?_eq_some_iff.1 hj
    exact List.pairwise_iff_getElem.1 hd i (i+1+j) hlt hjl (by omega) hj.symm
   have hany:((e.drop (i+1)).any fun a=>(qaf (qax x4 e[i] ((qaf x4 e[i]).getD 0+1)) a).getD 0==2)=((e.drop (i+1)).any fun a=>(qaf x4 a).getD 0==2):=by
    rw[Bool.eq_iff_iff]
    simp only[List.any_eq_true]
    constructor
    ·rintro ⟨a,h1,h3⟩
     refine ⟨a,h1, ?_⟩
     rw[hset,if_neg (fun hh=>hnot (by rw[←hh];exact h1)),Int.add_zero] at h3
     exact h3
    ·rintro ⟨a,h1,h3⟩
     refine ⟨a,h1, ?_⟩
     rw[hset,if_neg (fun hh=>hnot (by rw[←hh];exact h1)),Int.add_zero]
     exact h3
   have ih:=pv1 N hd hl k n (i+1) (qax x4 e[i] ((qaf x4 e[i]).getD 0+1)) (by omega) (by omega) (fun a=>by
    rw[hset]
    have:=hb a
    split
    ·rename_i h;subst h;omega
    ·omega)
   rw[hany] at ih
   rcases ih with ⟨g1,g2⟩|⟨g1,x4',g2,g3⟩
   ·exact .inl ⟨g1,g2⟩
   ·refine .inr ⟨g1,x4',g2,fun m=> ?_⟩
    rw[g3 m,hset m]
    by_cases hm:m=e[i]
    ·subst hm
     rw[if_pos rfl,if_neg hnot,if_pos List.mem_cons_self];omega
    ·rw[if_neg hm]
     by_cases hm2:m∈e.drop (i+1)
     ·rw[if_pos hm2,if_pos (List.mem_cons_of_mem _ hm2)];omega
     ·rw[if_neg hm2,if_neg (by simp only[List.mem_cons,not_or];exact ⟨hm,hm2⟩)];omega
theorem qaA {x:PlantElement} (h:qaP x=true):(qag x).Nodup∧(∀a∈qag x,0≤a∧a<64)∧qag x≠[]∧pnOk x.name=true:=by
 unfold qaP at h
 simp only[Bool.and_eq_true,Bool.not_eq_true'] at h
 obtain ⟨h1,h2⟩:=qgo.1 h.2.1
 exact ⟨h1,h2,fun hh=>by rw[hh] at h;simp at h,h.1.2⟩
theorem qeT (N:Nat) (hN:100≤N) {l:List PlantElement} (hl:l.length≤96):∀(k n i:Nat) (x3:List (List UInt8×Bool)) (x4:List (Int×Int)),k<n→i+k=l.length→VInv l i x3 x4→
  qmu N l l.length n x3 x4 i=some (res (pC l) (qaB l) i (l.drop i))
 |k,0,i,x3,x4,hn,_,_=>by omega
 |0,n+1,i,x3,x4,hn,hi,hI=>by
  obtain rfl:i=l.length:=by omega
  rw[qmu,if_neg (dneg (by omega)),List.drop_length]
  rfl
 |k+1,n+1,i,x3,x4,hn,hi,hI=>by
  have hlt:i<l.length:=by omega
  have hx:=qao hlt
  rw[qmu,if_pos (dpos (by omega)),qae hx,qbm hx,res,qaa,qn3 N (by omega) _,qaa]
  unfold pC
  by_cases hsd:qaP l[i]=true
  case neg=>
   simp only[Bool.not_eq_true] at hsd
   have hc:qaB l i l[i]=1:=by unfold qaB;rw[if_pos hsd]
   rw[hsd,hc];simp
  obtain ⟨e1,e2,e3,e4⟩:=qaA hsd
  rw[hsd]
  simp only[Bool.not_true,Bool.false_eq_true,if_false,qad,hI.nm]
  by_cases hnm:((l.take i).any fun y=>y.name==l[i].name)=true
  ·have hc:qaB l i l[i]=8:=by unfold qaB;rw[if_neg (by rw[hsd];simp),if_pos hnm]
   rw[if_pos hnm,hc];simp
  ·rw[if_neg hnm,qeq,qaa]
   have hb:∀a,0≤(qaf x4 a).getD 0∧(qaf x4 a).getD 0≤1000+(0:Nat):=fun a=>by
    rw[hI.ct]
    have h1:=qdA (l.take i) a
    have h2:=qvA (l.take i) a
    rw[List.length_take] at h2
    omega
   have hany:((qag l[i]).any fun a=>(qaf x4 a).getD 0==2)=((qag l[i]).any fun a=>cnt (l.take i) a==2):=by simp only[hI.ct]
   have h3:=qa7 l[i]
   have:=pv1 N e1 h3 (qag l[i]).length N 0 x4 (by omega) (by omega) hb
   rw[List.drop_zero,hany] at this
   rcases this with ⟨g1,g2⟩|⟨g1,x4',g2,g3⟩
   ·have hc:qaB l i l[i]=17:=by unfold qaB;rw[if_neg (by rw[hsd];simp),if_neg hnm,if_pos g1]
    have g2:qgU N (qag l[i]) (qag l[i]).length N x4 0=some (.inr 17):=g2
    rw[g2,hc];simp[qaa]
   ·have hc:qaB l i l[i]=0:=by unfold qaB;rw[if_neg (by rw[hsd];simp),if_neg hnm,if_neg (by rw[g1];simp)]
    have g2:qgU N (qag l[i]) (qag l[i]).length N x4 0=some (.inl x4'):=g2
    rw[g2,hc]
    simp only[qaa,bne_self_eq_false,Bool.false_eq_true,if_false]
    rw[w64s (by omega)]
    refine qeT N hN hl k n (i+1) _ x4' (by omega) (by omega) ⟨fun q=> ?_,fun m=> ?_⟩
    ·rw[qaE,qbd hx,List.any_append]
     by_cases hq:l[i].name=q
     ·rw[if_pos hq];simp[hq]
     ·rw[if_neg hq,hI.nm];simp[hq]
    ·rw[g3 m,hI.ct,qbd hx,qb6]
theorem qhC (N:Nat) (hN:100≤N) {l:List PlantElement}:zbI N l=some (vErr l):=by
 unfold zbI vErr
 by_cases hl:96<l.length
 ·rw[if_pos (by simpa using by omega),if_pos hl]
 ·rw[if_neg (by simpa using by omega),if_neg hl]
  have h:=qeT N hN (l:=l) (by omega) l.length N 0 [] [] (by omega) (by omega) ⟨fun k=>by simp[qaf],fun n=>by simp[qaf,cnt]⟩
  simp only[Int.natCast_zero,List.drop_zero] at h
  rw[h,qaa]
  cases res (pC l) (qaB l) 0 l<;>rfl
structure RInv (l:List PlantElement) (i:Nat) (x3:List Int):Prop where
 len:x3.length=64
 ct:∀n:Nat,n<64→x3[n]? =some (cnt (l.take i) (n:Int))
theorem RInv.get {l:List PlantElement} {i:Nat} {x3:List Int} (h:RInv l i x3) {a:Int} (h0:0≤a) (h1:a<64):getI x3 a=some (cnt (l.take i) a):=by
 obtain ⟨n,rfl⟩:=Int.eq_ofNat_of_zero_le h0
 have:=h.ct n (by omega)
 exact qae this
theorem rv1 (N:Nat) {l:List PlantElement} {i:Nat} {x:PlantElement} (hx:l[i]? =some x) (hN:l.length<N) (hl:l.length≤96):qgW N l i N 0=some (if ((l.take i).any fun y=>y.name==x.name)=true then .inr 8 else .inl ()):=by
 have hi:=(List.getElem?_eq_some_iff.1 hx).1
 have hlen:(l.take i).length=i:=by rw[List.length_take];omega
 have h:=qat (l:=l.take i) (fun _ y=>y.name==x.name) (fun _ _=>(8:Int)) (fun m j=>qgW N l i m j) (fun m=>by
  show qgW N l i (m+1) _=_
  rw[hlen,qgW,if_neg (dneg (by omega))]) (fun m j y hy=>by
  show qgW N l i (m+1) _=_
  have hlt:=(List.getElem?_eq_some_iff.1 hy).1
  rw[hlen] at hlt
  rw[List.getElem?_take,if_pos hlt] at hy
  rw[qgW,if_pos (dpos (by omega)),qae hy,qaa,qae hx,qaa,qad,w64s (by omega)]) i N 0 (by omega) (by rw[hlen];omega)
 simp only[Int.natCast_zero,List.drop_zero] at h
 rw[h]
 congr 1
 have key:∀(q:List PlantElement) (j:Nat),res (fun _ y=>y.name==x.name) (fun _ _=>(8:Int)) j q=if (q.any fun y=>y.name==x.name)=true then .inr 8 else .inl ():=by
  intro q
  induction q with
  |nil=>intro j;rfl
  |cons y q ih=>
   intro j
   rw[res,List.any_cons]
   by_cases h:(y.name==x.name)=true
   ·simp[h]
   ·simp only[Bool.not_eq_true] at h
    rw[h,if_neg (by simp),ih,Bool.false_or]
 exact key _ 0
theorem rv2 (N:Nat) (hN:10≤N) {l:List PlantElement} {i:Nat} {x3:List Int} (hI:RInv l i x3) {e:List Int} (he:e.length≤3) (hr:∀a∈e,0≤a∧a<64):qgX N x3 e N 0=some (if (e.any fun a=>cnt (l.take i) a==2)=true then .inr 17 else .inl ()):=by
 have h:=qat (l:=e) (fun _ a=>cnt (l.take i) a==2) (fun _ _=>(17:Int)) (fun m j=>qgX N x3 e m j) (fun m=>by
  show qgX N x3 e (m+1) _=_
  rw[qgX,if_neg (dneg (by omega))]) (fun m j y hy=>by
  show qgX N x3 e (m+1) _=_
  have hlt:=(List.getElem?_eq_some_iff.1 hy).1
  obtain ⟨h0,h1⟩:=hr y (List.mem_of_getElem? hy)
  rw[qgX,if_pos (dpos (by omega)),qae hy]
  simp only[qaa,hI.get h0 h1,qad]
  rw[w64s (by omega)]) e.length N 0 (by omega) (by omega)
 simp only[Int.natCast_zero,List.drop_zero] at h
 rw[h]
 congr 1
 have key:∀(q:List Int) (j:Nat),res (fun _ a=>cnt (l.take i) a==2) (fun _ _=>(17:Int)) j q=if (q.any fun a=>cnt (l.take i) a==2)=true then .inr 17 else .inl ():=by
  intro q
  induction q with
  |nil=>intro j;rfl
  |cons y q ih=>
   intro j
   rw[res,List.any_cons]
   by_cases h:(cnt (l.take i) y==2)=true
   ·simp[h]
   ·simp only[Bool.not_eq_true] at h
    rw[h,if_neg (by simp),ih,Bool.false_or]
 exact key _ 0
theorem rv3 (N:Nat) {e:List Int} (hd:e.Nodup) (he:e.length≤3) (hr:∀a∈e,0≤a∧a<64):∀(k n i:Nat) (x3:List Int) (f:Int→Int),k<n→i+k=e.length→x3.length=64→(∀m:Nat,m<64→x3[m]? =some (f m))→(∀m,0≤f m∧f m≤1000+i)→
  ∃x3',qiS N e n x3 i=some x3'∧x3'.length=64∧∀m:Nat,m<64→x3'[m]? =some (f m+if (m:Int)∈e.drop i then 1 else 0)
 |k,0,i,x3,f,hn,_,_,_,_=>by omega
 |0,n+1,i,x3,f,hn,hi,h1,h2,h3=>by
  obtain rfl:i=e.length:=by omega
  rw[qiS,if_neg (dneg (by omega)),List.drop_length]
  exact ⟨x3,rfl,h1,fun m hm=>by simpa using h2 m hm⟩
 |k+1,n+1,i,x3,f,hn,hi,h1,h2,h3=>by
  have hlt:i<e.length:=by omega
  have ha:=qao hlt
  obtain ⟨r0,r1⟩:=hr _ (List.getElem_mem hlt)
  obtain ⟨q,hq⟩:=Int.eq_ofNat_of_zero_le r0
  have hq64:q<64:=by omega
  have hg:getI x3 e[i]=some (f q):=by rw[hq];exact qae (h2 q hq64)
  have hf:=h3 q
  rw[qiS,if_pos (dpos (by omega)),qae ha,qbm ha]
  simp only[qaa,qad,hg]
  rw[w64s (by omega),w64 (by omega) (by omega)]
  have hnot:e[i]∉e.drop (i+1):=by
   intro hm
   obtain ⟨j,hj⟩:=List.getElem?_of_mem hm
   rw[List.getElem?_drop] at hj
   obtain ⟨hjl,hj⟩:=List.getElem?_eq_some_iff.1 hj
   exact List.pairwise_iff_getElem.1 hd i (i+1+j) hlt hjl (by omega) hj.symm
  obtain ⟨x3',g1,g2,g3⟩:=rv3 N hd he hr k n (i+1) (x3.set q (f q+1)) (fun m=>if m=(q:Int) then f m+1 else f m) (by omega) (by omega) (by rw[List.length_set];exact h1) (fun m hm=>by
   rw[List.getElem?_set]
   by_cases hmq:q=m
   ·subst hmq;simp[h1,hq64]
   ·rw[if_neg hmq,h2 m hm,if_neg (by omega)]) (fun m=>by have:=h3 m;split<;>omega)
  refine ⟨x3',by rw[hq];exact g1,g2,fun m hm=> ?_⟩
  rw[g3 m hm]
  congr 1
  by_cases hmq:(m:Int)=q
  ·rw[if_pos hmq,if_neg (by rw[hmq,←hq];exact hnot),if_pos (by rw[hmq,←hq];exact List.mem_cons_self)];omega
  ·rw[if_neg hmq]
   by_cases hm2:(m:Int)∈e.drop (i+1)
   ·rw[if_pos hm2,if_pos (List.mem_cons_of_mem _ hm2)]
   ·rw[if_neg hm2,if_neg (by simp only[List.mem_cons,not_or];exact ⟨by rw[hq];exact hmq,hm2⟩)]
theorem qeY (N:Nat) (hN:100≤N) {l:List PlantElement} (hl:l.length≤96) (hnm:∀x∈l,x.name.length<N∧x.name.length≤9223372036854775807):∀(k n i:Nat) (x3:List Int),k<n→i+k=l.length→RInv l i x3→
  qmw N l n x3 i=some (res (pC l) (qaB l) i (l.drop i))
 |k,0,i,x3,hn,_,_=>by omega
 |0,n+1,i,x3,hn,hi,hI=>by
  obtain rfl:i=l.length:=by omega
  rw[qmw,if_neg (dneg (by omega)),List.drop_length]
  rfl
 |k+1,n+1,i,x3,hn,hi,hI=>by
  have hlt:i<l.length:=by omega
  have hx:=qao hlt
  obtain ⟨q1,q2⟩:=hnm _ (List.getElem_mem hlt)
  rw[qmw,if_pos (dpos (by omega)),qoo N hx (by omega) q1 q2,qbm hx,res,qaa]
  unfold pC
  by_cases hsd:qaP l[i]=true
  case neg=>
   simp only[Bool.not_eq_true] at hsd
   have hc:qaB l i l[i]=1:=by unfold qaB;rw[if_pos hsd]
   rw[hsd,hc];simp
  obtain ⟨e1,e2,e3,e4⟩:=qaA hsd
  rw[hsd]
  simp only[Bool.not_true,Bool.false_eq_true,if_false]
  rw[rv1 N hx (by omega) hl,qaa]
  by_cases hnm':((l.take i).any fun y=>y.name==l[i].name)=true
  ·have hc:qaB l i l[i]=8:=by unfold qaB;rw[if_neg (by rw[hsd];simp),if_pos hnm']
   rw[if_pos hnm',hc];simp
  ·have h3:=qa7 l[i]
   rw[if_neg hnm']
   simp only[]
   rw[qcB,qc0 hx,qaa,rv2 N (by omega) hI h3 e2,qaa]
   by_cases g1:((qag l[i]).any fun a=>cnt (l.take i) a==2)=true
   ·have hc:qaB l i l[i]=17:=by unfold qaB;rw[if_neg (by rw[hsd];simp),if_neg hnm',if_pos g1]
    rw[if_pos g1,hc];simp
   ·have hc:qaB l i l[i]=0:=by unfold qaB;rw[if_neg (by rw[hsd];simp),if_neg hnm',if_neg g1]
    rw[if_neg g1,hc]
    simp only[bne_self_eq_false,Bool.false_eq_true,if_false]
    obtain ⟨x3',k1,k2,k3⟩:=rv3 N e1 h3 e2 (qag l[i]).length N 0 x3 (fun m=>cnt (l.take i) m) (by omega) (by omega) hI.len hI.ct (fun m=>by
     have h1:=qdA (l.take i) m
     have h2:=qvA (l.take i) m
     rw[List.length_take] at h2
     omega)
    have k1:qiS N (qag l[i]) N x3 0=some x3':=k1
    rw[k1,qaa,qad,w64s (by omega)]
    refine qeY N hN hl hnm k n (i+1) x3' (by omega) (by omega) ⟨k2,fun m hm=> ?_⟩
    rw[k3 m hm,qbd hx,qb6,List.drop_zero]
theorem qdr (N:Nat) (hN:100≤N) {l:List PlantElement} (hnm:l.length≤96→∀x∈l,x.name.length<N∧x.name.length≤9223372036854775807):zcB N l=some (vErr l):=by
 unfold zcB vErr
 by_cases hl:96<l.length
 ·rw[if_pos (by simpa using by omega),if_pos hl]
 ·rw[if_neg (by simpa using by omega),if_neg hl]
  have h:=qeY N hN (by omega) (hnm (by omega)) l.length N 0 (List.replicate 64 0) (by omega) (by omega) ⟨by simp,fun n hn=>by rw[List.getElem?_replicate,if_pos hn];simp[cnt]⟩
  simp only[Int.natCast_zero,List.drop_zero] at h
  rw[h,qaa]
  cases res (pC l) (qaB l) 0 l<;>rfl
structure PlOk (l:List PlantElement):Prop where
 len:l.length≤96
 snd:∀x∈l,qaP x=true
 nm:l.Pairwise fun x y=>x.name≠y.name
 ct:∀n,cnt l n≤2
theorem PlOk.err {l:List PlantElement} (h:PlOk l):vErr l=0:=by
 unfold vErr
 rw[if_neg (by have:=h.len;omega)]
 have:res (pC l) (qaB l) 0 l= .inl ():=by
  rw[qbT]
  intro j x hj
  rw[Nat.zero_add]
  have hjl:=(List.getElem?_eq_some_iff.1 hj).1
  have hc:qaB l j x=0:=by
   unfold qaB
   rw[if_neg (by rw[h.snd x (List.mem_of_getElem? hj)];simp),if_neg,if_neg]
   ·intro hh
    obtain ⟨n,hn,hn2⟩:=List.any_eq_true.1 hh
    have h2:cnt (l.take j) n=2:=by simpa using hn2
    have h3:=qb6 (l.take j) x n
    rw[if_pos hn,←qbd hj,h2] at h3
    have h4:cnt (l.take (j+1)) n≤cnt l n:=by
     unfold cnt
     have:=(List.take_sublist (j+1) l).filter (fun x=>(qag x).contains n)
     have:=this.length_le
     omega
    have:=h.ct n
    omega
   ·intro hh
    obtain ⟨y,hy,hyn⟩:=List.any_eq_true.1 hh
    obtain ⟨i,hi⟩:=List.getElem?_of_mem hy
    rw[List.getElem?_take] at hi
    split at hi
    ·rename_i hij
     obtain ⟨hil,hi⟩:=List.getElem?_eq_some_iff.1 hi
     obtain ⟨_,hj⟩:=List.getElem?_eq_some_iff.1 hj
     have:=List.pairwise_iff_getElem.1 h.nm i j hil hjl hij
     rw[hi,hj] at this
     exact this (by simpa using hyn)
    ·cases hi
  unfold pC
  rw[hc];rfl
 rw[this]
theorem PlOk.p (N:Nat) (hN:100≤N) {l:List PlantElement} (h:PlOk l):zbI N l=some 0:=by
 rw[qhC N hN,h.err]
theorem PlOk.r (N:Nat) (hN:100≤N) {l:List PlantElement} (h:PlOk l):zcB N l=some 0:=by
 rw[qdr N hN fun _ x hx=>by
  have h1:=(qaA (h.snd x hx)).2.2.2
  unfold pnOk at h1
  simp only[Bool.and_eq_true,decide_eq_true_eq] at h1
  omega,h.err]
end Go.W
end
section
set_option linter.unusedVariables false
set_option linter.unusedSimpArgs false
namespace Go.W
open Go.AM
theorem qcP {l:List PlantElement} {n:Int} {a b:Nat} (h:a≤b):cnt (l.take a) n≤cnt (l.take b) n:=by
 unfold cnt
 have h1:l.take a=(l.take b).take a:=by rw[List.take_take];congr 1;omega
 rw[h1]
 have:=((List.take_sublist a (l.take b)).filter (fun x=>(qag x).contains n)).length_le
 omega
theorem qfV {l:List PlantElement} {n:Int} {i:Nat} {x:PlantElement} (h:l[i]? =some x) (hn:n∈qag x):cnt (l.take (i+1)) n=cnt (l.take i) n+1:=by
 rw[qbd h,qb6,if_pos hn]
theorem qxs {l:List PlantElement} {n:Int} {a:Nat}:cnt (l.take a) n≤cnt l n:=by
 have:=qcP (l:=l) (n:=n) (Nat.le_max_left a l.length)
 rw[List.take_of_length_le (Nat.le_max_right _ _)] at this
 exact this
theorem cnt3 {l:List PlantElement} {n:Int} {i j k:Nat} {x y z:PlantElement} (hx:l[i]? =some x) (hy:l[j]? =some y) (hz:l[k]? =some z) (h1:n∈qag x) (h2:n∈qag y) (h3:n∈qag z) (hij:i<j) (hjk:j<k):3≤cnt l n:=by
 have a1:=qfV hx h1
 have a2:=qfV hy h2
 have a3:=qfV hz h3
 have b1:=qcP (l:=l) (n:=n) (show i+1≤j by omega)
 have b2:=qcP (l:=l) (n:=n) (show j+1≤k by omega)
 have b3:=qxs (l:=l) (n:=n) (a:=k+1)
 have b4:=qdA (l.take i) n
 omega
theorem PlOk.of {l:List PlantElement} (h:vErr l=0):PlOk l:=by
 unfold vErr at h
 split at h
 ·cases h
 rename_i hl
 have hres:res (pC l) (qaB l) 0 l= .inl ():=by
  cases hr:res (pC l) (qaB l) 0 l with
  |inl u=>rfl
  |inr c=>
   rw[hr] at h
   simp only at h
   have key:∀(e:List PlantElement) (i:Nat) (c:Int),res (pC l) (qaB l) i e= .inr c→c≠0:=by
    intro e
    induction e with
    |nil=>intro i c h;cases h
    |cons y e ih=>
     intro i c h
     rw[res] at h
     split at h
     ·rename_i hp
      cases h
      unfold pC at hp
      simpa using hp
     ·exact ih _ _ h
   exact absurd h (key _ _ _ hr)
 have hc:∀(j:Nat) (x:PlantElement),l[j]? =some x→qaB l j x=0:=fun j x hj=>by
  have:=(qbT.1 hres) j x hj
  rw[Nat.zero_add] at this
  unfold pC at this
  simpa using this
 have h3:∀(j:Nat) (x:PlantElement),l[j]? =some x→qaP x=true∧((l.take j).any fun y=>y.name==x.name)=false∧((qag x).any fun n=>cnt (l.take j) n==2)=false:=fun j x hj=>by
  have:=hc j x hj
  unfold qaB at this
  split at this
  ·cases this
  ·rename_i a
   split at this
   ·cases this
   ·rename_i b
    split at this
    ·cases this
    ·rename_i c
     exact ⟨by simpa using a,by simpa using b,by simpa using c⟩
 refine ⟨by omega,fun x hx=> ?_, ?_,fun n=> ?_⟩
 ·obtain ⟨j,hj⟩:=List.getElem?_of_mem hx
  exact (h3 j x hj).1
 ·rw[List.pairwise_iff_getElem]
  intro i j hi hj hij hne
  have hb:=(h3 j _ (qao hj)).2.1
  rw[List.any_eq_false] at hb
  have hm:l[i]∈l.take j:=by
   refine List.mem_of_getElem? (i:=i) ?_
   rw[List.getElem?_take,if_pos hij]
   exact qao hi
  exact hb _ hm (by simpa using hne)
 ·have key:∀(i:Nat),i≤l.length→cnt (l.take i) n≤2:=by
   intro i
   induction i with
   |zero=>intro _;simp[cnt]
   |succ i ih=>
    intro hi
    have hx:=qao (xs:=l) (i:=i) (by omega)
    rw[qbd hx,qb6]
    have:=ih (by omega)
    split
    ·rename_i hm
     have hb:=(h3 i _ hx).2.2
     rw[List.any_eq_false] at hb
     have:=hb n hm
     simp at this
     omega
    ·omega
  have:=key l.length (Nat.le_refl _)
  rw[List.take_length] at this
  exact this
theorem PlOk.two {l:List PlantElement} (h:PlOk l) {n:Int} {i j k:Nat} {x y z:PlantElement} (hx:l[i]? =some x) (hy:l[j]? =some y) (hz:l[k]? =some z) (h1:n∈qag x) (h2:n∈qag y) (h3:n∈qag z):i=j∨j=k∨i=k:=by
 have hc:=h.ct n
 rcases Nat.lt_trichotomy i j with a|a|a
 ·rcases Nat.lt_trichotomy j k with b|b|b
  ·have:=cnt3 hx hy hz h1 h2 h3 a b;omega
  ·exact .inr (.inl b)
  ·rcases Nat.lt_trichotomy i k with c|c|c
   ·have:=cnt3 hx hz hy h1 h3 h2 c b;omega
   ·exact .inr (.inr c)
   ·have:=cnt3 hz hx hy h3 h1 h2 c a;omega
 ·exact .inl a
 ·rcases Nat.lt_trichotomy i k with b|b|b
  ·have:=cnt3 hy hx hz h2 h1 h3 a b;omega
  ·exact .inr (.inr b)
  ·rcases Nat.lt_trichotomy j k with c|c|c
   ·have:=cnt3 hy hz hx h2 h3 h1 c b;omega
   ·exact .inr (.inl c)
   ·have:=cnt3 hz hy hx h3 h2 h1 c a;omega
theorem qek (l:List PlantElement) (i n:Int):(nbr l i n= -1∧∀(j:Nat) (x:PlantElement),l[j]? =some x→(j:Int)≠i→n∉qag x)∨
  ∃(j:Nat) (x:PlantElement),nbr l i n=(j:Int)∧l[j]? =some x∧(j:Int)≠i∧n∈qag x:=by
 rcases qeB (nbrB i n) l 0 with ⟨h1,h2⟩|⟨j,x,h1,h2,h3,_⟩
 ·refine .inl ⟨h1,fun j x hj hji hn=> ?_⟩
  have:=h2 j x hj
  rw[Nat.zero_add] at this
  unfold nbrB at this
  have e1:((j:Int) !=i)=true:=by simpa using hji
  rw[e1] at this
  simp[hn] at this
 ·rw[Nat.zero_add] at h1 h3
  unfold nbrB at h3
  simp only[Bool.and_eq_true,bne_iff_ne,ne_eq] at h3
  exact .inr ⟨j,x,h1,h2,h3.1,by simpa using h3.2⟩
theorem qeO {l:List PlantElement} {i n:Int} (h:0≤nbr l i n):n∈eI l (nbr l i n)∧nbr l i n≠i:=by
 rcases qek l i n with ⟨h1,_⟩|⟨j,x,h1,h2,h3,h4⟩
 ·omega
 ·rw[h1,qc0 h2];exact ⟨h4,h3⟩
theorem PlOk.nbr_sym {l:List PlantElement} (h:PlOk l) {i n:Int} (hn:n∈eI l i) (hk:0≤nbr l i n):nbr l (nbr l i n) n=i:=by
 obtain ⟨h0,h1,x,hx,hxn⟩:=qb1 hn
 obtain ⟨a,rfl⟩:=Int.eq_ofNat_of_zero_le h0
 rw[Int.toNat_natCast] at hx
 rcases qek l (a:Int) n with ⟨g1,_⟩|⟨j,y,g1,g2,g3,g4⟩
 ·omega
 ·rw[g1]
  rcases qek l (j:Int) n with ⟨k1,k2⟩|⟨c,z,k1,k2,k3,k4⟩
  ·exact absurd hxn (k2 a x hx (by omega))
  ·rw[k1]
   rcases h.two hx g2 k2 hxn g4 k4 with e|e|e
   ·omega
   ·omega
   ·omega
theorem PlOk.nodup {l:List PlantElement} (h:PlOk l) (i:Int):(eI l i).Nodup:=by
 unfold eI
 split
 ·split
  ·rename_i x hx
   exact (qaA (h.snd x (List.mem_of_getElem? hx))).1
  ·exact List.nodup_nil
 ·exact List.nodup_nil
theorem qer {e:List Int} {n m:Int} (h:m∈thrE e n):n∈e∧m∈e:=by
 unfold thrE at h
 split at h
 ·rename_i hc
  refine ⟨by simpa using hc, ?_⟩
  split at h
  ·exact List.mem_of_mem_tail h
  ·exact List.mem_of_mem_take h
 ·simp at h
theorem qsT {e:List Int} (hd:e.Nodup) {n m:Int} (h:m∈thrE e n):n∈thrE e m∧n≠m:=by
 obtain ⟨h1,h2⟩:=qer h
 unfold thrE at h⊢
 rw[if_pos (by simpa using h1)] at h
 rw[if_pos (by simpa using h2)]
 cases e with
 |nil=>simp at h1
 |cons a e=>
  have hd':=List.nodup_cons.1 hd
  simp only[List.head?_cons,List.tail_cons,Option.some.injEq,List.take_succ_cons,List.take_zero,List.mem_cons,List.not_mem_nil,or_false] at h⊢
  split at h
  ·rename_i ha
   subst ha
   have hne:¬a=m:=fun hh=>hd'.1 (hh▸h)
   rw[if_neg hne]
   exact ⟨by simp,hne⟩
  ·rename_i ha
   simp only[List.mem_cons,List.not_mem_nil,or_false] at h
   subst h
   rw[if_pos rfl]
   refine ⟨?_,fun hh=>ha hh.symm⟩
   rcases List.mem_cons.1 h1 with hh|hh
   ·exact absurd hh.symm ha
   ·exact hh
theorem qiL {l:List PlantElement} {i n m:Int} (h:m∈thr l i n):n∈eI l i∧m∈eI l i:=qer h
theorem PlOk.thr_sym {l:List PlantElement} (h:PlOk l) {i n m:Int} (hm:m∈thr l i n):n∈thr l i m∧n≠m:=qsT (h.nodup i) hm
theorem qe1 (l:List PlantElement) (i n:Int):(thr l i n).length≤3:=by
 have:=qdY l i
 unfold thr thrE
 split
 ·split
  ·rw[List.length_tail];omega
  ·rw[List.length_take];omega
 ·simp
end Go.W
end
section
set_option linter.unusedVariables false
set_option linter.unusedSimpArgs false
namespace Go.W
open Go.AM
def qcg (i:Nat):List UInt8:=[112,UInt8.ofNat (48+i / 10%10),UInt8.ofNat (48+i%10)]
theorem qiM {n:Nat} (h:n<256):toU8 (n:Int)=some (UInt8.ofNat n):=by
 unfold toU8
 rw[if_pos (by omega)]
 simp
theorem qgN (N:Nat) {i:Nat} (h:i<1000):zbF N (i:Int)=some (qcg i):=by
 unfold zbF qcg
 have e1:IntKind.wrap .i64 (Int.tdiv (i:Int) 10)=((i / 10:Nat):Int):=by rw[Int.tdiv_eq_ediv_of_nonneg (by omega),w64 (by omega) (by omega)];omega
 have e2:Int.tmod ((i / 10:Nat):Int) 10=((i / 10%10:Nat):Int):=by rw[Int.tmod_eq_emod_of_nonneg (by omega)];omega
 have e3:Int.tmod (i:Int) 10=((i%10:Nat):Int):=by rw[Int.tmod_eq_emod_of_nonneg (by omega)];omega
 rw[e1,e2,e3,w64 (by omega) (by omega),w64 (by omega) (by omega),w8 (by omega) (by omega),w8 (by omega) (by omega)]
 have f1:=qiM (n:=112) (by omega)
 have f2:=qiM (n:=48+i / 10%10) (by omega)
 have f3:=qiM (n:=48+i%10) (by omega)
 rw[show ((48:Int)+((i / 10%10:Nat):Int))=((48+i / 10%10:Nat):Int) by omega,show ((48:Int)+((i%10:Nat):Int))=((48+i%10:Nat):Int) by omega,f2,f3]
 have f1:toU8 112=some (UInt8.ofNat 112):=f1
 rw[f1]
 rfl
theorem qnC {i j:Nat} (hi:i<100) (hj:j<100) (h:qcg i=qcg j):i=j:=by
 unfold qcg at h
 simp only[List.cons.injEq,and_true,true_and] at h
 have a1:=congrArg UInt8.toNat h.1
 have a2:=congrArg UInt8.toNat h.2
 simp only[UInt8.toNat_ofNat'] at a1 a2
 omega
theorem qgl (i:Nat):pnOk (qcg i)=true:=by
 have key:∀d:Nat,d<10→pnCh (UInt8.ofNat (48+d))=true:=by
  intro d hd
  unfold pnCh
  rw[UInt8.toNat_ofNat']
  simp
  omega
 unfold pnOk qcg
 simp only[List.all_cons,List.all_nil,key (i / 10%10) (by omega),key (i%10) (by omega)]
 rfl
structure PlI (l:List PlantElement) (op:List Int) (nx:Int):Prop where
 snd:∀x∈l,qaP x=true
 nm:∀(i:Nat) (x:PlantElement),l[i]? =some x→x.name=qcg i
 ct:∀n,cnt l n≤2
 op1:∀n∈op,cnt l n≤1
 nd:op.Nodup
 rg:∀n∈op,0≤n∧n<nx
 nw:∀n,nx≤n→cnt l n=0
 ln:(op.length:Int)≤nx
 nx64:nx≤64
 nx0:0≤nx
 fst:∃x,l[0]? =some x∧x.kind=1
theorem PlI.add {l:List PlantElement} {op op':List Int} {nx nx':Int} {x:PlantElement} (h:PlI l op nx) (hs:qaP x=true) (hn:x.name=qcg l.length) (h1:∀n∈qag x,n∈op∨(nx≤n∧n<nx')) (h2:∀n∈op',(n∈op∧n∉qag x)∨(nx≤n∧n<nx'))
  (h3:op'.Nodup) (h4:nx≤nx') (h5:nx'≤64) (h6:(op'.length:Int)≤nx'):PlI (l++[x]) op' nx' where
 snd:=fun y hy=>by
  rcases List.mem_append.1 hy with hy|hy
  ·exact h.snd y hy
  ·simp at hy;subst hy;exact hs
 nm:=fun i y hy=>by
  by_cases hi:i<l.length
  ·rw[List.getElem?_append_left hi] at hy;exact h.nm i y hy
  ·rw[List.getElem?_append_right (by omega)] at hy
   have hi2:=(List.getElem?_eq_some_iff.1 hy).1
   simp at hi2
   have:i=l.length:=by omega
   subst this
   simp at hy;subst hy;exact hn
 ct:=fun n=>by
  rw[qb6]
  have a:=h.ct n
  split
  ·rename_i hm
   rcases h1 n hm with hm|⟨hm,_⟩
   ·have:=h.op1 n hm;omega
   ·have:=h.nw n hm;omega
  ·omega
 op1:=fun n hm=>by
  rw[qb6]
  rcases h2 n hm with ⟨a,b⟩|⟨a,b⟩
  ·have:=h.op1 n a;rw[if_neg b];omega
  ·have:=h.nw n a;split<;>omega
 nd:=h3
 rg:=fun n hm=>by
  rcases h2 n hm with ⟨a,b⟩|⟨a,b⟩
  ·have:=h.rg n a;omega
  ·have:=h.nx0;omega
 nw:=fun n hm=>by
  rw[qb6,if_neg,h.nw n (by omega)]
  ·rfl
  ·intro hh
   rcases h1 n hh with a|a
   ·have:=h.rg n a;omega
   ·omega
 ln:=h6
 nx64:=h5
 nx0:=by have:=h.nx0;omega
 fst:=by
  obtain ⟨y,hy,hk⟩:=h.fst
  exact ⟨y,by rw[List.getElem?_append_left (List.getElem?_eq_some_iff.1 hy).1];exact hy,hk⟩
theorem PlI.ok {l:List PlantElement} {op:List Int} {nx:Int} (h:PlI l op nx) (hl:l.length≤96):PlOk l where
 len:=hl
 snd:=h.snd
 nm:=List.pairwise_iff_getElem.2 fun i j hi hj hij hh=>by
  rw[h.nm i _ (qao hi),h.nm j _ (qao hj)] at hh
  have:=qnC (by omega) (by omega) hh
  omega
 ct:=h.ct
theorem qcr {m:List UInt8} {a b len:Int} (hm:pnOk m=true) (ha:0≤a∧a<64) (hb:0≤b∧b<64) (hab:a≠b) (hl:1≤len∧len≤100000):qaP (PlantElement.mk 1 m a b 0 len)=true:=by
 have he:okE [a,b]=true:=qgo.2 ⟨by simp[hab],by simp;omega⟩
 unfold qaP
 have:qag (PlantElement.mk 1 m a b 0 len)=[a,b]:=by simp[qag]
 rw[this]
 simp[hm,he,hl]
theorem qmm {m:List UInt8} {a b:Int} (hm:pnOk m=true) (ha:0≤a∧a<64) (hb:0≤b∧b<64) (hab:a≠b):qaP (PlantElement.mk 3 m a b 0 0)=true:=by
 have he:okE [a,b]=true:=qgo.2 ⟨by simp[hab],by simp;omega⟩
 unfold qaP
 have:qag (PlantElement.mk 3 m a b 0 0)=[a,b]:=by simp[qag]
 rw[this]
 simp[hm,he]
theorem qfH {m:List UInt8} {a b c:Int} (hm:pnOk m=true) (ha:0≤a∧a<64) (hb:0≤b∧b<64) (hc:0≤c∧c<64) (hab:a≠b) (hac:a≠c) (hbc:b≠c):qaP (PlantElement.mk 2 m a b c 0)=true:=by
 have he:okE [a,b,c]=true:=qgo.2 ⟨by simp[hab,hac,hbc],by simp;omega⟩
 unfold qaP
 have:qag (PlantElement.mk 2 m a b c 0)=[a,b,c]:=by simp[qag]
 rw[this]
 simp[hm,he]
theorem qlN {op:List Int} {r:Nat} {a:Int} (ha:op[r]? =some a) (hd:op.Nodup):a∉op.take r++op.drop (r+1)∧(∀n∈op.take r++op.drop (r+1),n∈op)∧(op.take r++op.drop (r+1)).Nodup∧(op.take r++op.drop (r+1)).length+1=op.length:=by
 have hr:=(List.getElem?_eq_some_iff.1 ha).1
 have hsplit:op=op.take r++a::op.drop (r+1):=by
  conv=>lhs;rw[←List.take_append_drop r op,qbm ha]
 have hd':=hd
 rw[hsplit,List.nodup_append] at hd'
 obtain ⟨d1,d2,d3⟩:=hd'
 have d2':=List.nodup_cons.1 d2
 refine ⟨?_, ?_, ?_, ?_⟩
 ·intro hm
  rcases List.mem_append.1 hm with hm|hm
  ·exact d3 a hm a List.mem_cons_self rfl
  ·exact d2'.1 hm
 ·intro n hn
  rcases List.mem_append.1 hn with hn|hn
  ·exact List.mem_of_mem_take hn
  ·exact List.mem_of_mem_drop hn
 ·rw[List.nodup_append]
  exact ⟨d1,d2'.2,fun x hx y hy=>d3 x hx y (List.mem_cons_of_mem _ hy)⟩
 ·rw[List.length_append,List.length_take,List.length_drop];omega
theorem pl4 (N:Nat) (k:Int) (b:Bool):qta N k b=some (b||(k==1)):=by
 unfold qta
 cases b<;>simp[qad]
theorem qyi (N:Nat) {c:Int} {s:Maker} {l:List PlantElement} {op:List Int} {nx:Int} {r:Nat} {a:Int} {k:Int} (hI:PlI l op nx) (hl:l.length<96) (hs:Mk c s) (hc:c≤1000000) (hnx:nx<62) (ha:op[r]? =some a) (hk0:0≤k) (hk:k<6):
  ∃s' op' nx' x,qs9 N s (op.take r++op.drop (r+1)) nx a (PlantElement.mk 0 (qcg l.length) 0 0 0 0) k=some (s',op',nx',x)∧Mk (c+5) s'∧PlI (l++[x]) op' nx':=by
 obtain ⟨t1,t2,t3,t4⟩:=qlN ha hI.nd
 generalize hop:op.take r++op.drop (r+1)=q at*
 have hnm:=qgl l.length
 have ham:=List.mem_of_getElem? ha
 obtain ⟨a0,a1⟩:=hI.rg a ham
 have hq:(q.length:Int)+1≤nx:=by have:=hI.ln;omega
 have hnx0:=hI.nx0
 have fresh:∀n∈q,n<nx:=fun n hn=>(hI.rg n (t2 n hn)).2
 have f1:nx∉q:=fun h=>by have:=fresh _ h;omega
 have f2:nx+1∉q:=fun h=>by have:=fresh _ h;omega
 have w1:IntKind.wrap .i64 (nx+1)=nx+1:=w64 (by omega) (by omega)
 have w2:IntKind.wrap .i64 (nx+2)=nx+2:=w64 (by omega) (by omega)
 have nd1:(q++[nx]).Nodup:=by
  rw[List.nodup_append]
  exact ⟨t3,by simp,fun x hx y hy=>by simp at hy;subst hy;exact fun hh=>f1 (hh▸hx)⟩
 have nd2:(q++[nx,nx+1]).Nodup:=by
  rw[List.nodup_append]
  refine ⟨t3,by simp;omega,fun x hx y hy=> ?_⟩
  simp at hy
  rcases hy with rfl|rfl
  ·exact fun hh=>f1 (hh▸hx)
  ·exact fun hh=>f2 (hh▸hx)
 have ap1:appI q [nx]=some (q++[nx]):=qaH (by simp;omega)
 have ap2:appI q [nx,nx+1]=some (q++[nx,nx+1]):=qaH (by simp;omega)
 have old:∀n∈q,n∈op∧n≠a:=fun n hn=>⟨t2 n hn,fun hh=>t1 (hh▸hn)⟩
 have hMk:Mk (c+5) s:=hs.le (by omega)
 unfold qs9
 simp only[qad,pl4,qaa,w1,w2,ap1,ap2]
 by_cases k01:k=0∨k=1
 ·have hb:((k==0)||(k==1))=true:=by simpa using k01
  rw[if_pos hb]
  refine ⟨s,_,_,_,rfl,hMk,hI.add (qfH hnm ⟨a0,by omega⟩ ⟨hnx0,by omega⟩ ⟨by omega,by omega⟩ (by omega) (by omega) (by omega)) rfl ?_ ?_ nd2 (by omega) (by omega) (by simp;omega)⟩
  ·intro n hn
   simp[qag] at hn
   rcases hn with rfl|rfl|rfl
   ·exact .inl ham
   ·exact .inr (by omega)
   ·exact .inr (by omega)
  ·intro n hn
   rcases List.mem_append.1 hn with hn|hn
   ·obtain ⟨o1,o2⟩:=old n hn
    have:=fresh n hn
    refine .inl ⟨o1, ?_⟩
    simp[qag];omega
   ·simp at hn;right;omega
 ·have hb:((k==0)||(k==1))=false:=by simp;omega
  rw[if_neg (by rw[hb];simp)]
  by_cases k2:k=2
  ·rw[if_pos (by simpa using k2)]
   refine ⟨s,_,_,_,rfl,hMk,hI.add (qfH hnm ⟨hnx0,by omega⟩ ⟨a0,by omega⟩ ⟨by omega,by omega⟩ (by omega) (by omega) (by omega)) rfl ?_ ?_ nd2 (by omega) (by omega) (by simp;omega)⟩
   ·intro n hn
    simp[qag] at hn
    rcases hn with rfl|rfl|rfl
    ·exact .inr (by omega)
    ·exact .inl ham
    ·exact .inr (by omega)
   ·intro n hn
    rcases List.mem_append.1 hn with hn|hn
    ·obtain ⟨o1,o2⟩:=old n hn
     have:=fresh n hn
     refine .inl ⟨o1, ?_⟩
     simp[qag];omega
    ·simp at hn;right;omega
  ·rw[if_neg (by simpa using k2)]
   by_cases k3:k=3
   ·rw[if_pos (by simpa using k3)]
    refine ⟨s,_,_,_,rfl,hMk,hI.add (qmm hnm ⟨a0,by omega⟩ ⟨hnx0,by omega⟩ (by omega)) rfl ?_ ?_ nd1 (by omega) (by omega) (by simp;omega)⟩
    ·intro n hn
     simp[qag] at hn
     rcases hn with rfl|rfl
     ·exact .inl ham
     ·exact .inr (by omega)
    ·intro n hn
     rcases List.mem_append.1 hn with hn|hn
     ·obtain ⟨o1,o2⟩:=old n hn
      have:=fresh n hn
      refine .inl ⟨o1, ?_⟩
      simp[qag];omega
     ·simp at hn;right;omega
   ·rw[if_neg (by simpa using k3)]
    obtain ⟨len,s1,g1,g2,g3⟩:=qix N (s:=s) (c:=c) [1,300,100000] (by simp) (by simp) hs (by omega)
    have hlen:1≤len∧len≤100000:=by simp at g2;omega
    rw[g1,qaa]
    unfold qyU
    obtain ⟨y,s2,h1,h2,h3,h4⟩:=qbc N (s:=s1) (c:=c+1) 3 (by omega) (by omega) g3 (by omega)
    simp only[h1,qaa]
    by_cases hy:y=0∧0<q.length
    ·obtain ⟨hy,hq0⟩:=hy
     rw[if_pos (by simpa using hy),qaa,if_pos (dpos (by omega))]
     obtain ⟨p,hp⟩:∃p,q.length=p+1:=⟨q.length - 1,by omega⟩
     have hw:IntKind.wrap .i64 ((q.length:Int) - 1)=(p:Int):=by rw[w64 (by omega) (by omega)];omega
     have hpl:p<q.length:=by omega
     rw[hw,qae (qao hpl)]
     simp only[qaa]
     rw[qb9 (by omega),qaa]
     have hbm:=List.getElem_mem hpl
     obtain ⟨b0,b1⟩:=old _ hbm
     obtain ⟨r0,r1⟩:=hI.rg _ b0
     have hqs:q=q.take p++[q[p]]:=by
      conv=>lhs;rw[←List.take_append_drop p q,qbm (qao hpl)]
      rw[List.drop_of_length_le (by omega)]
     have hnot:q[p]∉q.take p:=by
      intro hh
      have hd:=t3
      rw[hqs,List.nodup_append] at hd
      exact hd.2.2 _ hh q[p] (by simp) rfl
     refine ⟨s2,_,_,_,rfl,h4.le (by omega),hI.add (qcr hnm ⟨a0,by omega⟩ ⟨r0,by omega⟩ (fun hh=>b1 hh.symm) hlen) rfl ?_ ?_ (t3.sublist (List.take_sublist p q)) (by omega) (by omega) (by rw[List.length_take];omega)⟩
     ·intro n hn
      simp[qag] at hn
      rcases hn with rfl|rfl
      ·exact .inl ham
      ·exact .inl b0
     ·intro n hn
      obtain ⟨o1,o2⟩:=old n (List.mem_of_mem_take hn)
      refine .inl ⟨o1, ?_⟩
      simp[qag]
      exact ⟨o2,fun hh=>hnot (hh▸hn)⟩
    ·have hgo:∀{β:Type} (f:Maker×Bool→Option β),(Option.bind (if (y==0)=true then some (s2,decide (0<(q.length:Int))) else some (s2,false)) f)=f (s2,false):=by
      intro β f
      by_cases h0:y=0
      ·rw[if_pos (by simpa using h0),qaa]
       have h00:¬0<q.length:=fun h=>hy ⟨h0,h⟩
       have:decide (0<(q.length:Int))=false:=by rw[decide_eq_false_iff_not];omega
       rw[this]
      ·rw[if_neg (by simpa using h0),qaa]
     rw[hgo]
     simp only[Bool.false_eq_true,if_false]
     obtain ⟨y2,s3,i1,i2,i3,i4⟩:=qbc N (s:=s2) (c:=c+1+1) 2 (by omega) (by omega) h4 (by omega)
     rw[i1,qaa]
     have hend:∀n∈qag (PlantElement.mk 1 (qcg l.length) a nx 0 len),n∈op∨(nx≤n∧n<nx+1):=by
      intro n hn
      simp[qag] at hn
      rcases hn with rfl|rfl
      ·exact .inl ham
      ·exact .inr (by omega)
     have hold:∀n∈q,n∈op∧n∉qag (PlantElement.mk 1 (qcg l.length) a nx 0 len):=by
      intro n hn
      obtain ⟨o1,o2⟩:=old n hn
      have:=fresh n hn
      refine ⟨o1, ?_⟩
      simp[qag];omega
     by_cases hy2:y2=0
     ·rw[if_pos (by simpa using hy2)]
      refine ⟨s3,_,_,_,rfl,i4.le (by omega),hI.add (qcr hnm ⟨a0,by omega⟩ ⟨hnx0,by omega⟩ (by omega) hlen) rfl hend ?_ nd1 (by omega) (by omega) (by simp;omega)⟩
      intro n hn
      rcases List.mem_append.1 hn with hn|hn
      ·exact .inl (hold n hn)
      ·simp at hn;right;omega
     ·rw[if_neg (by simpa using hy2)]
      exact ⟨s3,_,_,_,rfl,i4.le (by omega),hI.add (qcr hnm ⟨a0,by omega⟩ ⟨hnx0,by omega⟩ (by omega) hlen) rfl hend (fun n hn=> .inl (hold n hn)) t3 (by omega) (by omega) (by omega)⟩
theorem pl2 (N:Nat) (k:Int) (l:List PlantElement) (op:List Int) (nx:Int):qs8 N k l op nx=some (decide ((l.length:Int)<k∧0<op.length∧nx<62)):=by
 unfold qs8
 by_cases h1:(l.length:Int)<k
 ·rw[if_pos (dpos h1)]
  by_cases h2:0<op.length
  ·rw[if_pos (dpos (by omega))];simp[h1,h2]
  ·rw[if_neg (dneg (by omega))];simp[h2]
 ·rw[if_neg (dneg h1)];simp[h1]
theorem qly (N:Nat) {b:Int} (hb0:0≤b) (hb:b≤900000) {k:Int} (hk:k≤60):∀(f n:Nat) (c:Int) (s:Maker) (l:List PlantElement) (op:List Int) (nx:Int),f<n→k≤(l.length:Int)+f→(l.length:Int)≤61→c≤b+10000→(l.length:Int)*100+c≤b+9000+(l.length:Int)*107→Mk c s→PlI l op nx→
  ∃s' l' op' nx',qqL N k n s l op nx=some (s',l',op',nx')∧Mk (b+20000) s'∧(l'.length:Int)≤61∧PlI l' op' nx'
 |f,0,c,s,l,op,nx,hn,_,_,_,_,_,_=>by omega
 |f,n+1,c,s,l,op,nx,hn,hf,hl,hc,hc2,hs,hI=>by
  rw[qqL,pl2,qaa]
  by_cases hcond:(l.length:Int)<k∧0<op.length∧nx<62
  ·rw[decide_eq_true hcond,if_pos rfl]
   obtain ⟨c1,c2,c3⟩:=hcond
   have hol:=hI.ln
   obtain ⟨r,s1,h1,h2,h3,h4⟩:=qbc N (s:=s) (c:=c) (op.length:Int) (by omega) (by omega) hs (by omega)
   obtain ⟨q,rfl⟩:=Int.eq_ofNat_of_zero_le h2
   have hq:q<op.length:=by omega
   have ha:=qao hq
   rw[h1,qaa]
   simp only[]
   rw[qae ha,qaa,qaa,qb9 (by omega),qaa,w64s (by omega),qb8 (by omega),qaa]
   have e1:List.take (Int.toNat (op.length:Int)) op=op:=by rw[Int.toNat_natCast,List.take_length]
   rw[e1,Int.toNat_natCast,Int.toNat_natCast,qaH (by rw[List.length_take,List.length_drop];omega),qaa,qgN N (by omega),qaa]
   obtain ⟨kd,s2,g1,g2,g3,g4⟩:=qbc N (s:=s1) (c:=c+1) 6 (by omega) (by omega) h4 (by omega)
   rw[g1,qaa]
   simp only[]
   obtain ⟨s3,op',nx',x,p1,p2,p3⟩:=qyi N (c:=c+1+1) hI (by omega) g4 (by omega) c3 ha g2 g3
   rw[p1,qaa]
   simp only[]
   rw[qaH (by simp;omega),qaa]
   cases f with
   |zero=>omega
   |succ f=>
    exact qly N hb0 hb hk f n (c+7) s3 (l++[x]) op' nx' (by omega) (by simp;omega) (by simp;omega) (by simp at*;omega) (by simp;omega) (p2.le (by omega)) p3
  ·rw[decide_eq_false hcond,if_neg (by simp)]
   exact ⟨s,l,op,nx,rfl,hs.le (by omega),hl,hI⟩
theorem pl7 (N:Nat) (l:List PlantElement) (op:List Int) (nx:Int):qtb N l op nx=some (decide (0<op.length∧l.length<96∧nx<64)):=by
 unfold qtb
 by_cases h1:0<op.length
 ·rw[if_pos (dpos (by omega))]
  by_cases h2:l.length<96
  ·rw[if_pos (dpos (by omega))];simp[h1,h2]
  ·rw[if_neg (dneg (by omega))];simp[h2]
 ·rw[if_neg (dneg (by omega))];simp[h1]
theorem qgu (N:Nat) {b:Int} (hb0:0≤b) (hb:b≤900000):∀(f n:Nat) (c:Int) (s:Maker) (l:List PlantElement) (op:List Int) (nx:Int),f<n→op.length≤f→l.length≤96→c+op.length≤b+30000→Mk c s→PlI l op nx→
  ∃s' l',qqM N n s l op nx=some (s',l')∧Mk (b+30000) s'∧l'.length≤96∧∃op' nx',PlI l' op' nx'
 |f,0,c,s,l,op,nx,hn,_,_,_,_,_=>by omega
 |f,n+1,c,s,l,op,nx,hn,hf,hl,hc,hs,hI=>by
  rw[qqM,pl7,qaa]
  by_cases hcond:0<op.length∧l.length<96∧nx<64
  ·rw[decide_eq_true hcond,if_pos rfl]
   obtain ⟨c1,c2,c3⟩:=hcond
   obtain ⟨r,s1,h1,h2,h3,h4⟩:=qbc N (s:=s) (c:=c) 5 (by omega) (by omega) hs (by omega)
   rw[h1,qaa]
   simp only[]
   have ha:=qao c1
   have hnx0:=hI.nx0
   obtain ⟨t1,t2,t3,t4⟩:=qlN ha hI.nd
   rw[List.take_zero,List.nil_append] at t1 t2 t3 t4
   have hcut:cutI op 1 (op.length:Int)=some (op.drop 1):=qb8 (i:=1) (by omega)
   obtain ⟨a0,a1⟩:=hI.rg _ (List.getElem_mem c1)
   have hln:=hI.ln
   have fresh:∀n∈op.drop 1,n<nx:=fun n hn=>(hI.rg n (t2 n hn)).2
   cases f with
   |zero=>omega
   |succ f=>
    unfold qyV
    by_cases hr:0<r
    ·rw[if_pos (dpos hr),qgN N (by omega),qaa]
     have hg:getI op 0=some op[0]:=qae ha
     rw[hg,qaa,qaa,qaH (by simp;omega),qaa,qad,w64 (by omega) (by omega),qaa,hcut,qaa]
     refine qgu N hb0 hb f n (c+1) s1 _ _ _ (by omega) (by rw[List.length_drop];omega) (by simp;omega) (by rw[List.length_drop];omega) h4 (hI.add (qcr (qgl _) ⟨a0,by omega⟩ ⟨hnx0,by omega⟩ (by omega) (by omega)) rfl ?_ ?_ t3 (by omega) (by omega) (by rw[List.length_drop];omega))
     ·intro n hn
      simp[qag] at hn
      rcases hn with rfl|rfl
      ·exact .inl (List.getElem_mem c1)
      ·exact .inr (by omega)
     ·intro n hn
      have:=fresh n hn
      refine .inl ⟨t2 n hn, ?_⟩
      simp[qag]
      exact ⟨fun hh=>t1 (hh▸hn),by omega⟩
    ·rw[if_neg (dneg hr),qaa,hcut,qaa]
     refine qgu N hb0 hb f n (c+1) s1 _ _ _ (by omega) (by rw[List.length_drop];omega) hl (by rw[List.length_drop];omega) h4 ?_
     exact {hI with op1:=fun n hn=>hI.op1 n (t2 n hn),nd:=t3,rg:=fun n hn=>hI.rg n (t2 n hn),ln:=by rw[List.length_drop];omega}
  ·rw[decide_eq_false hcond,if_neg (by simp)]
   exact ⟨s,l,rfl,hs.le (by omega),hl,op,nx,hI⟩
structure MadeP (l:List PlantElement):Prop where
 ok:PlOk l
 fst:∃x,l[0]? =some x∧x.kind=1
theorem qsC (N:Nat) (hN:200≤N) {b:Int} (hb0:0≤b) (hb:b≤900000) {s:Maker} (hs:Mk b s) {k:Int} (hk:k≤60):∃l s',zaZ N s k=some (l,s')∧Mk (b+30000) s'∧MadeP l:=by
 unfold zaZ
 have hnm:zbF N 0=some (qcg 0):=qgN N (i:=0) (by omega)
 obtain ⟨y,s1,h1,h2,h3,h4⟩:=qbc N (s:=s) (c:=b) 2 (by omega) (by omega) hs (by omega)
 rw[hnm,qaa,h1,qaa]
 simp only[]
 have hct:∀n,cnt [PlantElement.mk 1 (qcg 0) 0 1 0 500] n=if n=0∨n=1 then 1 else 0:=by
  intro n
  unfold cnt
  have:(qag (PlantElement.mk 1 (qcg 0) 0 1 0 500))=[0,1]:=by simp[qag]
  rw[List.filter_cons,this]
  by_cases hn:n=0∨n=1
  ·rw[if_pos (by simpa using hn),if_pos hn];rfl
  ·rw[if_neg (by simpa using hn),if_neg hn];rfl
 have h0:∀op:List Int,(∀n∈op,n=0∨n=1)→op.Nodup→op.length≤2→PlI [PlantElement.mk 1 (qcg 0) 0 1 0 500] op 2:=fun op ho hd hl=>
  {snd:=fun x hx=>by simp at hx;subst hx;exact qcr (qgl 0) (by omega) (by omega) (by omega) (by omega)
   nm:=fun i x hx=>by
    have:=(List.getElem?_eq_some_iff.1 hx).1
    simp at this
    subst this
    simp at hx;subst hx;rfl
   ct:=fun n=>by rw[hct];split<;>omega
   op1:=fun n _=>by rw[hct];split<;>omega
   nd:=hd
   rg:=fun n hn=>by rcases ho n hn with h|h<;>omega
   nw:=fun n hn=>by rw[hct,if_neg (by omega)]
   ln:=by omega
   nx64:=by omega
   nx0:=by omega
   fst:=⟨_,rfl,rfl⟩}
 have hop:∃op,qs7 N [1] (y==0)=some op∧PlI [PlantElement.mk 1 (qcg 0) 0 1 0 500] op 2:=by
  unfold qs7
  by_cases hy:y=0
  ·rw[if_pos (by simpa using hy),qaH (by simp),qaa]
   exact ⟨_,rfl,h0 _ (by simp) (by simp) (by simp)⟩
  ·rw[if_neg (by simpa using hy)]
   exact ⟨_,rfl,h0 _ (by simp) (by simp) (by simp)⟩
 obtain ⟨op,g1,g2⟩:=hop
 rw[g1,qaa]
 obtain ⟨s2,l2,op2,nx2,p1,p2,p3,p4⟩:=qly N hb0 hb hk 100 N (b+1) s1 _ op 2 (by omega) (by simp;omega) (by simp) (by omega) (by simp;omega) h4 g2
 rw[p1,qaa]
 simp only[]
 have:=p4.ln
 have:=p4.nx64
 obtain ⟨s3,l3,q1,q2,q3,op3,nx3,q4⟩:=qgu N hb0 hb 64 N (b+20000) s2 l2 op2 nx2 (by omega) (by omega) (by omega) (by omega) p2 p4
 rw[q1,qaa]
 exact ⟨l3,s3,rfl,q2,q4.ok q3,q4.fst⟩
end Go.W
end
section
set_option linter.unusedSimpArgs false
set_option linter.unusedVariables false
set_option maxRecDepth 100000
namespace Go.W
open Go.AM
theorem qht {α β:Type} [DecidableEq α]:∀{m:List (α×β)} {k:α},(∃v,qaf m k=some v)↔k∈m.map Prod.fst
 |[],k=>by simp[qaf]
 |p::m,k=>by
  simp only[qaf,List.map_cons,List.mem_cons]
  by_cases h:p.1=k
  ·rw[if_pos h];simp[h]
  ·rw[if_neg h,qht]
   constructor
   ·exact .inr
   ·rintro (hh|hh)
    ·exact absurd hh.symm h
    ·exact hh
theorem qen {α:Type} [DecidableEq α]:∀{a b:List α},a.Nodup→(∀x∈a,x∈b)→a.length≤b.length
 |[],b,_,_=>by simp
 |x::a,b,hd,hs=>by
  have hd':=List.nodup_cons.1 hd
  have hx:=hs x List.mem_cons_self
  have:=qen (a:=a) (b:=b.erase x) hd'.2 fun y hy=>(List.mem_erase_of_ne (by rintro rfl;exact hd'.1 hy)).2 (hs y (List.mem_cons_of_mem _ hy))
  rw[List.length_erase_of_mem hx] at this
  have hpos:=List.length_pos_of_mem hx
  simp only[List.length_cons];omega
open Go.AM
open Go.AM
def trk (l:List PlantElement) (i:Int):Prop:=0≤i∧∃x,l[i.toNat]? =some x∧x.kind=1
instance (l:List PlantElement) (i:Int):Decidable (trk l i):=by
 unfold trk
 cases h:l[i.toNat]? with
 |none=>exact isFalse (by rintro ⟨_,x,hx,_⟩;cases hx)
 |some y=>exact if h2:0≤i∧y.kind=1 then isTrue ⟨h2.1,y,rfl,h2.2⟩ else isFalse (by rintro ⟨a,x,hx,b⟩;cases hx;exact h2 ⟨a,b⟩)
theorem qn6 (N:Nat) (l:List PlantElement) (i:Int):zbO N l i=some (decide (trk l i)):=by
 unfold zbO qtk
 by_cases h0:0≤i
 ·rw[if_pos (lpos h0)]
  by_cases h1:i<l.length
  ·rw[if_pos (dpos h1)]
   have hlt:i.toNat<l.length:=by omega
   have hg:getI l i=some l[i.toNat]:=by simp[getI,h0,hlt]
   rw[hg,qaa,qad,qaa]
   congr 1
   by_cases hk:l[i.toNat].kind=1
   ·rw[decide_eq_true (show trk l i from ⟨h0,_,qao hlt,hk⟩)];simpa using hk
   ·rw[decide_eq_false (show ¬trk l i from by rintro ⟨_,x,hx,hk'⟩;rw[qao hlt] at hx;cases hx;exact hk hk')];simpa using hk
  ·rw[if_neg (dneg h1),qaa,decide_eq_false (show ¬trk l i from by rintro ⟨_,x,hx,_⟩;have:=(List.getElem?_eq_some_iff.1 hx).1;omega)]
 ·rw[if_neg (lneg h0),qaa,decide_eq_false (show ¬trk l i from fun h=>h0 h.1)]
theorem qyu (N:Nat) (l:List PlantElement) (i:Int):zcE N l i=some (decide (trk l i)):=by
 have h:=qn6 N l i
 unfold zbO qtk at h
 unfold zcE qy9
 exact h
theorem qcQ (N:Nat) {l:List Int} (hN:l.length<N) (hl:l.length≤1000000) (x:Int):zaA N l x=some (l.contains x):=by
 unfold zaA zaC
 have h:=qat (l:=l) (fun _ y=>x==y) (fun i _=>(i:Int)) (fun m i=>qhQ N l x l.length m i) (fun m=>by
  show qhQ N l x l.length (m+1) _=_
  rw[qhQ,if_neg (dneg (by omega))]) (fun m i y hy=>by
  show qhQ N l x l.length (m+1) _=_
  have hlt:=(List.getElem?_eq_some_iff.1 hy).1
  rw[qhQ,if_pos (dpos (by omega)),qae hy,qaa,w64s (by omega)]) l.length N 0 hN (by omega)
 simp only[Int.natCast_zero,List.drop_zero] at h
 rw[h,qaa]
 have key:(∃u,res (fun _ y=>x==y) (fun i _=>(i:Int)) 0 l= .inl u)↔l.contains x=false:=by
  have:res (fun _ y=>x==y) (fun i (_:Int)=>(i:Int)) 0 l= .inl ()↔_:=qbT
  constructor
  ·rintro ⟨u,hu⟩
   have h2:=this.1 hu
   rw[Bool.eq_false_iff]
   intro hc
   have hm:x∈l:=by simpa using hc
   obtain ⟨j,hj⟩:=List.getElem?_of_mem hm
   have:=h2 j x hj
   simp at this
  ·intro hc
   refine ⟨(),this.2 fun j y hj=> ?_⟩
   have hm:x∉l:=by simpa using hc
   simp only[beq_eq_false_iff_ne,ne_eq]
   rintro rfl
   exact hm (List.mem_of_getElem? hj)
 rcases qeU (fun _ y=>x==y) l 0 with ⟨h1,h2⟩|⟨h1,h2⟩
 ·rw[h1]
  have:=key.1 ⟨(),h1⟩
  rw[this]
  rfl
 ·rw[h1]
  have:l.contains x=true:=by
   cases hc:l.contains x with
   |true=>rfl
   |false=>obtain ⟨u,hu⟩:=key.2 hc;rw[h1] at hu;cases hu
  rw[this]
  simp only[qaa,qad]
  rw[decide_eq_true h2]
theorem qn9 (N:Nat) {l:List Int} (hN:l.length<N) (hl:l.length≤1000000) (x:Int):zcR N l x=some (l.contains x):=by
 have h:=qnf (l:=l) (x:=x) (fun n i=>qh3 N l x n i) (fun n=>by
  show qh3 N l x (n+1) _=_
  rw[qh3,if_neg (dneg (by omega))]) (fun n i y hy=>by
  show qh3 N l x (n+1) _=_
  have hlt:=(List.getElem?_eq_some_iff.1 hy).1
  rw[qh3,if_pos (dpos (by omega)),qae hy,qaa,qad,w64s (by omega)]) hN
 unfold zcR
 rw[h,qaa]
 cases l.contains x<;>rfl
def elems (r:List Visit):List Int:=r.map Visit.element
theorem qe3 (N:Nat) {r:List Visit} (hN:r.length<N) (hl:r.length≤9223372036854775807) (x:Int):zbX N r x=some ((elems r).contains x):=by
 have h:=qat (l:=r) (fun _ y=>y.element==x) (fun _ _=>true) (fun n i=>qhX N r x n i) (fun n=>by
  show qhX N r x (n+1) _=_
  rw[qhX,if_neg (dneg (by omega))]) (fun n i y hy=>by
  show qhX N r x (n+1) _=_
  have hlt:=(List.getElem?_eq_some_iff.1 hy).1
  rw[qhX,if_pos (dpos (by omega)),qae hy,qaa,qad,w64s (by omega)]) r.length N 0 hN (by omega)
 simp only[Int.natCast_zero,List.drop_zero] at h
 unfold zbX
 rw[h,qaa,qiB (fun y:Visit=>y.element==x)]
 have e:(r.any fun y=>y.element==x)=(elems r).contains x:=by
  unfold elems
  rw[←qiX,List.any_map]
  rfl
 rw[e]
 cases (elems r).contains x<;>rfl
theorem qfO (N:Nat) {r:List Visit} (hl:r.length≤9223372036854775807):∀(k n i:Nat) (x3:List (Int×Bool)),k<n→i+k=r.length→(∀a,(qaf x3 a).getD false=(elems (r.take i)).contains a)→(elems (r.take i)).Nodup→
  (qgV N r r.length n x3 i=some (.inl ())∧(elems r).Nodup)∨(qgV N r r.length n x3 i=some (.inr true)∧¬(elems r).Nodup)
 |k,0,i,x3,hn,_,_,_=>by omega
 |0,n+1,i,x3,hn,hi,h1,h2=>by
  obtain rfl:i=r.length:=by omega
  rw[qgV,if_neg (dneg (by omega))]
  rw[List.take_length] at h2
  exact .inl ⟨rfl,h2⟩
 |k+1,n+1,i,x3,hn,hi,h1,h2=>by
  have hlt:i<r.length:=by omega
  have ha:=qao hlt
  rw[qgV,if_pos (dpos (by omega)),qae ha,qaa,qad,h1]
  have htk:elems (r.take (i+1))=elems (r.take i)++[r[i].element]:=by unfold elems;rw[qbd ha,List.map_append];rfl
  by_cases hc:(elems (r.take i)).contains r[i].element=true
  ·rw[if_pos hc]
   refine .inr ⟨rfl,fun hd=> ?_⟩
   have hs:(elems (r.take (i+1))).Nodup:=hd.sublist ((List.take_sublist (i+1) r).map _)
   rw[htk,List.nodup_append] at hs
   exact hs.2.2 _ (by simpa using hc) _ (by simp) rfl
  ·rw[if_neg hc,qad,w64s (by omega)]
   refine qfO N hl k n (i+1) _ (by omega) (by omega) (fun a=> ?_) ?_
   ·rw[qaE,htk]
    by_cases hh:r[i].element=a
    ·rw[if_pos hh];simp[hh]
    ·rw[if_neg hh,h1]
     have hh':¬a=r[i].element:=fun q=>hh q.symm
     simp[hh']
   ·rw[htk,List.nodup_append]
    refine ⟨h2,by simp,fun x hx y hy=> ?_⟩
    simp at hy
    subst hy
    rintro rfl
    exact hc (by simpa using hx)
theorem qsV (N:Nat) {r:List Visit} (hN:r.length<N) (hl:r.length≤9223372036854775807):∃b,zbP N r=some b∧(b=false↔(elems r).Nodup):=by
 unfold zbP
 have h:=qfO N hl r.length N 0 [] hN (by omega) (fun a=>by simp[qaf,elems]) (by simp[elems])
 rcases h with ⟨h1,h2⟩|⟨h1,h2⟩
 ·have h1:qgV N r r.length N [] 0=some (.inl ()):=h1
  rw[h1,qaa]
  exact ⟨false,rfl,by simp[h2]⟩
 ·have h1:qgV N r r.length N [] 0=some (.inr true):=h1
  rw[h1,qaa]
  exact ⟨true,rfl,by simp[h2]⟩
structure WayP (l:List PlantElement) (r:List Visit):Prop where
 two:2≤r.length
 st:∀v,r[0]? =some v→trk l v.element∧v.in_= -1∧v.out∈eI l v.element
 en:∀v,r[r.length - 1]? =some v→trk l v.element∧v.out= -1
 step:∀(i:Nat) v w,r[i]? =some v→r[i+1]? =some w→w.in_=v.out∧0≤w.element∧w.element=nbr l v.element v.out
 mid:∀(i:Nat) v,0<i→i+1<r.length→r[i]? =some v→v.out∈thr l v.element v.in_
theorem WayP.ins {l:List PlantElement} {r:List Visit} (h:WayP l r) {i:Nat} {v:Visit} (hi:0<i) (hv:r[i]? =some v):v.in_∈eI l v.element:=by
 obtain ⟨j,rfl⟩:∃j,i=j+1:=⟨i - 1,by omega⟩
 have hlt:=(List.getElem?_eq_some_iff.1 hv).1
 have hj:=qao (xs:=r) (i:=j) (by omega)
 obtain ⟨a,b,c⟩:=h.step j _ v hj hv
 rw[c,a]
 exact (qeO (by rw[←c];exact b)).1
theorem WayP.outs {l:List PlantElement} {r:List Visit} (h:WayP l r) {i:Nat} {v:Visit} (hi:i+1<r.length) (hv:r[i]? =some v):v.out∈eI l v.element:=by
 cases i with
 |zero=>exact (h.st v hv).2.2
 |succ i=>exact (qiL (h.mid (i+1) v (by omega) hi hv)).2
theorem qa4 {a:Bool} {x:Option Bool} {p q:Prop} (ha:a=false↔p) (hx:∃b,x=some b∧(b=false↔q)):∃b,(if a=true then some true else x)=some b∧(b=false↔p∧q):=by
 cases a with
 |true=>exact ⟨true,rfl,by simp at ha;simp[ha]⟩
 |false=>
  obtain ⟨b,h1,h2⟩:=hx
  refine ⟨b,by simpa using h1, ?_⟩
  rw[h2]
  simp at ha
  simp[ha]
theorem qjm {p:Prop} [Decidable p]:(!decide p)=false↔p:=by simp
theorem qnF {l:List Int} {x:Int}:(!l.contains x)=false↔x∈l:=by simp
theorem qg5 {a b:Int}:(a !=b)=false↔a=b:=by simp
theorem qCp {a b:Int}:decide (a<b)=false↔b≤a:=by simp
theorem qyn (N:Nat) {l:List PlantElement} {r:List Visit} (hN:r.length+l.length+10≤N) (hl:l.length≤1000000) (hr:r.length≤9223372036854775807):∃b,zcG N l r=some b∧(b=true↔WayP l r):=by
 unfold zcG
 rw[qad]
 by_cases h2:r.length<2
 ·have h:qmx N l r (IntKind.wrap .i64 ((r.length:Int) - 1))=some true:=by
   unfold qmx
   rw[if_pos (dpos (by rw[w64 (by omega) (by omega)];omega))]
  rw[h,qaa,if_pos rfl]
  exact ⟨false,rfl,by simp;intro hw;have:=hw.two;omega⟩
 have hw:IntKind.wrap .i64 ((r.length:Int) - 1)=((r.length - 1:Nat):Int):=by rw[w64 (by omega) (by omega)];omega
 rw[hw]
 have h0:=qao (xs:=r) (i:=0) (by omega)
 have hz:=qao (xs:=r) (i:=r.length - 1) (by omega)
 generalize hv0:r[0]'(by omega)=v at h0
 generalize hvz:r[r.length - 1]'(by omega)=w at hz
 have g0:getI r 0=some v:=qae h0
 have gz:getI r ((r.length - 1:Nat):Int)=some w:=qae hz
 have e1:=qdY l v.element
 have e2:=qdY l w.element
 have c0:∃b,qmx N l r ((r.length - 1:Nat):Int)=some b∧(b=false↔trk l v.element∧trk l w.element∧v.in_= -1∧w.out= -1):=by
  unfold qmx
  rw[if_neg (dneg (by omega))]
  simp only[g0,gz,qaa,qn6]
  exact qa4 qjm (qa4 qjm (qa4 qg5 ⟨_,rfl,qg5⟩))
 have c1:∃b,qts N l r ((r.length - 1:Nat):Int)=some b∧(b=false↔v.out∈eI l v.element∧w.in_∈eI l w.element):=by
  unfold qts
  simp only[g0,gz,qaa,qlv]
  rw[qcQ N (by omega) (by omega),qcQ N (by omega) (by omega)]
  simp only[qaa]
  exact qa4 qnF ⟨_,rfl,qnF⟩
 obtain ⟨b0,p0,q0⟩:=c0
 obtain ⟨b1,p1,q1⟩:=c1
 rw[p0,qaa]
 have st':∀{x},r[0]? =some x→x=v:=fun hx=>by rw[h0] at hx;cases hx;rfl
 have en':∀{x},r[r.length - 1]? =some x→x=w:=fun hx=>by rw[hz] at hx;cases hx;rfl
 cases b0 with
 |true=>
  rw[if_pos rfl]
  refine ⟨false,rfl, ?_⟩
  simp only[Bool.false_eq_true,false_iff]
  intro hw
  have a:=hw.st v h0
  have b:=hw.en w hz
  have:=q0.2 ⟨a.1,b.1,a.2.1,b.2⟩
  cases this
 |false=>
  rw[if_neg (by simp),p1,qaa]
  have q0:=q0.1 rfl
  cases b1 with
  |true=>
   rw[if_pos rfl]
   refine ⟨false,rfl, ?_⟩
   simp only[Bool.false_eq_true,false_iff]
   intro hw
   have:=q1.2 ⟨(hw.st v h0).2.2,hw.ins (by omega) hz⟩
   cases this
  |false=>
   rw[if_neg (by simp)]
   have q1:=q1.1 rfl
   have hcut:cutI r 1 (r.length:Int)=some (r.drop 1):=qb8 (i:=1) (by omega)
   rw[hcut,qaa]
   have hlen:(r.drop 1).length=r.length - 1:=List.length_drop
   let bad:Nat→Visit→Prop:=fun i y=>¬((y.in_=(r.getD i (Visit.mk 0 0 0)).out∧0≤y.element∧nbr l (r.getD i (Visit.mk 0 0 0)).element (r.getD i (Visit.mk 0 0 0)).out=y.element)∧(i+2<r.length→y.out∈thr l y.element y.in_))
   have hloop:=qat (l:=r.drop 1) (fun i y=> @decide (bad i y) (Classical.propDecidable _)) (fun _ _=>false) (fun m i=>qh0 N l r ((r.length - 1:Nat):Int) (r.drop 1) (r.drop 1).length m i) (fun m=>by
    show qh0 N l r _ (r.drop 1) (r.drop 1).length (m+1) _=_
    rw[qh0,if_neg (dneg (by omega))]) (fun m i y hy=>by
    show qh0 N l r _ (r.drop 1) (r.drop 1).length (m+1) _=_
    have hlt:=(List.getElem?_eq_some_iff.1 hy).1
    have hi:=qao (xs:=r) (i:=i) (by omega)
    rw[qh0,if_pos (dpos (by omega)),qae hy,qaa,qae hi,qaa]
    have hgd:r.getD i (Visit.mk 0 0 0)=r[i]'(by omega):=by simp[List.getD,hi]
    have d3:∃b,qtt N l y (r[i]'(by omega))=some b∧(b=false↔y.in_=(r.getD i (Visit.mk 0 0 0)).out∧0≤y.element∧nbr l (r.getD i (Visit.mk 0 0 0)).element (r.getD i (Visit.mk 0 0 0)).out=y.element):=by
     unfold qtt
     rw[hgd,qiy N (by omega) (by omega),qaa]
     exact qa4 qg5 (qa4 qCp ⟨_,rfl,qg5⟩)
    have d4:∃b,qtu N l ((r.length - 1:Nat):Int) i y=some b∧(b=false↔(i+2<r.length→y.out∈thr l y.element y.in_)):=by
     unfold qtu
     rw[w64s (by omega)]
     by_cases hh:i+2<r.length
     ·rw[if_pos (dpos (by omega)),qn5 N (by omega),qaa,qcQ N (by have:=qe1 l y.element y.in_;omega) (by have:=qe1 l y.element y.in_;omega),qaa]
      exact ⟨_,rfl,by rw[qnF];simp[hh]⟩
     ·rw[if_neg (dneg (by omega))]
      exact ⟨false,rfl,by simp[hh]⟩
    obtain ⟨b3,r3,s3⟩:=d3
    obtain ⟨b4,r4,s4⟩:=d4
    rw[r3,qaa]
    cases b3 with
    |true=>
     have hb:bad i y:=fun hh=>by have:=s3.2 hh.1;cases this
     rw[if_pos rfl, @decide_eq_true _ (Classical.propDecidable _) hb,if_pos rfl]
    |false=>
     rw[if_neg (by simp),r4,qaa]
     cases b4 with
     |true=>
      have hb:bad i y:=fun hh=>by have:=s4.2 hh.2;cases this
      rw[if_pos rfl, @decide_eq_true _ (Classical.propDecidable _) hb,if_pos rfl]
     |false=>
      have hb:¬bad i y:=fun hh=>hh ⟨s3.1 rfl,s4.1 rfl⟩
      rw[if_neg (by simp), @decide_eq_false _ (Classical.propDecidable _) hb,if_neg (by simp),w64s (by omega)]) (r.drop 1).length N 0 (by omega) (by omega)
   simp only[Int.natCast_zero,List.drop_zero] at hloop
   rw[hloop,qaa]
   have hiff:WayP l r↔∀(j:Nat) (y:Visit),(r.drop 1)[j]? =some y→¬bad j y:=by
    constructor
    ·intro hw j y hj hb
     rw[List.getElem?_drop,Nat.add_comm] at hj
     have hlt:=(List.getElem?_eq_some_iff.1 hj).1
     have hi:=qao (xs:=r) (i:=j) (by omega)
     have hgd:r.getD j (Visit.mk 0 0 0)=r[j]'(by omega):=by simp[List.getD,hi]
     obtain ⟨a,b,c⟩:=hw.step j _ y hi hj
     refine hb ⟨by rw[hgd];exact ⟨a,b,c.symm⟩,fun hh=>hw.mid (j+1) y (by omega) (by omega) hj⟩
    ·intro hh
     refine ⟨by omega,fun x hx=> ?_,fun x hx=> ?_,fun i x y hx hy=> ?_,fun i x hi hi2 hx=> ?_⟩
     ·rw[st' hx];exact ⟨q0.1,q0.2.2.1,q1.1⟩
     ·rw[en' hx];exact ⟨q0.2.1,q0.2.2.2⟩
     ·have:=Classical.not_not.1 (hh i y (by rw[List.getElem?_drop,Nat.add_comm];exact hy))
      have hgd:r.getD i (Visit.mk 0 0 0)=x:=by simp[List.getD,hx]
      rw[hgd] at this
      exact ⟨this.1.1,this.1.2.1,this.1.2.2.symm⟩
     ·obtain ⟨j,rfl⟩:∃j,i=j+1:=⟨i - 1,by omega⟩
      have:=Classical.not_not.1 (hh j x (by rw[List.getElem?_drop,Nat.add_comm];exact hx))
      exact this.2 (by omega)
   have hres:=qbT (p:=fun i y=> @decide (bad i y) (Classical.propDecidable _)) (out:=fun _ _=>false) (l:=r.drop 1) (i:=0)
   cases hr2:res (fun i y=> @decide (bad i y) (Classical.propDecidable _)) (fun _ _=>false) 0 (r.drop 1) with
   |inl u=>
    refine ⟨true,rfl, ?_⟩
    simp only[true_iff]
    refine hiff.2 fun j y hj=> ?_
    have:=(hres.1 hr2) j y hj
    rw[Nat.zero_add] at this
    exact @of_decide_eq_false _ (Classical.propDecidable _) this
   |inr b=>
    have hbf:b=false:=by
     have key:∀(e:List Visit) (i:Nat) (b:Bool),res (fun i y=> @decide (bad i y) (Classical.propDecidable _)) (fun _ _=>false) i e= .inr b→b=false:=by
      intro e
      induction e with
      |nil=>intro i b h;cases h
      |cons y e ih=>
       intro i b h
       rw[res] at h
       split at h
       ·cases h;rfl
       ·exact ih _ _ h
     exact key _ _ _ hr2
    subst hbf
    refine ⟨false,rfl, ?_⟩
    simp only[Bool.false_eq_true,false_iff]
    intro hw
    have:=hres.2 fun j y hj=>by
     rw[Nat.zero_add]
     exact @decide_eq_false _ (Classical.propDecidable _) (hiff.1 hw j y hj)
    rw[this] at hr2;cases hr2
open Go.AM
def RtP (l:List PlantElement) (r:List Visit):Prop:=vErr l=0∧WayP l r∧(elems r).Nodup
theorem qgt (N:Nat) {l:List PlantElement} {r:List Visit} (hN:r.length+l.length+200≤N) (hl:l.length≤1000000) (hr:r.length≤9223372036854775807):∃b,zbN N l r=some b∧(b=true↔RtP l r):=by
 unfold zbN qyZ RtP
 rw[qhC N (by omega),qaa]
 by_cases h0:vErr l=0
 ·rw[if_pos (by simpa using h0)]
  obtain ⟨b,h1,h2⟩:=qyn N (l:=l) (r:=r) (by omega) hl hr
  obtain ⟨c,h3,h4⟩:=qsV N (r:=r) (by omega) hr
  rw[h1,qaa]
  cases b with
  |true=>
   rw[if_pos rfl,h3]
   simp only[qaa,qad]
   refine ⟨!c,rfl, ?_⟩
   simp only[Bool.not_eq_true',h4]
   exact ⟨fun h=>⟨h0,h2.1 rfl,h⟩,fun h=>h.2.2⟩
  |false=>
   rw[if_neg (by simp),qaa]
   refine ⟨false,rfl, ?_⟩
   simp only[Bool.false_eq_true,false_iff]
   intro h
   have:=h2.2 h.2.1
   cases this
 ·rw[if_neg (by simpa using h0),qaa]
  exact ⟨false,rfl,by simp[h0]⟩
theorem qoa (N:Nat) {l:List PlantElement} {r:List Visit} (hN:r.length+l.length+200≤N) (hl:l.length≤1000000) (hr:r.length≤9223372036854775807) (hnm:l.length≤96→∀x∈l,x.name.length<N∧x.name.length≤9223372036854775807):∃b,zcD N l r=some b∧(b=true↔RtP l r):=by
 unfold zcD
 rw[qad]
 by_cases h0:vErr l=0
 case neg=>
  have h:qhY N l r (IntKind.wrap .i64 ((r.length:Int) - 1))=some true:=by
   unfold qhY
   rw[qdr N (by omega) hnm,qaa,if_pos (by simpa using h0)]
  rw[h,qaa,if_pos rfl]
  exact ⟨false,rfl,by simp[RtP,h0]⟩
 by_cases h2:r.length<2
 ·have h:qhY N l r (IntKind.wrap .i64 ((r.length:Int) - 1))=some true:=by
   unfold qhY
   rw[qdr N (by omega) hnm,qaa,if_neg (by simpa using h0),if_pos (dpos (by rw[w64 (by omega) (by omega)];omega))]
  rw[h,qaa,if_pos rfl]
  refine ⟨false,rfl, ?_⟩
  simp only[Bool.false_eq_true,false_iff]
  intro hw
  have:=hw.2.1.two
  omega
 have hw:IntKind.wrap .i64 ((r.length:Int) - 1)=((r.length - 1:Nat):Int):=by rw[w64 (by omega) (by omega)];omega
 rw[hw]
 have h0':=qao (xs:=r) (i:=0) (by omega)
 have hz:=qao (xs:=r) (i:=r.length - 1) (by omega)
 generalize hv0:r[0]'(by omega)=v at h0'
 generalize hvz:r[r.length - 1]'(by omega)=w at hz
 have g0:getI r 0=some v:=qae h0'
 have gz:getI r ((r.length - 1:Nat):Int)=some w:=qae hz
 have st':∀{x},r[0]? =some x→x=v:=fun hx=>by rw[h0'] at hx;cases hx;rfl
 have en':∀{x},r[r.length - 1]? =some x→x=w:=fun hx=>by rw[hz] at hx;cases hx;rfl
 have c0:∃b,qhY N l r ((r.length - 1:Nat):Int)=some b∧(b=false↔trk l v.element∧trk l w.element∧v.in_= -1∧w.out= -1):=by
  unfold qhY
  rw[qdr N (by omega) hnm,qaa,if_neg (by simpa using h0),if_neg (dneg (by omega))]
  simp only[g0,gz,qaa,qyu]
  exact qa4 qjm (qa4 qjm (qa4 qg5 ⟨_,rfl,qg5⟩))
 obtain ⟨b0,p0,q0⟩:=c0
 rw[p0,qaa]
 cases b0 with
 |true=>
  rw[if_pos rfl]
  refine ⟨false,rfl, ?_⟩
  simp only[Bool.false_eq_true,false_iff]
  intro hh
  have a:=hh.2.1.st v h0'
  have b:=hh.2.1.en w hz
  have:=q0.2 ⟨a.1,b.1,a.2.1,b.2⟩
  cases this
 |false=>
  rw[if_neg (by simp)]
  have q0:=q0.1 rfl
  let nx:Nat→Visit:=fun i=>r.getD (i+1) (Visit.mk 0 0 0)
  let good:Nat→Visit→Prop:=fun i y=>(0≤y.element∧y.element<l.length∧y.element∉elems (r.take i))∧(i+1<r.length→y.out∈eI l y.element∧(nx i).in_=y.out∧(nx i).element=nbr l y.element y.out)∧(0<i→i+1<r.length→y.out∈thr l y.element y.in_)
  have hloop:=qat (l:=r) (fun i y=> @decide (¬good i y) (Classical.propDecidable _)) (fun _ _=>false) (fun m i=>qhZ N l r ((r.length - 1:Nat):Int) m i) (fun m=>by
   show qhZ N l r _ (m+1) _=_
   rw[qhZ,if_neg (lneg (by omega))]) (fun m i y hy=>by
   show qhZ N l r _ (m+1) _=_
   have hlt:=(List.getElem?_eq_some_iff.1 hy).1
   rw[qhZ,if_pos (lpos (by omega))]
   have hte:=qe1 l y.element y.in_
   have hee:=qdY l y.element
   have d2:∃b,qtp N l r i=some b∧(b=false↔0≤y.element∧y.element<l.length∧y.element∉elems (r.take i)):=by
    unfold qtp
    simp only[qae hy,qaa]
    rw[qb9 (by omega),qaa,qe3 N (by rw[List.length_take];omega) (by rw[List.length_take];omega),qaa]
    refine qa4 qCp (qa4 (p:=y.element<l.length) (by simp) ⟨_,rfl,by simp⟩)
   have d3:∃b,qtq N l r ((r.length - 1:Nat):Int) i=some b∧(b=false↔(i+1<r.length→y.out∈eI l y.element∧(nx i).in_=y.out∧(nx i).element=nbr l y.element y.out)):=by
    unfold qtq
    by_cases hh:i+1<r.length
    ·have hx:=qao hh
     have hgd:nx i=r[i+1]:=by show r.getD (i+1) (Visit.mk 0 0 0)=_;simp[List.getD,hx]
     rw[if_pos (dpos (by omega)),w64s (by omega)]
     simp only[qae hy,qae hx,qaa,qcB]
     rw[qn9 N (by omega) (by omega),qeW N (by omega) (by omega)]
     simp only[qaa]
     obtain ⟨b,k1,k2⟩:=qa4 (a:= !(eI l y.element).contains y.out) qnF (qa4 (a:=r[i+1].in_ !=y.out) qg5 (x:=some (r[i+1].element !=nbr l y.element y.out)) ⟨_,rfl,qg5⟩)
     exact ⟨b,k1,by rw[k2,hgd];simp[hh]⟩
    ·rw[if_neg (dneg (by omega))]
     exact ⟨false,rfl,by simp[hh]⟩
   have d4:∃b,qtr N l r ((r.length - 1:Nat):Int) i=some b∧(b=false↔(0<i→i+1<r.length→y.out∈thr l y.element y.in_)):=by
    unfold qtr
    by_cases hi:0<i
    ·rw[if_pos (dpos (by omega))]
     by_cases hh:i+1<r.length
     ·rw[if_pos (dpos (by omega))]
      simp only[qae hy,qaa]
      rw[qop N (by omega),qaa,qn9 N (by omega) (by omega),qaa]
      exact ⟨_,rfl,by rw[qnF];simp[hi,hh]⟩
     ·rw[if_neg (dneg (by omega))]
      exact ⟨false,rfl,by simp[hh]⟩
    ·rw[if_neg (dneg (by omega))]
     exact ⟨false,rfl,by simp[hi]⟩
   obtain ⟨b2,r2,s2⟩:=d2
   obtain ⟨b3,r3,s3⟩:=d3
   obtain ⟨b4,r4,s4⟩:=d4
   rw[r2,qaa]
   cases b2 with
   |true=>
    have hb:¬good i y:=fun hh=>by have:=s2.2 hh.1;cases this
    rw[if_pos rfl, @decide_eq_true _ (Classical.propDecidable _) hb,if_pos rfl]
   |false=>
    rw[if_neg (by simp),r3,qaa]
    cases b3 with
    |true=>
     have hb:¬good i y:=fun hh=>by have:=s3.2 hh.2.1;cases this
     rw[if_pos rfl, @decide_eq_true _ (Classical.propDecidable _) hb,if_pos rfl]
    |false=>
     rw[if_neg (by simp),r4,qaa]
     cases b4 with
     |true=>
      have hb:¬good i y:=fun hh=>by have:=s4.2 hh.2.2;cases this
      rw[if_pos rfl, @decide_eq_true _ (Classical.propDecidable _) hb,if_pos rfl]
     |false=>
      have hb:¬¬good i y:=fun hh=>hh ⟨s2.1 rfl,s3.1 rfl,s4.1 rfl⟩
      rw[if_neg (by simp), @decide_eq_false _ (Classical.propDecidable _) hb,if_neg (by simp),qad,w64s (by omega)]) r.length N 0 (by omega) (by omega)
  simp only[Int.natCast_zero,List.drop_zero] at hloop
  rw[hloop,qaa]
  have hiff:RtP l r↔∀(j:Nat) (y:Visit),r[j]? =some y→good j y:=by
   constructor
   ·rintro ⟨_,hw,hd⟩ j y hj
    have hlt:=(List.getElem?_eq_some_iff.1 hj).1
    refine ⟨?_,fun hh=> ?_,fun h1 h2=>hw.mid j y h1 h2 hj⟩
    ·have hin:0≤y.element∧y.element<l.length:=by
      cases j with
      |zero=>
       obtain ⟨a,x,hx,_⟩:=(hw.st y hj).1
       have:=(List.getElem?_eq_some_iff.1 hx).1
       omega
      |succ j=>
       have:=qb1 (hw.ins (by omega) hj)
       exact ⟨this.1,this.2.1⟩
     refine ⟨hin.1,hin.2,fun hm=> ?_⟩
     unfold elems at hm hd
     obtain ⟨z,hz,hze⟩:=List.mem_map.1 hm
     obtain ⟨i,hi⟩:=List.getElem?_of_mem hz
     rw[List.getElem?_take] at hi
     split at hi
     ·rename_i hij
      obtain ⟨hil,hi⟩:=List.getElem?_eq_some_iff.1 hi
      obtain ⟨_,hj⟩:=List.getElem?_eq_some_iff.1 hj
      have:=List.pairwise_iff_getElem.1 hd i j (by simpa using hil) (by simpa using hlt) hij
      rw[List.getElem_map,List.getElem_map,hi,hj] at this
      exact this hze
     ·cases hi
    ·have hx:=qao hh
     have hgd:nx j=r[j+1]:=by show r.getD (j+1) (Visit.mk 0 0 0)=_;simp[List.getD,hx]
     rw[hgd]
     obtain ⟨a,b,c⟩:=hw.step j y _ hj hx
     exact ⟨hw.outs hh hj,a,c⟩
   ·intro hh
    refine ⟨h0,⟨by omega,fun x hx=> ?_,fun x hx=> ?_,fun i x y hx hy=> ?_,fun i x hi hi2 hx=>(hh i x hx).2.2 hi hi2⟩, ?_⟩
    ·have e:=st' hx
     have:=(hh 0 x hx).2.1 (by omega)
     rw[e] at this⊢
     exact ⟨q0.1,q0.2.2.1,this.1⟩
    ·rw[en' hx];exact ⟨q0.2.1,q0.2.2.2⟩
    ·have hlt:=(List.getElem?_eq_some_iff.1 hy).1
     have:=(hh i x hx).2.1 hlt
     have hgd:nx i=y:=by show r.getD (i+1) (Visit.mk 0 0 0)=_;simp[List.getD,hy]
     rw[hgd] at this
     exact ⟨this.2.1,(hh (i+1) y hy).1.1,this.2.2⟩
    ·unfold elems
     refine List.pairwise_iff_getElem.2 fun i j hi hj hij=> ?_
     rw[List.getElem_map,List.getElem_map]
     intro he
     have hjr:j<r.length:=by simpa using hj
     have hir:i<r.length:=by simpa using hi
     refine (hh j r[j] (qao hjr)).1.2.2 ?_
     rw[←he]
     unfold elems
     refine List.mem_map.2 ⟨r[i],List.mem_of_getElem? (i:=i) ?_,rfl⟩
     rw[List.getElem?_take,if_pos hij,qao hir]
  have hres:=qbT (p:=fun i y=> @decide (¬good i y) (Classical.propDecidable _)) (out:=fun _ _=>false) (l:=r) (i:=0)
  cases hr2:res (fun i y=> @decide (¬good i y) (Classical.propDecidable _)) (fun _ _=>false) 0 r with
  |inl u=>
   refine ⟨true,rfl, ?_⟩
   simp only[true_iff]
   refine hiff.2 fun j y hj=> ?_
   have:=(hres.1 hr2) j y hj
   rw[Nat.zero_add] at this
   exact Classical.not_not.1 (@of_decide_eq_false _ (Classical.propDecidable _) this)
  |inr b=>
   have hbf:b=false:=by
    have key:∀(e:List Visit) (i:Nat) (b:Bool),res (fun i y=> @decide (¬good i y) (Classical.propDecidable _)) (fun _ _=>false) i e= .inr b→b=false:=by
     intro e
     induction e with
     |nil=>intro i b h;cases h
     |cons y e ih=>
      intro i b h
      rw[res] at h
      split at h
      ·cases h;rfl
      ·exact ih _ _ h
    exact key _ _ _ hr2
   subst hbf
   refine ⟨false,rfl, ?_⟩
   simp only[Bool.false_eq_true,false_iff]
   intro hw
   have:=hres.2 fun j y hj=>by
    rw[Nat.zero_add]
    exact @decide_eq_false _ (Classical.propDecidable _) (fun hh=>hh (hiff.1 hw j y hj))
   rw[this] at hr2;cases hr2
open Go.AM
def qrf (v1 e1 n1 v2 e2 n2:Int):Prop:=v1<v2∨(v1=v2∧(e1<e2∨(e1=e2∧n1<n2)))
instance (v1 e1 n1 v2 e2 n2:Int):Decidable (qrf v1 e1 n1 v2 e2 n2):=by unfold qrf;infer_instance
def qC7 (l:List PlantElement) (e n:Int):List Int:=if n<0 then eI l e else thr l e n
def Bst (l:List PlantElement) (g:Int→Int→Option Int) (e:Int) (o:List Int) (out:Int):Prop:=out∈o∧∃v,g (nbr l e out) out=some v∧∀m∈o,∀w,g (nbr l e m) m=some w→¬qrf w (nbr l e m) m v (nbr l e out) out
theorem Bst.uniq {l:List PlantElement} {g:Int→Int→Option Int} {e:Int} {o:List Int} {a b:Int} (h:Bst l g e o a) (k:Bst l g e o b):a=b:=by
 obtain ⟨h1,v,h2,h3⟩:=h
 obtain ⟨k1,w,k2,k3⟩:=k
 have p:=h3 b k1 w k2
 have q:=k3 a h1 v h2
 unfold qrf at p q
 omega
structure Pth (l:List PlantElement) (g:Int→Int→Option Int) (fr:Int) (r:List Visit):Prop where
 best:∀(i:Nat) v,i+1<r.length→r[i]? =some v→Bst l g v.element (qC7 l v.element v.in_) v.out
 nz:∀(i:Nat) v,0<i→i+1<r.length→r[i]? =some v→g v.element v.in_≠some 0
 ne:1≤r.length
 st:∀v,r[0]? =some v→v.element=fr∧v.in_= -1
 step:∀(i:Nat) v w,r[i]? =some v→r[i+1]? =some w→w.in_=v.out∧0≤w.element∧w.element=nbr l v.element v.out∧v.out∈eI l v.element
 mid:∀(i:Nat) v,0<i→i+1<r.length→r[i]? =some v→v.out∈thr l v.element v.in_
theorem Pth.add {l:List PlantElement} {g:Int→Int→Option Int} {fr:Int} {r:List Visit} {v:Visit} {out:Int} (h:Pth l g fr r) (hv:r[r.length - 1]? =some v) (h0:0≤nbr l v.element out) (ho:out∈eI l v.element) (ht:1<r.length→out∈thr l v.element v.in_) (hb:Bst l g v.element (qC7 l v.element v.in_) out) (hz:1<r.length→g v.element v.in_≠some 0):
  Pth l g fr (r.set (r.length - 1) (Visit.mk v.element v.in_ out)++[Visit.mk (nbr l v.element out) out (-1)]):=by
 have hne:=h.ne
 have hlen:(r.set (r.length - 1) (Visit.mk v.element v.in_ out)).length=r.length:=List.length_set
 have get:∀(i:Nat) x,(r.set (r.length - 1) (Visit.mk v.element v.in_ out)++[Visit.mk (nbr l v.element out) out (-1)])[i]? =some x→(i+1<r.length∧r[i]? =some x)∨(i+1=r.length∧x=Visit.mk v.element v.in_ out)∨(i=r.length∧x=Visit.mk (nbr l v.element out) out (-1)):=by
  intro i x hx
  by_cases hi:i<r.length
  ·rw[List.getElem?_append_left (by omega),List.getElem?_set] at hx
   by_cases he:r.length - 1=i
   ·rw[if_pos he,if_pos (by omega)] at hx
    exact .inr (.inl ⟨by omega,by cases hx;rfl⟩)
   ·rw[if_neg he] at hx
    exact .inl ⟨by omega,hx⟩
  ·rw[List.getElem?_append_right (by omega)] at hx
   have:=(List.getElem?_eq_some_iff.1 hx).1
   simp at this
   have hi2:i=r.length:=by omega
   subst hi2
   rw[hlen] at hx
   simp at hx
   exact .inr (.inr ⟨rfl,hx.symm⟩)
 refine ⟨fun i x hi2 hx=> ?_,fun i x hi hi2 hx=> ?_,by simp,fun x hx=> ?_,fun i x y hx hy=> ?_,fun i x hi hi2 hx=> ?_⟩
 ·simp only[List.length_append,List.length_set,List.length_cons,List.length_nil] at hi2
  rcases get i x hx with ⟨a,b⟩|⟨a,rfl⟩|⟨a,_⟩
  ·exact h.best i x a b
  ·exact hb
  ·omega
 ·simp only[List.length_append,List.length_set,List.length_cons,List.length_nil] at hi2
  rcases get i x hx with ⟨a,b⟩|⟨a,rfl⟩|⟨a,_⟩
  ·exact h.nz i x hi a b
  ·exact hz (by omega)
  ·omega
 ·rcases get 0 x hx with ⟨_,a⟩|⟨a,rfl⟩|⟨a,_⟩
  ·exact h.st x a
  ·have:r.length - 1=0:=by omega
   rw[this] at hv
   have:=h.st v hv
   exact this
  ·omega
 ·rcases get i x hx with ⟨a,b⟩|⟨a,rfl⟩|⟨a,_⟩
  ·rcases get (i+1) y hy with ⟨c,dd⟩|⟨c,rfl⟩|⟨c,_⟩
   ·exact h.step i x y b dd
   ·have hv':r[i+1]? =some v:=by rw[←hv];congr 1;omega
    exact h.step i x v b hv'
   ·omega
  ·rcases get (i+1) y hy with ⟨c,_⟩|⟨c,_⟩|⟨c,rfl⟩
   ·omega
   ·omega
   ·exact ⟨rfl,h0,rfl,ho⟩
  ·rcases get (i+1) y hy with ⟨c,_⟩|⟨c,_⟩|⟨c,_⟩<;>omega
 ·simp only[List.length_append,List.length_set,List.length_cons,List.length_nil] at hi2
  rcases get i x hx with ⟨a,b⟩|⟨a,rfl⟩|⟨a,_⟩
  ·exact h.mid i x hi (by omega) b
  ·exact ht (by omega)
  ·omega
theorem Pth.same {l:List PlantElement} {g:Int→Int→Option Int} {fr:Int} {r1 r2:List Visit} (h1:Pth l g fr r1) (h2:Pth l g fr r2) (two:2≤r2.length) (hz:∀z,r2[r2.length - 1]? =some z→g z.element z.in_=some 0):
  ∀i,i<r1.length→i<r2.length∧∀v1 v2,r1[i]? =some v1→r2[i]? =some v2→v1.element=v2.element∧v1.in_=v2.in_∧(i+1<r1.length→i+1<r2.length∧v1.out=v2.out):=by
 have nxt:∀(i:Nat) v1 v2,r1[i]? =some v1→r2[i]? =some v2→v1.element=v2.element→v1.in_=v2.in_→i+1<r1.length→i+1<r2.length∧v1.out=v2.out:=by
  intro i v1 v2 a b e1 e2 hi
  have hi2:=(List.getElem?_eq_some_iff.1 b).1
  have hlt:i+1<r2.length:=by
   by_cases hh:i+1=r2.length
   ·have e:i=r2.length - 1:=by omega
    have b':=b
    rw[e] at b'
    have:=hz v2 b'
    have hne:=h1.nz i v1 (by omega) hi a
    rw[e1,e2] at hne
    exact absurd this hne
   ·omega
  refine ⟨hlt, ?_⟩
  have p:=h1.best i v1 hi a
  have q:=h2.best i v2 hlt b
  rw[e1,e2] at p
  exact p.uniq q
 intro i
 induction i with
 |zero=>
  intro hi
  refine ⟨by omega,fun v1 v2 a b=> ?_⟩
  obtain ⟨p1,p2⟩:=h1.st v1 a
  obtain ⟨q1,q2⟩:=h2.st v2 b
  have e1:v1.element=v2.element:=by rw[p1,q1]
  have e2:v1.in_=v2.in_:=by rw[p2,q2]
  exact ⟨e1,e2,fun hh=>nxt 0 v1 v2 a b e1 e2 hh⟩
 |succ i ih=>
  intro hi
  obtain ⟨g1,g2⟩:=ih (by omega)
  have a:=qao (xs:=r1) (i:=i) (by omega)
  have b:=qao (xs:=r2) (i:=i) g1
  obtain ⟨e1,e2,e3⟩:=g2 _ _ a b
  obtain ⟨e4,e5⟩:=e3 hi
  refine ⟨e4,fun v1 v2 c dd=> ?_⟩
  obtain ⟨p1,p2,p3,p4⟩:=h1.step i _ v1 a c
  obtain ⟨q1,q2,q3,q4⟩:=h2.step i _ v2 b dd
  have f1:v1.element=v2.element:=by rw[p3,q3,e1,e5]
  have f2:v1.in_=v2.in_:=by rw[p1,q1,e5]
  exact ⟨f1,f2,fun hh=>nxt (i+1) v1 v2 c dd f1 f2 hh⟩
theorem Pth.once {l:List PlantElement} {g:Int→Int→Option Int} {fr:Int} {r1 r2:List Visit} (h1:Pth l g fr r1) (h2:Pth l g fr r2) (two:2≤r2.length) (hz:∀z,r2[r2.length - 1]? =some z→g z.element z.in_=some 0) (hd:(elems r2).Nodup):(elems r1).Nodup:=by
 have s1:=h1.same h2 two hz
 have:elems r1=(elems r2).take r1.length:=by
  refine List.ext_getElem? fun i=> ?_
  unfold elems
  rw[List.getElem?_take]
  by_cases hi:i<r1.length
  ·have a:=qao (xs:=r1) (i:=i) hi
   have b:=qao (xs:=r2) (i:=i) (s1 i hi).1
   rw[if_pos hi,List.getElem?_map,List.getElem?_map,a,b]
   simp only[Option.map_some]
   rw[((s1 i hi).2 _ _ a b).1]
  ·rw[if_neg hi,List.getElem?_map,List.getElem?_eq_none (by omega)]
   rfl
 rw[this]
 exact hd.sublist (List.take_sublist _ _)
open Go.AM
def trks (l:List PlantElement):Nat→List PlantElement→List Int
 |_,[]=>[]
 |i,x::xs=>if x.kind=1 then (i:Int)::trks l (i+1) xs else trks l (i+1) xs
theorem qlO (l:List PlantElement):∀(q:List PlantElement) (i:Nat),(trks l i q).length≤q.length
 |[],i=>by simp[trks]
 |x::q,i=>by
  rw[trks]
  have:=qlO l q (i+1)
  split<;>simp<;>omega
theorem qgM {l:List PlantElement} {a:Int}:∀{q:List PlantElement} {i:Nat},a∈trks l i q→∃(j:Nat) (x:PlantElement),a=((i+j:Nat):Int)∧q[j]? =some x∧x.kind=1
 |[],i,h=>by simp[trks] at h
 |x::q,i,h=>by
  rw[trks] at h
  split at h
  ·rename_i hk
   rcases List.mem_cons.1 h with rfl|h
   ·exact ⟨0,x,by simp,rfl,hk⟩
   ·obtain ⟨j,y,h1,h2,h3⟩:=qgM h
    exact ⟨j+1,y,by rw[h1];omega,by simpa using h2,h3⟩
  ·obtain ⟨j,y,h1,h2,h3⟩:=qgM h
   exact ⟨j+1,y,by rw[h1];omega,by simpa using h2,h3⟩
theorem qcV (N:Nat) {l:List PlantElement} (hl:l.length≤1000000):∀(k n i:Nat) (q:List Int),k<n→i+k=l.length→q.length≤i→qms N l n q i=some (q++trks l i (l.drop i))
 |k,0,i,q,hn,_,_=>by omega
 |0,n+1,i,q,hn,hi,hq=>by
  obtain rfl:i=l.length:=by omega
  rw[qms,if_neg (dneg (by omega)),List.drop_length,trks,List.append_nil]
 |k+1,n+1,i,q,hn,hi,hq=>by
  have hlt:i<l.length:=by omega
  have ha:=qao hlt
  rw[qms,if_pos (dpos (by omega))]
  unfold qyJ
  rw[qae ha,qaa,qbm ha,trks]
  by_cases hk:l[i].kind=1
  ·rw[if_pos (by simpa using hk),if_pos hk,qaH (by simp;omega),qaa,qaa,qad,w64s (by omega),qcV N hl k n (i+1) _ (by omega) (by omega) (by simp;omega)]
   simp
  ·rw[if_neg (by simpa using hk),if_neg hk,qaa,qad,w64s (by omega),qcV N hl k n (i+1) _ (by omega) (by omega) (by omega)]
theorem qoF (N:Nat) {l:List PlantElement} (hl:l.length≤1000000) (hN:l.length<N):zaP N l=some (trks l 0 l):=by
 unfold zaP
 have h:=qcV N hl l.length N 0 [] hN (by omega) (by simp)
 simp only[Int.natCast_zero,List.drop_zero,List.nil_append] at h
 rw[h,qaa]
open Go.AM
theorem qmY {x:PlantElement} (h:qag x≠[]):2≤(qag x).length:=by
 unfold qag at*
 split
 ·simp
 ·split
  ·simp
  ·rename_i h1 h2
   rw[if_neg h1,if_neg h2] at h;exact absurd rfl h
theorem qyz {l:List PlantElement} (hP:PlOk l) {i n:Int} (h:n∈eI l i):0<(thr l i n).length:=by
 obtain ⟨h0,h1,x,hx,hn⟩:=qb1 h
 obtain ⟨j,rfl⟩:=Int.eq_ofNat_of_zero_le h0
 rw[Int.toNat_natCast] at hx
 have h2:=qmY (qaA (hP.snd x (List.mem_of_getElem? hx))).2.2.1
 unfold thr thrE
 rw[qc0 hx,if_pos (by simpa using hn)]
 split
 ·rw[List.length_tail];omega
 ·rw[List.length_take];omega
structure WkI (l:List PlantElement) (w:List Visit) (v:Visit):Prop where
 ne:1≤w.length
 last:w[w.length - 1]? =some v
 st:∀v,w[0]? =some v→trk l v.element∧v.in_= -1∧v.out∈eI l v.element
 out:v.out∈eI l v.element
 step:∀(i:Nat) v w',w[i]? =some v→w[i+1]? =some w'→w'.in_=v.out∧0≤w'.element∧w'.element=nbr l v.element v.out
 mid:∀(i:Nat) v,0<i→w[i]? =some v→v.out∈thr l v.element v.in_
theorem qfi {α:Type} {w:List α} {y:α} {i:Nat} {x:α} (h:(w++[y])[i]? =some x):(i<w.length∧w[i]? =some x)∨(i=w.length∧x=y):=by
 by_cases hi:i<w.length
 ·rw[List.getElem?_append_left hi] at h;exact .inl ⟨hi,h⟩
 ·have:=(List.getElem?_eq_some_iff.1 h).1
  simp at this
  have:i=w.length:=by omega
  subst this
  simp at h
  exact .inr ⟨rfl,h.symm⟩
theorem WkI.step' {l:List PlantElement} {w:List Visit} {v y:Visit} (h:WkI l w v) (h1:y.in_=v.out) (h0:0≤nbr l v.element v.out) (h2:y.element=nbr l v.element v.out):∀(i:Nat) a b,(w++[y])[i]? =some a→(w++[y])[i+1]? =some b→b.in_=a.out∧0≤b.element∧b.element=nbr l a.element a.out:=by
 intro i a b ha hb
 rcases qfi hb with ⟨p,q⟩|⟨p,rfl⟩
 ·rcases qfi ha with ⟨r,s⟩|⟨r,_⟩
  ·exact h.step i a b s q
  ·omega
 ·rcases qfi ha with ⟨r,s⟩|⟨r,_⟩
  ·have:=h.last
   rw[show w.length - 1=i by omega,s] at this
   cases this
   exact ⟨h1,by rw[h2];exact h0,h2⟩
  ·omega
theorem WkI.st' {l:List PlantElement} {w:List Visit} {v y:Visit} (h:WkI l w v):∀a,(w++[y])[0]? =some a→trk l a.element∧a.in_= -1∧a.out∈eI l a.element:=by
 intro a ha
 rcases qfi ha with ⟨_,q⟩|⟨p,_⟩
 ·exact h.st a q
 ·have:=h.ne;omega
theorem WkI.add {l:List PlantElement} {w:List Visit} {v:Visit} {o:Int} (h:WkI l w v) (h0:0≤nbr l v.element v.out) (ho:o∈thr l (nbr l v.element v.out) v.out):WkI l (w++[Visit.mk (nbr l v.element v.out) v.out o]) (Visit.mk (nbr l v.element v.out) v.out o) where
 ne:=by simp
 last:=by simp
 st:=h.st'
 out:=(qiL ho).2
 step:=h.step' rfl h0 rfl
 mid:=fun i a hi ha=>by
  rcases qfi ha with ⟨_,q⟩|⟨_,rfl⟩
  ·exact h.mid i a hi q
  ·exact ho
theorem WkI.fin {l:List PlantElement} {w:List Visit} {v:Visit} (h:WkI l w v) (h0:0≤nbr l v.element v.out) (ht:trk l (nbr l v.element v.out)):WayP l (w++[Visit.mk (nbr l v.element v.out) v.out (-1)]) where
 two:=by have:=h.ne;simp;omega
 st:=h.st'
 en:=fun a ha=>by simp at ha;subst ha;exact ⟨ht,rfl⟩
 step:=h.step' rfl h0 rfl
 mid:=fun i a hi hi2 ha=>by
  rcases qfi ha with ⟨_,q⟩|⟨p,_⟩
  ·exact h.mid i a hi q
  ·simp at hi2;omega
theorem qDn {l:List PlantElement} {i n:Int} (h:0≤nbr l i n):nbr l i n<l.length:=by
 rcases qek l i n with ⟨a,_⟩|⟨j,x,a,b,_⟩
 ·omega
 ·have:=(List.getElem?_eq_some_iff.1 b).1
  omega
theorem qER (N:Nat) (hN:4000≤N) {l:List PlantElement} (hP:PlOk l) {c:Int} {s:Maker} (hs:Mk c s) (hc:c≤1000000) {e n:Int} (h0:0≤e) (h1:e<l.length) {o:List Int} (ho:0<o.length):∃b s',qtf N s l e o=some (s',b)∧Mk (c+1) s'∧(b=true→trk l e):=by
 have hll:=hP.len
 obtain ⟨j,rfl⟩:=Int.eq_ofNat_of_zero_le h0
 have hj:=qao (xs:=l) (i:=j) (by omega)
 have g0:getI o 0=some o[0]:=qae (qao (xs:=o) (i:=0) ho)
 unfold qtf
 rw[qae hj,qaa]
 by_cases hk:l[j].kind=1
 ·have ht:trk l (j:Int):=⟨by omega,_,hj,hk⟩
  rw[if_pos (by simpa using hk)]
  obtain ⟨r,s',p1,p2,p3,p4⟩:=qbc N (s:=s) (c:=c) 2 (by omega) (by omega) hs (by omega)
  rw[p1,qaa]
  by_cases hr:r=0
  ·rw[if_pos (by simpa using hr)];exact ⟨_,_,rfl,p4,fun _=>ht⟩
  ·rw[if_neg (by simpa using hr),g0,qaa,qaa,qeW N (by omega) (by omega),qaa]
   exact ⟨_,_,rfl,p4,fun _=>ht⟩
 ·rw[if_neg (by simpa using hk)]
  exact ⟨_,_,rfl,hs.le (by omega),fun h=>by cases h⟩
theorem qhO (N:Nat) (hN:4000≤N) {l:List PlantElement} (hP:PlOk l):∀(k n i:Nat) (c:Int) (s:Maker) (v:Visit) (w:List Visit),k<n→i+k=12→Mk c s→c+2*k≤1000000→WkI l w v→w.length=i+1→
  ∃s' w',(qgR N l n s v w i=some (.inl (s',w'))∨qgR N l n s v w i=some (.inr (s',w')))∧Mk (c+2*k) s'∧1≤w'.length∧w'.length≤13∧(WayP l w'∨∀v,w'[w'.length - 1]? =some v→v.out≠ -1)
 |k,0,i,c,s,v,w,hn,_,_,_,_,_=>by omega
 |k,n+1,i,c,s,v,w,hn,hi,hs,hc,hI,hl=>by
  have hll:=hP.len
  have stop:∀v',w[w.length - 1]? =some v'→v'.out≠ -1:=fun v' hv'=>by
   rw[hI.last] at hv';cases hv'
   obtain ⟨_,_,x,hx,hn⟩:=qb1 hI.out
   have:=(qaA (hP.snd x (List.mem_of_getElem? hx))).2.1 _ hn
   omega
  cases k with
  |zero=>
   rw[qgR,if_neg (dneg (by omega))]
   exact ⟨s,w, .inl rfl,hs.le (by omega),by omega,by omega, .inr stop⟩
  |succ k=>
   rw[qgR,if_pos (dpos (by omega)),qeW N (by omega) (by omega),qaa]
   by_cases h0:nbr l v.element v.out<0
   ·rw[if_pos (dpos h0)]
    exact ⟨s,w, .inl rfl,hs.le (by omega),by omega,by omega, .inr stop⟩
   ·rw[if_neg (dneg h0),qop N (by omega),qaa]
    have h0':0≤nbr l v.element v.out:=by omega
    have hpos:=qyz hP (qeO h0').1
    have h3:=qe1 l (nbr l v.element v.out) v.out
    obtain ⟨b,s1,q1,q2,q3⟩:=qER N hN hP hs (by omega) h0' (qDn h0') (n:=v.out) hpos
    rw[q1,qaa]
    simp only[]
    cases b with
    |true=>
     rw[if_pos rfl,qaH (by simp;omega),qaa]
     exact ⟨_,_, .inr rfl,q2.le (by omega),by simp,by simp;omega, .inl (hI.fin h0' (q3 rfl))⟩
    |false=>
     rw[if_neg (by simp)]
     obtain ⟨r,s2,p1,p2,p3,p4⟩:=qbc N (s:=s1) (c:=c+1) ((thr l (nbr l v.element v.out) v.out).length:Int) (by omega) (by omega) q2 (by omega)
     obtain ⟨r,rfl⟩:=Int.eq_ofNat_of_zero_le p2
     have hr:=qao (xs:=thr l (nbr l v.element v.out) v.out) (i:=r) (by omega)
     rw[p1,qaa]
     simp only[]
     rw[qae hr,qaa,qaa,qaH (by simp;omega),qaa,qad,w64s (by omega)]
     have hI':=hI.add h0' (List.mem_of_getElem? hr)
     obtain ⟨s',w',g1,g2,g3,g4,g5⟩:=qhO N hN hP k n (i+1) (c+1+1) s2 _ _ (by omega) (by omega) p4 (by omega) hI' (by simp;omega)
     exact ⟨s',w',g1,g2.le (by omega),g3,g4,g5⟩
theorem qyC (N:Nat) (hN:4000≤N) {l:List PlantElement} (hP:MadeP l) {c:Int} {s:Maker} (hs:Mk c s) (hc:c≤900000):
  ∃w s',zbE N s l=some (w,s')∧Mk (c+30) s'∧1≤w.length∧w.length≤13∧(WayP l w∨∀v,w[w.length - 1]? =some v→v.out≠ -1):=by
 have hll:=hP.ok.len
 unfold zbE
 rw[qoF N (by omega) (by omega),qaa]
 have hlen:=qlO l l 0
 have hpos:0<(trks l 0 l).length:=by
  obtain ⟨x,hx,hk⟩:=hP.fst
  cases l with
  |nil=>simp at hx
  |cons y l=>
   simp at hx;subst hx
   rw[trks,if_pos hk];simp
 have htrk:∀a∈trks l 0 l,trk l a:=by
  intro a ha
  obtain ⟨j,x,h1,h2,h3⟩:=qgM ha
  rw[Nat.zero_add] at h1
  subst h1
  exact ⟨by omega,x,by simpa using h2,h3⟩
 obtain ⟨r,s1,p1,p2,p3,p4⟩:=qbc N (s:=s) (c:=c) ((trks l 0 l).length:Int) (by omega) (by omega) hs (by omega)
 obtain ⟨r,rfl⟩:=Int.eq_ofNat_of_zero_le p2
 have hr:=qao (xs:=trks l 0 l) (i:=r) (by omega)
 have ht:=htrk _ (List.mem_of_getElem? hr)
 rw[p1,qaa]
 simp only[]
 rw[qae hr,qaa,qaa,qcB,qaa]
 generalize (trks l 0 l)[r]'(by omega)=e at*
 have hpos2:0<(eI l e).length:=by
  obtain ⟨a,x,b,cc⟩:=ht
  unfold eI
  rw[if_pos a,b]
  simp[qag,cc]
 have h3:=qdY l e
 obtain ⟨q,s2,q1,q2,q3,q4⟩:=qbc N (s:=s1) (c:=c+1) ((eI l e).length:Int) (by omega) (by omega) p4 (by omega)
 obtain ⟨q,rfl⟩:=Int.eq_ofNat_of_zero_le q2
 have hq:=qao (xs:=eI l e) (i:=q) (by omega)
 rw[q1,qaa]
 simp only[]
 rw[qae hq,qaa,qaa]
 have hmem:=List.mem_of_getElem? hq
 generalize (eI l e)[q]'(by omega)=o at*
 have hI:WkI l [Visit.mk e (-1) o] (Visit.mk e (-1) o):=⟨by simp,by simp,fun v hv=>by simp at hv;subst hv;exact ⟨ht,rfl,hmem⟩,hmem,fun i v w hv hw=>by simp at hw,fun i v hi hv=>by
  have:=(List.getElem?_eq_some_iff.1 hv).1
  simp at this;omega⟩
 obtain ⟨s',w',g1,g2,g3,g4,g5⟩:=qhO N hN hP.ok 12 N 0 (c+1+1) s2 _ _ (by omega) (by omega) q4 (by omega) hI rfl
 refine ⟨w',s', ?_,g2.le (by omega),g3,g4,g5⟩
 rcases g1 with g1|g1
 ·have g1:qgR N l N s2 (Visit.mk e (-1) o) [Visit.mk e (-1) o] 0=some (.inl (s',w')):=g1
  rw[g1];rfl
 ·have g1:qgR N l N s2 (Visit.mk e (-1) o) [Visit.mk e (-1) o] 0=some (.inr (s',w')):=g1
  rw[g1];rfl
theorem qqH (N:Nat) (hN:4000≤N) {l:List PlantElement} (hP:PlOk l) {w:List Visit} (hw:w.length≤3000):∃b,zbN N l w=some b∧zcD N l w=some b∧(b=true↔RtP l w):=by
 have hll:=hP.len
 obtain ⟨b1,p1,p2⟩:=qgt N (l:=l) (r:=w) (by omega) (by omega) (by omega)
 obtain ⟨b2,r1,r2⟩:=qoa N (l:=l) (r:=w) (by omega) (by omega) (by omega) fun _ x hx=>by
  have h1:=(qaA (hP.snd x hx)).2.2.2
  unfold pnOk at h1
  simp only[Bool.and_eq_true,decide_eq_true_eq] at h1
  omega
 have:b1=b2:=Bool.eq_iff_iff.2 (p2.trans r2.symm)
 exact ⟨b1,p1,by rw[this];exact r1,p2⟩
open Go.AM
def setE (x:PlantElement) (v:Visit):List Setting:=
 if x.kind=3 then [Setting.mk v.element 3] else if x.kind=2 then (if v.in_=x.b∨v.out=x.b then [Setting.mk v.element 1] else [Setting.mk v.element 2]) else []
def setV (l:List PlantElement) (v:Visit):List Setting:=match l[v.element.toNat]? with|some x=>setE x v|none=>[]
def qaG (l:List PlantElement) (r:List Visit):List Setting:=r.flatMap (setV l)
theorem qsM (x:PlantElement) (v:Visit):(setE x v).length≤1:=by
 unfold setE
 split
 ·simp
 ·split
  ·split<;>simp
  ·simp
theorem qiF {l:List PlantElement} {v:Visit} {s:Setting} (h:s∈setV l v):s.element=v.element:=by
 unfold setV at h
 split at h
 ·unfold setE at h
  split at h
  ·simp at h;subst h;rfl
  ·split at h
   ·split at h<;>(simp at h;subst h;rfl)
   ·simp at h
 ·simp at h
theorem qgH (l:List PlantElement) (v:Visit):(setV l v).length≤1:=by
 unfold setV
 split
 ·exact qsM _ _
 ·simp
theorem qdR (l:List PlantElement):∀(r:List Visit),(qaG l r).length≤r.length
 |[]=>by simp[qaG]
 |v::r=>by
  have:=qdR l r
  have h1:=qgH l v
  unfold qaG at*
  rw[List.flatMap_cons,List.length_append,List.length_cons]
  omega
theorem qEL (N:Nat) {l:List PlantElement} {r:List Visit} {i:Nat} {v:Visit} (hv:r[i]? =some v) (h0:0≤v.element) (h1:v.element<l.length) {acc:List Setting} (ha:acc.length≤1000000):qs3 N l acc r i=some (acc++setV l v):=by
 obtain ⟨j,hj⟩:=Int.eq_ofNat_of_zero_le h0
 have hjl:=qao (xs:=l) (i:=j) (by omega)
 unfold qs3 setV
 have hg:getI l v.element=some (l[j]'(by omega)):=by rw[hj];exact qae hjl
 have hg2:l[v.element.toNat]? =some (l[j]'(by omega)):=by rw[hj,Int.toNat_natCast];exact hjl
 rw[qae hv,qaa,hg,qaa,qad,hg2]
 generalize l[j]'(by omega)=x at*
 simp only[]
 unfold setE
 by_cases h3:x.kind=3
 ·rw[if_pos (by simpa using h3),if_pos h3,qaH (by simp;omega),qaa]
 ·rw[if_neg (by simpa using h3),if_neg h3]
  by_cases h2:x.kind=2
  ·have hs2:qmr N v x=some (decide (v.in_=x.b∨v.out=x.b)):=by
    unfold qmr
    rw[if_pos (by simpa using h2)]
    by_cases a:v.in_=x.b
    ·rw[if_pos (by simpa using a)];simp[a]
    ·rw[if_neg (by simpa using a),qad]
     congr 1
     exact Bool.eq_iff_iff.2 (by simp[a])
   rw[hs2,qaa,if_pos h2]
   by_cases hb:v.in_=x.b∨v.out=x.b
   ·rw[if_pos (by simpa using hb),if_pos hb,qaH (by simp;omega),qaa]
   ·rw[if_neg (by simpa using hb),if_neg hb,qad,if_pos (by simpa using h2),qaH (by simp;omega),qaa]
  ·have hs2:qmr N v x=some false:=by
    unfold qmr
    rw[if_neg (by simpa using h2)]
   rw[hs2,qaa,if_neg (by simp),qad,if_neg (by simpa using h2),if_neg h2,List.append_nil]
theorem qhG (N:Nat) {l:List PlantElement} {r:List Visit} (hr:∀v∈r,0≤v.element∧v.element<l.length) (hl:r.length≤100000):∀(k n i:Nat) (acc:List Setting),k<n→i+k=r.length→acc.length≤i→qhT N l r r.length n acc i=some (acc++qaG l (r.drop i))
 |k,0,i,acc,hn,_,_=>by omega
 |0,n+1,i,acc,hn,hi,ha=>by
  obtain rfl:i=r.length:=by omega
  rw[qhT,if_neg (dneg (by omega)),List.drop_length]
  simp[qaG]
 |k+1,n+1,i,acc,hn,hi,ha=>by
  have hlt:i<r.length:=by omega
  have hv:=qao hlt
  obtain ⟨h0,h1⟩:=hr _ (List.mem_of_getElem? hv)
  have h2:=qgH l r[i]
  rw[qhT,if_pos (dpos (by omega)),qEL N hv h0 h1 (by omega),qaa,w64s (by omega),qhG N hr hl k n (i+1) _ (by omega) (by omega) (by simp;omega),qbm hv]
  unfold qaG
  rw[List.flatMap_cons,List.append_assoc]
theorem WayP.ok {l:List PlantElement} {r:List Visit} (h:WayP l r):∀v∈r,0≤v.element∧v.element<l.length:=by
 intro v hv
 obtain ⟨i,hi⟩:=List.getElem?_of_mem hv
 have hlt:=(List.getElem?_eq_some_iff.1 hi).1
 have two:=h.two
 by_cases h0:i+1<r.length
 ·have:=qb1 (h.outs h0 hi);exact ⟨this.1,this.2.1⟩
 ·have:=qb1 (h.ins (by omega) hi);exact ⟨this.1,this.2.1⟩
instance instSet:Inhabited Setting:=⟨Setting.mk 0 0⟩
noncomputable def qbI (q:List Setting):List Setting:= @srtL Setting instSet (fun (a b:Setting)=>cmpI a.element b.element) q
theorem qe0 (N:Nat) (hN:4000≤N) {l:List PlantElement} (hP:PlOk l) {r:List Visit} (hr:RtP l r) (hl:r.length≤3000):zaO N l r=some (qbI (qaG l r),0):=by
 obtain ⟨b,h1,_,h3⟩:=qqH N hN hP (w:=r) hl
 unfold zaO
 rw[h1,qaa,h3.2 hr,if_neg (by simp)]
 have h:=qhG N (l:=l) (r:=r) hr.2.1.ok (by omega) r.length N 0 [] (by omega) (by omega) (by simp)
 have h:qhT N l r r.length N [] 0=some (qaG l r):=h
 have:=qdR l r
 rw[h,qaa]
 unfold srtI
 rw[if_pos (by omega),qaa]
 rfl
theorem qcH {q:List Setting} {x:Setting}:x∈qbI q↔x∈q:=(@qbJ Setting instSet (fun (a b:Setting)=>cmpI a.element b.element) (qbB Setting.element) q).mem_iff
theorem qfI (q:List Setting):(qbI q).length=q.length:=(@qbJ Setting instSet (fun (a b:Setting)=>cmpI a.element b.element) (qbB Setting.element) q).length_eq
theorem qcs {q:List Setting} (h:(q.map Setting.element).Nodup):(qbI q).Pairwise fun a b=>a.element<b.element:=by
 have h1:(qbI q).Pairwise fun a b=>a.element≤b.element:= @qcU Setting instSet Setting.element q
 have hp:(qbI q).Perm q:= @qbJ Setting instSet (fun (a b:Setting)=>cmpI a.element b.element) (qbB Setting.element) q
 have h2:((qbI q).map Setting.element).Nodup:=(hp.map Setting.element).nodup_iff.2 h
 rw[List.nodup_iff_pairwise_ne,List.pairwise_map] at h2
 exact (h1.and h2).imp fun ⟨a,b⟩=>by omega
theorem qcE:∀{a b:List Setting},a.Pairwise (fun x y=>x.element<y.element)→b.Pairwise (fun x y=>x.element<y.element)→(∀x,x∈a↔x∈b)→a=b
 |[],[],_,_,_=>rfl
 |[],y::b,_,_,h=>by have:=(h y).2 List.mem_cons_self;cases this
 |x::a,[],_,_,h=>by have:=(h x).1 List.mem_cons_self;cases this
 |x::a,y::b,h1,h2,h=>by
  rw[List.pairwise_cons] at h1 h2
  have hxy:x=y:=by
   rcases List.mem_cons.1 ((h x).1 List.mem_cons_self) with e|e
   ·exact e
   ·rcases List.mem_cons.1 ((h y).2 List.mem_cons_self) with f|f
    ·exact f.symm
    ·have:=h2.1 _ e;have:=h1.1 _ f;omega
  subst hxy
  congr 1
  refine qcE h1.2 h2.2 fun z=>⟨fun hz=> ?_,fun hz=> ?_⟩
  ·rcases List.mem_cons.1 ((h z).1 (List.mem_cons_of_mem _ hz)) with e|e
   ·have:=h1.1 _ hz;rw[e] at this;omega
   ·exact e
  ·rcases List.mem_cons.1 ((h z).2 (List.mem_cons_of_mem _ hz)) with e|e
   ·have:=h2.1 _ hz;rw[e] at this;omega
   ·exact e
theorem qbV (l:List PlantElement):∀(r:List Visit),((qaG l r).map Setting.element).Sublist (elems r)
 |[]=>by simp[qaG,elems]
 |v::r=>by
  have ih:=qbV l r
  have h1:=qgH l v
  have h2:=fun s=>qiF (l:=l) (v:=v) (s:=s)
  unfold qaG elems at*
  rw[List.flatMap_cons,List.map_append,List.map_cons]
  generalize setV l v=q at*
  match q,h1 with
  |[],_=>exact (List.Sublist.cons _ ih)
  |[s],_=>
   have:=h2 s (by simp)
   simp only[List.map_cons,List.map_nil,List.cons_append,List.nil_append]
   rw[this]
   exact List.Sublist.cons_cons _ ih
def swV (v:Visit):Visit:=Visit.mk v.element v.out v.in_
theorem qEK (l:List PlantElement) (v:Visit):setV l (swV v)=setV l v:=by
 unfold setV
 show (match l[v.element.toNat]? with|some x=>setE x (swV v)|none=>[])=_
 cases l[v.element.toNat]? with
 |none=>rfl
 |some x=>
  show setE x (swV v)=setE x v
  unfold setE swV
  simp only[Or.comm]
open Go.AM
theorem WayP.inner {l:List PlantElement} {r:List Visit} (h:WayP l r) {i:Nat} {v:Visit} {x:PlantElement} (hv:r[i]? =some v) (hx:l[v.element.toNat]? =some x) (hk:x.kind≠1):v.out∈thrE (qag x) v.in_:=by
 have hlt:=(List.getElem?_eq_some_iff.1 hv).1
 have two:=h.two
 by_cases h0:i=0
 ·subst h0
  obtain ⟨_,y,hy,hk'⟩:=(h.st v hv).1
  rw[hx] at hy;cases hy;exact absurd hk' hk
 ·by_cases h1:i+1<r.length
  ·have hm:=h.mid i v (by omega) h1 hv
   unfold thr at hm
   have he:=(h.ok v (List.mem_of_getElem? hv)).1
   obtain ⟨j,hj⟩:=Int.eq_ofNat_of_zero_le he
   rw[hj] at hx hm
   rw[Int.toNat_natCast] at hx
   rw[qc0 hx] at hm
   exact hm
  ·have e:i=r.length - 1:=by omega
   rw[e] at hv
   obtain ⟨_,y,hy,hk'⟩:=(h.en v hv).1
   rw[hx] at hy;cases hy;exact absurd hk' hk
theorem qct {x:PlantElement} (hx:qaP x=true) (hk:x.kind=2) {n m:Int} (h:m∈thrE (qag x) n):x.a≠x.b∧x.a≠x.c∧x.b≠x.c∧((n=x.a∧thrE (qag x) n=[x.b,x.c]∧(m=x.b∨m=x.c))∨(n=x.b∧m=x.a)∨(n=x.c∧m=x.a)):=by
 have hd:=(qaA hx).1
 have he:qag x=[x.a,x.b,x.c]:=by unfold qag;rw[if_neg (by omega),if_pos hk]
 rw[he] at h hd⊢
 simp at hd
 refine ⟨hd.1.1,hd.1.2,hd.2, ?_⟩
 obtain ⟨h1,h2⟩:=qer h
 unfold thrE at h⊢
 rw[if_pos (by simpa using h1)] at h
 rw[if_pos (by simpa using h1)]
 simp only[List.head?_cons,Option.some.injEq,List.tail_cons,List.take_succ_cons,List.take_zero] at h⊢
 by_cases ha:x.a=n
 ·rw[if_pos ha] at h⊢
  simp at h
  exact .inl ⟨ha.symm,rfl,h⟩
 ·rw[if_neg ha] at h
  simp at h h1
  rcases h1 with h1|h1|h1
  ·exact absurd h1.symm ha
  ·exact .inr (.inl ⟨h1,h⟩)
  ·exact .inr (.inr ⟨h1,h⟩)
open Go.AM
theorem qgw (N:Nat) {s:List Setting} {x:Setting} (hl:s.length≤100000):∀(k n:Nat),k<n→k≤s.length→(∀(j:Nat) y,k≤j→s[j]? =some y→x.element≤y.element)→
  ∃i:Nat,qmy N s x n k=some (i:Int)∧i≤s.length∧(∀(j:Nat) y,i≤j→s[j]? =some y→x.element≤y.element)∧(∀y,0<i→s[i - 1]? =some y→y.element<x.element)
 |k,0,hn,_,_=>by omega
 |0,n+1,hn,hk,hg=>by
  rw[qmy]
  have h1:qmz N s x ((0:Nat):Int)=some false:=by
   unfold qmz
   rw[if_neg (dneg (by omega))]
  rw[h1,qaa,if_neg (by simp)]
  exact ⟨0,rfl,by omega,hg,fun y h=>by omega⟩
 |k+1,n+1,hn,hk,hg=>by
  have hv:=qao (xs:=s) (i:=k) (by omega)
  rw[qmy]
  have h1:qmz N s x ((k+1:Nat):Int)=some (decide (x.element≤s[k].element)):=by
   unfold qmz
   rw[if_pos (dpos (by omega)),w64p (by omega),qae hv,qaa]
  rw[h1,qaa]
  by_cases hc:x.element≤s[k].element
  ·rw[if_pos (lpos hc),qad,w64p (by omega)]
   refine qgw N hl k n (by omega) (by omega) fun j y hj hy=> ?_
   by_cases hjk:j=k
   ·subst hjk;rw[hv] at hy;cases hy;exact hc
   ·exact hg j y (by omega) hy
  ·rw[if_neg (lneg hc)]
   refine ⟨k+1,rfl,hk,hg,fun y _ hy=> ?_⟩
   rw[Nat.add_sub_cancel,hv] at hy;cases hy
   omega
theorem qlA (N:Nat) {s:List Setting} {x:Setting} (hl:s.length≤100000) (hN:s.length<N) (hs:s.Pairwise fun a b=>a.element<b.element) (hx:∀y∈s,y.element≠x.element):
  ∃s',zcS N s x=some s'∧(s'.Pairwise fun a b=>a.element<b.element)∧(∀y,y∈s'↔y=x∨y∈s)∧s'.length=s.length+1:=by
 obtain ⟨i,h1,h2,h3,h4⟩:=qgw N (s:=s) (x:=x) hl s.length N hN (Nat.le_refl _) (fun j y hj hy=>by
  have:=(List.getElem?_eq_some_iff.1 hy).1
  omega)
 unfold zcS
 rw[qad,h1,qaa]
 have hp2:qmA N s x i=some false:=by
  unfold qmA
  by_cases hi:i<s.length
  ·have hv:=qao hi
   rw[if_pos (dpos (by omega)),qae hv,qaa]
   congr 1
   simpa using hx _ (List.mem_of_getElem? hv)
  ·rw[if_neg (dneg (by omega))]
 rw[hp2,qaa,if_neg (by simp)]
 have hc3:qmS s (i:Int) (i:Int)=some (s.take i):=by
  unfold qmS
  rw[if_pos ⟨by omega,by omega,by omega,rfl⟩,Int.toNat_natCast]
 rw[hc3,qaa,qb8 h2,qaa,qaH (by rw[List.length_drop];simp;omega),qaa,if_neg (by simp),qaH (by rw[List.length_take];simp;omega),qaa]
 have hlow:∀y∈s.take i,y.element<x.element:=by
  intro y hy
  obtain ⟨j,hj⟩:=List.getElem?_of_mem hy
  rw[List.getElem?_take] at hj
  split at hj
  ·rename_i hji
   have hi1:=qao (xs:=s) (i:=i - 1) (by omega)
   have hb:=h4 _ (by omega) hi1
   by_cases hj1:j=i - 1
   ·rw[hj1,hi1] at hj;cases hj;exact hb
   ·obtain ⟨hjl,hj⟩:=List.getElem?_eq_some_iff.1 hj
    have:=List.pairwise_iff_getElem.1 hs j (i - 1) hjl (by omega) (by omega)
    rw[hj] at this
    omega
  ·cases hj
 have hhigh:∀y∈s.drop i,x.element<y.element:=by
  intro y hy
  obtain ⟨j,hj⟩:=List.getElem?_of_mem hy
  rw[List.getElem?_drop] at hj
  have:=h3 (i+j) y (by omega) hj
  have:=hx y (List.mem_of_getElem? hj)
  omega
 refine ⟨_,rfl, ?_,fun y=> ?_,by simp;omega⟩
 ·rw[List.pairwise_append]
  refine ⟨hs.sublist (List.take_sublist _ _), ?_,fun a ha b hb=> ?_⟩
  ·rw[List.singleton_append,List.pairwise_cons]
   exact ⟨hhigh,hs.sublist (List.drop_sublist _ _)⟩
  ·have h5:=hlow a ha
   rw[List.singleton_append] at hb
   rcases List.mem_cons.1 hb with rfl|hb
   ·exact h5
   ·have:=hhigh b hb;omega
 ·have:=List.take_append_drop i s
  constructor
  ·intro hy
   rcases List.mem_append.1 hy with hy|hy
   ·exact .inr (List.mem_of_mem_take hy)
   ·rw[List.singleton_append] at hy
    rcases List.mem_cons.1 hy with hy|hy
    ·exact .inl hy
    ·exact .inr (List.mem_of_mem_drop hy)
  ·rintro (rfl|hy)
   ·exact List.mem_append_right _ (by simp)
   ·rw[←this] at hy
    rcases List.mem_append.1 hy with hy|hy
    ·exact List.mem_append_left _ hy
    ·exact List.mem_append_right _ (by simp[hy])
def posE (x:PlantElement) (v:Visit):Int:=if x.kind=3 then 3 else if x.kind=2 then (if v.in_=x.b∨v.out=x.b then 1 else 2) else 0
theorem qsN (x:PlantElement) (v:Visit):setE x v=if posE x v=0 then [] else [Setting.mk v.element (posE x v)]:=by
 unfold setE posE
 by_cases h3:x.kind=3
 ·simp[h3]
 ·by_cases h2:x.kind=2
  ·by_cases hb:v.in_=x.b∨v.out=x.b
   ·simp[h2,hb]
   ·simp[h2,hb]
  ·simp[h3,h2]
theorem qon (N:Nat) {l:List PlantElement} {v:Visit} {x:PlantElement} (hx:getI l v.element=some x):zbB N l v=some (posE x v):=by
 unfold zbB posE
 rw[hx,qaa,qad]
 by_cases h3:x.kind=3
 ·rw[if_pos (by simpa using h3),if_pos h3]
 ·rw[if_neg (by simpa using h3),if_neg h3]
  by_cases h2:x.kind=2
  ·have hs2:qqN N v x=some (decide (v.in_=x.b∨v.out=x.b)):=by
    unfold qqN
    rw[if_pos (by simpa using h2)]
    by_cases a:v.in_=x.b
    ·rw[if_pos (by simpa using a)];simp[a]
    ·rw[if_neg (by simpa using a),qad]
     congr 1
     exact Bool.eq_iff_iff.2 (by simp[a])
   rw[hs2,qaa,if_pos h2]
   by_cases hb:v.in_=x.b∨v.out=x.b
   ·rw[if_pos (by simpa using hb),if_pos hb]
   ·rw[if_neg (by simpa using hb),if_neg hb,qad,if_pos (by simpa using h2)]
  ·have hs2:qqN N v x=some false:=by
    unfold qqN
    rw[if_neg (by simpa using h2)]
   rw[hs2,qaa,if_neg (by simp),qad,if_neg (by simpa using h2),if_neg h2]
theorem qfz (N:Nat) {l:List PlantElement} {r:List Visit} (hr:∀v∈r,0≤v.element∧v.element<l.length) (hd:(elems r).Nodup) (hl:r.length≤50000) (hN:r.length<N):∀(k n i:Nat) (s:List Setting),k<n→i+k=r.length→s.length≤i→(s.Pairwise fun a b=>a.element<b.element)→(∀y,y∈s↔y∈qaG l (r.take i))→
  ∃s',qmt N l r n s i=some s'∧(s'.Pairwise fun a b=>a.element<b.element)∧∀y,y∈s'↔y∈qaG l r
 |k,0,i,s,hn,_,_,_,_=>by omega
 |0,n+1,i,s,hn,hi,ha,hp,hm=>by
  obtain rfl:i=r.length:=by omega
  rw[qmt,if_neg (dneg (by omega))]
  rw[List.take_length] at hm
  exact ⟨s,rfl,hp,hm⟩
 |k+1,n+1,i,s,hn,hi,ha,hp,hm=>by
  have hlt:i<r.length:=by omega
  have hv:=qao hlt
  obtain ⟨h0,h1⟩:=hr _ (List.mem_of_getElem? hv)
  obtain ⟨q,hq⟩:=Int.eq_ofNat_of_zero_le h0
  have hx:=qao (xs:=l) (i:=q) (by omega)
  have hg:getI l (r[i]).element=some (l[q]'(by omega)):=by rw[hq];exact qae hx
  have hx2:l[(r[i]).element.toNat]? =some (l[q]'(by omega)):=by rw[hq,Int.toNat_natCast];exact hx
  have hset:setV l r[i]=setE (l[q]'(by omega)) r[i]:=by unfold setV;rw[hx2]
  have htk:∀y,y∈qaG l (r.take (i+1))↔y∈qaG l (r.take i)∨y∈setV l r[i]:=fun y=>by
   rw[qbd hv]
   unfold qaG
   rw[List.flatMap_append,List.flatMap_cons,List.flatMap_nil,List.append_nil,List.mem_append]
  have key:∃s',qyW N l r s i=some s'∧(s'.Pairwise fun a b=>a.element<b.element)∧(∀y,y∈s'↔y∈qaG l (r.take (i+1)))∧s'.length≤i+1:=by
   unfold qyW
   rw[qae hv,qaa,qon N hg,qaa]
   rw[qsN] at hset
   by_cases hz:posE (l[q]'(by omega)) r[i]=0
   ·rw[if_neg (by simpa using hz)]
    rw[if_pos hz] at hset
    exact ⟨s,rfl,hp,fun y=>by rw[htk,hset,hm];simp,by omega⟩
   ·rw[if_pos (by simpa using hz),qaa]
    rw[if_neg hz] at hset
    obtain ⟨s',p1,p2,p3,p4⟩:=qlA N (s:=s) (x:=Setting.mk r[i].element (posE (l[q]'(by omega)) r[i])) (by omega) (by omega) hp (fun y hy hh=>by
     have hy:=(hm y).1 hy
     unfold qaG at hy
     obtain ⟨v,hv1,hv2⟩:=List.mem_flatMap.1 hy
     have e:=qiF hv2
     have hd2:(elems (r.take (i+1))).Nodup:=hd.sublist ((List.take_sublist (i+1) r).map _)
     unfold elems at hd2
     rw[qbd hv,List.map_append,List.nodup_append] at hd2
     exact hd2.2.2 v.element (List.mem_map_of_mem hv1) r[i].element (by simp) (by rw[←e,hh]))
    rw[p1,qaa]
    exact ⟨s',rfl,p2,fun y=>by rw[p3,htk,hset,hm];simp[or_comm],by omega⟩
  obtain ⟨s',g1,g2,g3,g4⟩:=key
  rw[qmt,if_pos (dpos (by omega)),g1,qaa,qad,w64s (by omega)]
  exact qfz N hr hd hl hN k n (i+1) s' (by omega) (by omega) g4 g2 g3
theorem qyv (N:Nat) {l:List PlantElement} {r:List Visit} (hN:r.length+l.length+4000≤N) (hl:l.length≤1000000) (hr:r.length≤9223372036854775807) (hnm:l.length≤96→∀x∈l,x.name.length<N∧x.name.length≤9223372036854775807):
  ∃b s e,zbN N l r=some b∧zcD N l r=some b∧zaO N l r=some (s,e)∧zbC N l r=some (s,e)∧s.length≤96:=by
 obtain ⟨b1,p1,p2⟩:=qgt N (l:=l) (r:=r) (by omega) hl hr
 obtain ⟨b2,r1,r2⟩:=qoa N (l:=l) (r:=r) (by omega) hl hr hnm
 have hb:b1=b2:=Bool.eq_iff_iff.2 (p2.trans r2.symm)
 subst hb
 cases b1 with
 |false=>
  refine ⟨false,[],1,p1,r1, ?_, ?_,by simp⟩
  ·unfold zaO
   rw[p1,qaa,if_pos (by simp)]
  ·unfold zbC
   rw[r1,qaa,if_pos (by simp)]
 |true=>
  have hR:=p2.1 rfl
  have hP:=PlOk.of hR.1
  have hll:=hP.len
  have hrl:r.length≤l.length:=by
   have h1:=qen (b:=(List.range l.length).map fun (i:Nat)=>(i:Int)) hR.2.2 fun x hx=>by
    unfold elems at hx
    obtain ⟨v,hv,rfl⟩:=List.mem_map.1 hx
    obtain ⟨a,b⟩:=hR.2.1.ok v hv
    exact List.mem_map.2 ⟨v.element.toNat,List.mem_range.2 (by omega),by omega⟩
   simp[elems] at h1
   exact h1
  have hs:=qe0 N (by omega) hP hR (by omega)
  have hsl:=qdR l r
  refine ⟨true,qbI (qaG l r),0,p1,r1,hs, ?_,by rw[qfI];omega⟩
  unfold zbC
  rw[r1,qaa,if_neg (by simp)]
  obtain ⟨s',g1,g2,g3⟩:=qfz N hR.2.1.ok hR.2.2 (by omega) (by omega) r.length N 0 [] (by omega) (by omega) (by simp) (by simp) (by simp[qaG])
  have g1:qmt N l r N [] 0=some s':=g1
  rw[g1,qaa]
  have hlt:=qcs (hR.2.2.sublist (qbV l r))
  rw[qcE g2 hlt fun y=>by rw[g3,qcH]]
end Go.W
end
