/- W1 W2 WLib LBas LPl1 LPl2 LPl3 LPl4 LPlM -/
import Derived.Test.YtflnpffcbghmhaaProg
import Derived.IntWalk
import Derived.Test.YtflnpffcbghmhaaMd
section
set_option linter.unusedVariables false
set_option linter.unusedSimpArgs false
set_option maxRecDepth 100000
set_option maxHeartbeats 1000000
namespace Go.W
noncomputable section
open Go.AM Go.Proofs
def Ty3:Ty Int:=TyOf 3 [.int .i64] fun x=>(x,())
def Ty4:Ty Bool:=TyOf 4 [.bool] fun x=>(x,())
def Ty5:Ty UInt8:=TU8 5
def Ty9:Ty (List UInt8):=TyOf 9 [.str] fun x=>(x,())
def Ty22:Ty (List Int):=TyOf 22 [.sl Int Ty3] fun x=>(x,())
def Ty53:Ty PlantElement:=TyOf 53 [.int .i64, .str, .int .i64, .int .i64, .int .i64, .int .i64] fun x=>(x.kind,x.name,x.a,x.b,x.c,x.length,())
def Ty23:Ty (List PlantElement):=TyOf 23 [.sl PlantElement Ty53] fun x=>(x,())
def Ty70:Ty Visit:=TyOf 70 [.int .i64, .int .i64, .int .i64] fun x=>(x.element,x.in_,x.out,())
def Ty24:Ty (List Visit):=TyOf 24 [.sl Visit Ty70] fun x=>(x,())
def Ty33:Ty Setting:=TyOf 33 [.int .i64, .int .i64] fun x=>(x.element,x.position,())
def Ty25:Ty (List Setting):=TyOf 25 [.sl Setting Ty33] fun x=>(x,())
def Ty48:Ty Maker:=TyOf 48 [.sl Int Ty3, .int .i64] fun x=>(x.l,x.n,())
def Ty60:Ty (List (Int×Int)):=TyOf 60 [.mp Int Int ⟨kInt .i64,kInt .i64,60⟩] fun x=>(x,())
def Ty67:Ty (List (Int×Bool)):=TyOf 67 [.mp Int Bool ⟨kInt .i64,qgd,67⟩] fun x=>(x,())
def Ty71:Ty (List (Spot×Bool)):=TyOf 71 [.mp Spot Bool ⟨fun x=>[.int .i64 x.element, .int .i64 x.node],qgd,71⟩] fun x=>(x,())
def Ty72:Ty (Option Nat):=TyOf 72 [.fn] fun x=>(x,())
def Ty74:Ty Spot:=TyOf 74 [.int .i64, .int .i64] fun x=>(x.element,x.node,())
def Ty85:Ty (List (S109×Bool)):=TyOf 85 [.mp S109 Bool ⟨fun x=>[.int .i64 x.a0, .int .i64 x.a1],qgd,85⟩] fun x=>(x,())
def qGK:Ty S109:=TyOf 109 [.int .i64, .int .i64] fun x=>(x.a0,x.a1,())
def Ty87:Ty Guardian:=TyOf 87 [.sl PlantElement Ty53, .sl Visit Ty70, .sl Setting Ty33, .mp S109 Bool ⟨fun x=>[.int .i64 x.a0, .int .i64 x.a1],qgd,85⟩] fun x=>(x.l,x.r,x.need,x.seen,())
def Ty88:Ty (Option Nat):=TyOf 88 [.fn] fun x=>(x,())
def Ty91:Ty (List (Step×Int)):=TyOf 91 [.mp Step Int ⟨fun x=>[.int .i64 x.element, .int .i64 x.in_],kInt .i64,91⟩] fun x=>(x,())
def Ty97:Ty Step:=TyOf 97 [.int .i64, .int .i64] fun x=>(x.element,x.in_,())
def Ty98:Ty (Option Nat):=TyOf 98 [.fn] fun x=>(x,())
def qGL:Ty (List ((List UInt8)×Bool)):=TyOf 122 [.mp (List UInt8) Bool ⟨kStr,qgd,122⟩] fun x=>(x,())
structure TE where
 α:Type
 T:Ty α
 kc:α→List Value
def tabL:Nat→TE
 |3=>⟨Int,Ty3,kInt .i64⟩
 |4=>⟨Bool,Ty4,qgd⟩
 |5=>⟨UInt8,Ty5,fun _=>[]⟩
 |9=>⟨(List UInt8),Ty9,kStr⟩
 |22=>⟨(List Int),Ty22,fun _=>[]⟩
 |53=>⟨PlantElement,Ty53,fun _=>[]⟩
 |23=>⟨(List PlantElement),Ty23,fun _=>[]⟩
 |70=>⟨Visit,Ty70,fun _=>[]⟩
 |24=>⟨(List Visit),Ty24,fun _=>[]⟩
 |33=>⟨Setting,Ty33,fun _=>[]⟩
 |25=>⟨(List Setting),Ty25,fun _=>[]⟩
 |48=>⟨Maker,Ty48,fun _=>[]⟩
 |60=>⟨(List (Int×Int)),Ty60,fun _=>[]⟩
 |67=>⟨(List (Int×Bool)),Ty67,fun _=>[]⟩
 |71=>⟨(List (Spot×Bool)),Ty71,fun _=>[]⟩
 |72=>⟨(Option Nat),Ty72,fun _=>[]⟩
 |74=>⟨Spot,Ty74,fun x=>[.int .i64 x.element, .int .i64 x.node]⟩
 |85=>⟨(List (S109×Bool)),Ty85,fun _=>[]⟩
 |109=>⟨S109,qGK,fun x=>[.int .i64 x.a0, .int .i64 x.a1]⟩
 |87=>⟨Guardian,Ty87,fun _=>[]⟩
 |88=>⟨(Option Nat),Ty88,fun _=>[]⟩
 |91=>⟨(List (Step×Int)),Ty91,fun _=>[]⟩
 |97=>⟨Step,Ty97,fun x=>[.int .i64 x.element, .int .i64 x.in_]⟩
 |98=>⟨(Option Nat),Ty98,fun _=>[]⟩
 |122=>⟨(List ((List UInt8)×Bool)),qGL,fun _=>[]⟩
 |_=>⟨Bool,qng 4,qgd⟩
def D (t:Nat):Type:=(tabL t).α
def G:Tab D:=⟨fun t=>(tabL t).T,fun t=>(tabL t).kc⟩
def ti3:TI Try.prog G 3:=tiOf [.int .i64] (fun (x:Int)=>(x,())) (fun y=>(y.1:Int)) (fun _=>rfl) (fun _=>rfl) (0:Int) Try.t3 (.int .i64 0) rfl Try.type3 rfl rfl rfl rfl rfl rfl (fun z=>⟨rfl,trivial⟩) rfl
def ti4:TI Try.prog G 4:=tiOf [.bool] (fun (x:Bool)=>(x,())) (fun y=>(y.1:Bool)) (fun _=>rfl) (fun _=>rfl) (false:Bool) Try.t4 (.bool false) rfl Try.type4 rfl rfl rfl rfl rfl rfl (fun z=>⟨rfl,trivial⟩) rfl
def ti5:TI Try.prog G 5:=tiU8 (fun (x:UInt8)=>x) (fun x=>x) (fun x=>x) (fun o=>by cases o<;>rfl) (fun _=>rfl) (fun _=>rfl) Try.t5 rfl rfl (fun _ _ _=>Iff.rfl) Try.type5 rfl rfl rfl
def ti9:TI Try.prog G 9:=tiOf [.str] (fun (x:(List UInt8))=>(x,())) (fun y=>(y.1:(List UInt8))) (fun _=>rfl) (fun _=>rfl) ([]:(List UInt8)) Try.t9 (.string ⟨#[]⟩) rfl Try.type9 rfl rfl rfl rfl rfl rfl (fun z=>⟨rfl,trivial⟩) rfl
def ti22:TI Try.prog G 22:=tiOf [.sl 3] (fun (x:(List Int))=>(x,())) (fun y=>(y.1:(List Int))) (fun _=>rfl) (fun _=>rfl) ([]:(List Int)) Try.t22 (.slice none 0 0) rfl Try.type22 rfl rfl rfl rfl rfl rfl (fun z=>⟨.inl ⟨rfl,rfl⟩,trivial⟩) rfl
def ti53:TI Try.prog G 53:=tiOf [.int .i64, .str, .int .i64, .int .i64, .int .i64, .int .i64] (fun (x:PlantElement)=>(x.kind,x.name,x.a,x.b,x.c,x.length,())) (fun y=>((PlantElement.mk y.1 y.2.1 y.2.2.1 y.2.2.2.1 y.2.2.2.2.1 y.2.2.2.2.2.1):PlantElement)) (fun _=>rfl) (fun _=>rfl) ((PlantElement.mk 0 [] 0 0 0 0):PlantElement) Try.t53 (.agg #[.int .i64 0, .string ⟨#[]⟩, .int .i64 0, .int .i64 0, .int .i64 0, .int .i64 0]) rfl Try.type53 rfl rfl rfl rfl rfl rfl (fun z=>⟨rfl,rfl,rfl,rfl,rfl,rfl,trivial⟩) rfl
def ti23:TI Try.prog G 23:=tiOf [.sl 53] (fun (x:(List PlantElement))=>(x,())) (fun y=>(y.1:(List PlantElement))) (fun _=>rfl) (fun _=>rfl) ([]:(List PlantElement)) Try.t23 (.slice none 0 0) rfl Try.type23 rfl rfl rfl rfl rfl rfl (fun z=>⟨.inl ⟨rfl,rfl⟩,trivial⟩) rfl
def ti70:TI Try.prog G 70:=tiOf [.int .i64, .int .i64, .int .i64] (fun (x:Visit)=>(x.element,x.in_,x.out,())) (fun y=>((Visit.mk y.1 y.2.1 y.2.2.1):Visit)) (fun _=>rfl) (fun _=>rfl) ((Visit.mk 0 0 0):Visit) Try.t70 (.agg #[.int .i64 0, .int .i64 0, .int .i64 0]) rfl Try.type70 rfl rfl rfl rfl rfl rfl (fun z=>⟨rfl,rfl,rfl,trivial⟩) rfl
def ti24:TI Try.prog G 24:=tiOf [.sl 70] (fun (x:(List Visit))=>(x,())) (fun y=>(y.1:(List Visit))) (fun _=>rfl) (fun _=>rfl) ([]:(List Visit)) Try.t24 (.slice none 0 0) rfl Try.type24 rfl rfl rfl rfl rfl rfl (fun z=>⟨.inl ⟨rfl,rfl⟩,trivial⟩) rfl
def ti33:TI Try.prog G 33:=tiOf [.int .i64, .int .i64] (fun (x:Setting)=>(x.element,x.position,())) (fun y=>((Setting.mk y.1 y.2.1):Setting)) (fun _=>rfl) (fun _=>rfl) ((Setting.mk 0 0):Setting) Try.t33 (.agg #[.int .i64 0, .int .i64 0]) rfl Try.type33 rfl rfl rfl rfl rfl rfl (fun z=>⟨rfl,rfl,trivial⟩) rfl
def ti25:TI Try.prog G 25:=tiOf [.sl 33] (fun (x:(List Setting))=>(x,())) (fun y=>(y.1:(List Setting))) (fun _=>rfl) (fun _=>rfl) ([]:(List Setting)) Try.t25 (.slice none 0 0) rfl Try.type25 rfl rfl rfl rfl rfl rfl (fun z=>⟨.inl ⟨rfl,rfl⟩,trivial⟩) rfl
def ti48:TI Try.prog G 48:=tiOf [.sl 3, .int .i64] (fun (x:Maker)=>(x.l,x.n,())) (fun y=>((Maker.mk y.1 y.2.1):Maker)) (fun _=>rfl) (fun _=>rfl) ((Maker.mk [] 0):Maker) Try.t48 (.agg #[.slice none 0 0, .int .i64 0]) rfl Try.type48 rfl rfl rfl rfl rfl rfl (fun z=>⟨.inl ⟨rfl,rfl⟩,rfl,trivial⟩) rfl
def ti60:TI Try.prog G 60:=tiOf [.mp 60 3 3] (fun (x:(List (Int×Int)))=>(x,())) (fun y=>(y.1:(List (Int×Int)))) (fun _=>rfl) (fun _=>rfl) ([]:(List (Int×Int))) Try.t60 (.map none) rfl Try.type60 rfl rfl rfl rfl rfl rfl (fun z=>⟨.inl ⟨rfl,rfl⟩,trivial⟩) rfl
def ti67:TI Try.prog G 67:=tiOf [.mp 67 3 4] (fun (x:(List (Int×Bool)))=>(x,())) (fun y=>(y.1:(List (Int×Bool)))) (fun _=>rfl) (fun _=>rfl) ([]:(List (Int×Bool))) Try.t67 (.map none) rfl Try.type67 rfl rfl rfl rfl rfl rfl (fun z=>⟨.inl ⟨rfl,rfl⟩,trivial⟩) rfl
def ti71:TI Try.prog G 71:=tiOf [.mp 71 74 4] (fun (x:(List (Spot×Bool)))=>(x,())) (fun y=>(y.1:(List (Spot×Bool)))) (fun _=>rfl) (fun _=>rfl) ([]:(List (Spot×Bool))) Try.t71 (.map none) rfl Try.type71 rfl rfl rfl rfl rfl rfl (fun z=>⟨.inl ⟨rfl,rfl⟩,trivial⟩) rfl
def ti72:TI Try.prog G 72:=tiOf [.fn] (fun (x:(Option Nat))=>(x,())) (fun y=>(y.1:(Option Nat))) (fun _=>rfl) (fun _=>rfl) ((none:Option Nat):(Option Nat)) Try.t72 (.nilFunc) rfl Try.type72 rfl rfl rfl rfl rfl rfl (fun z=>⟨rfl,trivial⟩) rfl
def ti74:TI Try.prog G 74:=tiOf [.int .i64, .int .i64] (fun (x:Spot)=>(x.element,x.node,())) (fun y=>((Spot.mk y.1 y.2.1):Spot)) (fun _=>rfl) (fun _=>rfl) ((Spot.mk 0 0):Spot) Try.t74 (.agg #[.int .i64 0, .int .i64 0]) rfl Try.type74 rfl rfl rfl rfl rfl rfl (fun z=>⟨rfl,rfl,trivial⟩) rfl
def ti85:TI Try.prog G 85:=tiOf [.mp 85 109 4] (fun (x:(List (S109×Bool)))=>(x,())) (fun y=>(y.1:(List (S109×Bool)))) (fun _=>rfl) (fun _=>rfl) ([]:(List (S109×Bool))) Try.t85 (.map none) rfl Try.type85 rfl rfl rfl rfl rfl rfl (fun z=>⟨.inl ⟨rfl,rfl⟩,trivial⟩) rfl
def qGo:TI Try.prog G 109:=tiOf [.int .i64, .int .i64] (fun (x:S109)=>(x.a0,x.a1,())) (fun y=>((S109.mk y.1 y.2.1):S109)) (fun _=>rfl) (fun _=>rfl) ((S109.mk 0 0):S109) Try.t109 (.agg #[.int .i64 0, .int .i64 0]) rfl Try.type109 rfl rfl rfl rfl rfl rfl (fun z=>⟨rfl,rfl,trivial⟩) rfl
def ti87:TI Try.prog G 87:=tiOf [.sl 53, .sl 70, .sl 33, .mp 85 109 4] (fun (x:Guardian)=>(x.l,x.r,x.need,x.seen,())) (fun y=>((Guardian.mk y.1 y.2.1 y.2.2.1 y.2.2.2.1):Guardian)) (fun _=>rfl) (fun _=>rfl) ((Guardian.mk [] [] [] []):Guardian) Try.t87 (.agg #[.slice none 0 0, .slice none 0 0, .slice none 0 0, .map none]) rfl Try.type87 rfl rfl rfl rfl rfl rfl (fun z=>⟨.inl ⟨rfl,rfl⟩, .inl ⟨rfl,rfl⟩, .inl ⟨rfl,rfl⟩, .inl ⟨rfl,rfl⟩,trivial⟩) rfl
def ti88:TI Try.prog G 88:=tiOf [.fn] (fun (x:(Option Nat))=>(x,())) (fun y=>(y.1:(Option Nat))) (fun _=>rfl) (fun _=>rfl) ((none:Option Nat):(Option Nat)) Try.t88 (.nilFunc) rfl Try.type88 rfl rfl rfl rfl rfl rfl (fun z=>⟨rfl,trivial⟩) rfl
def ti91:TI Try.prog G 91:=tiOf [.mp 91 97 3] (fun (x:(List (Step×Int)))=>(x,())) (fun y=>(y.1:(List (Step×Int)))) (fun _=>rfl) (fun _=>rfl) ([]:(List (Step×Int))) Try.t91 (.map none) rfl Try.type91 rfl rfl rfl rfl rfl rfl (fun z=>⟨.inl ⟨rfl,rfl⟩,trivial⟩) rfl
def ti97:TI Try.prog G 97:=tiOf [.int .i64, .int .i64] (fun (x:Step)=>(x.element,x.in_,())) (fun y=>((Step.mk y.1 y.2.1):Step)) (fun _=>rfl) (fun _=>rfl) ((Step.mk 0 0):Step) Try.t97 (.agg #[.int .i64 0, .int .i64 0]) rfl Try.type97 rfl rfl rfl rfl rfl rfl (fun z=>⟨rfl,rfl,trivial⟩) rfl
def ti98:TI Try.prog G 98:=tiOf [.fn] (fun (x:(Option Nat))=>(x,())) (fun y=>(y.1:(Option Nat))) (fun _=>rfl) (fun _=>rfl) ((none:Option Nat):(Option Nat)) Try.t98 (.nilFunc) rfl Try.type98 rfl rfl rfl rfl rfl rfl (fun z=>⟨rfl,trivial⟩) rfl
def qHE:TI Try.prog G 122:=tiOf [.mp 122 9 4] (fun (x:(List ((List UInt8)×Bool)))=>(x,())) (fun y=>(y.1:(List ((List UInt8)×Bool)))) (fun _=>rfl) (fun _=>rfl) ([]:(List ((List UInt8)×Bool))) Try.t122 (.map none) rfl Try.type122 rfl rfl rfl rfl rfl rfl (fun z=>⟨.inl ⟨rfl,rfl⟩,trivial⟩) rfl
def qi33:QI Try.prog G 33:=qiOf [.int .i64, .int .i64] (fun (x:Setting)=>(x.element,x.position,())) (fun y=>((Setting.mk y.1 y.2.1):Setting)) (fun _=>rfl) _ (fun (x y:Setting)=>decide (x=y)) rfl (fun (x y:Setting)=>decide_eq_true_iff) Try.underlying33 (by kernel_rfl) (by kernel_rfl) (by kernel_rfl)
def bi5:BI Try.prog G 5:=⟨fun xs=>xs,fun xs=>xs,fun _ _ _ h=>h,fun _ _ _ _ _ _ h=>h,fun _ _ _ _ _ _ h=>h,Try.t5,Try.underlying5,Try.type5,rfl⟩
def ki3:KI Try.prog G 3:=kiI .i64 (fun n=>n) (inferInstance:DecidableEq Int) Try.t3 Try.underlying3 (qFN Try.underlying3 Try.type3 rfl) (fun _=>rfl)
def vi3:VI Try.prog G 3:=viI .i64 (fun n=>n) (fun n=>n) (fun _=>rfl) Try.t3 Try.underlying3 Try.type3 (qGs Try.underlying3 Try.type3 rfl) (fun _=>rfl) rfl
def vi4:VI Try.prog G 4:=viB (fun n=>n) (fun n=>n) (fun _=>rfl) Try.t4 Try.underlying4 Try.type4 (qA3 Try.underlying4 Try.type4 rfl) (fun _=>rfl) rfl
def ki74:KI Try.prog G 74:=kiA (inferInstance:DecidableEq Spot) ti74 [.int .i64, .int .i64] (fun (x:Spot)=>(x.element,x.node,())) (fun y=>((Spot.mk y.1 y.2.1):Spot)) (fun _=>rfl) _ Try.t74 rfl Try.underlying74 Try.type74 (by kernel_rfl) rfl (by kernel_rfl) (fun _=>rfl) (fun _=>rfl)
def qG9:KI Try.prog G 109:=kiP .i64 (inferInstance:DecidableEq S109) qGo (fun (x:S109)=>(x.a0,x.a1,())) (fun y=>((S109.mk y.1 y.2.1):S109)) (fun _=>rfl) (e:=3) Try.t109 Try.t3 rfl Try.underlying109 Try.underlying3 Try.type3 rfl Try.type109 rfl (fun _=>rfl)
def ki97:KI Try.prog G 97:=kiA (inferInstance:DecidableEq Step) ti97 [.int .i64, .int .i64] (fun (x:Step)=>(x.element,x.in_,())) (fun y=>((Step.mk y.1 y.2.1):Step)) (fun _=>rfl) _ Try.t97 rfl Try.underlying97 Try.type97 (by kernel_rfl) rfl (by kernel_rfl) (fun _=>rfl) (fun _=>rfl)
def ki9:KI Try.prog G 9:=kiS (fun n=>n) (inferInstance:DecidableEq (List UInt8)) Try.underlying9 (qFO Try.underlying9 Try.type9 rfl) (fun _=>rfl)
def qGM:AI Try.prog G 108:=⟨3,64,ti3,Try.t108, .agg #[.int .i64 0, .int .i64 0, .int .i64 0, .int .i64 0, .int .i64 0, .int .i64 0, .int .i64 0, .int .i64 0, .int .i64 0, .int .i64 0, .int .i64 0, .int .i64 0, .int .i64 0, .int .i64 0, .int .i64 0, .int .i64 0, .int .i64 0, .int .i64 0, .int .i64 0, .int .i64 0, .int .i64 0, .int .i64 0, .int .i64 0, .int .i64 0, .int .i64 0, .int .i64 0, .int .i64 0, .int .i64 0, .int .i64 0, .int .i64 0, .int .i64 0, .int .i64 0, .int .i64 0, .int .i64 0, .int .i64 0, .int .i64 0, .int .i64 0, .int .i64 0, .int .i64 0, .int .i64 0, .int .i64 0, .int .i64 0, .int .i64 0, .int .i64 0, .int .i64 0, .int .i64 0, .int .i64 0, .int .i64 0, .int .i64 0, .int .i64 0, .int .i64 0, .int .i64 0, .int .i64 0, .int .i64 0, .int .i64 0, .int .i64 0, .int .i64 0, .int .i64 0, .int .i64 0, .int .i64 0, .int .i64 0, .int .i64 0, .int .i64 0, .int .i64 0],Try.underlying108,Try.type108,rfl,rfl,rfl,rfl,rfl⟩
def qAY:SI Try.prog G:=siOf (t:=33) [.int .i64, .int .i64] (fun (x:Setting)=>(x.element,x.position,())) rfl rfl ((Setting.mk 0 0):Setting) (fun (x:Setting)=>x.element) qpf 31 32 rfl (by kernel_rfl) Try.isAgg33 Try.sizeOf33 (Go.Proofs.enters_of Try.func32 (by kernel_rfl) rfl) rfl qCA
def si31_56:SI Try.prog G:=siOf (t:=33) [.int .i64, .int .i64] (fun (x:Setting)=>(x.element,x.position,())) rfl rfl ((Setting.mk 0 0):Setting) (fun (x:Setting)=>x.element) qpf 31 56 rfl (by kernel_rfl) Try.isAgg33 Try.sizeOf33 (Go.Proofs.enters_of Try.func56 (by kernel_rfl) rfl) rfl qCB
def X0:Ev Try.prog D where
 G:=G
 S:=[qAY,si31_56]
 I:=fun t=>match t with|3=>some ti3|4=>some ti4|5=>some ti5|9=>some ti9|22=>some ti22|53=>some ti53|23=>some ti23|70=>some ti70|24=>some ti24|33=>some ti33|25=>some ti25|48=>some ti48|60=>some ti60|67=>some ti67|71=>some ti71|72=>some ti72|74=>some ti74|85=>some ti85|109=>some qGo|87=>some ti87|88=>some ti88|91=>some ti91|97=>some ti97|98=>some ti98|122=>some qHE|_=>none
 A:=fun t=>match t with|108=>some qGM|_=>none
 J:=fun k v=>match k,v with|3,3=>some (miOf ki3 vi3)|3,4=>some (miOf ki3 vi4)|9,4=>some (miOf ki9 vi4)|74,4=>some (miOf ki74 vi4)|97,3=>some (miOf ki97 vi3)|109,4=>some (miOf qG9 vi4)|_,_=>none
 B:=fun t=>match t with|5=>some bi5|_=>none
 Q:=fun t=>match t with|33=>some qi33|_=>none
 F:=fun _ _ _=>false
 C:=fun _ _ _ _ _=>none
def fs0 (N:Nat):List (FE D):=[]
theorem all0 (N:Nat):∀y∈fs0 N,CallOk X0 y.d y.F:=fun y h=>absurd h (by simp[fs0])
def X00 (N:Nat):Ev Try.prog D:=X0.with (fs0 N)
theorem cok0 (N:Nat):COk (X00 N):=COk.of (all0 N)
def qyA (N:Nat):List (Pc D):=[]
theorem qsP (N:Nat):∀u∈qyA N,PcOk (X00 N) (qab Try.f7) u:=qaj
def dzcK:FD D:={f:=7,np:=1,ins:=[.v 0 (.sl 3)],fx:=[],rcv:=none,rk:=0,outs:=[.o 2 (.box 48)],ofx:=[(2, .box 0 0)],rvs:=[.tmp 2],flat:=false}
def FzcK (N:Nat):dzcK.F:=fun r x=>zcK N x.1
theorem ozcK (N:Nat):FOk Try.prog (X00 N) dzcK (FzcK N):=⟨⟨Try.f7,_,Try.func7,rfl,by kernel_rfl,by kernel_rfl,rfl,FC.of (cok0 N) (us:=qyA N) (fun u h _=>qsP N u h) (fun r x=>by kernel_rfl)⟩,by kernel_rfl,by kernel_rfl,by kernel_rfl,by kernel_rfl⟩
def fs1 (N:Nat):List (FE D):=⟨dzcK,FzcK N⟩::fs0 N
theorem all1 (N:Nat):∀y∈fs1 N,CallOk X0 y.d y.F:=all_cons (x:=⟨dzcK,FzcK N⟩) (ozcK N) (all0 N)
def X1 (N:Nat):Ev Try.prog D:=X0.with (fs1 N)
theorem cok1 (N:Nat):COk (X1 N):=COk.of (all1 N)
def qyu (N:Nat):List (Pc D):=[]
theorem qsJ (N:Nat):∀u∈qyu N,PcOk (X1 N) (qab Try.f41) u:=qaj
def dzbB:FD D:={f:=41,np:=1,ins:=[.v 0 (.int .i64)],fx:=[],rcv:=none,rk:=0,outs:=[.v 2 .str],ofx:=[],rvs:=[.tmp 2],flat:=true}
def FzbB (N:Nat):dzbB.F:=fun r x=>zbB N x.1
theorem ozbB (N:Nat):FOk Try.prog (X1 N) dzbB (FzbB N):=⟨⟨Try.f41,_,Try.func41,rfl,by kernel_rfl,by kernel_rfl,rfl,FC.of (cok1 N) (us:=qyu N) (fun u h _=>qsJ N u h) (fun r x=>by kernel_rfl)⟩,by kernel_rfl,by kernel_rfl,by kernel_rfl,by kernel_rfl⟩
def fs2 (N:Nat):List (FE D):=⟨dzbB,FzbB N⟩::fs1 N
theorem all2 (N:Nat):∀y∈fs2 N,CallOk X0 y.d y.F:=all_cons (x:=⟨dzbB,FzbB N⟩) (ozbB N) (all1 N)
def X2 (N:Nat):Ev Try.prog D:=X0.with (fs2 N)
theorem cok2 (N:Nat):COk (X2 N):=COk.of (all2 N)
def qpW (N:Nat):List (Pc D):=[]
theorem qj2 (N:Nat):∀u∈qpW N,PcOk (X2 N) (qab Try.f10) u:=qaj
def PzbM_0:PD D:={path:=[1,1,0,1],ins:=[.o 0 (.recv 48), .v 5 (.int .i64), .v 11 .bool],fx:=[(0, .box 0 0)],ks:=[1],exs:=[⟨.normal,[.v 5 (.int .i64)],[]⟩],keep:=[0,1]}
def qwG (N:Nat):PzbM_0.F:=fun x=>quU N x.1 x.2.1 x.2.2.1
theorem qEs (N:Nat):CC (X2 N) (qab Try.f10) PzbM_0 (qwG N):=CC.of (cok2 N) (us:=qpW N) (fun u h _=>qj2 N u h) (fun x=>by kernel_rfl)
def qrk (N:Nat):List (Pc D):=PzbM_0.pc (X2 N) (qwG N)::qpW N
theorem qlq (N:Nat):∀u∈qrk N,PcOk (X2 N) (qab Try.f10) u:=qac ((qEs N).pc (by kernel_rfl)) (qj2 N)
def PzbM_1:PD D:={path:=[1,1,1,1,1,0,1],ins:=[.o 0 (.recv 48), .v 1 (.int .i64), .v 5 (.int .i64), .v 51 .bool],fx:=[(0, .box 0 0)],ks:=[1],exs:=[⟨.normal,[.v 5 (.int .i64)],[]⟩],keep:=[0]}
def qwH (N:Nat):PzbM_1.F:=fun x=>qBr N x.2.1 x.2.2.1 x.2.2.2.1
theorem qEt (N:Nat):CC (X2 N) (qab Try.f10) PzbM_1 (qwH N):=CC.of (cok2 N) (us:=qrk N) (fun u h _=>qlq N u h) (fun x=>by kernel_rfl)
def qy8 (N:Nat):List (Pc D):=PzbM_1.pc (X2 N) (qwH N)::qrk N
theorem qtm (N:Nat):∀u∈qy8 N,PcOk (X2 N) (qab Try.f10) u:=qac ((qEt N).pc (by kernel_rfl)) (qlq N)
def dzbM:FD D:={f:=10,np:=2,ins:=[.v 1 (.int .i64)],fx:=[],rcv:=some (0,48),rk:=2,outs:=[.v 4 (.int .i64), .u 0 (.recv 48)],ofx:=[],rvs:=[.tmp 4],flat:=false}
def FzbM (N:Nat):dzbM.F:=fun r x=>zbM N r x.1
theorem ozbM (N:Nat):FOk Try.prog (X2 N) dzbM (FzbM N):=⟨⟨Try.f10,_,Try.func10,rfl,by kernel_rfl,by kernel_rfl,rfl,FC.of (cok2 N) (us:=qy8 N) (fun u h _=>qtm N u h) (fun r x=>by kernel_rfl)⟩,by kernel_rfl,by kernel_rfl,by kernel_rfl,by kernel_rfl⟩
def fs3 (N:Nat):List (FE D):=⟨dzbM,FzbM N⟩::fs2 N
theorem all3 (N:Nat):∀y∈fs3 N,CallOk X0 y.d y.F:=all_cons (x:=⟨dzbM,FzbM N⟩) (ozbM N) (all2 N)
def X3 (N:Nat):Ev Try.prog D:=X0.with (fs3 N)
theorem cok3 (N:Nat):COk (X3 N):=COk.of (all3 N)
def qyw (N:Nat):List (Pc D):=[]
theorem qsL (N:Nat):∀u∈qyw N,PcOk (X3 N) (qab Try.f22) u:=qaj
def dzbN:FD D:={f:=22,np:=2,ins:=[.v 1 (.sl 3)],fx:=[],rcv:=some (0,48),rk:=2,outs:=[.v 4 (.int .i64), .u 0 (.recv 48)],ofx:=[],rvs:=[.tmp 4],flat:=false}
def FzbN (N:Nat):dzbN.F:=fun r x=>zbN N r x.1
theorem ozbN (N:Nat):FOk Try.prog (X3 N) dzbN (FzbN N):=⟨⟨Try.f22,_,Try.func22,rfl,by kernel_rfl,by kernel_rfl,rfl,FC.of (cok3 N) (us:=qyw N) (fun u h _=>qsL N u h) (fun r x=>by kernel_rfl)⟩,by kernel_rfl,by kernel_rfl,by kernel_rfl,by kernel_rfl⟩
def fs4 (N:Nat):List (FE D):=⟨dzbN,FzbN N⟩::fs3 N
theorem all4 (N:Nat):∀y∈fs4 N,CallOk X0 y.d y.F:=all_cons (x:=⟨dzbN,FzbN N⟩) (ozbN N) (all3 N)
def X4 (N:Nat):Ev Try.prog D:=X0.with (fs4 N)
theorem cok4 (N:Nat):COk (X4 N):=COk.of (all4 N)
def Y4 (N:Nat):Ev Try.prog D:=(X4 N).cuts fun x lo hi=>match x,lo,hi with| .tmp 42,none,some (.tmp 43)=>1| .tmp 45,some (.tmp 47),none=>1| .tmp 80,none,some (.tmp 83)=>2| .tmp 178,some (.const _),none=>2|_,_,_=>0
theorem qe8 (N:Nat):COk (Y4 N):=COk.cuts (cok4 N)
def qpI (N:Nat):List (Pc D):=[]
theorem qjO (N:Nat):∀u∈qpI N,PcOk (Y4 N) (qab Try.f19) u:=qaj
def PzaV_0:PD D:={path:=[1,1,1,0,1],ins:=[.o 0 (.recv 48), .o 5 (.sl 53), .o 6 (.sl 3), .v 17 .bool],fx:=[(0, .box 0 0),(5, .c (.own 1)),(6, .c (.own 2))],ks:=[1,1,0],exs:=[⟨.normal,[.o 6 (.sl 3)],[(6, .c (.own 3))]⟩],keep:=[0,1,5,7]}
def qvZ (N:Nat):PzaV_0.F:=fun x=>quy N x.2.2.1 x.2.2.2.1
theorem qDL (N:Nat):CC (Y4 N) (qab Try.f19) PzaV_0 (qvZ N):=CC.of (qe8 N) (us:=qpI N) (fun u h _=>qjO N u h) (fun x=>by kernel_rfl)
def qqR (N:Nat):List (Pc D):=PzaV_0.pc (Y4 N) (qvZ N)::qpI N
theorem qkX (N:Nat):∀u∈qqR N,PcOk (Y4 N) (qab Try.f19) u:=qac ((qDL N).pc (by kernel_rfl)) (qjO N)
def PzaV_2:PD D:={path:=[1,1,1,1,0,0,0,0,0],ins:=[.o 0 (.recv 48), .v 1 (.int .i64), .o 5 (.sl 53), .o 6 (.sl 3), .v 7 (.int .i64)],fx:=[(0, .box 0 0),(5, .c (.own 1)),(6, .c (.own 2))],ks:=[1,1,1],exs:=[⟨.normal,[.v 33 .bool],[]⟩],keep:=[0,1,5,6,7]}
def qv1 (N:Nat):PzaV_2.F:=fun x=>quz N x.2.1 x.2.2.1 x.2.2.2.1 x.2.2.2.2.1
theorem qDN (N:Nat):CC (Y4 N) (qab Try.f19) PzaV_2 (qv1 N):=CC.of (qe8 N) (us:=qqR N) (fun u h _=>qkX N u h) (fun x=>by kernel_rfl)
def qqT (N:Nat):List (Pc D):=PzaV_2.pc (Y4 N) (qv1 N)::qqR N
theorem qkZ (N:Nat):∀u∈qqT N,PcOk (Y4 N) (qab Try.f19) u:=qac ((qDN N).pc (by kernel_rfl)) (qkX N)
def PzaV_4:PD D:={path:=[1,1,1,1,0,0,0,1,0,1,1,1,1,0,1,0,0,1],ins:=[.o 0 (.recv 48), .o 5 (.sl 53), .o 6 (.sl 3), .o 10 (.box 53), .v 55 (.int .i64), .v 96 .bool],fx:=[(0, .box 0 0),(5, .c (.own 1)),(6, .c (.own 2)),(10, .box 3 0)],ks:=[1,1,1,1],exs:=[⟨.normal,[.v 96 .bool],[]⟩],keep:=[0,1,5,6,7,9,10,55]}
def qv3 (N:Nat):PzaV_4.F:=fun x=>quB N x.2.2.2.2.1 x.2.2.2.2.2.1
theorem qDP (N:Nat):CC (Y4 N) (qab Try.f19) PzaV_4 (qv3 N):=CC.of (qe8 N) (us:=qqT N) (fun u h _=>qkZ N u h) (fun x=>by kernel_rfl)
def qqV (N:Nat):List (Pc D):=PzaV_4.pc (Y4 N) (qv3 N)::qqT N
theorem qk1 (N:Nat):∀u∈qqV N,PcOk (Y4 N) (qab Try.f19) u:=qac ((qDP N).pc (by kernel_rfl)) (qkZ N)
def PzaV_5:PD D:={path:=[1,1,1,1,0,0,0,1,0,1,1,1,1,0,1,0,1,1,1,1,1,1,1,0],ins:=[.o 0 (.recv 48), .o 5 (.sl 53), .o 6 (.sl 3), .o 10 (.box 53)],fx:=[(0, .box 0 0),(5, .c (.own 1)),(6, .c (.own 2)),(10, .box 3 0)],ks:=[2,1,1,1],exs:=[⟨.normal,[.u 0 (.recv 48), .v 72 .bool],[]⟩],keep:=[0,1,5,6,7,10]}
def qv4 (N:Nat):PzaV_5.F:=fun x=>qBk N x.1 x.2.2.1
theorem qDQ (N:Nat):CC (Y4 N) (qab Try.f19) PzaV_5 (qv4 N):=CC.of (qe8 N) (us:=qqV N) (fun u h _=>qk1 N u h) (fun x=>by kernel_rfl)
def qqW (N:Nat):List (Pc D):=PzaV_5.pc (Y4 N) (qv4 N)::qqV N
theorem qk2 (N:Nat):∀u∈qqW N,PcOk (Y4 N) (qab Try.f19) u:=qac ((qDQ N).pc (by kernel_rfl)) (qk1 N)
def PzaV_3:PD D:={path:=[1,1,1,1,0,0,0,1,0,1,1,1,1,0,1],ins:=[.o 0 (.recv 48), .o 5 (.sl 53), .o 6 (.sl 3), .v 7 (.int .i64), .v 9 (.int .i64), .o 10 (.box 53), .v 55 (.int .i64)],fx:=[(0, .box 0 0),(5, .c (.own 1)),(6, .c (.own 2)),(10, .box 3 0)],ks:=[2,1,0,2],exs:=[⟨.normal,[.u 0 (.recv 48), .o 6 (.sl 3), .v 7 (.int .i64), .u 3 (.box 53)],[(6, .c (.own 4))]⟩],keep:=[0,1,5,10]}
def qv2 (N:Nat):PzaV_3.F:=fun x=>quA N x.1 x.2.2.1 x.2.2.2.1 x.2.2.2.2.1 x.2.2.2.2.2.1 x.2.2.2.2.2.2.1
theorem qDO (N:Nat):CC (Y4 N) (qab Try.f19) PzaV_3 (qv2 N):=CC.of (qe8 N) (us:=qqW N) (fun u h _=>qk2 N u h) (fun x=>by kernel_rfl)
def qqU (N:Nat):List (Pc D):=PzaV_3.pc (Y4 N) (qv2 N)::qqW N
theorem qk0 (N:Nat):∀u∈qqU N,PcOk (Y4 N) (qab Try.f19) u:=qac ((qDO N).pc (by kernel_rfl)) (qk2 N)
def PzaV_1:PD D:={path:=[1,1,1,1,0,0],ins:=[.o 0 (.recv 48), .v 1 (.int .i64), .o 5 (.sl 53), .o 6 (.sl 3), .v 7 (.int .i64)],fx:=[(0, .box 0 0),(5, .c (.own 1)),(6, .c (.own 2))],ks:=[2,0,0],exs:=[⟨.exit 0,[.u 0 (.recv 48), .o 5 (.sl 53), .o 6 (.sl 3), .v 7 (.int .i64)],[(5, .c (.own 3)),(6, .c (.own 4))]⟩],keep:=[0]}
def qv0 (N:Nat) (n:Nat):PzaV_1.F:=fun x=>qrY N x.2.1 n x.1 x.2.2.1 x.2.2.2.1 x.2.2.2.2.1
theorem qDM (N:Nat) (n:Nat):CC (Y4 N) (qab Try.f19) PzaV_1 (qv0 N n):=CC.loop (qe8 N) (us:=qqU N) (c:=sub (qab Try.f19) [1,1,1,1,0,0,0]) (by kernel_rfl) (by kernel_rfl) (fun u h _=>qk0 N u h) (fun x=>rfl) (fun n x=>by kernel_rfl) n
def qqS (N:Nat):List (Pc D):=PzaV_1.pc (Y4 N) (qv0 N N)::qqU N
theorem qkY (N:Nat):∀u∈qqS N,PcOk (Y4 N) (qab Try.f19) u:=qac ((qDM N N).pc (by kernel_rfl)) (qk0 N)
def PzaV_7:PD D:={path:=[1,1,1,1,1,0,0,0,0,0],ins:=[.o 0 (.recv 48), .o 5 (.sl 53), .o 6 (.sl 3), .v 7 (.int .i64)],fx:=[(0, .box 0 0),(5, .c (.own 1)),(6, .c (.own 2))],ks:=[1,1,1],exs:=[⟨.normal,[.v 161 .bool],[]⟩],keep:=[0,5,6,7]}
def qv6 (N:Nat):PzaV_7.F:=fun x=>quC N x.2.1 x.2.2.1 x.2.2.2.1
theorem qDS (N:Nat):CC (Y4 N) (qab Try.f19) PzaV_7 (qv6 N):=CC.of (qe8 N) (us:=qqS N) (fun u h _=>qkY N u h) (fun x=>by kernel_rfl)
def qqX (N:Nat):List (Pc D):=PzaV_7.pc (Y4 N) (qv6 N)::qqS N
theorem qk3 (N:Nat):∀u∈qqX N,PcOk (Y4 N) (qab Try.f19) u:=qac ((qDS N).pc (by kernel_rfl)) (qkY N)
def PzaV_8:PD D:={path:=[1,1,1,1,1,0,0,0,1,0,0,1],ins:=[.o 0 (.recv 48), .o 5 (.sl 53), .o 6 (.sl 3), .v 7 (.int .i64), .v 164 .bool],fx:=[(0, .box 0 0),(5, .c (.own 1)),(6, .c (.own 2))],ks:=[1,0,1],exs:=[⟨.normal,[.o 5 (.sl 53), .v 7 (.int .i64)],[(5, .c (.own 3))]⟩],keep:=[0,6]}
def qv7 (N:Nat):PzaV_8.F:=fun x=>qBl N x.2.1 x.2.2.1 x.2.2.2.1 x.2.2.2.2.1
theorem qDT (N:Nat):CC (Y4 N) (qab Try.f19) PzaV_8 (qv7 N):=CC.of (qe8 N) (us:=qqX N) (fun u h _=>qk3 N u h) (fun x=>by kernel_rfl)
def qqY (N:Nat):List (Pc D):=PzaV_8.pc (Y4 N) (qv7 N)::qqX N
theorem qk4 (N:Nat):∀u∈qqY N,PcOk (Y4 N) (qab Try.f19) u:=qac ((qDT N).pc (by kernel_rfl)) (qk3 N)
def PzaV_6:PD D:={path:=[1,1,1,1,1,0,0],ins:=[.o 0 (.recv 48), .o 5 (.sl 53), .o 6 (.sl 3), .v 7 (.int .i64)],fx:=[(0, .box 0 0),(5, .c (.own 1)),(6, .c (.own 2))],ks:=[2,0,0],exs:=[⟨.exit 3,[.u 0 (.recv 48), .o 5 (.sl 53)],[(5, .c (.own 3))]⟩],keep:=[0]}
def qv5 (N:Nat) (n:Nat):PzaV_6.F:=fun x=>qrZ N n x.1 x.2.1 x.2.2.1 x.2.2.2.1
theorem qDR (N:Nat) (n:Nat):CC (Y4 N) (qab Try.f19) PzaV_6 (qv5 N n):=CC.loop (qe8 N) (us:=qqY N) (c:=sub (qab Try.f19) [1,1,1,1,1,0,0,0]) (by kernel_rfl) (by kernel_rfl) (fun u h _=>qk4 N u h) (fun x=>rfl) (fun n x=>by kernel_rfl) n
def qyU (N:Nat):List (Pc D):=PzaV_6.pc (Y4 N) (qv5 N N)::qqY N
theorem qs8 (N:Nat):∀u∈qyU N,PcOk (Y4 N) (qab Try.f19) u:=qac ((qDR N N).pc (by kernel_rfl)) (qk4 N)
def dzaV:FD D:={f:=19,np:=2,ins:=[.v 1 (.int .i64)],fx:=[],rcv:=some (0,48),rk:=2,outs:=[.o 4 (.sl 53), .u 0 (.recv 48)],ofx:=[(4, .c (.own 1))],rvs:=[.tmp 4],flat:=false}
def FzaV (N:Nat):dzaV.F:=fun r x=>zaV N r x.1
theorem ozaV (N:Nat):FOk Try.prog (Y4 N) dzaV (FzaV N):=⟨⟨Try.f19,_,Try.func19,rfl,by kernel_rfl,by kernel_rfl,rfl,FC.of (qe8 N) (us:=qyU N) (fun u h _=>qs8 N u h) (fun r x=>by kernel_rfl)⟩,by kernel_rfl,by kernel_rfl,by kernel_rfl,by kernel_rfl⟩
def fs5 (N:Nat):List (FE D):=⟨dzaV,FzaV N⟩::fs4 N
theorem all5 (N:Nat):∀y∈fs5 N,CallOk X0 y.d y.F:=qr1 (x:=⟨dzaV,FzaV N⟩) ((ozaV N).call.cuts) (all4 N)
def X5 (N:Nat):Ev Try.prog D:=X0.with (fs5 N)
theorem cok5 (N:Nat):COk (X5 N):=COk.of (all5 N)
def qpB (N:Nat):List (Pc D):=[]
theorem qjH (N:Nat):∀u∈qpB N,PcOk (X5 N) (qab Try.f42) u:=qaj
def PzaN_1:PD D:={path:=[1,1,0,1,0,0,1,0],ins:=[.v 0 (.sl 53), .o 3 (.sl 3), .v 4 (.int .i64)],fx:=[(3, .c (.own 0))],ks:=[0],exs:=[⟨.normal,[.o 3 (.sl 3)],[(3, .c (.own 1))]⟩],keep:=[0,4]}
def qvA (N:Nat):PzaN_1.F:=fun x=>qA9 N x.1 x.2.1 x.2.2.1
theorem qDm (N:Nat):CC (X5 N) (qab Try.f42) PzaN_1 (qvA N):=CC.of (cok5 N) (us:=qpB N) (fun u h _=>qjH N u h) (fun x=>by kernel_rfl)
def qqz (N:Nat):List (Pc D):=PzaN_1.pc (X5 N) (qvA N)::qpB N
theorem qkF (N:Nat):∀u∈qqz N,PcOk (X5 N) (qab Try.f42) u:=qac ((qDm N).pc (by kernel_rfl)) (qjH N)
def PzaN_0:PD D:={path:=[1,1,0,1,0],ins:=[.v 0 (.sl 53), .o 3 (.sl 3), .v 4 (.int .i64)],fx:=[(3, .c (.own 0))],ks:=[0],exs:=[⟨.exit 0,[.o 3 (.sl 3)],[(3, .c (.own 1))]⟩],keep:=[]}
def qvz (N:Nat) (n:Nat):PzaN_0.F:=fun x=>qm5 N x.1 n x.2.1 x.2.2.1
theorem qDl (N:Nat) (n:Nat):CC (X5 N) (qab Try.f42) PzaN_0 (qvz N n):=CC.loop (cok5 N) (us:=qqz N) (c:=sub (qab Try.f42) [1,1,0,1,0,0]) (by kernel_rfl) (by kernel_rfl) (fun u h _=>qkF N u h) (fun x=>rfl) (fun n x=>by kernel_rfl) n
def qyM (N:Nat):List (Pc D):=PzaN_0.pc (X5 N) (qvz N N)::qqz N
theorem qs0 (N:Nat):∀u∈qyM N,PcOk (X5 N) (qab Try.f42) u:=qac ((qDl N N).pc (by kernel_rfl)) (qkF N)
def dzaN:FD D:={f:=42,np:=1,ins:=[.v 0 (.sl 53)],fx:=[],rcv:=none,rk:=0,outs:=[.o 2 (.sl 3)],ofx:=[(2, .c (.own 0))],rvs:=[.tmp 2],flat:=false}
def FzaN (N:Nat):dzaN.F:=fun r x=>zaN N x.1
theorem ozaN (N:Nat):FOk Try.prog (X5 N) dzaN (FzaN N):=⟨⟨Try.f42,_,Try.func42,rfl,by kernel_rfl,by kernel_rfl,rfl,FC.of (cok5 N) (us:=qyM N) (fun u h _=>qs0 N u h) (fun r x=>by kernel_rfl)⟩,by kernel_rfl,by kernel_rfl,by kernel_rfl,by kernel_rfl⟩
def fs6 (N:Nat):List (FE D):=⟨dzaN,FzaN N⟩::fs5 N
theorem all6 (N:Nat):∀y∈fs6 N,CallOk X0 y.d y.F:=all_cons (x:=⟨dzaN,FzaN N⟩) (ozaN N) (all5 N)
def X6 (N:Nat):Ev Try.prog D:=X0.with (fs6 N)
theorem cok6 (N:Nat):COk (X6 N):=COk.of (all6 N)
def qqd (N:Nat):List (Pc D):=[]
theorem qkj (N:Nat):∀u∈qqd N,PcOk (X6 N) (qab Try.f43) u:=qaj
def PzcG_0:PD D:={path:=[1,0,0],ins:=[.v 0 (.sl 53), .v 1 (.int .i64)],fx:=[],ks:=[],exs:=[⟨.normal,[.v 12 .bool],[]⟩],keep:=[0,1]}
def qxn (N:Nat):PzcG_0.F:=fun x=>qBD N x.1 x.2.1
theorem qE9 (N:Nat):CC (X6 N) (qab Try.f43) PzcG_0 (qxn N):=CC.of (cok6 N) (us:=qqd N) (fun u h _=>qkj N u h) (fun x=>by kernel_rfl)
def qrK (N:Nat):List (Pc D):=PzcG_0.pc (X6 N) (qxn N)::qqd N
theorem qlQ (N:Nat):∀u∈qrK N,PcOk (X6 N) (qab Try.f43) u:=qac ((qE9 N).pc (by kernel_rfl)) (qkj N)
def PzcG_1:PD D:={path:=[1,1,0,1,0,0,1],ins:=[.v 17 (.int .i64), .v 18 .bool],fx:=[],ks:=[],exs:=[⟨.normal,[.v 18 .bool],[]⟩],keep:=[0,1,17]}
def qxo (N:Nat):PzcG_1.F:=fun x=>qBE N x.1 x.2.1
theorem qFa (N:Nat):CC (X6 N) (qab Try.f43) PzcG_1 (qxo N):=CC.of (cok6 N) (us:=qrK N) (fun u h _=>qlQ N u h) (fun x=>by kernel_rfl)
def qzp (N:Nat):List (Pc D):=PzcG_1.pc (X6 N) (qxo N)::qrK N
theorem qtD (N:Nat):∀u∈qzp N,PcOk (X6 N) (qab Try.f43) u:=qac ((qFa N).pc (by kernel_rfl)) (qlQ N)
def dzcG:FD D:={f:=43,np:=2,ins:=[.v 0 (.sl 53), .v 1 (.int .i64)],fx:=[],rcv:=none,rk:=0,outs:=[.o 4 (.sl 3)],ofx:=[(4, .c (.own 0))],rvs:=[.tmp 4],flat:=false}
def FzcG (N:Nat):dzcG.F:=fun r x=>zcG N x.1 x.2.1
theorem ozcG (N:Nat):FOk Try.prog (X6 N) dzcG (FzcG N):=⟨⟨Try.f43,_,Try.func43,rfl,by kernel_rfl,by kernel_rfl,rfl,FC.of (cok6 N) (us:=qzp N) (fun u h _=>qtD N u h) (fun r x=>by kernel_rfl)⟩,by kernel_rfl,by kernel_rfl,by kernel_rfl,by kernel_rfl⟩
def fs7 (N:Nat):List (FE D):=⟨dzcG,FzcG N⟩::fs6 N
theorem all7 (N:Nat):∀y∈fs7 N,CallOk X0 y.d y.F:=all_cons (x:=⟨dzcG,FzcG N⟩) (ozcG N) (all6 N)
def X7 (N:Nat):Ev Try.prog D:=X0.with (fs7 N)
theorem cok7 (N:Nat):COk (X7 N):=COk.of (all7 N)
def qqh (N:Nat):List (Pc D):=[]
theorem qkn (N:Nat):∀u∈qqh N,PcOk (X7 N) (qab Try.f69) u:=qaj
def PzcM_0:PD D:={path:=[1,0,1,0],ins:=[.v 0 (.sl 3), .v 1 (.int .i64), .v 5 (.int .i64)],fx:=[],ks:=[],exs:=[⟨.exit 0,[],[]⟩,⟨.ret,[.v 4 .bool],[]⟩],keep:=[]}
def qxy (N:Nat) (n:Nat):PzcM_0.F:=fun x=>qh5 N x.1 x.2.1 n x.2.2.1
theorem qFk (N:Nat) (n:Nat):CC (X7 N) (qab Try.f69) PzcM_0 (qxy N n):=CC.loop (cok7 N) (us:=qqh N) (c:=sub (qab Try.f69) [1,0,1,0,0]) (by kernel_rfl) (by kernel_rfl) (fun u h _=>qkn N u h) (fun x=>rfl) (fun n x=>by kernel_rfl) n
def qzt (N:Nat):List (Pc D):=PzcM_0.pc (X7 N) (qxy N N)::qqh N
theorem qtH (N:Nat):∀u∈qzt N,PcOk (X7 N) (qab Try.f69) u:=qac ((qFk N N).pc (by kernel_rfl)) (qkn N)
def dzcM:FD D:={f:=69,np:=2,ins:=[.v 0 (.sl 3), .v 1 (.int .i64)],fx:=[],rcv:=none,rk:=0,outs:=[.v 4 .bool],ofx:=[],rvs:=[.tmp 4],flat:=true}
def FzcM (N:Nat):dzcM.F:=fun r x=>zcM N x.1 x.2.1
theorem ozcM (N:Nat):FOk Try.prog (X7 N) dzcM (FzcM N):=⟨⟨Try.f69,_,Try.func69,rfl,by kernel_rfl,by kernel_rfl,rfl,FC.of (cok7 N) (us:=qzt N) (fun u h _=>qtH N u h) (fun r x=>by kernel_rfl)⟩,by kernel_rfl,by kernel_rfl,by kernel_rfl,by kernel_rfl⟩
def fs8 (N:Nat):List (FE D):=⟨dzcM,FzcM N⟩::fs7 N
theorem all8 (N:Nat):∀y∈fs8 N,CallOk X0 y.d y.F:=all_cons (x:=⟨dzcM,FzcM N⟩) (ozcM N) (all7 N)
def X8 (N:Nat):Ev Try.prog D:=X0.with (fs8 N)
theorem cok8 (N:Nat):COk (X8 N):=COk.of (all8 N)
def qpG (N:Nat):List (Pc D):=[]
theorem qjM (N:Nat):∀u∈qpG N,PcOk (X8 N) (qab Try.f44) u:=qaj
def PzaT_1:PD D:={path:=[1,0,1,0,0,1,0,0,0],ins:=[.v 0 (.sl 53), .v 1 (.int .i64), .v 2 (.int .i64), .v 7 (.int .i64)],fx:=[],ks:=[],exs:=[⟨.normal,[.v 23 .bool],[]⟩],keep:=[0,1,2,7]}
def qvS (N:Nat):PzaT_1.F:=fun x=>qBf N x.1 x.2.1 x.2.2.1 x.2.2.2.1
theorem qDE (N:Nat):CC (X8 N) (qab Try.f44) PzaT_1 (qvS N):=CC.of (cok8 N) (us:=qpG N) (fun u h _=>qjM N u h) (fun x=>by kernel_rfl)
def qqL (N:Nat):List (Pc D):=PzaT_1.pc (X8 N) (qvS N)::qpG N
theorem qkR (N:Nat):∀u∈qqL N,PcOk (X8 N) (qab Try.f44) u:=qac ((qDE N).pc (by kernel_rfl)) (qjM N)
def PzaT_0:PD D:={path:=[1,0,1,0],ins:=[.v 0 (.sl 53), .v 1 (.int .i64), .v 2 (.int .i64), .v 7 (.int .i64)],fx:=[],ks:=[],exs:=[⟨.exit 0,[],[]⟩,⟨.ret,[.v 6 (.int .i64)],[]⟩],keep:=[]}
def qvR (N:Nat) (n:Nat):PzaT_0.F:=fun x=>qhY N x.1 x.2.1 x.2.2.1 n x.2.2.2.1
theorem qDD (N:Nat) (n:Nat):CC (X8 N) (qab Try.f44) PzaT_0 (qvR N n):=CC.loop (cok8 N) (us:=qqL N) (c:=sub (qab Try.f44) [1,0,1,0,0]) (by kernel_rfl) (by kernel_rfl) (fun u h _=>qkR N u h) (fun x=>rfl) (fun n x=>by kernel_rfl) n
def qyS (N:Nat):List (Pc D):=PzaT_0.pc (X8 N) (qvR N N)::qqL N
theorem qs6 (N:Nat):∀u∈qyS N,PcOk (X8 N) (qab Try.f44) u:=qac ((qDD N N).pc (by kernel_rfl)) (qkR N)
def dzaT:FD D:={f:=44,np:=3,ins:=[.v 0 (.sl 53), .v 1 (.int .i64), .v 2 (.int .i64)],fx:=[],rcv:=none,rk:=0,outs:=[.v 6 (.int .i64)],ofx:=[],rvs:=[.tmp 6],flat:=true}
def FzaT (N:Nat):dzaT.F:=fun r x=>zaT N x.1 x.2.1 x.2.2.1
theorem ozaT (N:Nat):FOk Try.prog (X8 N) dzaT (FzaT N):=⟨⟨Try.f44,_,Try.func44,rfl,by kernel_rfl,by kernel_rfl,rfl,FC.of (cok8 N) (us:=qyS N) (fun u h _=>qs6 N u h) (fun r x=>by kernel_rfl)⟩,by kernel_rfl,by kernel_rfl,by kernel_rfl,by kernel_rfl⟩
def fs9 (N:Nat):List (FE D):=⟨dzaT,FzaT N⟩::fs8 N
theorem all9 (N:Nat):∀y∈fs9 N,CallOk X0 y.d y.F:=all_cons (x:=⟨dzaT,FzaT N⟩) (ozaT N) (all8 N)
def X9 (N:Nat):Ev Try.prog D:=X0.with (fs9 N)
theorem cok9 (N:Nat):COk (X9 N):=COk.of (all9 N)
def qyv (N:Nat):List (Pc D):=[]
theorem qsK (N:Nat):∀u∈qyv N,PcOk (X9 N) (qab Try.f45) u:=qaj
def dzbG:FD D:={f:=45,np:=3,ins:=[.v 0 (.sl 53), .v 1 (.int .i64), .v 2 (.int .i64)],fx:=[],rcv:=none,rk:=0,outs:=[.o 6 (.sl 3)],ofx:=[(6, .c (.own 0))],rvs:=[.tmp 6],flat:=false}
def FzbG (N:Nat):dzbG.F:=fun r x=>zbG N x.1 x.2.1 x.2.2.1
theorem ozbG (N:Nat):FOk Try.prog (X9 N) dzbG (FzbG N):=⟨⟨Try.f45,_,Try.func45,rfl,by kernel_rfl,by kernel_rfl,rfl,FC.of (cok9 N) (us:=qyv N) (fun u h _=>qsK N u h) (fun r x=>by kernel_rfl)⟩,by kernel_rfl,by kernel_rfl,by kernel_rfl,by kernel_rfl⟩
def fs10 (N:Nat):List (FE D):=⟨dzbG,FzbG N⟩::fs9 N
theorem qBI (N:Nat):∀y∈fs10 N,CallOk X0 y.d y.F:=all_cons (x:=⟨dzbG,FzbG N⟩) (ozbG N) (all9 N)
def X10 (N:Nat):Ev Try.prog D:=X0.with (fs10 N)
theorem qzQ (N:Nat):COk (X10 N):=COk.of (qBI N)
def qpN (N:Nat):List (Pc D):=[]
theorem qjT (N:Nat):∀u∈qpN N,PcOk (X10 N) (qab Try.f20) u:=qaj
def PzbA_1:PD D:={path:=[1,1,1,1,1,1,0,1,0,0,1,0,0,1,1,1,1,0,0],ins:=[.o 0 (.recv 48), .v 1 (.sl 53), .o 6 (.box 70), .o 8 (.sl 70), .v 10 (.int .i64), .o 11 (.sl 3)],fx:=[(0, .box 0 0),(6, .box 1 0),(8, .c (.own 2)),(11, .c (.own 3))],ks:=[2,1,1,1],exs:=[⟨.normal,[.u 0 (.recv 48), .v 76 .bool],[]⟩],keep:=[0,1,6,8,9,11]}
def qwl (N:Nat):PzbA_1.F:=fun x=>quK N x.1 x.2.1 x.2.2.2.2.1 x.2.2.2.2.2.1
theorem qD7 (N:Nat):CC (X10 N) (qab Try.f20) PzbA_1 (qwl N):=CC.of (qzQ N) (us:=qpN N) (fun u h _=>qjT N u h) (fun x=>by kernel_rfl)
def qq7 (N:Nat):List (Pc D):=PzbA_1.pc (X10 N) (qwl N)::qpN N
theorem qld (N:Nat):∀u∈qq7 N,PcOk (X10 N) (qab Try.f20) u:=qac ((qD7 N).pc (by kernel_rfl)) (qjT N)
def PzbA_0:PD D:={path:=[1,1,1,1,1,1,0,1,0],ins:=[.o 0 (.recv 48), .v 1 (.sl 53), .o 6 (.box 70), .o 8 (.sl 70), .v 9 (.int .i64)],fx:=[(0, .box 0 0),(6, .box 1 0),(8, .c (.own 2))],ks:=[2,0,0],exs:=[⟨.exit 0,[.u 0 (.recv 48), .o 8 (.sl 70)],[(8, .c (.own 3))]⟩,⟨.ret,[.u 0 (.recv 48), .o 4 (.sl 70)],[(4, .c (.own 3))]⟩],keep:=[0]}
def qwk (N:Nat) (n:Nat):PzbA_0.F:=fun x=>qgS N x.2.1 n x.1 x.2.2.1 x.2.2.2.1 x.2.2.2.2.1
theorem qD6 (N:Nat) (n:Nat):CC (X10 N) (qab Try.f20) PzbA_0 (qwk N n):=CC.loop (qzQ N) (us:=qq7 N) (c:=sub (qab Try.f20) [1,1,1,1,1,1,0,1,0,0]) (by kernel_rfl) (by kernel_rfl) (fun u h _=>qld N u h) (fun x=>rfl) (fun n x=>by kernel_rfl) n
def qyZ (N:Nat):List (Pc D):=PzbA_0.pc (X10 N) (qwk N N)::qq7 N
theorem qtd (N:Nat):∀u∈qyZ N,PcOk (X10 N) (qab Try.f20) u:=qac ((qD6 N N).pc (by kernel_rfl)) (qld N)
def dzbA:FD D:={f:=20,np:=2,ins:=[.v 1 (.sl 53)],fx:=[],rcv:=some (0,48),rk:=2,outs:=[.o 4 (.sl 70), .u 0 (.recv 48)],ofx:=[(4, .c (.own 1))],rvs:=[.tmp 4],flat:=false}
def FzbA (N:Nat):dzbA.F:=fun r x=>zbA N r x.1
theorem ozbA (N:Nat):FOk Try.prog (X10 N) dzbA (FzbA N):=⟨⟨Try.f20,_,Try.func20,rfl,by kernel_rfl,by kernel_rfl,rfl,FC.of (qzQ N) (us:=qyZ N) (fun u h _=>qtd N u h) (fun r x=>by kernel_rfl)⟩,by kernel_rfl,by kernel_rfl,by kernel_rfl,by kernel_rfl⟩
def fs11 (N:Nat):List (FE D):=⟨dzbA,FzbA N⟩::fs10 N
theorem qBJ (N:Nat):∀y∈fs11 N,CallOk X0 y.d y.F:=all_cons (x:=⟨dzbA,FzbA N⟩) (ozbA N) (qBI N)
def X11 (N:Nat):Ev Try.prog D:=X0.with (fs11 N)
theorem qr5 (N:Nat):COk (X11 N):=COk.of (qBJ N)
def qqc (N:Nat):List (Pc D):=[]
theorem qki (N:Nat):∀u∈qqc N,PcOk (X11 N) (qab Try.f86) u:=qaj
def PzcF_1:PD D:={path:=[1,0,1,0,0,1,0,0,0],ins:=[.v 0 .str, .v 3 (.int .i64)],fx:=[],ks:=[],exs:=[⟨.normal,[.v 32 .bool],[]⟩],keep:=[0,3]}
def qxl (N:Nat):PzcF_1.F:=fun x=>qu8 N x.1 x.2.1
theorem qE7 (N:Nat):CC (X11 N) (qab Try.f86) PzcF_1 (qxl N):=CC.of (qr5 N) (us:=qqc N) (fun u h _=>qki N u h) (fun x=>by kernel_rfl)
def qrJ (N:Nat):List (Pc D):=PzcF_1.pc (X11 N) (qxl N)::qqc N
theorem qlP (N:Nat):∀u∈qrJ N,PcOk (X11 N) (qab Try.f86) u:=qac ((qE7 N).pc (by kernel_rfl)) (qki N)
def PzcF_0:PD D:={path:=[1,0,1,0],ins:=[.v 0 .str, .v 3 (.int .i64)],fx:=[],ks:=[],exs:=[⟨.exit 0,[],[]⟩,⟨.ret,[.v 2 .bool],[]⟩],keep:=[0]}
def qxk (N:Nat) (n:Nat):PzcF_0.F:=fun x=>qh4 N x.1 n x.2.1
theorem qE6 (N:Nat) (n:Nat):CC (X11 N) (qab Try.f86) PzcF_0 (qxk N n):=CC.loop (qr5 N) (us:=qrJ N) (c:=sub (qab Try.f86) [1,0,1,0,0]) (by kernel_rfl) (by kernel_rfl) (fun u h _=>qlP N u h) (fun x=>rfl) (fun n x=>by kernel_rfl) n
def qrI (N:Nat):List (Pc D):=PzcF_0.pc (X11 N) (qxk N N)::qrJ N
theorem qlO (N:Nat):∀u∈qrI N,PcOk (X11 N) (qab Try.f86) u:=qac ((qE6 N N).pc (by kernel_rfl)) (qlP N)
def PzcF_2:PD D:={path:=[1,1,0],ins:=[.v 0 .str],fx:=[],ks:=[],exs:=[⟨.normal,[.v 2 .bool],[]⟩],keep:=[]}
def qxm (N:Nat):PzcF_2.F:=fun x=>qBC N x.1
theorem qE8 (N:Nat):CC (X11 N) (qab Try.f86) PzcF_2 (qxm N):=CC.of (qr5 N) (us:=qrI N) (fun u h _=>qlO N u h) (fun x=>by kernel_rfl)
def qzo (N:Nat):List (Pc D):=PzcF_2.pc (X11 N) (qxm N)::qrI N
theorem qtC (N:Nat):∀u∈qzo N,PcOk (X11 N) (qab Try.f86) u:=qac ((qE8 N).pc (by kernel_rfl)) (qlO N)
def dzcF:FD D:={f:=86,np:=1,ins:=[.v 0 .str],fx:=[],rcv:=none,rk:=0,outs:=[.v 2 .bool],ofx:=[],rvs:=[.tmp 2],flat:=true}
def FzcF (N:Nat):dzcF.F:=fun r x=>zcF N x.1
theorem ozcF (N:Nat):FOk Try.prog (X11 N) dzcF (FzcF N):=⟨⟨Try.f86,_,Try.func86,rfl,by kernel_rfl,by kernel_rfl,rfl,FC.of (qr5 N) (us:=qzo N) (fun u h _=>qtC N u h) (fun r x=>by kernel_rfl)⟩,by kernel_rfl,by kernel_rfl,by kernel_rfl,by kernel_rfl⟩
def fs12 (N:Nat):List (FE D):=⟨dzcF,FzcF N⟩::fs11 N
theorem qBK (N:Nat):∀y∈fs12 N,CallOk X0 y.d y.F:=all_cons (x:=⟨dzcF,FzcF N⟩) (ozcF N) (qBJ N)
def X12 (N:Nat):Ev Try.prog D:=X0.with (fs12 N)
theorem qmw (N:Nat):COk (X12 N):=COk.of (qBK N)
def qp5 (N:Nat):List (Pc D):=[]
theorem qkb (N:Nat):∀u∈qp5 N,PcOk (X12 N) (qab Try.f70) u:=qaj
def PzbY_0:PD D:={path:=[1,1,0,0],ins:=[.o 5 (.box 53), .o 6 (.sl 3)],fx:=[(5, .box 0 0),(6, .c (.own 1))],ks:=[1,1],exs:=[⟨.normal,[.v 23 .bool],[]⟩],keep:=[5,6]}
def qwX (N:Nat):PzbY_0.F:=fun x=>qBw N x.1 x.2.1
theorem qEJ (N:Nat):CC (X12 N) (qab Try.f70) PzbY_0 (qwX N):=CC.of (qmw N) (us:=qp5 N) (fun u h _=>qkb N u h) (fun x=>by kernel_rfl)
def qrs (N:Nat):List (Pc D):=PzbY_0.pc (X12 N) (qwX N)::qp5 N
theorem qly (N:Nat):∀u∈qrs N,PcOk (X12 N) (qab Try.f70) u:=qac ((qEJ N).pc (by kernel_rfl)) (qkb N)
def PzbY_2:PD D:={path:=[1,1,1,0,1,0,0,1,0,0,0],ins:=[.o 5 (.box 53), .v 6 (.sl 3), .v 7 (.int .i64)],fx:=[(5, .box 0 0)],ks:=[1],exs:=[⟨.normal,[.v 51 .bool],[]⟩],keep:=[5,6,7]}
def qwZ (N:Nat):PzbY_2.F:=fun x=>qBx N x.2.1 x.2.2.1
theorem qEL (N:Nat):CC (X12 N) (qab Try.f70) PzbY_2 (qwZ N):=CC.of (qmw N) (us:=qrs N) (fun u h _=>qly N u h) (fun x=>by kernel_rfl)
def qru (N:Nat):List (Pc D):=PzbY_2.pc (X12 N) (qwZ N)::qrs N
theorem qlA (N:Nat):∀u∈qru N,PcOk (X12 N) (qab Try.f70) u:=qac ((qEL N).pc (by kernel_rfl)) (qly N)
def PzbY_1:PD D:={path:=[1,1,1,0,1,0],ins:=[.o 5 (.box 53), .v 6 (.sl 3), .v 7 (.int .i64)],fx:=[(5, .box 0 0)],ks:=[1],exs:=[⟨.exit 0,[],[]⟩,⟨.ret,[.v 4 .bool],[]⟩],keep:=[5,6]}
def qwY (N:Nat) (n:Nat):PzbY_1.F:=fun x=>qg0 N x.2.1 n x.2.2.1
theorem qEK (N:Nat) (n:Nat):CC (X12 N) (qab Try.f70) PzbY_1 (qwY N n):=CC.loop (qmw N) (us:=qru N) (c:=sub (qab Try.f70) [1,1,1,0,1,0,0]) (by kernel_rfl) (by kernel_rfl) (fun u h _=>qlA N u h) (fun x=>rfl) (fun n x=>by kernel_rfl) n
def qrt (N:Nat):List (Pc D):=PzbY_1.pc (X12 N) (qwY N N)::qru N
theorem qlz (N:Nat):∀u∈qrt N,PcOk (X12 N) (qab Try.f70) u:=qac ((qEK N N).pc (by kernel_rfl)) (qlA N)
def PzbY_3:PD D:={path:=[1,1,1,1,0,0],ins:=[.o 5 (.box 53), .v 6 (.sl 3)],fx:=[(5, .box 0 0)],ks:=[1],exs:=[⟨.normal,[.v 59 .bool],[]⟩],keep:=[5]}
def qw0 (N:Nat):PzbY_3.F:=fun x=>qBy N x.1 x.2.1
theorem qEM (N:Nat):CC (X12 N) (qab Try.f70) PzbY_3 (qw0 N):=CC.of (qmw N) (us:=qrt N) (fun u h _=>qlz N u h) (fun x=>by kernel_rfl)
def qrv (N:Nat):List (Pc D):=PzbY_3.pc (X12 N) (qw0 N)::qrt N
theorem qlB (N:Nat):∀u∈qrv N,PcOk (X12 N) (qab Try.f70) u:=qac ((qEM N).pc (by kernel_rfl)) (qlz N)
def PzbY_4:PD D:={path:=[1,1,1,1,1,0,1,0,0],ins:=[.o 5 (.box 53)],fx:=[(5, .box 0 0)],ks:=[1],exs:=[⟨.normal,[.v 4 .bool],[]⟩],keep:=[]}
def qw1 (N:Nat):PzbY_4.F:=fun x=>qBz N x.1
theorem qEN (N:Nat):CC (X12 N) (qab Try.f70) PzbY_4 (qw1 N):=CC.of (qmw N) (us:=qrv N) (fun u h _=>qlB N u h) (fun x=>by kernel_rfl)
def qzh (N:Nat):List (Pc D):=PzbY_4.pc (X12 N) (qw1 N)::qrv N
theorem qtv (N:Nat):∀u∈qzh N,PcOk (X12 N) (qab Try.f70) u:=qac ((qEN N).pc (by kernel_rfl)) (qlB N)
def dzbY:FD D:={f:=70,np:=2,ins:=[.v 0 (.sl 53), .v 1 (.int .i64)],fx:=[],rcv:=none,rk:=0,outs:=[.v 4 .bool],ofx:=[],rvs:=[.tmp 4],flat:=true}
def FzbY (N:Nat):dzbY.F:=fun r x=>zbY N x.1 x.2.1
theorem ozbY (N:Nat):FOk Try.prog (X12 N) dzbY (FzbY N):=⟨⟨Try.f70,_,Try.func70,rfl,by kernel_rfl,by kernel_rfl,rfl,FC.of (qmw N) (us:=qzh N) (fun u h _=>qtv N u h) (fun r x=>by kernel_rfl)⟩,by kernel_rfl,by kernel_rfl,by kernel_rfl,by kernel_rfl⟩
def fs13 (N:Nat):List (FE D):=⟨dzbY,FzbY N⟩::fs12 N
theorem qBL (N:Nat):∀y∈fs13 N,CallOk X0 y.d y.F:=all_cons (x:=⟨dzbY,FzbY N⟩) (ozbY N) (qBK N)
def X13 (N:Nat):Ev Try.prog D:=X0.with (fs13 N)
theorem qns (N:Nat):COk (X13 N):=COk.of (qBL N)
def qp4 (N:Nat):List (Pc D):=[]
theorem qka (N:Nat):∀u∈qp4 N,PcOk (X13 N) (qab Try.f46) u:=qaj
def PzbX_1:PD D:={path:=[1,1,1,0,1,0,0,1,0,0,1,0,1,0],ins:=[.v 0 (.sl 53), .o 3 (.arr 3 108 64), .v 4 (.int .i64), .v 5 (.int .i64)],fx:=[(3, .arr 0)],ks:=[1],exs:=[⟨.exit 2,[],[]⟩,⟨.ret,[.v 2 (.int .i64)],[]⟩],keep:=[0,3,4]}
def qwU (N:Nat) (n:Nat):PzbX_1.F:=fun x=>qgY N x.1 x.2.2.1 n x.2.2.2.1
theorem qEG (N:Nat) (n:Nat):CC (X13 N) (qab Try.f46) PzbX_1 (qwU N n):=CC.loop (qns N) (us:=qp4 N) (c:=sub (qab Try.f46) [1,1,1,0,1,0,0,1,0,0,1,0,1,0,0]) (by kernel_rfl) (by kernel_rfl) (fun u h _=>qka N u h) (fun x=>rfl) (fun n x=>by kernel_rfl) n
def qrp (N:Nat):List (Pc D):=PzbX_1.pc (X13 N) (qwU N N)::qp4 N
theorem qlv (N:Nat):∀u∈qrp N,PcOk (X13 N) (qab Try.f46) u:=qac ((qEG N N).pc (by kernel_rfl)) (qka N)
def PzbX_2:PD D:={path:=[1,1,1,0,1,0,0,1,0,0,1,1,1,0,1,0],ins:=[.o 3 (.arr 3 108 64), .o 6 (.sl 3), .v 7 (.int .i64)],fx:=[(3, .arr 0),(6, .c (.own 1))],ks:=[1,1],exs:=[⟨.exit 4,[],[]⟩,⟨.ret,[.v 2 (.int .i64)],[]⟩],keep:=[0,3,4,6]}
def qwV (N:Nat) (n:Nat):PzbX_2.F:=fun x=>qgZ N x.1 x.2.1 n x.2.2.1
theorem qEH (N:Nat) (n:Nat):CC (X13 N) (qab Try.f46) PzbX_2 (qwV N n):=CC.loop (qns N) (us:=qrp N) (c:=sub (qab Try.f46) [1,1,1,0,1,0,0,1,0,0,1,1,1,0,1,0,0]) (by kernel_rfl) (by kernel_rfl) (fun u h _=>qlv N u h) (fun x=>rfl) (fun n x=>by kernel_rfl) n
def qrq (N:Nat):List (Pc D):=PzbX_2.pc (X13 N) (qwV N N)::qrp N
theorem qlw (N:Nat):∀u∈qrq N,PcOk (X13 N) (qab Try.f46) u:=qac ((qEH N N).pc (by kernel_rfl)) (qlv N)
def PzbX_3:PD D:={path:=[1,1,1,0,1,0,0,1,0,0,1,1,1,1,1,0],ins:=[.o 3 (.arr 3 108 64), .o 6 (.sl 3), .v 8 (.int .i64)],fx:=[(3, .arr 0),(6, .c (.own 1))],ks:=[2,1],exs:=[⟨.exit 6,[.u 0 (.arr 3 108 64)],[]⟩],keep:=[0,3,4]}
def qwW (N:Nat) (n:Nat):PzbX_3.F:=fun x=>qiZ N x.2.1 n x.1 x.2.2.1
theorem qEI (N:Nat) (n:Nat):CC (X13 N) (qab Try.f46) PzbX_3 (qwW N n):=CC.loop (qns N) (us:=qrq N) (c:=sub (qab Try.f46) [1,1,1,0,1,0,0,1,0,0,1,1,1,1,1,0,0]) (by kernel_rfl) (by kernel_rfl) (fun u h _=>qlw N u h) (fun x=>rfl) (fun n x=>by kernel_rfl) n
def qrr (N:Nat):List (Pc D):=PzbX_3.pc (X13 N) (qwW N N)::qrq N
theorem qlx (N:Nat):∀u∈qrr N,PcOk (X13 N) (qab Try.f46) u:=qac ((qEI N N).pc (by kernel_rfl)) (qlw N)
def PzbX_0:PD D:={path:=[1,1,1,0,1,0],ins:=[.v 0 (.sl 53), .o 3 (.arr 3 108 64), .v 4 (.int .i64)],fx:=[(3, .arr 0)],ks:=[0],exs:=[⟨.exit 0,[],[]⟩,⟨.ret,[.v 2 (.int .i64)],[]⟩],keep:=[]}
def qwT (N:Nat) (n:Nat):PzbX_0.F:=fun x=>qm9 N x.1 n x.2.1 x.2.2.1
theorem qEF (N:Nat) (n:Nat):CC (X13 N) (qab Try.f46) PzbX_0 (qwT N n):=CC.loop (qns N) (us:=qrr N) (c:=sub (qab Try.f46) [1,1,1,0,1,0,0]) (by kernel_rfl) (by kernel_rfl) (fun u h _=>qlx N u h) (fun x=>rfl) (fun n x=>by kernel_rfl) n
def qzg (N:Nat):List (Pc D):=PzbX_0.pc (X13 N) (qwT N N)::qrr N
theorem qtu (N:Nat):∀u∈qzg N,PcOk (X13 N) (qab Try.f46) u:=qac ((qEF N N).pc (by kernel_rfl)) (qlx N)
def dzbX:FD D:={f:=46,np:=1,ins:=[.v 0 (.sl 53)],fx:=[],rcv:=none,rk:=0,outs:=[.v 2 (.int .i64)],ofx:=[],rvs:=[.tmp 2],flat:=true}
def FzbX (N:Nat):dzbX.F:=fun r x=>zbX N x.1
theorem ozbX (N:Nat):FOk Try.prog (X13 N) dzbX (FzbX N):=⟨⟨Try.f46,_,Try.func46,rfl,by kernel_rfl,by kernel_rfl,rfl,FC.of (qns N) (us:=qzg N) (fun u h _=>qtu N u h) (fun r x=>by kernel_rfl)⟩,by kernel_rfl,by kernel_rfl,by kernel_rfl,by kernel_rfl⟩
def fs14 (N:Nat):List (FE D):=⟨dzbX,FzbX N⟩::fs13 N
theorem qBM (N:Nat):∀y∈fs14 N,CallOk X0 y.d y.F:=all_cons (x:=⟨dzbX,FzbX N⟩) (ozbX N) (qBL N)
def X14 (N:Nat):Ev Try.prog D:=X0.with (fs14 N)
theorem qCC (N:Nat):COk (X14 N):=COk.of (qBM N)
def qp7 (N:Nat):List (Pc D):=[]
theorem qkd (N:Nat):∀u∈qp7 N,PcOk (X14 N) (qab Try.f47) u:=qaj
def PzcA_0:PD D:={path:=[1,0],ins:=[.v 0 (.sl 53), .v 1 (.int .i64)],fx:=[],ks:=[],exs:=[⟨.normal,[.v 4 .bool],[]⟩],keep:=[]}
def qw7 (N:Nat):PzcA_0.F:=fun x=>qBA N x.1 x.2.1
theorem qET (N:Nat):CC (X14 N) (qab Try.f47) PzcA_0 (qw7 N):=CC.of (qCC N) (us:=qp7 N) (fun u h _=>qkd N u h) (fun x=>by kernel_rfl)
def qzj (N:Nat):List (Pc D):=PzcA_0.pc (X14 N) (qw7 N)::qp7 N
theorem qtx (N:Nat):∀u∈qzj N,PcOk (X14 N) (qab Try.f47) u:=qac ((qET N).pc (by kernel_rfl)) (qkd N)
def dzcA:FD D:={f:=47,np:=2,ins:=[.v 0 (.sl 53), .v 1 (.int .i64)],fx:=[],rcv:=none,rk:=0,outs:=[.v 4 .bool],ofx:=[],rvs:=[.tmp 4],flat:=true}
def FzcA (N:Nat):dzcA.F:=fun r x=>zcA N x.1 x.2.1
theorem ozcA (N:Nat):FOk Try.prog (X14 N) dzcA (FzcA N):=⟨⟨Try.f47,_,Try.func47,rfl,by kernel_rfl,by kernel_rfl,rfl,FC.of (qCC N) (us:=qzj N) (fun u h _=>qtx N u h) (fun r x=>by kernel_rfl)⟩,by kernel_rfl,by kernel_rfl,by kernel_rfl,by kernel_rfl⟩
def fs15 (N:Nat):List (FE D):=⟨dzcA,FzcA N⟩::fs14 N
theorem qBN (N:Nat):∀y∈fs15 N,CallOk X0 y.d y.F:=all_cons (x:=⟨dzcA,FzcA N⟩) (ozcA N) (qBM N)
def X15 (N:Nat):Ev Try.prog D:=X0.with (fs15 N)
theorem qCD (N:Nat):COk (X15 N):=COk.of (qBN N)
def qp1 (N:Nat):List (Pc D):=[]
theorem qj7 (N:Nat):∀u∈qp1 N,PcOk (X15 N) (qab Try.f17) u:=qaj
def PzbT_0:PD D:={path:=[1,0,1,0],ins:=[.v 0 (.sl 70), .v 1 (.int .i64), .v 5 (.int .i64)],fx:=[],ks:=[],exs:=[⟨.exit 0,[],[]⟩,⟨.ret,[.v 4 .bool],[]⟩],keep:=[]}
def qwO (N:Nat) (n:Nat):PzbT_0.F:=fun x=>qh0 N x.1 x.2.1 n x.2.2.1
theorem qEA (N:Nat) (n:Nat):CC (X15 N) (qab Try.f17) PzbT_0 (qwO N n):=CC.loop (qCD N) (us:=qp1 N) (c:=sub (qab Try.f17) [1,0,1,0,0]) (by kernel_rfl) (by kernel_rfl) (fun u h _=>qj7 N u h) (fun x=>rfl) (fun n x=>by kernel_rfl) n
def qzd (N:Nat):List (Pc D):=PzbT_0.pc (X15 N) (qwO N N)::qp1 N
theorem qtr (N:Nat):∀u∈qzd N,PcOk (X15 N) (qab Try.f17) u:=qac ((qEA N N).pc (by kernel_rfl)) (qj7 N)
def dzbT:FD D:={f:=17,np:=2,ins:=[.v 0 (.sl 70), .v 1 (.int .i64)],fx:=[],rcv:=none,rk:=0,outs:=[.v 4 .bool],ofx:=[],rvs:=[.tmp 4],flat:=true}
def FzbT (N:Nat):dzbT.F:=fun r x=>zbT N x.1 x.2.1
theorem ozbT (N:Nat):FOk Try.prog (X15 N) dzbT (FzbT N):=⟨⟨Try.f17,_,Try.func17,rfl,by kernel_rfl,by kernel_rfl,rfl,FC.of (qCD N) (us:=qzd N) (fun u h _=>qtr N u h) (fun r x=>by kernel_rfl)⟩,by kernel_rfl,by kernel_rfl,by kernel_rfl,by kernel_rfl⟩
def fs16 (N:Nat):List (FE D):=⟨dzbT,FzbT N⟩::fs15 N
theorem qBO (N:Nat):∀y∈fs16 N,CallOk X0 y.d y.F:=all_cons (x:=⟨dzbT,FzbT N⟩) (ozbT N) (qBN N)
def X16 (N:Nat):Ev Try.prog D:=X0.with (fs16 N)
theorem qCE (N:Nat):COk (X16 N):=COk.of (qBO N)
def qqi (N:Nat):List (Pc D):=[]
theorem qko (N:Nat):∀u∈qqi N,PcOk (X16 N) (qab Try.f48) u:=qaj
def PzcN_0:PD D:={path:=[1,0,1,0],ins:=[.v 0 (.sl 3), .v 1 (.int .i64), .v 5 (.int .i64)],fx:=[],ks:=[],exs:=[⟨.exit 0,[],[]⟩,⟨.ret,[.v 4 .bool],[]⟩],keep:=[]}
def qxz (N:Nat) (n:Nat):PzcN_0.F:=fun x=>qh6 N x.1 x.2.1 n x.2.2.1
theorem qFl (N:Nat) (n:Nat):CC (X16 N) (qab Try.f48) PzcN_0 (qxz N n):=CC.loop (qCE N) (us:=qqi N) (c:=sub (qab Try.f48) [1,0,1,0,0]) (by kernel_rfl) (by kernel_rfl) (fun u h _=>qko N u h) (fun x=>rfl) (fun n x=>by kernel_rfl) n
def qzu (N:Nat):List (Pc D):=PzcN_0.pc (X16 N) (qxz N N)::qqi N
theorem qtI (N:Nat):∀u∈qzu N,PcOk (X16 N) (qab Try.f48) u:=qac ((qFl N N).pc (by kernel_rfl)) (qko N)
def dzcN:FD D:={f:=48,np:=2,ins:=[.v 0 (.sl 3), .v 1 (.int .i64)],fx:=[],rcv:=none,rk:=0,outs:=[.v 4 .bool],ofx:=[],rvs:=[.tmp 4],flat:=true}
def FzcN (N:Nat):dzcN.F:=fun r x=>zcN N x.1 x.2.1
theorem ozcN (N:Nat):FOk Try.prog (X16 N) dzcN (FzcN N):=⟨⟨Try.f48,_,Try.func48,rfl,by kernel_rfl,by kernel_rfl,rfl,FC.of (qCE N) (us:=qzu N) (fun u h _=>qtI N u h) (fun r x=>by kernel_rfl)⟩,by kernel_rfl,by kernel_rfl,by kernel_rfl,by kernel_rfl⟩
def fs17 (N:Nat):List (FE D):=⟨dzcN,FzcN N⟩::fs16 N
theorem qBP (N:Nat):∀y∈fs17 N,CallOk X0 y.d y.F:=all_cons (x:=⟨dzcN,FzcN N⟩) (ozcN N) (qBO N)
def X17 (N:Nat):Ev Try.prog D:=X0.with (fs17 N)
theorem qmx (N:Nat):COk (X17 N):=COk.of (qBP N)
def qp6 (N:Nat):List (Pc D):=[]
theorem qkc (N:Nat):∀u∈qp6 N,PcOk (X17 N) (qab Try.f21) u:=qaj
def PzbZ_0:PD D:={path:=[1,1,0,0],ins:=[.v 0 (.sl 53), .v 1 (.sl 70), .v 5 (.int .i64)],fx:=[],ks:=[],exs:=[⟨.normal,[.v 50 .bool],[]⟩],keep:=[0,1,5]}
def qw2 (N:Nat):PzbZ_0.F:=fun x=>qh1 N x.1 x.2.1 x.2.2.1
theorem qEO (N:Nat):CC (X17 N) (qab Try.f21) PzbZ_0 (qw2 N):=CC.of (qmx N) (us:=qp6 N) (fun u h _=>qkc N u h) (fun x=>by kernel_rfl)
def qrw (N:Nat):List (Pc D):=PzbZ_0.pc (X17 N) (qw2 N)::qp6 N
theorem qlC (N:Nat):∀u∈qrw N,PcOk (X17 N) (qab Try.f21) u:=qac ((qEO N).pc (by kernel_rfl)) (qkc N)
def PzbZ_2:PD D:={path:=[1,1,1,0,1,0,0,1,0,0,0,0],ins:=[.v 0 (.sl 53), .v 1 (.sl 70), .v 6 (.int .i64)],fx:=[],ks:=[],exs:=[⟨.normal,[.v 82 .bool],[]⟩],keep:=[0,1,5,6]}
def qw4 (N:Nat):PzbZ_2.F:=fun x=>quZ N x.1 x.2.1 x.2.2.1
theorem qEQ (N:Nat):CC (X17 N) (qab Try.f21) PzbZ_2 (qw4 N):=CC.of (qmx N) (us:=qrw N) (fun u h _=>qlC N u h) (fun x=>by kernel_rfl)
def qrx (N:Nat):List (Pc D):=PzbZ_2.pc (X17 N) (qw4 N)::qrw N
theorem qlD (N:Nat):∀u∈qrx N,PcOk (X17 N) (qab Try.f21) u:=qac ((qEQ N).pc (by kernel_rfl)) (qlC N)
def PzbZ_3:PD D:={path:=[1,1,1,0,1,0,0,1,0,0,1,0,0],ins:=[.v 0 (.sl 53), .v 1 (.sl 70), .v 5 (.int .i64), .v 6 (.int .i64)],fx:=[],ks:=[],exs:=[⟨.normal,[.v 136 .bool],[]⟩],keep:=[0,1,5,6]}
def qw5 (N:Nat):PzbZ_3.F:=fun x=>qu0 N x.1 x.2.1 x.2.2.1 x.2.2.2.1
theorem qER (N:Nat):CC (X17 N) (qab Try.f21) PzbZ_3 (qw5 N):=CC.of (qmx N) (us:=qrx N) (fun u h _=>qlD N u h) (fun x=>by kernel_rfl)
def qry (N:Nat):List (Pc D):=PzbZ_3.pc (X17 N) (qw5 N)::qrx N
theorem qlE (N:Nat):∀u∈qry N,PcOk (X17 N) (qab Try.f21) u:=qac ((qER N).pc (by kernel_rfl)) (qlD N)
def PzbZ_4:PD D:={path:=[1,1,1,0,1,0,0,1,0,0,1,1,0],ins:=[.v 0 (.sl 53), .v 1 (.sl 70), .v 5 (.int .i64), .v 6 (.int .i64)],fx:=[],ks:=[],exs:=[⟨.normal,[.v 164 .bool],[]⟩],keep:=[0,1,5,6]}
def qw6 (N:Nat):PzbZ_4.F:=fun x=>qu1 N x.1 x.2.1 x.2.2.1 x.2.2.2.1
theorem qES (N:Nat):CC (X17 N) (qab Try.f21) PzbZ_4 (qw6 N):=CC.of (qmx N) (us:=qry N) (fun u h _=>qlE N u h) (fun x=>by kernel_rfl)
def qrz (N:Nat):List (Pc D):=PzbZ_4.pc (X17 N) (qw6 N)::qry N
theorem qlF (N:Nat):∀u∈qrz N,PcOk (X17 N) (qab Try.f21) u:=qac ((qES N).pc (by kernel_rfl)) (qlE N)
def PzbZ_1:PD D:={path:=[1,1,1,0,1,0],ins:=[.v 0 (.sl 53), .v 1 (.sl 70), .v 5 (.int .i64), .v 6 (.int .i64)],fx:=[],ks:=[],exs:=[⟨.exit 0,[],[]⟩,⟨.ret,[.v 4 .bool],[]⟩],keep:=[]}
def qw3 (N:Nat) (n:Nat):PzbZ_1.F:=fun x=>qh2 N x.1 x.2.1 x.2.2.1 n x.2.2.2.1
theorem qEP (N:Nat) (n:Nat):CC (X17 N) (qab Try.f21) PzbZ_1 (qw3 N n):=CC.loop (qmx N) (us:=qrz N) (c:=sub (qab Try.f21) [1,1,1,0,1,0,0]) (by kernel_rfl) (by kernel_rfl) (fun u h _=>qlF N u h) (fun x=>rfl) (fun n x=>by kernel_rfl) n
def qzi (N:Nat):List (Pc D):=PzbZ_1.pc (X17 N) (qw3 N N)::qrz N
theorem qtw (N:Nat):∀u∈qzi N,PcOk (X17 N) (qab Try.f21) u:=qac ((qEP N N).pc (by kernel_rfl)) (qlF N)
def dzbZ:FD D:={f:=21,np:=2,ins:=[.v 0 (.sl 53), .v 1 (.sl 70)],fx:=[],rcv:=none,rk:=0,outs:=[.v 4 .bool],ofx:=[],rvs:=[.tmp 4],flat:=true}
def FzbZ (N:Nat):dzbZ.F:=fun r x=>zbZ N x.1 x.2.1
theorem ozbZ (N:Nat):FOk Try.prog (X17 N) dzbZ (FzbZ N):=⟨⟨Try.f21,_,Try.func21,rfl,by kernel_rfl,by kernel_rfl,rfl,FC.of (qmx N) (us:=qzi N) (fun u h _=>qtw N u h) (fun r x=>by kernel_rfl)⟩,by kernel_rfl,by kernel_rfl,by kernel_rfl,by kernel_rfl⟩
def fs18 (N:Nat):List (FE D):=⟨dzbZ,FzbZ N⟩::fs17 N
theorem qBQ (N:Nat):∀y∈fs18 N,CallOk X0 y.d y.F:=all_cons (x:=⟨dzbZ,FzbZ N⟩) (ozbZ N) (qBP N)
def X18 (N:Nat):Ev Try.prog D:=X0.with (fs18 N)
theorem qCF (N:Nat):COk (X18 N):=COk.of (qBQ N)
def qqg (N:Nat):List (Pc D):=[]
theorem qkm (N:Nat):∀u∈qqg N,PcOk (X18 N) (qab Try.f8) u:=qaj
def PzcL_0:PD D:={path:=[1,1,0,1,0],ins:=[.o 0 (.recv 48), .v 4 (.sl 53), .v 5 (.int .i64)],fx:=[(0, .box 0 0)],ks:=[2],exs:=[⟨.exit 0,[.u 0 (.recv 48)],[]⟩,⟨.ret,[.u 0 (.recv 48), .v 2 (.sl 53), .o 3 (.sl 70)],[(3, .c (.own 1))]⟩],keep:=[0,4]}
def qxx (N:Nat) (n:Nat):PzcL_0.F:=fun x=>qg2 N x.2.1 n x.1 x.2.2.1
theorem qFj (N:Nat) (n:Nat):CC (X18 N) (qab Try.f8) PzcL_0 (qxx N n):=CC.loop (qCF N) (us:=qqg N) (c:=sub (qab Try.f8) [1,1,0,1,0,0]) (by kernel_rfl) (by kernel_rfl) (fun u h _=>qkm N u h) (fun x=>rfl) (fun n x=>by kernel_rfl) n
def qzs (N:Nat):List (Pc D):=PzcL_0.pc (X18 N) (qxx N N)::qqg N
theorem qtG (N:Nat):∀u∈qzs N,PcOk (X18 N) (qab Try.f8) u:=qac ((qFj N N).pc (by kernel_rfl)) (qkm N)
def dzcL:FD D:={f:=8,np:=1,ins:=[],fx:=[],rcv:=some (0,48),rk:=2,outs:=[.v 2 (.sl 53), .o 3 (.sl 70), .u 0 (.recv 48)],ofx:=[(3, .c (.own 1))],rvs:=[.tmp 2, .tmp 3],flat:=false}
def FzcL (N:Nat):dzcL.F:=fun r x=>zcL N r
theorem ozcL (N:Nat):FOk Try.prog (X18 N) dzcL (FzcL N):=⟨⟨Try.f8,_,Try.func8,rfl,by kernel_rfl,by kernel_rfl,rfl,FC.of (qCF N) (us:=qzs N) (fun u h _=>qtG N u h) (fun r x=>by kernel_rfl)⟩,by kernel_rfl,by kernel_rfl,by kernel_rfl,by kernel_rfl⟩
def fs19 (N:Nat):List (FE D):=⟨dzcL,FzcL N⟩::fs18 N
theorem qBR (N:Nat):∀y∈fs19 N,CallOk X0 y.d y.F:=all_cons (x:=⟨dzcL,FzcL N⟩) (ozcL N) (qBQ N)
def X19 (N:Nat):Ev Try.prog D:=X0.with (fs19 N)
theorem qr6 (N:Nat):COk (X19 N):=COk.of (qBR N)
def qp3 (N:Nat):List (Pc D):=[]
theorem qj9 (N:Nat):∀u∈qp3 N,PcOk (X19 N) (qab Try.f9) u:=qaj
def PzbV_2:PD D:={path:=[1,1,0,1,0,0,1,0,0,0,0],ins:=[.o 0 (.recv 48), .v 1 (.sl 53), .o 5 (.sl 33), .v 6 (.int .i64)],fx:=[(0, .box 0 0),(5, .c (.own 1))],ks:=[2,1],exs:=[⟨.normal,[.u 0 (.recv 48), .v 21 .bool],[]⟩],keep:=[0,1,5,6]}
def qwS (N:Nat):PzbV_2.F:=fun x=>quY N x.1 x.2.1 x.2.2.2.1
theorem qEE (N:Nat):CC (X19 N) (qab Try.f9) PzbV_2 (qwS N):=CC.of (qr6 N) (us:=qp3 N) (fun u h _=>qj9 N u h) (fun x=>by kernel_rfl)
def qro (N:Nat):List (Pc D):=PzbV_2.pc (X19 N) (qwS N)::qp3 N
theorem qlu (N:Nat):∀u∈qro N,PcOk (X19 N) (qab Try.f9) u:=qac ((qEE N).pc (by kernel_rfl)) (qj9 N)
def PzbV_1:PD D:={path:=[1,1,0,1,0,0,1,0],ins:=[.o 0 (.recv 48), .v 1 (.sl 53), .o 5 (.sl 33), .v 6 (.int .i64)],fx:=[(0, .box 0 0),(5, .c (.own 1))],ks:=[2,0],exs:=[⟨.normal,[.u 0 (.recv 48), .o 5 (.sl 33)],[(5, .c (.own 2))]⟩],keep:=[0,1,6]}
def qwR (N:Nat):PzbV_1.F:=fun x=>qBv N x.1 x.2.1 x.2.2.1 x.2.2.2.1
theorem qED (N:Nat):CC (X19 N) (qab Try.f9) PzbV_1 (qwR N):=CC.of (qr6 N) (us:=qro N) (fun u h _=>qlu N u h) (fun x=>by kernel_rfl)
def qrn (N:Nat):List (Pc D):=PzbV_1.pc (X19 N) (qwR N)::qro N
theorem qlt (N:Nat):∀u∈qrn N,PcOk (X19 N) (qab Try.f9) u:=qac ((qED N).pc (by kernel_rfl)) (qlu N)
def PzbV_0:PD D:={path:=[1,1,0,1,0],ins:=[.o 0 (.recv 48), .v 1 (.sl 53), .o 5 (.sl 33), .v 6 (.int .i64)],fx:=[(0, .box 0 0),(5, .c (.own 1))],ks:=[2,0],exs:=[⟨.exit 0,[.u 0 (.recv 48), .o 5 (.sl 33)],[(5, .c (.own 2))]⟩],keep:=[0]}
def qwQ (N:Nat) (n:Nat):PzbV_0.F:=fun x=>qiY N x.2.1 n x.1 x.2.2.1 x.2.2.2.1
theorem qEC (N:Nat) (n:Nat):CC (X19 N) (qab Try.f9) PzbV_0 (qwQ N n):=CC.loop (qr6 N) (us:=qrn N) (c:=sub (qab Try.f9) [1,1,0,1,0,0]) (by kernel_rfl) (by kernel_rfl) (fun u h _=>qlt N u h) (fun x=>rfl) (fun n x=>by kernel_rfl) n
def qzf (N:Nat):List (Pc D):=PzbV_0.pc (X19 N) (qwQ N N)::qrn N
theorem qtt (N:Nat):∀u∈qzf N,PcOk (X19 N) (qab Try.f9) u:=qac ((qEC N N).pc (by kernel_rfl)) (qlt N)
def dzbV:FD D:={f:=9,np:=2,ins:=[.v 1 (.sl 53)],fx:=[],rcv:=some (0,48),rk:=2,outs:=[.o 4 (.sl 33), .u 0 (.recv 48)],ofx:=[(4, .c (.own 1))],rvs:=[.tmp 4],flat:=false}
def FzbV (N:Nat):dzbV.F:=fun r x=>zbV N r x.1
theorem ozbV (N:Nat):FOk Try.prog (X19 N) dzbV (FzbV N):=⟨⟨Try.f9,_,Try.func9,rfl,by kernel_rfl,by kernel_rfl,rfl,FC.of (qr6 N) (us:=qzf N) (fun u h _=>qtt N u h) (fun r x=>by kernel_rfl)⟩,by kernel_rfl,by kernel_rfl,by kernel_rfl,by kernel_rfl⟩
def fs20 (N:Nat):List (FE D):=⟨dzbV,FzbV N⟩::fs19 N
theorem qBS (N:Nat):∀y∈fs20 N,CallOk X0 y.d y.F:=all_cons (x:=⟨dzbV,FzbV N⟩) (ozbV N) (qBR N)
def X20 (N:Nat):Ev Try.prog D:=X0.with (fs20 N)
theorem qCG (N:Nat):COk (X20 N):=COk.of (qBS N)
def qpZ (N:Nat):List (Pc D):=[]
theorem qj5 (N:Nat):∀u∈qpZ N,PcOk (X20 N) (qab Try.f67) u:=qaj
def PzbR_0:PD D:={path:=[1,0,1,0,0,1],ins:=[.o 1 (.box 53), .v 4 (.int .i64), .v 5 .bool],fx:=[(1, .box 0 0)],ks:=[1],exs:=[⟨.normal,[.v 5 .bool],[]⟩],keep:=[1,4]}
def qwK (N:Nat):PzbR_0.F:=fun x=>qBt N x.2.1 x.2.2.1
theorem qEw (N:Nat):CC (X20 N) (qab Try.f67) PzbR_0 (qwK N):=CC.of (qCG N) (us:=qpZ N) (fun u h _=>qj5 N u h) (fun x=>by kernel_rfl)
def qzb (N:Nat):List (Pc D):=PzbR_0.pc (X20 N) (qwK N)::qpZ N
theorem qtp (N:Nat):∀u∈qzb N,PcOk (X20 N) (qab Try.f67) u:=qac ((qEw N).pc (by kernel_rfl)) (qj5 N)
def dzbR:FD D:={f:=67,np:=1,ins:=[.v 0 (.agg 53)],fx:=[],rcv:=none,rk:=0,outs:=[.o 2 (.sl 3)],ofx:=[(2, .c (.own 0))],rvs:=[.tmp 2],flat:=false}
def FzbR (N:Nat):dzbR.F:=fun r x=>zbR N x.1
theorem ozbR (N:Nat):FOk Try.prog (X20 N) dzbR (FzbR N):=⟨⟨Try.f67,_,Try.func67,rfl,by kernel_rfl,by kernel_rfl,rfl,FC.of (qCG N) (us:=qzb N) (fun u h _=>qtp N u h) (fun r x=>by kernel_rfl)⟩,by kernel_rfl,by kernel_rfl,by kernel_rfl,by kernel_rfl⟩
def fs21 (N:Nat):List (FE D):=⟨dzbR,FzbR N⟩::fs20 N
theorem qBT (N:Nat):∀y∈fs21 N,CallOk X0 y.d y.F:=all_cons (x:=⟨dzbR,FzbR N⟩) (ozbR N) (qBS N)
def X21 (N:Nat):Ev Try.prog D:=X0.with (fs21 N)
theorem qr7 (N:Nat):COk (X21 N):=COk.of (qBT N)
def qp0 (N:Nat):List (Pc D):=[]
theorem qj6 (N:Nat):∀u∈qp0 N,PcOk (X21 N) (qab Try.f92) u:=qaj
def PzbS_0:PD D:={path:=[1,0,0],ins:=[.v 0 .str],fx:=[],ks:=[],exs:=[⟨.normal,[.v 11 .bool],[]⟩],keep:=[0]}
def qwL (N:Nat):PzbS_0.F:=fun x=>qBu N x.1
theorem qEx (N:Nat):CC (X21 N) (qab Try.f92) PzbS_0 (qwL N):=CC.of (qr7 N) (us:=qp0 N) (fun u h _=>qj6 N u h) (fun x=>by kernel_rfl)
def qrl (N:Nat):List (Pc D):=PzbS_0.pc (X21 N) (qwL N)::qp0 N
theorem qlr (N:Nat):∀u∈qrl N,PcOk (X21 N) (qab Try.f92) u:=qac ((qEx N).pc (by kernel_rfl)) (qj6 N)
def PzbS_2:PD D:={path:=[1,1,0,1,0,0,1,1,0,0,1,0],ins:=[.v 0 .str, .v 3 (.int .i64)],fx:=[],ks:=[],exs:=[⟨.normal,[.v 38 .bool],[]⟩],keep:=[0,13,14]}
def qwN (N:Nat):PzbS_2.F:=fun x=>quW N x.1 x.2.1
theorem qEz (N:Nat):CC (X21 N) (qab Try.f92) PzbS_2 (qwN N):=CC.of (qr7 N) (us:=qrl N) (fun u h _=>qlr N u h) (fun x=>by kernel_rfl)
def qrm (N:Nat):List (Pc D):=PzbS_2.pc (X21 N) (qwN N)::qrl N
theorem qls (N:Nat):∀u∈qrm N,PcOk (X21 N) (qab Try.f92) u:=qac ((qEz N).pc (by kernel_rfl)) (qlr N)
def PzbS_1:PD D:={path:=[1,1,0,1,0],ins:=[.v 0 .str, .v 13 (.int .i64), .v 14 (.int .i64)],fx:=[],ks:=[],exs:=[⟨.exit 0,[],[]⟩,⟨.ret,[.v 2 .bool],[]⟩],keep:=[]}
def qwM (N:Nat) (n:Nat):PzbS_1.F:=fun x=>qhZ N x.1 x.2.1 n x.2.2.1
theorem qEy (N:Nat) (n:Nat):CC (X21 N) (qab Try.f92) PzbS_1 (qwM N n):=CC.loop (qr7 N) (us:=qrm N) (c:=sub (qab Try.f92) [1,1,0,1,0,0]) (by kernel_rfl) (by kernel_rfl) (fun u h _=>qls N u h) (fun x=>rfl) (fun n x=>by kernel_rfl) n
def qzc (N:Nat):List (Pc D):=PzbS_1.pc (X21 N) (qwM N N)::qrm N
theorem qtq (N:Nat):∀u∈qzc N,PcOk (X21 N) (qab Try.f92) u:=qac ((qEy N N).pc (by kernel_rfl)) (qls N)
def dzbS:FD D:={f:=92,np:=1,ins:=[.v 0 .str],fx:=[],rcv:=none,rk:=0,outs:=[.v 2 .bool],ofx:=[],rvs:=[.tmp 2],flat:=true}
def FzbS (N:Nat):dzbS.F:=fun r x=>zbS N x.1
theorem ozbS (N:Nat):FOk Try.prog (X21 N) dzbS (FzbS N):=⟨⟨Try.f92,_,Try.func92,rfl,by kernel_rfl,by kernel_rfl,rfl,FC.of (qr7 N) (us:=qzc N) (fun u h _=>qtq N u h) (fun r x=>by kernel_rfl)⟩,by kernel_rfl,by kernel_rfl,by kernel_rfl,by kernel_rfl⟩
def fs22 (N:Nat):List (FE D):=⟨dzbS,FzbS N⟩::fs21 N
theorem qBU (N:Nat):∀y∈fs22 N,CallOk X0 y.d y.F:=all_cons (x:=⟨dzbS,FzbS N⟩) (ozbS N) (qBT N)
def X22 (N:Nat):Ev Try.prog D:=X0.with (fs22 N)
theorem qe7 (N:Nat):COk (X22 N):=COk.of (qBU N)
def qpF (N:Nat):List (Pc D):=[]
theorem qjL (N:Nat):∀u∈qpF N,PcOk (X22 N) (qab Try.f82) u:=qaj
def PzaS_0:PD D:={path:=[1,1,0,0],ins:=[.o 1 (.box 53), .o 3 (.sl 3)],fx:=[(1, .box 0 0),(3, .c (.own 1))],ks:=[1,1],exs:=[⟨.normal,[.v 17 .bool],[]⟩],keep:=[1,3]}
def qvL (N:Nat):PzaS_0.F:=fun x=>qBb N x.1 x.2.1
theorem qDx (N:Nat):CC (X22 N) (qab Try.f82) PzaS_0 (qvL N):=CC.of (qe7 N) (us:=qpF N) (fun u h _=>qjL N u h) (fun x=>by kernel_rfl)
def qqG (N:Nat):List (Pc D):=PzaS_0.pc (X22 N) (qvL N)::qpF N
theorem qkM (N:Nat):∀u∈qqG N,PcOk (X22 N) (qab Try.f82) u:=qac ((qDx N).pc (by kernel_rfl)) (qjL N)
def PzaS_2:PD D:={path:=[1,1,1,0,1,0,0,1,1,0,0,1,0,0],ins:=[.o 1 (.box 53), .v 5 (.int .i64)],fx:=[(1, .box 0 0)],ks:=[1],exs:=[⟨.normal,[.v 30 .bool],[]⟩],keep:=[1,3,4,5,18,19,20]}
def qvN (N:Nat):PzaS_2.F:=fun x=>qBc N x.2.1
theorem qDz (N:Nat):CC (X22 N) (qab Try.f82) PzaS_2 (qvN N):=CC.of (qe7 N) (us:=qqG N) (fun u h _=>qkM N u h) (fun x=>by kernel_rfl)
def qqI (N:Nat):List (Pc D):=PzaS_2.pc (X22 N) (qvN N)::qqG N
theorem qkO (N:Nat):∀u∈qqI N,PcOk (X22 N) (qab Try.f82) u:=qac ((qDz N).pc (by kernel_rfl)) (qkM N)
def PzaS_3:PD D:={path:=[1,1,1,0,1,0,0,1,1,0,0,1,1,1,0],ins:=[.o 1 (.box 53), .v 5 (.int .i64), .v 33 (.sl 3), .v 34 (.int .i64), .v 35 (.int .i64)],fx:=[(1, .box 0 0)],ks:=[1],exs:=[⟨.exit 2,[],[]⟩,⟨.ret,[.v 2 .bool],[]⟩],keep:=[1,3,18,19,20]}
def qvO (N:Nat) (n:Nat):PzaS_3.F:=fun x=>qgR N x.2.1 x.2.2.1 x.2.2.2.1 n x.2.2.2.2.1
theorem qDA (N:Nat) (n:Nat):CC (X22 N) (qab Try.f82) PzaS_3 (qvO N n):=CC.loop (qe7 N) (us:=qqI N) (c:=sub (qab Try.f82) [1,1,1,0,1,0,0,1,1,0,0,1,1,1,0,0]) (by kernel_rfl) (by kernel_rfl) (fun u h _=>qkO N u h) (fun x=>rfl) (fun n x=>by kernel_rfl) n
def qqJ (N:Nat):List (Pc D):=PzaS_3.pc (X22 N) (qvO N N)::qqI N
theorem qkP (N:Nat):∀u∈qqJ N,PcOk (X22 N) (qab Try.f82) u:=qac ((qDA N N).pc (by kernel_rfl)) (qkO N)
def PzaS_1:PD D:={path:=[1,1,1,0,1,0],ins:=[.o 1 (.box 53), .v 3 (.sl 3), .v 18 (.sl 3), .v 19 (.int .i64), .v 20 (.int .i64)],fx:=[(1, .box 0 0)],ks:=[1],exs:=[⟨.exit 0,[],[]⟩,⟨.ret,[.v 2 .bool],[]⟩],keep:=[1]}
def qvM (N:Nat) (n:Nat):PzaS_1.F:=fun x=>qgQ N x.2.1 x.2.2.1 x.2.2.2.1 n x.2.2.2.2.1
theorem qDy (N:Nat) (n:Nat):CC (X22 N) (qab Try.f82) PzaS_1 (qvM N n):=CC.loop (qe7 N) (us:=qqJ N) (c:=sub (qab Try.f82) [1,1,1,0,1,0,0]) (by kernel_rfl) (by kernel_rfl) (fun u h _=>qkP N u h) (fun x=>rfl) (fun n x=>by kernel_rfl) n
def qqH (N:Nat):List (Pc D):=PzaS_1.pc (X22 N) (qvM N N)::qqJ N
theorem qkN (N:Nat):∀u∈qqH N,PcOk (X22 N) (qab Try.f82) u:=qac ((qDy N N).pc (by kernel_rfl)) (qkP N)
def PzaS_4:PD D:={path:=[1,1,1,1,0,1,0,0],ins:=[.o 1 (.box 53)],fx:=[(1, .box 0 0)],ks:=[1],exs:=[⟨.normal,[.v 2 .bool],[]⟩],keep:=[]}
def qvP (N:Nat):PzaS_4.F:=fun x=>qBd N x.1
theorem qDB (N:Nat):CC (X22 N) (qab Try.f82) PzaS_4 (qvP N):=CC.of (qe7 N) (us:=qqH N) (fun u h _=>qkN N u h) (fun x=>by kernel_rfl)
def qqK (N:Nat):List (Pc D):=PzaS_4.pc (X22 N) (qvP N)::qqH N
theorem qkQ (N:Nat):∀u∈qqK N,PcOk (X22 N) (qab Try.f82) u:=qac ((qDB N).pc (by kernel_rfl)) (qkN N)
def PzaS_5:PD D:={path:=[1,1,1,1,1,0],ins:=[.o 1 (.box 53)],fx:=[(1, .box 0 0)],ks:=[1],exs:=[⟨.normal,[.v 2 .bool],[]⟩],keep:=[]}
def qvQ (N:Nat):PzaS_5.F:=fun x=>qBe N x.1
theorem qDC (N:Nat):CC (X22 N) (qab Try.f82) PzaS_5 (qvQ N):=CC.of (qe7 N) (us:=qqK N) (fun u h _=>qkQ N u h) (fun x=>by kernel_rfl)
def qyR (N:Nat):List (Pc D):=PzaS_5.pc (X22 N) (qvQ N)::qqK N
theorem qs5 (N:Nat):∀u∈qyR N,PcOk (X22 N) (qab Try.f82) u:=qac ((qDC N).pc (by kernel_rfl)) (qkQ N)
def dzaS:FD D:={f:=82,np:=1,ins:=[.v 0 (.agg 53)],fx:=[],rcv:=none,rk:=0,outs:=[.v 2 .bool],ofx:=[],rvs:=[.tmp 2],flat:=true}
def FzaS (N:Nat):dzaS.F:=fun r x=>zaS N x.1
theorem ozaS (N:Nat):FOk Try.prog (X22 N) dzaS (FzaS N):=⟨⟨Try.f82,_,Try.func82,rfl,by kernel_rfl,by kernel_rfl,rfl,FC.of (qe7 N) (us:=qyR N) (fun u h _=>qs5 N u h) (fun r x=>by kernel_rfl)⟩,by kernel_rfl,by kernel_rfl,by kernel_rfl,by kernel_rfl⟩
theorem nzaS (N:Nat):CallOk X0 dzaS (FzaS N):=(ozaS N).call.base
def qpz (N:Nat):List (Pc D):=[]
theorem qjF (N:Nat):∀u∈qpz N,PcOk (X22 N) (qab Try.f67) u:=qaj
def PzaL_0:PD D:={path:=[1,0,1,0,0,1],ins:=[.o 1 (.box 53), .v 4 (.int .i64), .v 5 .bool],fx:=[(1, .box 0 0)],ks:=[1],exs:=[⟨.normal,[.v 5 .bool],[]⟩],keep:=[1,4]}
def qvv (N:Nat):PzaL_0.F:=fun x=>qA8 N x.2.1 x.2.2.1
theorem qDh (N:Nat):CC (X22 N) (qab Try.f67) PzaL_0 (qvv N):=CC.of (qe7 N) (us:=qpz N) (fun u h _=>qjF N u h) (fun x=>by kernel_rfl)
def qyK (N:Nat):List (Pc D):=PzaL_0.pc (X22 N) (qvv N)::qpz N
theorem qsY (N:Nat):∀u∈qyK N,PcOk (X22 N) (qab Try.f67) u:=qac ((qDh N).pc (by kernel_rfl)) (qjF N)
def dzaL:FD D:={f:=67,np:=1,ins:=[.v 0 (.agg 53)],fx:=[],rcv:=none,rk:=0,outs:=[],ofx:=[(2, .c .nilS)],rvs:=[.tmp 2],flat:=false}
def FzaL (N:Nat):dzaL.F:=fun r x=>zaL N x.1
theorem ozaL (N:Nat):FOk Try.prog (X22 N) dzaL (FzaL N):=⟨⟨Try.f67,_,Try.func67,rfl,by kernel_rfl,by kernel_rfl,rfl,FC.of (qe7 N) (us:=qyK N) (fun u h _=>qsY N u h) (fun r x=>by kernel_rfl)⟩,by kernel_rfl,by kernel_rfl,by kernel_rfl,by kernel_rfl⟩
theorem nzaL (N:Nat):CallOk X0 dzaL (FzaL N):=(ozaL N).call.base
def Y22 (N:Nat):Ev Try.prog D:=(X22 N).sub ⟨dzaL,FzaL N⟩
theorem qhh (N:Nat):COk (Y22 N):=COk.sub (qe7 N) (nzaL N).up
def qpE (N:Nat):List (Pc D):=[]
theorem qjK (N:Nat):∀u∈qpE N,PcOk (Y22 N) (qab Try.f82) u:=qaj
def PzaR_0:PD D:={path:=[1,1,0,0],ins:=[.o 1 (.box 53)],fx:=[(1, .box 0 0),(3, .c .nilS)],ks:=[1],exs:=[⟨.normal,[.v 17 .bool],[]⟩],keep:=[1,3]}
def qvH (N:Nat):PzaR_0.F:=fun x=>qBa N
theorem qDt (N:Nat):CC (Y22 N) (qab Try.f82) PzaR_0 (qvH N):=CC.of (qhh N) (us:=qpE N) (fun u h _=>qjK N u h) (fun x=>by kernel_rfl)
def qqD (N:Nat):List (Pc D):=PzaR_0.pc (Y22 N) (qvH N)::qpE N
theorem qkJ (N:Nat):∀u∈qqD N,PcOk (Y22 N) (qab Try.f82) u:=qac ((qDt N).pc (by kernel_rfl)) (qjK N)
def PzaR_1:PD D:={path:=[1,1,1,0,1,0],ins:=[.o 1 (.box 53), .v 19 (.int .i64), .v 20 (.int .i64)],fx:=[(1, .box 0 0),(3, .c .nilS),(18, .c .nilS)],ks:=[1],exs:=[⟨.exit 0,[],[]⟩],keep:=[1]}
def qvI (N:Nat) (n:Nat):PzaR_1.F:=fun x=>qGx N x.2.1 n x.2.2.1
theorem qDu (N:Nat) (n:Nat):CC (Y22 N) (qab Try.f82) PzaR_1 (qvI N n):=CC.loop (qhh N) (us:=qqD N) (c:=sub (qab Try.f82) [1,1,1,0,1,0,0]) (by kernel_rfl) (by kernel_rfl) (fun u h _=>qkJ N u h) (fun x=>rfl) (fun n x=>by kernel_rfl) n
def qqE (N:Nat):List (Pc D):=PzaR_1.pc (Y22 N) (qvI N N)::qqD N
theorem qkK (N:Nat):∀u∈qqE N,PcOk (Y22 N) (qab Try.f82) u:=qac ((qDu N N).pc (by kernel_rfl)) (qkJ N)
def PzaR_2:PD D:={path:=[1,1,1,1,0,1,0,0],ins:=[.o 1 (.box 53)],fx:=[(1, .box 0 0)],ks:=[1],exs:=[⟨.normal,[.v 2 .bool],[]⟩],keep:=[]}
def qvJ (N:Nat):PzaR_2.F:=fun x=>qGy N x.1
theorem qDv (N:Nat):CC (Y22 N) (qab Try.f82) PzaR_2 (qvJ N):=CC.of (qhh N) (us:=qqE N) (fun u h _=>qkK N u h) (fun x=>by kernel_rfl)
def qqF (N:Nat):List (Pc D):=PzaR_2.pc (Y22 N) (qvJ N)::qqE N
theorem qkL (N:Nat):∀u∈qqF N,PcOk (Y22 N) (qab Try.f82) u:=qac ((qDv N).pc (by kernel_rfl)) (qkK N)
def PzaR_3:PD D:={path:=[1,1,1,1,1,0],ins:=[.o 1 (.box 53)],fx:=[(1, .box 0 0)],ks:=[1],exs:=[⟨.normal,[.v 2 .bool],[]⟩],keep:=[]}
def qvK (N:Nat):PzaR_3.F:=fun x=>qGz N x.1
theorem qDw (N:Nat):CC (Y22 N) (qab Try.f82) PzaR_3 (qvK N):=CC.of (qhh N) (us:=qqF N) (fun u h _=>qkL N u h) (fun x=>by kernel_rfl)
def qyQ (N:Nat):List (Pc D):=PzaR_3.pc (Y22 N) (qvK N)::qqF N
theorem qs4 (N:Nat):∀u∈qyQ N,PcOk (Y22 N) (qab Try.f82) u:=qac ((qDw N).pc (by kernel_rfl)) (qkL N)
def dzaR:FD D:={f:=82,np:=1,ins:=[.v 0 (.agg 53)],fx:=[],rcv:=none,rk:=0,outs:=[.v 2 .bool],ofx:=[],rvs:=[.tmp 2],flat:=true}
def FzaR (N:Nat):dzaR.F:=fun r x=>zaR N x.1
theorem ozaR (N:Nat):FOk Try.prog (Y22 N) dzaR (FzaR N):=⟨⟨Try.f82,_,Try.func82,rfl,by kernel_rfl,by kernel_rfl,rfl,FC.of (qhh N) (us:=qyQ N) (fun u h _=>qs4 N u h) (fun r x=>by kernel_rfl)⟩,by kernel_rfl,by kernel_rfl,by kernel_rfl,by kernel_rfl⟩
theorem nzaR (N:Nat):CallOk X0 dzaR (FzaR N):=(ozaR N).call.sub.base
def dzbF:FD D:=dzaS
def FzbF (N:Nat):dzbF.F:=fun r x=>orI (FzaR N r x) (FzaS N r x)
theorem wzbF (N:Nat):CallOk X0 dzbF (FzbF N):=CallOk.or (F1:=FzaR N) (F2:=FzaS N) rfl (fun r x y h=>qF6 h) (nzaR N) (nzaS N)
def fs23 (N:Nat):List (FE D):=⟨dzbF,FzbF N⟩::fs22 N
theorem qBV (N:Nat):∀y∈fs23 N,CallOk X0 y.d y.F:=qao (x:=⟨dzbF,FzbF N⟩) (wzbF N) (qBU N)
def X23 (N:Nat):Ev Try.prog D:=X0.with (fs23 N)
theorem qzR (N:Nat):COk (X23 N):=COk.of (qBV N)
def qpQ (N:Nat):List (Pc D):=[]
theorem qjW (N:Nat):∀u∈qpQ N,PcOk (X23 N) (qab Try.f64) u:=qaj
def PzbE_1:PD D:={path:=[1,1,1,1,0,1,0,0,1,1,0,0,1,1,1,1,1,0],ins:=[.o 3 (.map 122 9 4), .o 4 (.map 60 3 3), .o 31 (.sl 3), .v 32 (.int .i64), .v 33 (.int .i64)],fx:=[(3, .c (.own 0)),(4, .c (.own 1)),(31, .c (.own 2))],ks:=[1,2,1],exs:=[⟨.exit 2,[.u 1 (.map 60 3 3)],[]⟩,⟨.ret,[.v 2 (.int .i64)],[]⟩],keep:=[3,4,14,15,16]}
def qwu (N:Nat) (n:Nat):PzbE_1.F:=fun x=>qgV N x.2.2.1 x.2.2.2.1 n x.2.1 x.2.2.2.2.1
theorem qEg (N:Nat) (n:Nat):CC (X23 N) (qab Try.f64) PzbE_1 (qwu N n):=CC.loop (qzR N) (us:=qpQ N) (c:=sub (qab Try.f64) [1,1,1,1,0,1,0,0,1,1,0,0,1,1,1,1,1,0,0]) (by kernel_rfl) (by kernel_rfl) (fun u h _=>qjW N u h) (fun x=>rfl) (fun n x=>by kernel_rfl) n
def qrd (N:Nat):List (Pc D):=PzbE_1.pc (X23 N) (qwu N N)::qpQ N
theorem qlj (N:Nat):∀u∈qrd N,PcOk (X23 N) (qab Try.f64) u:=qac ((qEg N N).pc (by kernel_rfl)) (qjW N)
def PzbE_0:PD D:={path:=[1,1,1,1,0,1,0],ins:=[.o 3 (.map 122 9 4), .o 4 (.map 60 3 3), .v 14 (.sl 53), .v 15 (.int .i64), .v 16 (.int .i64)],fx:=[(3, .c (.own 0)),(4, .c (.own 1))],ks:=[0,0],exs:=[⟨.exit 0,[],[]⟩,⟨.ret,[.v 2 (.int .i64)],[]⟩],keep:=[]}
def qwt (N:Nat) (n:Nat):PzbE_0.F:=fun x=>qm8 N x.2.2.1 x.2.2.2.1 n x.1 x.2.1 x.2.2.2.2.1
theorem qEf (N:Nat) (n:Nat):CC (X23 N) (qab Try.f64) PzbE_0 (qwt N n):=CC.loop (qzR N) (us:=qrd N) (c:=sub (qab Try.f64) [1,1,1,1,0,1,0,0]) (by kernel_rfl) (by kernel_rfl) (fun u h _=>qlj N u h) (fun x=>rfl) (fun n x=>by kernel_rfl) n
def qy2 (N:Nat):List (Pc D):=PzbE_0.pc (X23 N) (qwt N N)::qrd N
theorem qtg (N:Nat):∀u∈qy2 N,PcOk (X23 N) (qab Try.f64) u:=qac ((qEf N N).pc (by kernel_rfl)) (qlj N)
def dzbE:FD D:={f:=64,np:=1,ins:=[.v 0 (.sl 53)],fx:=[],rcv:=none,rk:=0,outs:=[.v 2 (.int .i64)],ofx:=[],rvs:=[.tmp 2],flat:=true}
def FzbE (N:Nat):dzbE.F:=fun r x=>zbE N x.1
theorem ozbE (N:Nat):FOk Try.prog (X23 N) dzbE (FzbE N):=⟨⟨Try.f64,_,Try.func64,rfl,by kernel_rfl,by kernel_rfl,rfl,FC.of (qzR N) (us:=qy2 N) (fun u h _=>qtg N u h) (fun r x=>by kernel_rfl)⟩,by kernel_rfl,by kernel_rfl,by kernel_rfl,by kernel_rfl⟩
def fs24 (N:Nat):List (FE D):=⟨dzbE,FzbE N⟩::fs23 N
theorem qBW (N:Nat):∀y∈fs24 N,CallOk X0 y.d y.F:=all_cons (x:=⟨dzbE,FzbE N⟩) (ozbE N) (qBV N)
def X24 (N:Nat):Ev Try.prog D:=X0.with (fs24 N)
theorem qCH (N:Nat):COk (X24 N):=COk.of (qBW N)
def qpU (N:Nat):List (Pc D):=[]
theorem qj0 (N:Nat):∀u∈qpU N,PcOk (X24 N) (qab Try.f83) u:=qaj
def PzbK_0:PD D:={path:=[1,0],ins:=[.v 0 (.sl 53), .v 1 (.int .i64)],fx:=[],ks:=[],exs:=[⟨.normal,[.v 4 .bool],[]⟩],keep:=[]}
def qwE (N:Nat):PzbK_0.F:=fun x=>quT N x.1 x.2.1
theorem qEq (N:Nat):CC (X24 N) (qab Try.f83) PzbK_0 (qwE N):=CC.of (qCH N) (us:=qpU N) (fun u h _=>qj0 N u h) (fun x=>by kernel_rfl)
def qy6 (N:Nat):List (Pc D):=PzbK_0.pc (X24 N) (qwE N)::qpU N
theorem qtk (N:Nat):∀u∈qy6 N,PcOk (X24 N) (qab Try.f83) u:=qac ((qEq N).pc (by kernel_rfl)) (qj0 N)
def dzbK:FD D:={f:=83,np:=2,ins:=[.v 0 (.sl 53), .v 1 (.int .i64)],fx:=[],rcv:=none,rk:=0,outs:=[.v 4 .bool],ofx:=[],rvs:=[.tmp 4],flat:=true}
def FzbK (N:Nat):dzbK.F:=fun r x=>zbK N x.1 x.2.1
theorem ozbK (N:Nat):FOk Try.prog (X24 N) dzbK (FzbK N):=⟨⟨Try.f83,_,Try.func83,rfl,by kernel_rfl,by kernel_rfl,rfl,FC.of (qCH N) (us:=qy6 N) (fun u h _=>qtk N u h) (fun r x=>by kernel_rfl)⟩,by kernel_rfl,by kernel_rfl,by kernel_rfl,by kernel_rfl⟩
def fs25 (N:Nat):List (FE D):=⟨dzbK,FzbK N⟩::fs24 N
theorem qBX (N:Nat):∀y∈fs25 N,CallOk X0 y.d y.F:=all_cons (x:=⟨dzbK,FzbK N⟩) (ozbK N) (qBW N)
def X25 (N:Nat):Ev Try.prog D:=X0.with (fs25 N)
theorem qCI (N:Nat):COk (X25 N):=COk.of (qBX N)
def qpY (N:Nat):List (Pc D):=[]
theorem qj4 (N:Nat):∀u∈qpY N,PcOk (X25 N) (qab Try.f85) u:=qaj
def PzbQ_0:PD D:={path:=[1,0,0],ins:=[.v 0 (.sl 53), .v 1 (.int .i64)],fx:=[],ks:=[],exs:=[⟨.normal,[.v 12 .bool],[]⟩],keep:=[0,1]}
def qwJ (N:Nat):PzbQ_0.F:=fun x=>qBs N x.1 x.2.1
theorem qEv (N:Nat):CC (X25 N) (qab Try.f85) PzbQ_0 (qwJ N):=CC.of (qCI N) (us:=qpY N) (fun u h _=>qj4 N u h) (fun x=>by kernel_rfl)
def qza (N:Nat):List (Pc D):=PzbQ_0.pc (X25 N) (qwJ N)::qpY N
theorem qto (N:Nat):∀u∈qza N,PcOk (X25 N) (qab Try.f85) u:=qac ((qEv N).pc (by kernel_rfl)) (qj4 N)
def dzbQ:FD D:={f:=85,np:=2,ins:=[.v 0 (.sl 53), .v 1 (.int .i64)],fx:=[],rcv:=none,rk:=0,outs:=[.o 4 (.sl 3)],ofx:=[(4, .c (.own 0))],rvs:=[.tmp 4],flat:=false}
def FzbQ (N:Nat):dzbQ.F:=fun r x=>zbQ N x.1 x.2.1
theorem ozbQ (N:Nat):FOk Try.prog (X25 N) dzbQ (FzbQ N):=⟨⟨Try.f85,_,Try.func85,rfl,by kernel_rfl,by kernel_rfl,rfl,FC.of (qCI N) (us:=qza N) (fun u h _=>qto N u h) (fun r x=>by kernel_rfl)⟩,by kernel_rfl,by kernel_rfl,by kernel_rfl,by kernel_rfl⟩
def fs26 (N:Nat):List (FE D):=⟨dzbQ,FzbQ N⟩::fs25 N
theorem qBY (N:Nat):∀y∈fs26 N,CallOk X0 y.d y.F:=all_cons (x:=⟨dzbQ,FzbQ N⟩) (ozbQ N) (qBX N)
def X26 (N:Nat):Ev Try.prog D:=X0.with (fs26 N)
theorem qCJ (N:Nat):COk (X26 N):=COk.of (qBY N)
def qpr (N:Nat):List (Pc D):=[]
theorem qjx (N:Nat):∀u∈qpr N,PcOk (X26 N) (qab Try.f93) u:=qaj
def PzaC_0:PD D:={path:=[1,0,1,0],ins:=[.v 0 (.sl 3), .v 1 (.int .i64), .v 7 (.int .i64), .v 8 (.int .i64)],fx:=[],ks:=[],exs:=[⟨.exit 0,[],[]⟩,⟨.ret,[.v 4 (.int .i64)],[]⟩],keep:=[]}
def qve (N:Nat) (n:Nat):PzaC_0.F:=fun x=>qhV N x.1 x.2.1 x.2.2.1 n x.2.2.2.1
theorem qC0 (N:Nat) (n:Nat):CC (X26 N) (qab Try.f93) PzaC_0 (qve N n):=CC.loop (qCJ N) (us:=qpr N) (c:=sub (qab Try.f93) [1,0,1,0,0]) (by kernel_rfl) (by kernel_rfl) (fun u h _=>qjx N u h) (fun x=>rfl) (fun n x=>by kernel_rfl) n
def qyC (N:Nat):List (Pc D):=PzaC_0.pc (X26 N) (qve N N)::qpr N
theorem qsQ (N:Nat):∀u∈qyC N,PcOk (X26 N) (qab Try.f93) u:=qac ((qC0 N N).pc (by kernel_rfl)) (qjx N)
def dzaC:FD D:={f:=93,np:=2,ins:=[.v 0 (.sl 3), .v 1 (.int .i64)],fx:=[],rcv:=none,rk:=0,outs:=[.v 4 (.int .i64)],ofx:=[],rvs:=[.tmp 4],flat:=true}
def FzaC (N:Nat):dzaC.F:=fun r x=>zaC N x.1 x.2.1
theorem ozaC (N:Nat):FOk Try.prog (X26 N) dzaC (FzaC N):=⟨⟨Try.f93,_,Try.func93,rfl,by kernel_rfl,by kernel_rfl,rfl,FC.of (qCJ N) (us:=qyC N) (fun u h _=>qsQ N u h) (fun r x=>by kernel_rfl)⟩,by kernel_rfl,by kernel_rfl,by kernel_rfl,by kernel_rfl⟩
def fs27 (N:Nat):List (FE D):=⟨dzaC,FzaC N⟩::fs26 N
theorem qBZ (N:Nat):∀y∈fs27 N,CallOk X0 y.d y.F:=all_cons (x:=⟨dzaC,FzaC N⟩) (ozaC N) (qBY N)
def X27 (N:Nat):Ev Try.prog D:=X0.with (fs27 N)
theorem qGR (N:Nat):COk (X27 N):=COk.of (qBZ N)
def qyr (N:Nat):List (Pc D):=[]
theorem qsG (N:Nat):∀u∈qyr N,PcOk (X27 N) (qab Try.f84) u:=qaj
def dzaA:FD D:={f:=84,np:=2,ins:=[.v 0 (.sl 3), .v 1 (.int .i64)],fx:=[],rcv:=none,rk:=0,outs:=[.v 4 .bool],ofx:=[],rvs:=[.tmp 4],flat:=true}
def FzaA (N:Nat):dzaA.F:=fun r x=>zaA N x.1 x.2.1
theorem ozaA (N:Nat):FOk Try.prog (X27 N) dzaA (FzaA N):=⟨⟨Try.f84,_,Try.func84,rfl,by kernel_rfl,by kernel_rfl,rfl,FC.of (qGR N) (us:=qyr N) (fun u h _=>qsG N u h) (fun r x=>by kernel_rfl)⟩,by kernel_rfl,by kernel_rfl,by kernel_rfl,by kernel_rfl⟩
def fs28 (N:Nat):List (FE D):=⟨dzaA,FzaA N⟩::fs27 N
theorem qB0 (N:Nat):∀y∈fs28 N,CallOk X0 y.d y.F:=all_cons (x:=⟨dzaA,FzaA N⟩) (ozaA N) (qBZ N)
def X28 (N:Nat):Ev Try.prog D:=X0.with (fs28 N)
theorem qr8 (N:Nat):COk (X28 N):=COk.of (qB0 N)
def qpw (N:Nat):List (Pc D):=[]
theorem qjC (N:Nat):∀u∈qpw N,PcOk (X28 N) (qab Try.f38) u:=qaj
def PzaI_2:PD D:={path:=[1,0,1,0,0,1,1,0,0,1,1,1,0],ins:=[.v 2 (.int .i64), .v 7 (.int .i64), .o 22 (.sl 3), .v 23 (.int .i64), .v 24 (.int .i64)],fx:=[(22, .c (.own 0))],ks:=[1],exs:=[⟨.exit 2,[],[]⟩,⟨.ret,[.v 6 (.int .i64)],[]⟩],keep:=[1,2,11,12,13]}
def qvp (N:Nat) (n:Nat):PzaI_2.F:=fun x=>qgP N x.1 x.2.1 x.2.2.1 x.2.2.2.1 n x.2.2.2.2.1
theorem qDb (N:Nat) (n:Nat):CC (X28 N) (qab Try.f38) PzaI_2 (qvp N n):=CC.loop (qr8 N) (us:=qpw N) (c:=sub (qab Try.f38) [1,0,1,0,0,1,1,0,0,1,1,1,0,0]) (by kernel_rfl) (by kernel_rfl) (fun u h _=>qjC N u h) (fun x=>rfl) (fun n x=>by kernel_rfl) n
def qqt (N:Nat):List (Pc D):=PzaI_2.pc (X28 N) (qvp N N)::qpw N
theorem qkz (N:Nat):∀u∈qqt N,PcOk (X28 N) (qab Try.f38) u:=qac ((qDb N N).pc (by kernel_rfl)) (qjC N)
def PzaI_1:PD D:={path:=[1,0,1,0,0,1,1,0],ins:=[.v 1 (.int .i64), .v 2 (.int .i64), .v 11 (.sl 53), .v 13 (.int .i64)],fx:=[],ks:=[],exs:=[⟨.normal,[],[]⟩,⟨.ret,[.v 6 (.int .i64)],[]⟩],keep:=[1,2,11,12,13]}
def qvo (N:Nat):PzaI_1.F:=fun x=>qA7 N x.1 x.2.1 x.2.2.1 x.2.2.2.1
theorem qDa (N:Nat):CC (X28 N) (qab Try.f38) PzaI_1 (qvo N):=CC.of (qr8 N) (us:=qqt N) (fun u h _=>qkz N u h) (fun x=>by kernel_rfl)
def qqs (N:Nat):List (Pc D):=PzaI_1.pc (X28 N) (qvo N)::qqt N
theorem qky (N:Nat):∀u∈qqs N,PcOk (X28 N) (qab Try.f38) u:=qac ((qDa N).pc (by kernel_rfl)) (qkz N)
def PzaI_0:PD D:={path:=[1,0,1,0],ins:=[.v 1 (.int .i64), .v 2 (.int .i64), .v 11 (.sl 53), .v 12 (.int .i64), .v 13 (.int .i64)],fx:=[],ks:=[],exs:=[⟨.exit 0,[],[]⟩,⟨.ret,[.v 6 (.int .i64)],[]⟩],keep:=[]}
def qvn (N:Nat) (n:Nat):PzaI_0.F:=fun x=>qhW N x.1 x.2.1 x.2.2.1 x.2.2.2.1 n x.2.2.2.2.1
theorem qC9 (N:Nat) (n:Nat):CC (X28 N) (qab Try.f38) PzaI_0 (qvn N n):=CC.loop (qr8 N) (us:=qqs N) (c:=sub (qab Try.f38) [1,0,1,0,0]) (by kernel_rfl) (by kernel_rfl) (fun u h _=>qky N u h) (fun x=>rfl) (fun n x=>by kernel_rfl) n
def qyH (N:Nat):List (Pc D):=PzaI_0.pc (X28 N) (qvn N N)::qqs N
theorem qsV (N:Nat):∀u∈qyH N,PcOk (X28 N) (qab Try.f38) u:=qac ((qC9 N N).pc (by kernel_rfl)) (qky N)
def dzaI:FD D:={f:=38,np:=3,ins:=[.v 0 (.sl 53), .v 1 (.int .i64), .v 2 (.int .i64)],fx:=[],rcv:=none,rk:=0,outs:=[.v 6 (.int .i64)],ofx:=[],rvs:=[.tmp 6],flat:=true}
def FzaI (N:Nat):dzaI.F:=fun r x=>zaI N x.1 x.2.1 x.2.2.1
theorem ozaI (N:Nat):FOk Try.prog (X28 N) dzaI (FzaI N):=⟨⟨Try.f38,_,Try.func38,rfl,by kernel_rfl,by kernel_rfl,rfl,FC.of (qr8 N) (us:=qyH N) (fun u h _=>qsV N u h) (fun r x=>by kernel_rfl)⟩,by kernel_rfl,by kernel_rfl,by kernel_rfl,by kernel_rfl⟩
def fs29 (N:Nat):List (FE D):=⟨dzaI,FzaI N⟩::fs28 N
theorem qB1 (N:Nat):∀y∈fs29 N,CallOk X0 y.d y.F:=all_cons (x:=⟨dzaI,FzaI N⟩) (ozaI N) (qB0 N)
def X29 (N:Nat):Ev Try.prog D:=X0.with (fs29 N)
theorem qCK (N:Nat):COk (X29 N):=COk.of (qB1 N)
def qpD (N:Nat):List (Pc D):=[]
theorem qjJ (N:Nat):∀u∈qpD N,PcOk (X29 N) (qab Try.f68) u:=qaj
def PzaQ_0:PD D:={path:=[1,1,0,1,0],ins:=[.v 2 (.int .i64), .o 7 (.sl 3), .v 14 (.int .i64), .v 15 (.int .i64)],fx:=[(7, .c (.own 0)),(13, .c (.own 0))],ks:=[0],exs:=[⟨.exit 0,[],[]⟩,⟨.ret,[.v 6 (.sl 3)],[]⟩],keep:=[]}
def qvG (N:Nat) (n:Nat):PzaQ_0.F:=fun x=>qcK N x.1 x.2.2.1 n x.2.1 x.2.2.2.1
theorem qDs (N:Nat) (n:Nat):CC (X29 N) (qab Try.f68) PzaQ_0 (qvG N n):=CC.loop (qCK N) (us:=qpD N) (c:=sub (qab Try.f68) [1,1,0,1,0,0]) (by kernel_rfl) (by kernel_rfl) (fun u h _=>qjJ N u h) (fun x=>rfl) (fun n x=>by kernel_rfl) n
def qyP (N:Nat):List (Pc D):=PzaQ_0.pc (X29 N) (qvG N N)::qpD N
theorem qs3 (N:Nat):∀u∈qyP N,PcOk (X29 N) (qab Try.f68) u:=qac ((qDs N N).pc (by kernel_rfl)) (qjJ N)
def dzaQ:FD D:={f:=68,np:=3,ins:=[.v 0 (.sl 53), .v 1 (.int .i64), .v 2 (.int .i64)],fx:=[],rcv:=none,rk:=0,outs:=[.v 6 (.sl 3)],ofx:=[],rvs:=[.tmp 6],flat:=false}
def FzaQ (N:Nat):dzaQ.F:=fun r x=>zaQ N x.1 x.2.1 x.2.2.1
theorem ozaQ (N:Nat):FOk Try.prog (X29 N) dzaQ (FzaQ N):=⟨⟨Try.f68,_,Try.func68,rfl,by kernel_rfl,by kernel_rfl,rfl,FC.of (qCK N) (us:=qyP N) (fun u h _=>qs3 N u h) (fun r x=>by kernel_rfl)⟩,by kernel_rfl,by kernel_rfl,by kernel_rfl,by kernel_rfl⟩
def fs30 (N:Nat):List (FE D):=⟨dzaQ,FzaQ N⟩::fs29 N
theorem qB2 (N:Nat):∀y∈fs30 N,CallOk X0 y.d y.F:=all_cons (x:=⟨dzaQ,FzaQ N⟩) (ozaQ N) (qB1 N)
def X30 (N:Nat):Ev Try.prog D:=X0.with (fs30 N)
theorem qmy (N:Nat):COk (X30 N):=COk.of (qB2 N)
def qp9 (N:Nat):List (Pc D):=[]
theorem qkf (N:Nat):∀u∈qp9 N,PcOk (X30 N) (qab Try.f65) u:=qaj
def PzcC_0:PD D:={path:=[1,1,0,0],ins:=[.v 0 (.sl 53), .v 1 (.sl 70), .v 5 (.int .i64)],fx:=[],ks:=[],exs:=[⟨.normal,[.v 47 .bool],[]⟩],keep:=[0,1,5]}
def qxd (N:Nat):PzcC_0.F:=fun x=>qna N x.1 x.2.1 x.2.2.1
theorem qEZ (N:Nat):CC (X30 N) (qab Try.f65) PzcC_0 (qxd N):=CC.of (qmy N) (us:=qp9 N) (fun u h _=>qkf N u h) (fun x=>by kernel_rfl)
def qrE (N:Nat):List (Pc D):=PzcC_0.pc (X30 N) (qxd N)::qp9 N
theorem qlK (N:Nat):∀u∈qrE N,PcOk (X30 N) (qab Try.f65) u:=qac ((qEZ N).pc (by kernel_rfl)) (qkf N)
def PzcC_1:PD D:={path:=[1,1,1,0,0],ins:=[.v 0 (.sl 53), .v 1 (.sl 70), .v 5 (.int .i64)],fx:=[],ks:=[],exs:=[⟨.normal,[.v 75 .bool],[]⟩],keep:=[0,1,5]}
def qxe (N:Nat):PzcC_1.F:=fun x=>qu5 N x.1 x.2.1 x.2.2.1
theorem qE0 (N:Nat):CC (X30 N) (qab Try.f65) PzcC_1 (qxe N):=CC.of (qmy N) (us:=qrE N) (fun u h _=>qlK N u h) (fun x=>by kernel_rfl)
def qrF (N:Nat):List (Pc D):=PzcC_1.pc (X30 N) (qxe N)::qrE N
theorem qlL (N:Nat):∀u∈qrF N,PcOk (X30 N) (qab Try.f65) u:=qac ((qE0 N).pc (by kernel_rfl)) (qlK N)
def PzcC_3:PD D:={path:=[1,1,1,1,0,1,0,0,1,1,0,0,1,1,0,0],ins:=[.v 0 (.sl 53), .o 7 (.box 70), .o 8 (.box 70)],fx:=[(7, .box 0 0),(8, .box 1 0)],ks:=[1,1],exs:=[⟨.normal,[.v 108 .bool],[]⟩],keep:=[0,1,5,6,7,77,78,79]}
def qxg (N:Nat):PzcC_3.F:=fun x=>qu6 N x.1 x.2.1 x.2.2.1
theorem qE2 (N:Nat):CC (X30 N) (qab Try.f65) PzcC_3 (qxg N):=CC.of (qmy N) (us:=qrF N) (fun u h _=>qlL N u h) (fun x=>by kernel_rfl)
def qrG (N:Nat):List (Pc D):=PzcC_3.pc (X30 N) (qxg N)::qrF N
theorem qlM (N:Nat):∀u∈qrG N,PcOk (X30 N) (qab Try.f65) u:=qac ((qE2 N).pc (by kernel_rfl)) (qlL N)
def PzcC_4:PD D:={path:=[1,1,1,1,0,1,0,0,1,1,0,0,1,1,1,0],ins:=[.v 0 (.sl 53), .v 5 (.int .i64), .v 6 (.int .i64), .o 7 (.box 70)],fx:=[(7, .box 0 0)],ks:=[1],exs:=[⟨.normal,[.v 124 .bool],[]⟩],keep:=[0,1,5,77,78,79]}
def qxh (N:Nat):PzcC_4.F:=fun x=>qu7 N x.1 x.2.1 x.2.2.1 x.2.2.2.1
theorem qE3 (N:Nat):CC (X30 N) (qab Try.f65) PzcC_4 (qxh N):=CC.of (qmy N) (us:=qrG N) (fun u h _=>qlM N u h) (fun x=>by kernel_rfl)
def qrH (N:Nat):List (Pc D):=PzcC_4.pc (X30 N) (qxh N)::qrG N
theorem qlN (N:Nat):∀u∈qrH N,PcOk (X30 N) (qab Try.f65) u:=qac ((qE3 N).pc (by kernel_rfl)) (qlM N)
def PzcC_2:PD D:={path:=[1,1,1,1,0,1,0],ins:=[.v 0 (.sl 53), .v 1 (.sl 70), .v 5 (.int .i64), .v 77 (.sl 70), .v 78 (.int .i64), .v 79 (.int .i64)],fx:=[],ks:=[],exs:=[⟨.exit 0,[],[]⟩,⟨.ret,[.v 4 .bool],[]⟩],keep:=[]}
def qxf (N:Nat) (n:Nat):PzcC_2.F:=fun x=>qh3 N x.1 x.2.1 x.2.2.1 x.2.2.2.1 x.2.2.2.2.1 n x.2.2.2.2.2.1
theorem qE1 (N:Nat) (n:Nat):CC (X30 N) (qab Try.f65) PzcC_2 (qxf N n):=CC.loop (qmy N) (us:=qrH N) (c:=sub (qab Try.f65) [1,1,1,1,0,1,0,0]) (by kernel_rfl) (by kernel_rfl) (fun u h _=>qlN N u h) (fun x=>rfl) (fun n x=>by kernel_rfl) n
def qzl (N:Nat):List (Pc D):=PzcC_2.pc (X30 N) (qxf N N)::qrH N
theorem qtz (N:Nat):∀u∈qzl N,PcOk (X30 N) (qab Try.f65) u:=qac ((qE1 N N).pc (by kernel_rfl)) (qlN N)
def dzcC:FD D:={f:=65,np:=2,ins:=[.v 0 (.sl 53), .v 1 (.sl 70)],fx:=[],rcv:=none,rk:=0,outs:=[.v 4 .bool],ofx:=[],rvs:=[.tmp 4],flat:=true}
def FzcC (N:Nat):dzcC.F:=fun r x=>zcC N x.1 x.2.1
theorem ozcC (N:Nat):FOk Try.prog (X30 N) dzcC (FzcC N):=⟨⟨Try.f65,_,Try.func65,rfl,by kernel_rfl,by kernel_rfl,rfl,FC.of (qmy N) (us:=qzl N) (fun u h _=>qtz N u h) (fun r x=>by kernel_rfl)⟩,by kernel_rfl,by kernel_rfl,by kernel_rfl,by kernel_rfl⟩
def fs31 (N:Nat):List (FE D):=⟨dzcC,FzcC N⟩::fs30 N
theorem qB3 (N:Nat):∀y∈fs31 N,CallOk X0 y.d y.F:=all_cons (x:=⟨dzcC,FzcC N⟩) (ozcC N) (qB2 N)
def X31 (N:Nat):Ev Try.prog D:=X0.with (fs31 N)
theorem qCL (N:Nat):COk (X31 N):=COk.of (qB3 N)
def qpV (N:Nat):List (Pc D):=[]
theorem qj1 (N:Nat):∀u∈qpV N,PcOk (X31 N) (qab Try.f66) u:=qaj
def PzbL_0:PD D:={path:=[1,1,0,1,0],ins:=[.o 3 (.map 67 3 4), .v 7 (.sl 70), .v 8 (.int .i64), .v 9 (.int .i64)],fx:=[(3, .c (.own 0))],ks:=[0],exs:=[⟨.exit 0,[],[]⟩,⟨.ret,[.v 2 .bool],[]⟩],keep:=[]}
def qwF (N:Nat) (n:Nat):PzbL_0.F:=fun x=>qgX N x.2.1 x.2.2.1 n x.1 x.2.2.2.1
theorem qEr (N:Nat) (n:Nat):CC (X31 N) (qab Try.f66) PzbL_0 (qwF N n):=CC.loop (qCL N) (us:=qpV N) (c:=sub (qab Try.f66) [1,1,0,1,0,0]) (by kernel_rfl) (by kernel_rfl) (fun u h _=>qj1 N u h) (fun x=>rfl) (fun n x=>by kernel_rfl) n
def qy7 (N:Nat):List (Pc D):=PzbL_0.pc (X31 N) (qwF N N)::qpV N
theorem qtl (N:Nat):∀u∈qy7 N,PcOk (X31 N) (qab Try.f66) u:=qac ((qEr N N).pc (by kernel_rfl)) (qj1 N)
def dzbL:FD D:={f:=66,np:=1,ins:=[.v 0 (.sl 70)],fx:=[],rcv:=none,rk:=0,outs:=[.v 2 .bool],ofx:=[],rvs:=[.tmp 2],flat:=true}
def FzbL (N:Nat):dzbL.F:=fun r x=>zbL N x.1
theorem ozbL (N:Nat):FOk Try.prog (X31 N) dzbL (FzbL N):=⟨⟨Try.f66,_,Try.func66,rfl,by kernel_rfl,by kernel_rfl,rfl,FC.of (qCL N) (us:=qy7 N) (fun u h _=>qtl N u h) (fun r x=>by kernel_rfl)⟩,by kernel_rfl,by kernel_rfl,by kernel_rfl,by kernel_rfl⟩
def fs32 (N:Nat):List (FE D):=⟨dzbL,FzbL N⟩::fs31 N
theorem qB4 (N:Nat):∀y∈fs32 N,CallOk X0 y.d y.F:=all_cons (x:=⟨dzbL,FzbL N⟩) (ozbL N) (qB3 N)
def X32 (N:Nat):Ev Try.prog D:=X0.with (fs32 N)
theorem qCM (N:Nat):COk (X32 N):=COk.of (qB4 N)
def qpT (N:Nat):List (Pc D):=[]
theorem qjZ (N:Nat):∀u∈qpT N,PcOk (X32 N) (qab Try.f34) u:=qaj
def PzbJ_0:PD D:={path:=[1,0],ins:=[.v 0 (.sl 53), .v 1 (.sl 70)],fx:=[],ks:=[],exs:=[⟨.normal,[.v 4 .bool],[]⟩],keep:=[]}
def qwD (N:Nat):PzbJ_0.F:=fun x=>qBq N x.1 x.2.1
theorem qEp (N:Nat):CC (X32 N) (qab Try.f34) PzbJ_0 (qwD N):=CC.of (qCM N) (us:=qpT N) (fun u h _=>qjZ N u h) (fun x=>by kernel_rfl)
def qy5 (N:Nat):List (Pc D):=PzbJ_0.pc (X32 N) (qwD N)::qpT N
theorem qtj (N:Nat):∀u∈qy5 N,PcOk (X32 N) (qab Try.f34) u:=qac ((qEp N).pc (by kernel_rfl)) (qjZ N)
def dzbJ:FD D:={f:=34,np:=2,ins:=[.v 0 (.sl 53), .v 1 (.sl 70)],fx:=[],rcv:=none,rk:=0,outs:=[.v 4 .bool],ofx:=[],rvs:=[.tmp 4],flat:=true}
def FzbJ (N:Nat):dzbJ.F:=fun r x=>zbJ N x.1 x.2.1
theorem ozbJ (N:Nat):FOk Try.prog (X32 N) dzbJ (FzbJ N):=⟨⟨Try.f34,_,Try.func34,rfl,by kernel_rfl,by kernel_rfl,rfl,FC.of (qCM N) (us:=qy5 N) (fun u h _=>qtj N u h) (fun r x=>by kernel_rfl)⟩,by kernel_rfl,by kernel_rfl,by kernel_rfl,by kernel_rfl⟩
def fs33 (N:Nat):List (FE D):=⟨dzbJ,FzbJ N⟩::fs32 N
theorem qB5 (N:Nat):∀y∈fs33 N,CallOk X0 y.d y.F:=all_cons (x:=⟨dzbJ,FzbJ N⟩) (ozbJ N) (qB4 N)
def X33 (N:Nat):Ev Try.prog D:=X0.with (fs33 N)
theorem qr9 (N:Nat):COk (X33 N):=COk.of (qB5 N)
def qpA (N:Nat):List (Pc D):=[]
theorem qjG (N:Nat):∀u∈qpA N,PcOk (X33 N) (qab Try.f29) u:=qaj
def PzaM_2:PD D:={path:=[1,1,1,0,1,0,0,1,1,0,0,1,1,0,1,1,0],ins:=[.o 6 (.sl 33), .o 8 (.box 70), .o 9 (.box 53)],fx:=[(6, .c (.own 0)),(8, .box 1 0),(9, .box 2 0)],ks:=[1,1,1],exs:=[⟨.normal,[.v 35 .bool],[]⟩],keep:=[0,6,8,9,14,15,16]}
def qvy (N:Nat):PzaM_2.F:=fun x=>qm4 N x.2.1 x.2.2.1
theorem qDk (N:Nat):CC (X33 N) (qab Try.f29) PzaM_2 (qvy N):=CC.of (qr9 N) (us:=qpA N) (fun u h _=>qjG N u h) (fun x=>by kernel_rfl)
def qqy (N:Nat):List (Pc D):=PzaM_2.pc (X33 N) (qvy N)::qpA N
theorem qkE (N:Nat):∀u∈qqy N,PcOk (X33 N) (qab Try.f29) u:=qac ((qDk N).pc (by kernel_rfl)) (qjG N)
def PzaM_1:PD D:={path:=[1,1,1,0,1,0,0,1,1,0],ins:=[.v 0 (.sl 53), .o 6 (.sl 33), .v 14 (.sl 70), .v 16 (.int .i64)],fx:=[(6, .c (.own 0))],ks:=[0],exs:=[⟨.normal,[.o 6 (.sl 33)],[(6, .c (.own 1))]⟩],keep:=[0,14,15,16]}
def qvx (N:Nat):PzaM_1.F:=fun x=>quu N x.1 x.2.1 x.2.2.1 x.2.2.2.1
theorem qDj (N:Nat):CC (X33 N) (qab Try.f29) PzaM_1 (qvx N):=CC.of (qr9 N) (us:=qqy N) (fun u h _=>qkE N u h) (fun x=>by kernel_rfl)
def qqx (N:Nat):List (Pc D):=PzaM_1.pc (X33 N) (qvx N)::qqy N
theorem qkD (N:Nat):∀u∈qqx N,PcOk (X33 N) (qab Try.f29) u:=qac ((qDj N).pc (by kernel_rfl)) (qkE N)
def PzaM_0:PD D:={path:=[1,1,1,0,1,0],ins:=[.v 0 (.sl 53), .o 6 (.sl 33), .v 14 (.sl 70), .v 15 (.int .i64), .v 16 (.int .i64)],fx:=[(6, .c (.own 0))],ks:=[0],exs:=[⟨.exit 0,[.o 6 (.sl 33)],[(6, .c (.own 1))]⟩],keep:=[]}
def qvw (N:Nat) (n:Nat):PzaM_0.F:=fun x=>qhX N x.1 x.2.2.1 x.2.2.2.1 n x.2.1 x.2.2.2.2.1
theorem qDi (N:Nat) (n:Nat):CC (X33 N) (qab Try.f29) PzaM_0 (qvw N n):=CC.loop (qr9 N) (us:=qqx N) (c:=sub (qab Try.f29) [1,1,1,0,1,0,0]) (by kernel_rfl) (by kernel_rfl) (fun u h _=>qkD N u h) (fun x=>rfl) (fun n x=>by kernel_rfl) n
def qyL (N:Nat):List (Pc D):=PzaM_0.pc (X33 N) (qvw N N)::qqx N
theorem qsZ (N:Nat):∀u∈qyL N,PcOk (X33 N) (qab Try.f29) u:=qac ((qDi N N).pc (by kernel_rfl)) (qkD N)
def dzaM:FD D:={f:=29,np:=2,ins:=[.v 0 (.sl 53), .v 1 (.sl 70)],fx:=[],rcv:=none,rk:=0,outs:=[.o 4 (.sl 33), .v 5 (.int .i64)],ofx:=[(4, .c (.own 0))],rvs:=[.tmp 4, .tmp 5],flat:=false}
def FzaM (N:Nat):dzaM.F:=fun r x=>zaM N x.1 x.2.1
theorem ozaM (N:Nat):FOk Try.prog (X33 N) dzaM (FzaM N):=⟨⟨Try.f29,_,Try.func29,rfl,by kernel_rfl,by kernel_rfl,rfl,FC.of (qr9 N) (us:=qyL N) (fun u h _=>qsZ N u h) (fun r x=>by kernel_rfl)⟩,by kernel_rfl,by kernel_rfl,by kernel_rfl,by kernel_rfl⟩
def fs34 (N:Nat):List (FE D):=⟨dzaM,FzaM N⟩::fs33 N
theorem qB6 (N:Nat):∀y∈fs34 N,CallOk X0 y.d y.F:=all_cons (x:=⟨dzaM,FzaM N⟩) (ozaM N) (qB5 N)
def X34 (N:Nat):Ev Try.prog D:=X0.with (fs34 N)
theorem qCN (N:Nat):COk (X34 N):=COk.of (qB6 N)
def qpx (N:Nat):List (Pc D):=[]
theorem qjD (N:Nat):∀u∈qpx N,PcOk (X34 N) (qab Try.f36) u:=qaj
def PzaJ_0:PD D:={path:=[1,1,0,1,0],ins:=[.o 3 (.map 67 3 4), .v 7 (.sl 70), .v 8 (.int .i64), .v 9 (.int .i64)],fx:=[(3, .c (.own 0))],ks:=[2],exs:=[⟨.exit 0,[.u 0 (.map 67 3 4)],[]⟩],keep:=[3]}
def qvq (N:Nat) (n:Nat):PzaJ_0.F:=fun x=>qiS N x.2.1 x.2.2.1 n x.1 x.2.2.2.1
theorem qDc (N:Nat) (n:Nat):CC (X34 N) (qab Try.f36) PzaJ_0 (qvq N n):=CC.loop (qCN N) (us:=qpx N) (c:=sub (qab Try.f36) [1,1,0,1,0,0]) (by kernel_rfl) (by kernel_rfl) (fun u h _=>qjD N u h) (fun x=>rfl) (fun n x=>by kernel_rfl) n
def qyI (N:Nat):List (Pc D):=PzaJ_0.pc (X34 N) (qvq N N)::qpx N
theorem qsW (N:Nat):∀u∈qyI N,PcOk (X34 N) (qab Try.f36) u:=qac ((qDc N N).pc (by kernel_rfl)) (qjD N)
def dzaJ:FD D:={f:=36,np:=1,ins:=[.v 0 (.sl 70)],fx:=[],rcv:=none,rk:=0,outs:=[.o 2 (.map 67 3 4)],ofx:=[(2, .c (.own 0))],rvs:=[.tmp 2],flat:=false}
def FzaJ (N:Nat):dzaJ.F:=fun r x=>zaJ N x.1
theorem ozaJ (N:Nat):FOk Try.prog (X34 N) dzaJ (FzaJ N):=⟨⟨Try.f36,_,Try.func36,rfl,by kernel_rfl,by kernel_rfl,rfl,FC.of (qCN N) (us:=qyI N) (fun u h _=>qsW N u h) (fun r x=>by kernel_rfl)⟩,by kernel_rfl,by kernel_rfl,by kernel_rfl,by kernel_rfl⟩
def fs35 (N:Nat):List (FE D):=⟨dzaJ,FzaJ N⟩::fs34 N
theorem qB7 (N:Nat):∀y∈fs35 N,CallOk X0 y.d y.F:=all_cons (x:=⟨dzaJ,FzaJ N⟩) (ozaJ N) (qB6 N)
def X35 (N:Nat):Ev Try.prog D:=X0.with (fs35 N)
theorem qCO (N:Nat):COk (X35 N):=COk.of (qB7 N)
def qpX (N:Nat):List (Pc D):=[]
theorem qj3 (N:Nat):∀u∈qpX N,PcOk (X35 N) (qab Try.f60) u:=qaj
def PzbP_0:PD D:={path:=[1,0,0],ins:=[.o 2 (.box 53), .o 3 (.box 70)],fx:=[(2, .box 0 0),(3, .box 1 0)],ks:=[1,1],exs:=[⟨.normal,[.v 16 .bool],[]⟩],keep:=[2]}
def qwI (N:Nat):PzbP_0.F:=fun x=>quV N x.1 x.2.1
theorem qEu (N:Nat):CC (X35 N) (qab Try.f60) PzbP_0 (qwI N):=CC.of (qCO N) (us:=qpX N) (fun u h _=>qj3 N u h) (fun x=>by kernel_rfl)
def qy9 (N:Nat):List (Pc D):=PzbP_0.pc (X35 N) (qwI N)::qpX N
theorem qtn (N:Nat):∀u∈qy9 N,PcOk (X35 N) (qab Try.f60) u:=qac ((qEu N).pc (by kernel_rfl)) (qj3 N)
def dzbP:FD D:={f:=60,np:=2,ins:=[.v 0 (.agg 53), .v 1 (.agg 70)],fx:=[],rcv:=none,rk:=0,outs:=[.v 4 (.int .i64)],ofx:=[],rvs:=[.tmp 4],flat:=true}
def FzbP (N:Nat):dzbP.F:=fun r x=>zbP N x.1 x.2.1
theorem ozbP (N:Nat):FOk Try.prog (X35 N) dzbP (FzbP N):=⟨⟨Try.f60,_,Try.func60,rfl,by kernel_rfl,by kernel_rfl,rfl,FC.of (qCO N) (us:=qy9 N) (fun u h _=>qtn N u h) (fun r x=>by kernel_rfl)⟩,by kernel_rfl,by kernel_rfl,by kernel_rfl,by kernel_rfl⟩
def fs36 (N:Nat):List (FE D):=⟨dzbP,FzbP N⟩::fs35 N
theorem qB8 (N:Nat):∀y∈fs36 N,CallOk X0 y.d y.F:=all_cons (x:=⟨dzbP,FzbP N⟩) (ozbP N) (qB7 N)
def X36 (N:Nat):Ev Try.prog D:=X0.with (fs36 N)
theorem qCP (N:Nat):COk (X36 N):=COk.of (qB8 N)
def dzaE:GD D:={f:=57,np:=3,ins:=[.o 100000000 (.box 23), .o 100000001 (.bx 71 [(0,5)]), .o 100000002 (.bx 67 [(0,6)]), .o 100000003 (.fb 88 57 [7]), .o 100000004 (.fb 98 58 [0,1,2,3,4]), .o 100000005 (.map 71 74 4), .o 100000006 (.map 67 3 4), .v 0 (.int .i64), .v 1 (.int .i64), .o 2 (.bx 60 [(0,8)]), .o 2002000 (.map 60 3 3)],fx:=[(2, .box 7 0)],ks:=[1,1,1,1,1,1,1,1,2],outs:=[.v 5 (.int .i64), .u 8 (.map 60 3 3)],ofx:=[],res:=[5]}
def FzaE (N:Nat):dzaE.pd.F:=fun x=>zaE N x.2.2.2.2.2.2.2.1 x.2.2.2.2.2.2.2.2.1 x.2.2.2.2.2.2.2.2.2.2.1
def qps (N:Nat):List (Pc D):=[]
theorem qjy (N:Nat):∀u∈qps N,PcOk (X36 N) (qab Try.f57) u:=qaj
def PzaE_0:PD D:={path:=[1,0,1,0],ins:=[.o 100000000 (.box 23), .o 100000001 (.bx 71 [(0,5)]), .o 100000002 (.bx 67 [(0,6)]), .o 100000003 (.fb 88 57 [7]), .o 100000004 (.fb 98 58 [0,1,2,3,4]), .o 100000005 (.map 71 74 4), .o 100000006 (.map 67 3 4), .v 1 (.int .i64), .o 2 (.bx 60 [(0,8)]), .v 6 (.int .i64), .v 7 .bool, .o 2002000 (.map 60 3 3)],fx:=[(2, .box 7 0)],ks:=[1,1,1,1,1,1,1,1,1],exs:=[⟨.normal,[.v 19 .bool],[]⟩],keep:=[0,1,2]}
def qvf (N:Nat):PzaE_0.F:=fun x=>qup N x.2.2.2.2.2.2.2.1 x.2.2.2.2.2.2.2.2.2.1 x.2.2.2.2.2.2.2.2.2.2.1
theorem qC1 (N:Nat):CC (X36 N) (qab Try.f57) PzaE_0 (qvf N):=CC.of (qCP N) (us:=qps N) (fun u h _=>qjy N u h) (fun x=>by kernel_rfl)
def qyD (N:Nat):List (Pc D):=PzaE_0.pc (X36 N) (qvf N)::qps N
theorem qsR (N:Nat):∀u∈qyD N,PcOk (X36 N) (qab Try.f57) u:=qac ((qC1 N).pc (by kernel_rfl)) (qjy N)
theorem ozaE (N:Nat):GOk Try.prog (X36 N) dzaE (FzaE N):=⟨⟨Try.f57,_,Try.func57,rfl,by kernel_rfl,by kernel_rfl,rfl,by kernel_rfl,CCn.of (qCP N) (us:=qyD N) (fun u h _=>qsR N u h) (fun x=>by kernel_rfl)⟩⟩
theorem wzaE (N:Nat):CallG X0 dzaE (FzaE N):=(ozaE N).call.base
def fs37 (N:Nat):List (FE D):=fs36 N
theorem qB9 (N:Nat):∀y∈fs37 N,CallOk X0 y.d y.F:=qB8 N
def gs37 (N:Nat):List (GE D):=⟨dzaE,FzaE N⟩::[]
theorem qxN (N:Nat):∀y∈gs37 N,CallG X0 y.d y.F:=qa7 (x:=⟨dzaE,FzaE N⟩) (wzaE N) (qz5)
def X37 (N:Nat):Ev Try.prog D:=(X0.with (fs37 N)).gen (gs37 N)
theorem qGS (N:Nat):COk (X37 N):=COk.gen0 (COk.of (qB9 N)) (qxN N)
def qyx (N:Nat):List (Pc D):=[]
theorem qsM (N:Nat):∀u∈qyx N,PcOk (X37 N) (qab Try.f59) u:=qaj
def dzbO:FD D:={f:=59,np:=2,ins:=[.v 0 (.agg 53), .v 1 (.int .i64)],fx:=[],rcv:=none,rk:=0,outs:=[.v 4 (.int .i64)],ofx:=[],rvs:=[.tmp 4],flat:=true}
def FzbO (N:Nat):dzbO.F:=fun r x=>zbO N x.1 x.2.1
theorem ozbO (N:Nat):FOk Try.prog (X37 N) dzbO (FzbO N):=⟨⟨Try.f59,_,Try.func59,rfl,by kernel_rfl,by kernel_rfl,rfl,FC.of (qGS N) (us:=qyx N) (fun u h _=>qsM N u h) (fun r x=>by kernel_rfl)⟩,by kernel_rfl,by kernel_rfl,by kernel_rfl,by kernel_rfl⟩
def fs38 (N:Nat):List (FE D):=⟨dzbO,FzbO N⟩::fs37 N
theorem qzD (N:Nat):∀y∈fs38 N,CallOk X0 y.d y.F:=qao (x:=⟨dzbO,FzbO N⟩) (CallOk.ch (CallOk.ch (ozbO N).call)) (qB9 N)
def gs38 (N:Nat):List (GE D):=gs37 N
theorem qnS (N:Nat):∀y∈gs38 N,CallG X0 y.d y.F:=qxN N
def X38 (N:Nat):Ev Try.prog D:=(X0.with (fs38 N)).gen (gs38 N)
theorem qHL (N:Nat):COk (X38 N):=COk.gen0 (COk.of (qzD N)) (qnS N)
def dzaF:GD D:={f:=58,np:=6,ins:=[.v 0 (.agg 74), .o 1 (.box 23), .o 2 (.bx 71 [(0,5)]), .o 3 (.bx 67 [(0,6)]), .o 4 (.fb 88 57 [7]), .o 5 (.fb 98 58 [0,1,2,3,4]), .o 2002000 (.map 71 74 4), .o 2003000 (.map 67 3 4), .o 200016385 (.bx 60 [(0,8)]), .o 201048641 (.map 60 3 3)],fx:=[(1, .box 0 0),(2, .box 1 0),(3, .box 2 0),(4, .box 3 0),(5, .box 4 0)],ks:=[1,1,1,1,1,2,1,1,2],outs:=[.v 7 (.int .i64), .u 5 (.map 71 74 4), .u 8 (.map 60 3 3)],ofx:=[],res:=[7],fz:=true}
def FzaF (N rc:Nat):dzaF.pd.F:=fun x=>zaF N rc x.1 x.2.1 x.2.2.1 x.2.2.2.1 x.2.2.2.2.2.2.1 x.2.2.2.2.2.2.2.1 x.2.2.2.2.2.2.2.2.1 x.2.2.2.2.2.2.2.2.2.1
def Xr38 (N rc:Nat):Ev Try.prog D:=(X0.with (fs38 N)).gen (⟨dzaF,FzaF N rc⟩::gs38 N)
theorem qxH (N rc:Nat) (hr:CallG X0 dzaF (FzaF N rc)):COk (Xr38 N rc):=COk.gen0 (COk.of (qzD N)) (qa7 (x:=⟨dzaF,FzaF N rc⟩) hr (qnS N))
def qpt (N rc:Nat):List (Pc D):=[]
theorem qjz (N rc:Nat) (hr:CallG X0 dzaF (FzaF N rc)):∀u∈qpt N rc,PcOk (Xr38 N rc) (qab Try.f58) u:=qaj
def PzaF_0:PD D:={path:=[1,1,0,0],ins:=[.o 1 (.box 23), .o 2 (.bx 71 [(0,5)]), .o 3 (.bx 67 [(0,6)]), .o 4 (.fb 88 57 [7]), .o 5 (.fb 98 58 [0,1,2,3,4]), .v 6 (.rp 74), .v 8 (.int .i64), .o 2002000 (.map 71 74 4), .o 2003000 (.map 67 3 4), .o 200016385 (.bx 60 [(0,8)]), .o 201048641 (.map 60 3 3)],fx:=[(1, .box 0 0),(2, .box 1 0),(3, .box 2 0),(4, .box 3 0),(5, .box 4 0)],ks:=[1,1,1,1,1,1,1,1,1],exs:=[⟨.normal,[.v 28 .bool],[]⟩],keep:=[1,2,3,4,5,6,8]}
def qvg (N rc:Nat):PzaF_0.F:=fun x=>quq N (zaF N rc) x.2.2.2.2.2.1 x.2.2.2.2.2.2.1 x.2.2.2.2.2.2.2.1 x.2.2.2.2.2.2.2.2.1
theorem qC2 (N rc:Nat) (hr:CallG X0 dzaF (FzaF N rc)):CC (Xr38 N rc) (qab Try.f58) PzaF_0 (qvg N rc):=CC.of (qxH N rc hr) (us:=qpt N rc) (fun u h _=>qjz N rc hr u h) (fun x=>by kernel_rfl)
def qyE (N rc:Nat):List (Pc D):=PzaF_0.pc (Xr38 N rc) (qvg N rc)::qpt N rc
theorem qsS (N rc:Nat) (hr:CallG X0 dzaF (FzaF N rc)):∀u∈qyE N rc,PcOk (Xr38 N rc) (qab Try.f58) u:=qac ((qC2 N rc hr).pc (by kernel_rfl)) (qjz N rc hr)
theorem ozaF (N rc:Nat) (hr:CallG X0 dzaF (FzaF N rc)):GOk Try.prog (Xr38 N rc) dzaF (FzaF N (rc+1)):=⟨⟨Try.f58,_,Try.func58,rfl,by kernel_rfl,by kernel_rfl,rfl,by kernel_rfl,CCn.of (qxH N rc hr) (us:=qyE N rc) (fun u h _=>qsS N rc hr u h) (fun x=>by kernel_rfl)⟩⟩
theorem wzaF (N:Nat):∀rc:Nat,CallG X0 dzaF (FzaF N rc)
 |0=>CallG.none fun x=>rfl
 |rc+1=>(ozaF N rc (wzaF N rc)).call.base.base
def fs39 (N:Nat):List (FE D):=fs38 N
theorem qCa (N:Nat):∀y∈fs39 N,CallOk X0 y.d y.F:=qzD N
def gs39 (N:Nat):List (GE D):=⟨dzaF,FzaF N N⟩::gs38 N
theorem qxO (N:Nat):∀y∈gs39 N,CallG X0 y.d y.F:=qa7 (x:=⟨dzaF,FzaF N N⟩) (wzaF N N) (qnS N)
def X39 (N:Nat):Ev Try.prog D:=(X0.with (fs39 N)).gen (gs39 N)
theorem qGT (N:Nat):COk (X39 N):=COk.gen0 (COk.of (qCa N)) (qxO N)
def Y39 (N:Nat):Ev Try.prog D:=(X39 N).cuts fun x lo hi=>match x,lo,hi with| .func 57,none,none=>5| .func 58,none,none=>5|_,_,_=>0
theorem qnw (N:Nat):COk (Y39 N):=COk.cuts (qGT N)
def qpP (N:Nat):List (Pc D):=[]
theorem qjV (N:Nat):∀u∈qpP N,PcOk (Y39 N) (qab Try.f30) u:=qaj
def PzbD_1:PD D:={path:=[1,1,1,1,1,1,1,0,1,0,0,1,1,0],ins:=[.o 2 (.box 23), .o 8 (.bx 60 [(0,3)]), .o 10 (.fb 98 58 [0,4,5,6,2]), .v 21 (.sl 70), .v 23 (.int .i64), .o 2008000 (.map 60 3 3), .o 200040962 (.bx 71 [(0,7)]), .o 200040963 (.bx 67 [(0,8)]), .o 200040964 (.fb 88 57 [1]), .o 202621569 (.map 71 74 4), .o 202621633 (.map 67 3 4)],fx:=[(2, .box 0 0),(8, .box 1 0),(10, .box 2 0)],ks:=[1,1,1,2,1,1,1,2,1],exs:=[⟨.normal,[.u 3 (.map 60 3 3), .u 7 (.map 71 74 4)],[]⟩,⟨.ret,[.v 5 (.int .i64)],[(4, .c .nilM)]⟩],keep:=[2,8,10,21,22,23]}
def qws (N:Nat):PzbD_1.F:=fun x=>qBo N x.1 x.2.2.2.1 x.2.2.2.2.1 x.2.2.2.2.2.1 x.2.2.2.2.2.2.2.2.2.1 x.2.2.2.2.2.2.2.2.2.2.1
theorem qEe (N:Nat):CC (Y39 N) (qab Try.f30) PzbD_1 (qws N):=CC.of (qnw N) (us:=qpP N) (fun u h _=>qjV N u h) (fun x=>by kernel_rfl)
def qrc (N:Nat):List (Pc D):=PzbD_1.pc (Y39 N) (qws N)::qpP N
theorem qli (N:Nat):∀u∈qrc N,PcOk (Y39 N) (qab Try.f30) u:=qac ((qEe N).pc (by kernel_rfl)) (qjV N)
def PzbD_0:PD D:={path:=[1,1,1,1,1,1,1,0,1,0],ins:=[.o 2 (.box 23), .o 8 (.bx 60 [(0,3)]), .o 10 (.fb 98 58 [0,4,5,6,2]), .v 21 (.sl 70), .v 22 (.int .i64), .v 23 (.int .i64), .o 2008000 (.map 60 3 3), .o 200040962 (.bx 71 [(0,7)]), .o 200040963 (.bx 67 [(0,8)]), .o 200040964 (.fb 88 57 [1]), .o 202621569 (.map 71 74 4), .o 202621633 (.map 67 3 4)],fx:=[(2, .box 0 0),(8, .box 1 0),(10, .box 2 0)],ks:=[1,2,1,0,2,1,1,0,1],exs:=[⟨.exit 0,[.u 1 (.bx 60 [(0,9)]), .o 2008000 (.map 60 3 3)],[]⟩,⟨.ret,[.v 5 (.int .i64)],[(4, .c .nilM)]⟩],keep:=[8]}
def qwr (N:Nat) (n:Nat):PzbD_0.F:=fun x=>qgU N x.1 x.2.2.2.1 x.2.2.2.2.1 x.2.2.2.2.2.2.2.2.2.2.2.1 n x.2.1 x.2.2.2.2.2.1 x.2.2.2.2.2.2.1 x.2.2.2.2.2.2.2.1 x.2.2.2.2.2.2.2.2.2.2.1
theorem qEd (N:Nat) (n:Nat):CC (Y39 N) (qab Try.f30) PzbD_0 (qwr N n):=CC.loop (qnw N) (us:=qrc N) (c:=sub (qab Try.f30) [1,1,1,1,1,1,1,0,1,0,0]) (by kernel_rfl) (by kernel_rfl) (fun u h _=>qli N u h) (fun x=>rfl) (fun n x=>by kernel_rfl) n
def qy1 (N:Nat):List (Pc D):=PzbD_0.pc (Y39 N) (qwr N N)::qrc N
theorem qtf (N:Nat):∀u∈qy1 N,PcOk (Y39 N) (qab Try.f30) u:=qac ((qEd N N).pc (by kernel_rfl)) (qli N)
def dzbD:FD D:={f:=30,np:=2,ins:=[.v 0 (.sl 53), .v 1 (.sl 70)],fx:=[],rcv:=none,rk:=0,outs:=[.v 4 (.mp 60 3 3), .v 5 (.int .i64)],ofx:=[],rvs:=[.tmp 4, .tmp 5],flat:=false}
def FzbD (N:Nat):dzbD.F:=fun r x=>zbD N x.1 x.2.1
theorem ozbD (N:Nat):FOk Try.prog (Y39 N) dzbD (FzbD N):=⟨⟨Try.f30,_,Try.func30,rfl,by kernel_rfl,by kernel_rfl,rfl,FC.of (qnw N) (us:=qy1 N) (fun u h _=>qtf N u h) (fun r x=>by kernel_rfl)⟩,by kernel_rfl,by kernel_rfl,by kernel_rfl,by kernel_rfl⟩
def fs40 (N:Nat):List (FE D):=⟨dzbD,FzbD N⟩::fs39 N
theorem qCb (N:Nat):∀y∈fs40 N,CallOk X0 y.d y.F:=qao (x:=⟨dzbD,FzbD N⟩) (CallOk.ch (CallOk.ch (CallOk.ch (ozbD N).call))) (qCa N)
def gs40 (N:Nat):List (GE D):=gs39 N
theorem qxP (N:Nat):∀y∈gs40 N,CallG X0 y.d y.F:=qxO N
def X40 (N:Nat):Ev Try.prog D:=(X0.with (fs40 N)).gen (gs40 N)
theorem qCQ (N:Nat):COk (X40 N):=COk.gen0 (COk.of (qCb N)) (qxP N)
def qyt (N:Nat):List (Pc D):=[]
theorem qsI (N:Nat):∀u∈qyt N,PcOk (X40 N) (qab Try.f13) u:=qaj
def PzaP_0:PD D:=rngP D [1,1,1,1,1] 33 3 3 60
def qvF (N:Nat):PzaP_0.F:=fun x=>qrX N x.1 x.2.1
theorem qDr (N:Nat):CC (X40 N) (qab Try.f13) PzaP_0 (qvF N):=qo5 (e:=33) (kt:=3) (vt:=3) (t:=60) (qCQ N) (by kernel_rfl) .i64 .i64 rfl rfl (fun (a:Int) (b:Int)=>(Setting.mk a b)) ((Setting.mk 0 0):Setting) (fun (x:Setting)=>x.element) (by kernel_rfl) (by kernel_rfl) (by kernel_rfl) (by kernel_rfl) rfl ki3.K vi3.V (fun _=>rfl) (fun _=>rfl) (by kernel_rfl) (fun a b ys wf=>by kernel_rfl) (fun ys wf=>by kernel_rfl) (fun ys wf=>by kernel_rfl) si31_56.hv si31_56.hr si31_56.hf (Nat.le_of_ble_eq_true (by kernel_rfl)) (by kernel_rfl) (by kernel_rfl)
def qyO (N:Nat):List (Pc D):=PzaP_0.pc (X40 N) (qvF N)::qyt N
theorem qs2 (N:Nat):∀u∈qyO N,PcOk (X40 N) (qab Try.f13) u:=qac ((qDr N).pc (by kernel_rfl)) (qsI N)
def dzaP:FD D:={f:=13,np:=2,ins:=[.v 0 (.sl 53), .v 1 (.sl 70)],fx:=[],rcv:=none,rk:=0,outs:=[.v 4 (.sl 33), .v 5 (.int .i64)],ofx:=[],rvs:=[.tmp 4, .tmp 5],flat:=false}
def FzaP (N:Nat):dzaP.F:=fun r x=>zaP N x.1 x.2.1
theorem ozaP (N:Nat):FOk Try.prog (X40 N) dzaP (FzaP N):=⟨⟨Try.f13,_,Try.func13,rfl,by kernel_rfl,by kernel_rfl,rfl,FC.of (qCQ N) (us:=qyO N) (fun u h _=>qs2 N u h) (fun r x=>by kernel_rfl)⟩,by kernel_rfl,by kernel_rfl,by kernel_rfl,by kernel_rfl⟩
def fs41 (N:Nat):List (FE D):=⟨dzaP,FzaP N⟩::fs40 N
theorem qCc (N:Nat):∀y∈fs41 N,CallOk X0 y.d y.F:=qao (x:=⟨dzaP,FzaP N⟩) (CallOk.ch (CallOk.ch (ozaP N).call)) (qCb N)
def gs41 (N:Nat):List (GE D):=gs40 N
theorem qxQ (N:Nat):∀y∈gs41 N,CallG X0 y.d y.F:=qxP N
def X41 (N:Nat):Ev Try.prog D:=(X0.with (fs41 N)).gen (gs41 N)
theorem qCR (N:Nat):COk (X41 N):=COk.gen0 (COk.of (qCc N)) (qxQ N)
def qpK (N:Nat):List (Pc D):=[]
theorem qjQ (N:Nat):∀u∈qpK N,PcOk (X41 N) (qab Try.f40) u:=qaj
def PzaX_0:PD D:={path:=[1,1,0,0,1,1,0],ins:=[.o 3 (.box 70), .o 5 (.box 53)],fx:=[(3, .box 0 0),(5, .box 1 0)],ks:=[1,1],exs:=[⟨.normal,[.v 15 .bool],[]⟩],keep:=[5]}
def qwb (N:Nat):PzaX_0.F:=fun x=>qm6 N x.1 x.2.1
theorem qDX (N:Nat):CC (X41 N) (qab Try.f40) PzaX_0 (qwb N):=CC.of (qCR N) (us:=qpK N) (fun u h _=>qjQ N u h) (fun x=>by kernel_rfl)
def qyW (N:Nat):List (Pc D):=PzaX_0.pc (X41 N) (qwb N)::qpK N
theorem qta (N:Nat):∀u∈qyW N,PcOk (X41 N) (qab Try.f40) u:=qac ((qDX N).pc (by kernel_rfl)) (qjQ N)
def dzaX:FD D:={f:=40,np:=2,ins:=[.v 0 (.sl 53), .v 1 (.agg 70)],fx:=[],rcv:=none,rk:=0,outs:=[.v 4 (.int .i64)],ofx:=[],rvs:=[.tmp 4],flat:=true}
def FzaX (N:Nat):dzaX.F:=fun r x=>zaX N x.1 x.2.1
theorem ozaX (N:Nat):FOk Try.prog (X41 N) dzaX (FzaX N):=⟨⟨Try.f40,_,Try.func40,rfl,by kernel_rfl,by kernel_rfl,rfl,FC.of (qCR N) (us:=qyW N) (fun u h _=>qta N u h) (fun r x=>by kernel_rfl)⟩,by kernel_rfl,by kernel_rfl,by kernel_rfl,by kernel_rfl⟩
def fs42 (N:Nat):List (FE D):=⟨dzaX,FzaX N⟩::fs41 N
theorem qCd (N:Nat):∀y∈fs42 N,CallOk X0 y.d y.F:=qao (x:=⟨dzaX,FzaX N⟩) (CallOk.ch (CallOk.ch (ozaX N).call)) (qCc N)
def gs42 (N:Nat):List (GE D):=gs41 N
theorem qxR (N:Nat):∀y∈gs42 N,CallG X0 y.d y.F:=qxQ N
def X42 (N:Nat):Ev Try.prog D:=(X0.with (fs42 N)).gen (gs42 N)
theorem qsa (N:Nat):COk (X42 N):=COk.gen0 (COk.of (qCd N)) (qxR N)
def qqj (N:Nat):List (Pc D):=[]
theorem qkp (N:Nat):∀u∈qqj N,PcOk (X42 N) (qab Try.f14) u:=qaj
def PzcO_1:PD D:={path:=[1,1,0,0,0,0,0],ins:=[.v 0 (.sl 33), .o 3 (.box 33), .v 5 (.int .i64)],fx:=[(3, .box 0 0)],ks:=[1],exs:=[⟨.normal,[.v 20 .bool],[]⟩],keep:=[0,3,5]}
def qxB (N:Nat):PzcO_1.F:=fun x=>qnd N x.1 x.2.1 x.2.2.1
theorem qFn (N:Nat):CC (X42 N) (qab Try.f14) PzcO_1 (qxB N):=CC.of (qsa N) (us:=qqj N) (fun u h _=>qkp N u h) (fun x=>by kernel_rfl)
def qrS (N:Nat):List (Pc D):=PzcO_1.pc (X42 N) (qxB N)::qqj N
theorem qlY (N:Nat):∀u∈qrS N,PcOk (X42 N) (qab Try.f14) u:=qac ((qFn N).pc (by kernel_rfl)) (qkp N)
def PzcO_0:PD D:={path:=[1,1,0,0],ins:=[.v 0 (.sl 33), .o 3 (.box 33), .v 5 (.int .i64)],fx:=[(3, .box 0 0)],ks:=[1],exs:=[⟨.exit 0,[.v 5 (.int .i64)],[]⟩],keep:=[0,3]}
def qxA (N:Nat) (n:Nat):PzcO_0.F:=fun x=>qnc N x.1 x.2.1 n x.2.2.1
theorem qFm (N:Nat) (n:Nat):CC (X42 N) (qab Try.f14) PzcO_0 (qxA N n):=CC.loop (qsa N) (us:=qrS N) (c:=sub (qab Try.f14) [1,1,0,0,0]) (by kernel_rfl) (by kernel_rfl) (fun u h _=>qlY N u h) (fun x=>rfl) (fun n x=>by kernel_rfl) n
def qrR (N:Nat):List (Pc D):=PzcO_0.pc (X42 N) (qxA N N)::qrS N
theorem qlX (N:Nat):∀u∈qrR N,PcOk (X42 N) (qab Try.f14) u:=qac ((qFm N N).pc (by kernel_rfl)) (qlY N)
def PzcO_2:PD D:={path:=[1,1,1,0,0],ins:=[.v 0 (.sl 33), .o 3 (.box 33), .v 5 (.int .i64)],fx:=[(3, .box 0 0)],ks:=[1],exs:=[⟨.normal,[.v 36 .bool],[]⟩],keep:=[0,3,5]}
def qxC (N:Nat):PzcO_2.F:=fun x=>qne N x.1 x.2.1 x.2.2.1
theorem qFo (N:Nat):CC (X42 N) (qab Try.f14) PzcO_2 (qxC N):=CC.of (qsa N) (us:=qrR N) (fun u h _=>qlX N u h) (fun x=>by kernel_rfl)
def qzv (N:Nat):List (Pc D):=PzcO_2.pc (X42 N) (qxC N)::qrR N
theorem qtJ (N:Nat):∀u∈qzv N,PcOk (X42 N) (qab Try.f14) u:=qac ((qFo N).pc (by kernel_rfl)) (qlX N)
def dzcO:FD D:={f:=14,np:=2,ins:=[.v 0 (.sl 33), .v 1 (.agg 33)],fx:=[],rcv:=none,rk:=0,outs:=[.v 4 (.sl 33)],ofx:=[],rvs:=[.tmp 4],flat:=false}
def FzcO (N:Nat):dzcO.F:=fun r x=>zcO N x.1 x.2.1
theorem ozcO (N:Nat):FOk Try.prog (X42 N) dzcO (FzcO N):=⟨⟨Try.f14,_,Try.func14,rfl,by kernel_rfl,by kernel_rfl,rfl,FC.of (qsa N) (us:=qzv N) (fun u h _=>qtJ N u h) (fun r x=>by kernel_rfl)⟩,by kernel_rfl,by kernel_rfl,by kernel_rfl,by kernel_rfl⟩
def fs43 (N:Nat):List (FE D):=⟨dzcO,FzcO N⟩::fs42 N
theorem qCe (N:Nat):∀y∈fs43 N,CallOk X0 y.d y.F:=qao (x:=⟨dzcO,FzcO N⟩) (CallOk.ch (CallOk.ch (ozcO N).call)) (qCd N)
def gs43 (N:Nat):List (GE D):=gs42 N
theorem qxS (N:Nat):∀y∈gs43 N,CallG X0 y.d y.F:=qxR N
def X43 (N:Nat):Ev Try.prog D:=(X0.with (fs43 N)).gen (gs43 N)
theorem qzS (N:Nat):COk (X43 N):=COk.gen0 (COk.of (qCe N)) (qxS N)
def qpL (N:Nat):List (Pc D):=[]
theorem qjR (N:Nat):∀u∈qpL N,PcOk (X43 N) (qab Try.f16) u:=qaj
def PzaY_1:PD D:={path:=[1,1,1,0,1,0,0,1,0],ins:=[.v 0 (.sl 53), .v 1 (.sl 70), .v 6 (.sl 33), .v 7 (.int .i64)],fx:=[],ks:=[],exs:=[⟨.normal,[.v 6 (.sl 33)],[]⟩],keep:=[0,1,7]}
def qwd (N:Nat):PzaY_1.F:=fun x=>quG N x.1 x.2.1 x.2.2.1 x.2.2.2.1
theorem qDZ (N:Nat):CC (X43 N) (qab Try.f16) PzaY_1 (qwd N):=CC.of (qzS N) (us:=qpL N) (fun u h _=>qjR N u h) (fun x=>by kernel_rfl)
def qq1 (N:Nat):List (Pc D):=PzaY_1.pc (X43 N) (qwd N)::qpL N
theorem qk7 (N:Nat):∀u∈qq1 N,PcOk (X43 N) (qab Try.f16) u:=qac ((qDZ N).pc (by kernel_rfl)) (qjR N)
def PzaY_0:PD D:={path:=[1,1,1,0,1,0],ins:=[.v 0 (.sl 53), .v 1 (.sl 70), .v 6 (.sl 33), .v 7 (.int .i64)],fx:=[],ks:=[],exs:=[⟨.exit 0,[.v 6 (.sl 33)],[]⟩],keep:=[]}
def qwc (N:Nat) (n:Nat):PzaY_0.F:=fun x=>qiV N x.1 x.2.1 n x.2.2.1 x.2.2.2.1
theorem qDY (N:Nat) (n:Nat):CC (X43 N) (qab Try.f16) PzaY_0 (qwc N n):=CC.loop (qzS N) (us:=qq1 N) (c:=sub (qab Try.f16) [1,1,1,0,1,0,0]) (by kernel_rfl) (by kernel_rfl) (fun u h _=>qk7 N u h) (fun x=>rfl) (fun n x=>by kernel_rfl) n
def qyX (N:Nat):List (Pc D):=PzaY_0.pc (X43 N) (qwc N N)::qq1 N
theorem qtb (N:Nat):∀u∈qyX N,PcOk (X43 N) (qab Try.f16) u:=qac ((qDY N N).pc (by kernel_rfl)) (qk7 N)
def dzaY:FD D:={f:=16,np:=2,ins:=[.v 0 (.sl 53), .v 1 (.sl 70)],fx:=[],rcv:=none,rk:=0,outs:=[.v 4 (.sl 33), .v 5 (.int .i64)],ofx:=[],rvs:=[.tmp 4, .tmp 5],flat:=false}
def FzaY (N:Nat):dzaY.F:=fun r x=>zaY N x.1 x.2.1
theorem ozaY (N:Nat):FOk Try.prog (X43 N) dzaY (FzaY N):=⟨⟨Try.f16,_,Try.func16,rfl,by kernel_rfl,by kernel_rfl,rfl,FC.of (qzS N) (us:=qyX N) (fun u h _=>qtb N u h) (fun r x=>by kernel_rfl)⟩,by kernel_rfl,by kernel_rfl,by kernel_rfl,by kernel_rfl⟩
def fs44 (N:Nat):List (FE D):=⟨dzaY,FzaY N⟩::fs43 N
theorem qCf (N:Nat):∀y∈fs44 N,CallOk X0 y.d y.F:=qao (x:=⟨dzaY,FzaY N⟩) (CallOk.ch (CallOk.ch (ozaY N).call)) (qCe N)
def gs44 (N:Nat):List (GE D):=gs43 N
theorem qxT (N:Nat):∀y∈gs44 N,CallG X0 y.d y.F:=qxS N
def X44 (N:Nat):Ev Try.prog D:=(X0.with (fs44 N)).gen (gs44 N)
theorem qCS (N:Nat):COk (X44 N):=COk.gen0 (COk.of (qCf N)) (qxT N)
def qqk (N:Nat):List (Pc D):=[]
theorem qkq (N:Nat):∀u∈qqk N,PcOk (X44 N) (qab Try.f71) u:=qaj
def PzcP_0:PD D:={path:=[1,0,1,0],ins:=[.v 0 (.sl 33), .v 1 (.int .i64), .v 5 (.int .i64)],fx:=[],ks:=[],exs:=[⟨.exit 0,[],[]⟩,⟨.ret,[.v 4 (.int .i64)],[]⟩],keep:=[]}
def qxD (N:Nat) (n:Nat):PzcP_0.F:=fun x=>qi0 N x.1 x.2.1 n x.2.2.1
theorem qFp (N:Nat) (n:Nat):CC (X44 N) (qab Try.f71) PzcP_0 (qxD N n):=CC.loop (qCS N) (us:=qqk N) (c:=sub (qab Try.f71) [1,0,1,0,0]) (by kernel_rfl) (by kernel_rfl) (fun u h _=>qkq N u h) (fun x=>rfl) (fun n x=>by kernel_rfl) n
def qzw (N:Nat):List (Pc D):=PzcP_0.pc (X44 N) (qxD N N)::qqk N
theorem qtK (N:Nat):∀u∈qzw N,PcOk (X44 N) (qab Try.f71) u:=qac ((qFp N N).pc (by kernel_rfl)) (qkq N)
def dzcP:FD D:={f:=71,np:=2,ins:=[.v 0 (.sl 33), .v 1 (.int .i64)],fx:=[],rcv:=none,rk:=0,outs:=[.v 4 (.int .i64)],ofx:=[],rvs:=[.tmp 4],flat:=true}
def FzcP (N:Nat):dzcP.F:=fun r x=>zcP N x.1 x.2.1
theorem ozcP (N:Nat):FOk Try.prog (X44 N) dzcP (FzcP N):=⟨⟨Try.f71,_,Try.func71,rfl,by kernel_rfl,by kernel_rfl,rfl,FC.of (qCS N) (us:=qzw N) (fun u h _=>qtK N u h) (fun r x=>by kernel_rfl)⟩,by kernel_rfl,by kernel_rfl,by kernel_rfl,by kernel_rfl⟩
def fs45 (N:Nat):List (FE D):=⟨dzcP,FzcP N⟩::fs44 N
theorem qzE (N:Nat):∀y∈fs45 N,CallOk X0 y.d y.F:=qao (x:=⟨dzcP,FzcP N⟩) (CallOk.ch (CallOk.ch (ozcP N).call)) (qCf N)
def gs45 (N:Nat):List (GE D):=gs44 N
theorem qnT (N:Nat):∀y∈gs45 N,CallG X0 y.d y.F:=qxT N
def X45 (N:Nat):Ev Try.prog D:=(X0.with (fs45 N)).gen (gs45 N)
theorem qHM (N:Nat):COk (X45 N):=COk.gen0 (COk.of (qzE N)) (qnT N)
def dzaG:GD D:={f:=49,np:=3,ins:=[.o 0 (.bx 87 [(3,1)]), .v 1 (.int .i64), .v 2 (.int .i64), .o 2000003 (.map 85 109 4)],fx:=[(0, .box 0 0)],ks:=[2,2],outs:=[.v 6 (.int .i64), .u 0 (.bx 87 [(3,1)]), .u 1 (.map 85 109 4)],ofx:=[],res:=[6],fz:=true}
def FzaG (N rc:Nat):dzaG.pd.F:=fun x=>zaG N rc x.1 x.2.1 x.2.2.1 x.2.2.2.1
def Xr45 (N rc:Nat):Ev Try.prog D:=(X0.with (fs45 N)).gen (⟨dzaG,FzaG N rc⟩::gs45 N)
theorem qfn (N rc:Nat) (hr:CallG X0 dzaG (FzaG N rc)):COk (Xr45 N rc):=COk.gen0 (COk.of (qzE N)) (qa7 (x:=⟨dzaG,FzaG N rc⟩) hr (qnT N))
def qpu (N rc:Nat):List (Pc D):=[]
theorem qjA (N rc:Nat) (hr:CallG X0 dzaG (FzaG N rc)):∀u∈qpu N rc,PcOk (Xr45 N rc) (qab Try.f49) u:=qaj
def PzaG_0:PD D:={path:=[1,1,1,1,0,0],ins:=[.o 0 (.bx 87 [(3,1)]), .v 7 (.int .i64), .o 2000003 (.map 85 109 4)],fx:=[(0, .box 0 0)],ks:=[1,1],exs:=[⟨.normal,[.v 43 .bool],[]⟩],keep:=[0,2,7]}
def qvh (N rc:Nat):PzaG_0.F:=fun x=>qm2 N (zaG N rc) x.1 x.2.1
theorem qC3 (N rc:Nat) (hr:CallG X0 dzaG (FzaG N rc)):CC (Xr45 N rc) (qab Try.f49) PzaG_0 (qvh N rc):=CC.of (qfn N rc hr) (us:=qpu N rc) (fun u h _=>qjA N rc hr u h) (fun x=>by kernel_rfl)
def qqo (N rc:Nat):List (Pc D):=PzaG_0.pc (Xr45 N rc) (qvh N rc)::qpu N rc
theorem qku (N rc:Nat) (hr:CallG X0 dzaG (FzaG N rc)):∀u∈qqo N rc,PcOk (Xr45 N rc) (qab Try.f49) u:=qac ((qC3 N rc hr).pc (by kernel_rfl)) (qjA N rc hr)
def PzaG_2:PD D:={path:=[1,1,1,1,1,1,1,0,0,1,1,0],ins:=[.o 0 (.bx 87 [(3,1)]), .v 2 (.int .i64), .v 8 (.rp 53), .o 2000003 (.map 85 109 4)],fx:=[(0, .box 0 0)],ks:=[1,1],exs:=[⟨.normal,[.v 55 .bool],[]⟩],keep:=[0,2,7,8,9]}
def qvj (N rc:Nat):PzaG_2.F:=fun x=>qrU N (zaG N rc) x.2.1 x.2.2.1
theorem qC5 (N rc:Nat) (hr:CallG X0 dzaG (FzaG N rc)):CC (Xr45 N rc) (qab Try.f49) PzaG_2 (qvj N rc):=CC.of (qfn N rc hr) (us:=qqo N rc) (fun u h _=>qku N rc hr u h) (fun x=>by kernel_rfl)
def qqq (N rc:Nat):List (Pc D):=PzaG_2.pc (Xr45 N rc) (qvj N rc)::qqo N rc
theorem qkw (N rc:Nat) (hr:CallG X0 dzaG (FzaG N rc)):∀u∈qqq N rc,PcOk (Xr45 N rc) (qab Try.f49) u:=qac ((qC5 N rc hr).pc (by kernel_rfl)) (qku N rc hr)
def PzaG_3:PD D:={path:=[1,1,1,1,1,1,1,0,0,1,1,1,1,0],ins:=[.o 0 (.bx 87 [(3,1)]), .v 2 (.int .i64), .v 8 (.rp 53), .o 2000003 (.map 85 109 4)],fx:=[(0, .box 0 0)],ks:=[1,1],exs:=[⟨.normal,[.v 78 .bool],[]⟩],keep:=[0,7,8,9]}
def qvk (N rc:Nat):PzaG_3.F:=fun x=>qrV N (zaG N rc) x.2.1 x.2.2.1
theorem qC6 (N rc:Nat) (hr:CallG X0 dzaG (FzaG N rc)):CC (Xr45 N rc) (qab Try.f49) PzaG_3 (qvk N rc):=CC.of (qfn N rc hr) (us:=qqq N rc) (fun u h _=>qkw N rc hr u h) (fun x=>by kernel_rfl)
def qqr (N rc:Nat):List (Pc D):=PzaG_3.pc (Xr45 N rc) (qvk N rc)::qqq N rc
theorem qkx (N rc:Nat) (hr:CallG X0 dzaG (FzaG N rc)):∀u∈qqr N rc,PcOk (Xr45 N rc) (qab Try.f49) u:=qac ((qC6 N rc hr).pc (by kernel_rfl)) (qkw N rc hr)
def PzaG_1:PD D:={path:=[1,1,1,1,1,1,1,0],ins:=[.o 0 (.bx 87 [(3,1)]), .v 2 (.int .i64), .v 7 (.int .i64), .v 8 (.rp 53), .v 9 (.int .i64), .o 2000003 (.map 85 109 4)],fx:=[(0, .box 0 0)],ks:=[2,2],exs:=[⟨.normal,[.u 0 (.bx 87 [(3,1)]), .v 9 (.int .i64), .u 1 (.map 85 109 4)],[]⟩,⟨.ret,[.u 0 (.bx 87 [(3,1)]), .v 6 (.int .i64), .u 1 (.map 85 109 4)],[]⟩],keep:=[0,7]}
def qvi (N rc:Nat):PzaG_1.F:=fun x=>qm3 N (zaG N rc) x.1 x.2.1 x.2.2.1 x.2.2.2.1 x.2.2.2.2.1 x.2.2.2.2.2.1
theorem qC4 (N rc:Nat) (hr:CallG X0 dzaG (FzaG N rc)):CC (Xr45 N rc) (qab Try.f49) PzaG_1 (qvi N rc):=CC.of (qfn N rc hr) (us:=qqr N rc) (fun u h _=>qkx N rc hr u h) (fun x=>by kernel_rfl)
def qqp (N rc:Nat):List (Pc D):=PzaG_1.pc (Xr45 N rc) (qvi N rc)::qqr N rc
theorem qkv (N rc:Nat) (hr:CallG X0 dzaG (FzaG N rc)):∀u∈qqp N rc,PcOk (Xr45 N rc) (qab Try.f49) u:=qac ((qC4 N rc hr).pc (by kernel_rfl)) (qkx N rc hr)
def PzaG_4:PD D:={path:=[1,1,1,1,1,1,1,1,0,1,0],ins:=[.o 0 (.bx 87 [(3,1)]), .v 9 (.int .i64), .v 11 (.int .i64), .o 2000003 (.map 85 109 4)],fx:=[(0, .box 0 0)],ks:=[1,1],exs:=[⟨.normal,[.v 104 .bool],[]⟩],keep:=[0,7,9]}
def qvl (N rc:Nat):PzaG_4.F:=fun x=>qrW N (zaG N rc) x.2.1 x.2.2.1
theorem qC7 (N rc:Nat) (hr:CallG X0 dzaG (FzaG N rc)):CC (Xr45 N rc) (qab Try.f49) PzaG_4 (qvl N rc):=CC.of (qfn N rc hr) (us:=qqp N rc) (fun u h _=>qkv N rc hr u h) (fun x=>by kernel_rfl)
def qyF (N rc:Nat):List (Pc D):=PzaG_4.pc (Xr45 N rc) (qvl N rc)::qqp N rc
theorem qsT (N rc:Nat) (hr:CallG X0 dzaG (FzaG N rc)):∀u∈qyF N rc,PcOk (Xr45 N rc) (qab Try.f49) u:=qac ((qC7 N rc hr).pc (by kernel_rfl)) (qkv N rc hr)
theorem ozaG (N rc:Nat) (hr:CallG X0 dzaG (FzaG N rc)):GOk Try.prog (Xr45 N rc) dzaG (FzaG N (rc+1)):=⟨⟨Try.f49,_,Try.func49,rfl,by kernel_rfl,by kernel_rfl,rfl,by kernel_rfl,CCn.of (qfn N rc hr) (us:=qyF N rc) (fun u h _=>qsT N rc hr u h) (fun x=>by kernel_rfl)⟩⟩
theorem wzaG (N:Nat):∀rc:Nat,CallG X0 dzaG (FzaG N rc)
 |0=>CallG.none fun x=>rfl
 |rc+1=>(ozaG N rc (wzaG N rc)).call.base.base
def fs46 (N:Nat):List (FE D):=fs45 N
theorem qCg (N:Nat):∀y∈fs46 N,CallOk X0 y.d y.F:=qzE N
def gs46 (N:Nat):List (GE D):=⟨dzaG,FzaG N N⟩::gs45 N
theorem qxU (N:Nat):∀y∈gs46 N,CallG X0 y.d y.F:=qa7 (x:=⟨dzaG,FzaG N N⟩) (wzaG N N) (qnT N)
def X46 (N:Nat):Ev Try.prog D:=(X0.with (fs46 N)).gen (gs46 N)
theorem qnt (N:Nat):COk (X46 N):=COk.gen0 (COk.of (qCg N)) (qxU N)
def qpS (N:Nat):List (Pc D):=[]
theorem qjY (N:Nat):∀u∈qpS N,PcOk (X46 N) (qab Try.f23) u:=qaj
def PzbI_2:PD D:={path:=[1,1,1,1,0,1,0,0,1,0,0,1,1,1,0,1],ins:=[.o 8 (.bx 87 [(3,2)]), .o 10 (.box 53), .v 11 (.int .i64), .v 53 .bool, .o 2008003 (.map 85 109 4)],fx:=[(8, .box 0 0),(10, .box 1 0)],ks:=[1,1,1],exs:=[⟨.normal,[.v 11 (.int .i64)],[]⟩],keep:=[0,1,6,8,9]}
def qwB (N:Nat):PzbI_2.F:=fun x=>quS N x.2.1 x.2.2.1 x.2.2.2.1
theorem qEn (N:Nat):CC (X46 N) (qab Try.f23) PzbI_2 (qwB N):=CC.of (qnt N) (us:=qpS N) (fun u h _=>qjY N u h) (fun x=>by kernel_rfl)
def qrj (N:Nat):List (Pc D):=PzbI_2.pc (X46 N) (qwB N)::qpS N
theorem qlp (N:Nat):∀u∈qrj N,PcOk (X46 N) (qab Try.f23) u:=qac ((qEn N).pc (by kernel_rfl)) (qjY N)
def PzbI_1:PD D:={path:=[1,1,1,1,0,1,0,0,1,0],ins:=[.v 0 (.sl 53), .v 1 (.sl 70), .o 8 (.bx 87 [(3,1)]), .v 9 (.int .i64), .o 2008003 (.map 85 109 4)],fx:=[(8, .box 0 0)],ks:=[2,2],exs:=[⟨.normal,[.u 0 (.bx 87 [(3,1)]), .u 1 (.map 85 109 4)],[]⟩,⟨.ret,[.v 5 (.int .i64)],[(4, .c .nilS)]⟩],keep:=[0,1,6,8,9]}
def qwA (N:Nat):PzbI_1.F:=fun x=>qBp N x.1 x.2.1 x.2.2.1 x.2.2.2.1 x.2.2.2.2.1
theorem qEm (N:Nat):CC (X46 N) (qab Try.f23) PzbI_1 (qwA N):=CC.of (qnt N) (us:=qrj N) (fun u h _=>qlp N u h) (fun x=>by kernel_rfl)
def qri (N:Nat):List (Pc D):=PzbI_1.pc (X46 N) (qwA N)::qrj N
theorem qlo (N:Nat):∀u∈qri N,PcOk (X46 N) (qab Try.f23) u:=qac ((qEm N).pc (by kernel_rfl)) (qlp N)
def PzbI_0:PD D:={path:=[1,1,1,1,0,1,0],ins:=[.v 0 (.sl 53), .v 1 (.sl 70), .o 8 (.bx 87 [(3,1)]), .v 9 (.int .i64), .o 2008003 (.map 85 109 4)],fx:=[(8, .box 0 0)],ks:=[0,0],exs:=[⟨.exit 0,[.o 8 (.bx 87 [(3,3)]), .o 2008003 (.map 85 109 4)],[(8, .box 2 0)]⟩,⟨.ret,[.v 5 (.int .i64)],[(4, .c .nilS)]⟩],keep:=[6,8]}
def qwz (N:Nat) (n:Nat):PzbI_0.F:=fun x=>qgW N x.1 x.2.1 n x.2.2.1 x.2.2.2.1 x.2.2.2.2.1
theorem qEl (N:Nat) (n:Nat):CC (X46 N) (qab Try.f23) PzbI_0 (qwz N n):=CC.loop (qnt N) (us:=qri N) (c:=sub (qab Try.f23) [1,1,1,1,0,1,0,0]) (by kernel_rfl) (by kernel_rfl) (fun u h _=>qlo N u h) (fun x=>rfl) (fun n x=>by kernel_rfl) n
def qrh (N:Nat):List (Pc D):=PzbI_0.pc (X46 N) (qwz N N)::qri N
theorem qln (N:Nat):∀u∈qrh N,PcOk (X46 N) (qab Try.f23) u:=qac ((qEl N N).pc (by kernel_rfl)) (qlo N)
def PzbI_3:PD D:={path:=[1,1,1,1,1,0,1,0],ins:=[.v 6 (.sl 33), .o 8 (.bx 87 [(3,1)]), .v 13 (.int .i64), .o 2008003 (.map 85 109 4)],fx:=[(8, .box 0 0)],ks:=[1,1],exs:=[⟨.exit 2,[.v 6 (.sl 33)],[]⟩],keep:=[]}
def qwC (N:Nat) (n:Nat):PzbI_3.F:=fun x=>qiX N x.2.1 n x.1 x.2.2.1
theorem qEo (N:Nat) (n:Nat):CC (X46 N) (qab Try.f23) PzbI_3 (qwC N n):=CC.loop (qnt N) (us:=qrh N) (c:=sub (qab Try.f23) [1,1,1,1,1,0,1,0,0]) (by kernel_rfl) (by kernel_rfl) (fun u h _=>qln N u h) (fun x=>rfl) (fun n x=>by kernel_rfl) n
def qy4 (N:Nat):List (Pc D):=PzbI_3.pc (X46 N) (qwC N N)::qrh N
theorem qti (N:Nat):∀u∈qy4 N,PcOk (X46 N) (qab Try.f23) u:=qac ((qEo N N).pc (by kernel_rfl)) (qln N)
def dzbI:FD D:={f:=23,np:=2,ins:=[.v 0 (.sl 53), .v 1 (.sl 70)],fx:=[],rcv:=none,rk:=0,outs:=[.v 4 (.sl 33), .v 5 (.int .i64)],ofx:=[],rvs:=[.tmp 4, .tmp 5],flat:=false}
def FzbI (N:Nat):dzbI.F:=fun r x=>zbI N x.1 x.2.1
theorem ozbI (N:Nat):FOk Try.prog (X46 N) dzbI (FzbI N):=⟨⟨Try.f23,_,Try.func23,rfl,by kernel_rfl,by kernel_rfl,rfl,FC.of (qnt N) (us:=qy4 N) (fun u h _=>qti N u h) (fun r x=>by kernel_rfl)⟩,by kernel_rfl,by kernel_rfl,by kernel_rfl,by kernel_rfl⟩
def fs47 (N:Nat):List (FE D):=⟨dzbI,FzbI N⟩::fs46 N
theorem qCh (N:Nat):∀y∈fs47 N,CallOk X0 y.d y.F:=qao (x:=⟨dzbI,FzbI N⟩) (CallOk.ch (CallOk.ch (ozbI N).call)) (qCg N)
def gs47 (N:Nat):List (GE D):=gs46 N
theorem qxV (N:Nat):∀y∈gs47 N,CallG X0 y.d y.F:=qxU N
def X47 (N:Nat):Ev Try.prog D:=(X0.with (fs47 N)).gen (gs47 N)
theorem qmz (N:Nat):COk (X47 N):=COk.gen0 (COk.of (qCh N)) (qxV N)
def qpO (N:Nat):List (Pc D):=[]
theorem qjU (N:Nat):∀u∈qpO N,PcOk (X47 N) (qab Try.f35) u:=qaj
def PzbC_1:PD D:={path:=[1,1,0,1,0,0,1,1,0,0,1,0,0],ins:=[.v 0 (.sl 53), .o 6 (.map 60 3 3), .o 8 (.box 33)],fx:=[(6, .c (.own 0)),(8, .box 1 0)],ks:=[1,1],exs:=[⟨.normal,[.v 35 .bool],[]⟩],keep:=[0,6,8,13,14,15]}
def qwn (N:Nat):PzbC_1.F:=fun x=>quL N x.1 x.2.1 x.2.2.1
theorem qD9 (N:Nat):CC (X47 N) (qab Try.f35) PzbC_1 (qwn N):=CC.of (qmz N) (us:=qpO N) (fun u h _=>qjU N u h) (fun x=>by kernel_rfl)
def qq8 (N:Nat):List (Pc D):=PzbC_1.pc (X47 N) (qwn N)::qpO N
theorem qle (N:Nat):∀u∈qq8 N,PcOk (X47 N) (qab Try.f35) u:=qac ((qD9 N).pc (by kernel_rfl)) (qjU N)
def PzbC_2:PD D:={path:=[1,1,0,1,0,0,1,1,0,0,1,1,0],ins:=[.o 6 (.map 60 3 3), .o 8 (.box 33)],fx:=[(6, .c (.own 0)),(8, .box 1 0)],ks:=[1,1],exs:=[⟨.normal,[.v 9 .bool],[]⟩],keep:=[0,6,8,13,14,15]}
def qwo (N:Nat):PzbC_2.F:=fun x=>quM N x.2.1
theorem qEa (N:Nat):CC (X47 N) (qab Try.f35) PzbC_2 (qwo N):=CC.of (qmz N) (us:=qq8 N) (fun u h _=>qle N u h) (fun x=>by kernel_rfl)
def qq9 (N:Nat):List (Pc D):=PzbC_2.pc (X47 N) (qwo N)::qq8 N
theorem qlf (N:Nat):∀u∈qq9 N,PcOk (X47 N) (qab Try.f35) u:=qac ((qEa N).pc (by kernel_rfl)) (qle N)
def PzbC_3:PD D:={path:=[1,1,0,1,0,0,1,1,0,0,1,1,1,0],ins:=[.o 6 (.map 60 3 3), .o 8 (.box 33)],fx:=[(6, .c (.own 0)),(8, .box 1 0)],ks:=[1,1],exs:=[⟨.normal,[.v 10 .bool],[]⟩],keep:=[0,6,8,9,13,14,15]}
def qwp (N:Nat):PzbC_3.F:=fun x=>quN N x.2.1
theorem qEb (N:Nat):CC (X47 N) (qab Try.f35) PzbC_3 (qwp N):=CC.of (qmz N) (us:=qq9 N) (fun u h _=>qlf N u h) (fun x=>by kernel_rfl)
def qra (N:Nat):List (Pc D):=PzbC_3.pc (X47 N) (qwp N)::qq9 N
theorem qlg (N:Nat):∀u∈qra N,PcOk (X47 N) (qab Try.f35) u:=qac ((qEb N).pc (by kernel_rfl)) (qlf N)
def PzbC_4:PD D:={path:=[1,1,0,1,0,0,1,1,0,0,1,1,1,1,1,0,0],ins:=[.o 6 (.map 60 3 3), .o 8 (.box 33), .v 9 .bool, .v 10 .bool, .v 11 (.int .i64)],fx:=[(6, .c (.own 0)),(8, .box 1 0)],ks:=[1,1],exs:=[⟨.normal,[.v 71 .bool],[]⟩],keep:=[0,6,8,13,14,15]}
def qwq (N:Nat):PzbC_4.F:=fun x=>quO N x.2.2.1 x.2.2.2.1 x.2.2.2.2.1
theorem qEc (N:Nat):CC (X47 N) (qab Try.f35) PzbC_4 (qwq N):=CC.of (qmz N) (us:=qra N) (fun u h _=>qlg N u h) (fun x=>by kernel_rfl)
def qrb (N:Nat):List (Pc D):=PzbC_4.pc (X47 N) (qwq N)::qra N
theorem qlh (N:Nat):∀u∈qrb N,PcOk (X47 N) (qab Try.f35) u:=qac ((qEc N).pc (by kernel_rfl)) (qlg N)
def PzbC_0:PD D:={path:=[1,1,0,1,0],ins:=[.v 0 (.sl 53), .o 6 (.map 60 3 3), .v 13 (.sl 33), .v 14 (.int .i64), .v 15 (.int .i64)],fx:=[(6, .c (.own 0))],ks:=[2],exs:=[⟨.exit 0,[.u 0 (.map 60 3 3)],[]⟩,⟨.ret,[.v 5 .bool],[(4, .c .nilM)]⟩],keep:=[6]}
def qwm (N:Nat) (n:Nat):PzbC_0.F:=fun x=>qgT N x.1 x.2.2.1 x.2.2.2.1 n x.2.1 x.2.2.2.2.1
theorem qD8 (N:Nat) (n:Nat):CC (X47 N) (qab Try.f35) PzbC_0 (qwm N n):=CC.loop (qmz N) (us:=qrb N) (c:=sub (qab Try.f35) [1,1,0,1,0,0]) (by kernel_rfl) (by kernel_rfl) (fun u h _=>qlh N u h) (fun x=>rfl) (fun n x=>by kernel_rfl) n
def qy0 (N:Nat):List (Pc D):=PzbC_0.pc (X47 N) (qwm N N)::qrb N
theorem qte (N:Nat):∀u∈qy0 N,PcOk (X47 N) (qab Try.f35) u:=qac ((qD8 N N).pc (by kernel_rfl)) (qlh N)
def dzbC:FD D:={f:=35,np:=2,ins:=[.v 0 (.sl 53), .v 1 (.sl 33)],fx:=[],rcv:=none,rk:=0,outs:=[.v 4 (.mp 60 3 3), .v 5 .bool],ofx:=[],rvs:=[.tmp 4, .tmp 5],flat:=false}
def FzbC (N:Nat):dzbC.F:=fun r x=>zbC N x.1 x.2.1
theorem ozbC (N:Nat):FOk Try.prog (X47 N) dzbC (FzbC N):=⟨⟨Try.f35,_,Try.func35,rfl,by kernel_rfl,by kernel_rfl,rfl,FC.of (qmz N) (us:=qy0 N) (fun u h _=>qte N u h) (fun r x=>by kernel_rfl)⟩,by kernel_rfl,by kernel_rfl,by kernel_rfl,by kernel_rfl⟩
def fs48 (N:Nat):List (FE D):=⟨dzbC,FzbC N⟩::fs47 N
theorem qCi (N:Nat):∀y∈fs48 N,CallOk X0 y.d y.F:=qao (x:=⟨dzbC,FzbC N⟩) (CallOk.ch (CallOk.ch (ozbC N).call)) (qCh N)
def gs48 (N:Nat):List (GE D):=gs47 N
theorem qxW (N:Nat):∀y∈gs48 N,CallG X0 y.d y.F:=qxV N
def X48 (N:Nat):Ev Try.prog D:=(X0.with (fs48 N)).gen (gs48 N)
theorem qsb (N:Nat):COk (X48 N):=COk.gen0 (COk.of (qCi N)) (qxW N)
def qpJ (N:Nat):List (Pc D):=[]
theorem qjP (N:Nat):∀u∈qpJ N,PcOk (X48 N) (qab Try.f39) u:=qaj
def PzaW_0:PD D:={path:=[1,1,0,0,0],ins:=[.o 9 (.box 53), .v 10 (.int .i64)],fx:=[(9, .box 0 0)],ks:=[1],exs:=[⟨.normal,[.v 18 .bool],[]⟩],keep:=[0,2,3,9,10]}
def qv8 (N:Nat):PzaW_0.F:=fun x=>quD N x.1 x.2.1
theorem qDU (N:Nat):CC (X48 N) (qab Try.f39) PzaW_0 (qv8 N):=CC.of (qsb N) (us:=qpJ N) (fun u h _=>qjP N u h) (fun x=>by kernel_rfl)
def qqZ (N:Nat):List (Pc D):=PzaW_0.pc (X48 N) (qv8 N)::qpJ N
theorem qk5 (N:Nat):∀u∈qqZ N,PcOk (X48 N) (qab Try.f39) u:=qac ((qDU N).pc (by kernel_rfl)) (qjP N)
def PzaW_1:PD D:={path:=[1,1,0,0,1,1,0],ins:=[.v 3 (.int .i64), .o 9 (.box 53), .v 10 (.int .i64)],fx:=[(9, .box 0 0)],ks:=[1],exs:=[⟨.normal,[.v 26 .bool],[]⟩],keep:=[0,2,3,9,10]}
def qv9 (N:Nat):PzaW_1.F:=fun x=>quE N x.1 x.2.1 x.2.2.1
theorem qDV (N:Nat):CC (X48 N) (qab Try.f39) PzaW_1 (qv9 N):=CC.of (qsb N) (us:=qqZ N) (fun u h _=>qk5 N u h) (fun x=>by kernel_rfl)
def qq0 (N:Nat):List (Pc D):=PzaW_1.pc (X48 N) (qv9 N)::qqZ N
theorem qk6 (N:Nat):∀u∈qq0 N,PcOk (X48 N) (qab Try.f39) u:=qac ((qDV N).pc (by kernel_rfl)) (qk5 N)
def PzaW_2:PD D:={path:=[1,1,0,0,1,1,1,1,0],ins:=[.v 3 (.int .i64), .o 9 (.box 53), .v 10 (.int .i64)],fx:=[(9, .box 0 0)],ks:=[1],exs:=[⟨.normal,[.v 43 .bool],[]⟩],keep:=[0,2,3,9]}
def qwa (N:Nat):PzaW_2.F:=fun x=>quF N x.1 x.2.1 x.2.2.1
theorem qDW (N:Nat):CC (X48 N) (qab Try.f39) PzaW_2 (qwa N):=CC.of (qsb N) (us:=qq0 N) (fun u h _=>qk6 N u h) (fun x=>by kernel_rfl)
def qyV (N:Nat):List (Pc D):=PzaW_2.pc (X48 N) (qwa N)::qq0 N
theorem qs9 (N:Nat):∀u∈qyV N,PcOk (X48 N) (qab Try.f39) u:=qac ((qDW N).pc (by kernel_rfl)) (qk6 N)
def dzaW:FD D:={f:=39,np:=4,ins:=[.v 0 (.sl 53), .v 1 (.mp 60 3 3), .v 2 (.int .i64), .v 3 (.int .i64)],fx:=[],rcv:=none,rk:=0,outs:=[.v 8 (.sl 3)],ofx:=[],rvs:=[.tmp 8],flat:=false}
def FzaW (N:Nat):dzaW.F:=fun r x=>zaW N x.1 x.2.1 x.2.2.1 x.2.2.2.1
theorem ozaW (N:Nat):FOk Try.prog (X48 N) dzaW (FzaW N):=⟨⟨Try.f39,_,Try.func39,rfl,by kernel_rfl,by kernel_rfl,rfl,FC.of (qsb N) (us:=qyV N) (fun u h _=>qs9 N u h) (fun r x=>by kernel_rfl)⟩,by kernel_rfl,by kernel_rfl,by kernel_rfl,by kernel_rfl⟩
def fs49 (N:Nat):List (FE D):=⟨dzaW,FzaW N⟩::fs48 N
theorem qzF (N:Nat):∀y∈fs49 N,CallOk X0 y.d y.F:=qao (x:=⟨dzaW,FzaW N⟩) (CallOk.ch (CallOk.ch (ozaW N).call)) (qCi N)
def gs49 (N:Nat):List (GE D):=gs48 N
theorem qnU (N:Nat):∀y∈gs49 N,CallG X0 y.d y.F:=qxW N
def X49 (N:Nat):Ev Try.prog D:=(X0.with (fs49 N)).gen (gs49 N)
theorem qHN (N:Nat):COk (X49 N):=COk.gen0 (COk.of (qzF N)) (qnU N)
def dzaB:GD D:={f:=37,np:=8,ins:=[.o 100000000 (.sl 3), .v 0 (.agg 74), .o 1 (.box 23), .o 2 (.bx 71 [(0,8)]), .o 3 (.bx 67 [(0,9)]), .o 4 (.box 3), .o 5 (.box 3), .o 6 (.box 60), .o 7 (.fb 72 37 [1,2,3,4,5,6,7]), .o 2002000 (.map 71 74 4), .o 2003000 (.map 67 3 4)],fx:=[(1, .box 1 0),(2, .box 2 0),(3, .box 3 0),(4, .box 4 0),(5, .box 5 0),(6, .box 6 0),(7, .box 7 0)],ks:=[1,1,1,1,1,1,1,1,2,1],outs:=[.v 9 .bool, .u 8 (.map 71 74 4)],ofx:=[],res:=[9],fz:=true}
def FzaB (N rc:Nat):dzaB.pd.F:=fun x=>zaB N rc x.1 x.2.1 x.2.2.1 x.2.2.2.1 x.2.2.2.2.1 x.2.2.2.2.2.1 x.2.2.2.2.2.2.1 x.2.2.2.2.2.2.2.1 x.2.2.2.2.2.2.2.2.2.1 x.2.2.2.2.2.2.2.2.2.2.1
def Xr49 (N rc:Nat):Ev Try.prog D:=(X0.with (fs49 N)).gen (⟨dzaB,FzaB N rc⟩::gs49 N)
theorem qhg (N rc:Nat) (hr:CallG X0 dzaB (FzaB N rc)):COk (Xr49 N rc):=COk.gen0 (COk.of (qzF N)) (qa7 (x:=⟨dzaB,FzaB N rc⟩) hr (qnU N))
def qpq (N rc:Nat):List (Pc D):=[]
theorem qjw (N rc:Nat) (hr:CallG X0 dzaB (FzaB N rc)):∀u∈qpq N rc,PcOk (Xr49 N rc) (qab Try.f37) u:=qaj
def PzaB_0:PD D:={path:=[1,1,0,0],ins:=[.o 100000000 (.sl 3), .o 1 (.box 23), .o 2 (.bx 71 [(0,8)]), .o 3 (.bx 67 [(0,9)]), .o 4 (.box 3), .o 5 (.box 3), .o 6 (.box 60), .o 7 (.fb 72 37 [1,2,3,4,5,6,7]), .v 8 (.rp 74), .v 10 (.int .i64), .o 2002000 (.map 71 74 4), .o 2003000 (.map 67 3 4)],fx:=[(1, .box 1 0),(2, .box 2 0),(3, .box 3 0),(4, .box 4 0),(5, .box 5 0),(6, .box 6 0),(7, .box 7 0)],ks:=[1,1,1,1,1,1,1,1,1,1],exs:=[⟨.normal,[.v 25 .bool],[]⟩],keep:=[1,2,3,4,5,6,7,8,10]}
def qvb (N rc:Nat):PzaB_0.F:=fun x=>qun N (zaB N rc) x.2.2.2.2.2.2.2.2.1 x.2.2.2.2.2.2.2.2.2.1 x.2.2.2.2.2.2.2.2.2.2.1
theorem qCX (N rc:Nat) (hr:CallG X0 dzaB (FzaB N rc)):CC (Xr49 N rc) (qab Try.f37) PzaB_0 (qvb N rc):=CC.of (qhg N rc hr) (us:=qpq N rc) (fun u h _=>qjw N rc hr u h) (fun x=>by kernel_rfl)
def qql (N rc:Nat):List (Pc D):=PzaB_0.pc (Xr49 N rc) (qvb N rc)::qpq N rc
theorem qkr (N rc:Nat) (hr:CallG X0 dzaB (FzaB N rc)):∀u∈qql N rc,PcOk (Xr49 N rc) (qab Try.f37) u:=qac ((qCX N rc hr).pc (by kernel_rfl)) (qjw N rc hr)
def PzaB_1:PD D:={path:=[1,1,1,1,0,1,0,0],ins:=[.o 100000000 (.sl 3), .o 1 (.box 23), .o 2 (.bx 71 [(0,8)]), .o 3 (.bx 67 [(0,9)]), .o 4 (.box 3), .o 5 (.box 3), .o 6 (.box 60), .o 7 (.fb 72 37 [1,2,3,4,5,6,7]), .v 10 (.int .i64), .o 2002000 (.map 71 74 4), .o 2003000 (.map 67 3 4)],fx:=[(1, .box 1 0),(2, .box 2 0),(3, .box 3 0),(4, .box 4 0),(5, .box 5 0),(6, .box 6 0),(7, .box 7 0)],ks:=[1,1,1,1,1,1,1,1,1,1],exs:=[⟨.normal,[.v 9 .bool],[]⟩],keep:=[1,2,3,4,5,6,7]}
def qvc (N rc:Nat):PzaB_1.F:=fun x=>qA6 N (zaB N rc) x.2.2.2.2.1 x.2.2.2.2.2.1 x.2.2.2.2.2.2.2.2.1
theorem qCY (N rc:Nat) (hr:CallG X0 dzaB (FzaB N rc)):CC (Xr49 N rc) (qab Try.f37) PzaB_1 (qvc N rc):=CC.of (qhg N rc hr) (us:=qql N rc) (fun u h _=>qkr N rc hr u h) (fun x=>by kernel_rfl)
def qqm (N rc:Nat):List (Pc D):=PzaB_1.pc (Xr49 N rc) (qvc N rc)::qql N rc
theorem qks (N rc:Nat) (hr:CallG X0 dzaB (FzaB N rc)):∀u∈qqm N rc,PcOk (Xr49 N rc) (qab Try.f37) u:=qac ((qCY N rc hr).pc (by kernel_rfl)) (qkr N rc hr)
def PzaB_2:PD D:={path:=[1,1,1,1,1,0,1,0],ins:=[.o 100000000 (.sl 3), .o 1 (.box 23), .o 2 (.bx 71 [(0,8)]), .o 3 (.bx 67 [(0,9)]), .o 4 (.box 3), .o 5 (.box 3), .o 6 (.box 60), .o 7 (.fb 72 37 [1,2,3,4,5,6,7]), .v 10 (.int .i64), .v 44 (.sl 3), .v 45 (.int .i64), .v 46 (.int .i64), .o 2002000 (.map 71 74 4), .o 2003000 (.map 67 3 4)],fx:=[(1, .box 1 0),(2, .box 2 0),(3, .box 3 0),(4, .box 4 0),(5, .box 5 0),(6, .box 6 0),(7, .box 7 0)],ks:=[1,1,1,1,1,1,1,1,2,1],exs:=[⟨.exit 0,[.u 8 (.map 71 74 4)],[]⟩,⟨.ret,[.v 9 .bool, .u 8 (.map 71 74 4)],[]⟩],keep:=[1,2,3,4,5,6,7]}
def qvd (N rc:Nat) (n:Nat):PzaB_2.F:=fun x=>qm1 N (zaB N rc) x.1 x.2.1 x.2.2.2.2.1 x.2.2.2.2.2.1 x.2.2.2.2.2.2.1 x.2.2.2.2.2.2.2.2.1 x.2.2.2.2.2.2.2.2.2.1 x.2.2.2.2.2.2.2.2.2.2.1 x.2.2.2.2.2.2.2.2.2.2.2.2.2.1 n x.2.2.2.2.2.2.2.2.2.2.2.1 x.2.2.2.2.2.2.2.2.2.2.2.2.1
theorem qCZ (N rc:Nat) (hr:CallG X0 dzaB (FzaB N rc)) (n:Nat):CC (Xr49 N rc) (qab Try.f37) PzaB_2 (qvd N rc n):=CC.loop (qhg N rc hr) (us:=qqm N rc) (c:=sub (qab Try.f37) [1,1,1,1,1,0,1,0,0]) (by kernel_rfl) (by kernel_rfl) (fun u h _=>qks N rc hr u h) (fun x=>rfl) (fun n x=>by kernel_rfl) n
def qqn (N rc:Nat):List (Pc D):=PzaB_2.pc (Xr49 N rc) (qvd N rc N)::qqm N rc
theorem qkt (N rc:Nat) (hr:CallG X0 dzaB (FzaB N rc)):∀u∈qqn N rc,PcOk (Xr49 N rc) (qab Try.f37) u:=qac ((qCZ N rc hr N).pc (by kernel_rfl)) (qks N rc hr)
theorem ozaB (N rc:Nat) (hr:CallG X0 dzaB (FzaB N rc)):GOk Try.prog (Xr49 N rc) dzaB (FzaB N (rc+1)):=⟨⟨Try.f37,_,Try.func37,rfl,by kernel_rfl,by kernel_rfl,rfl,by kernel_rfl,CCn.of (qhg N rc hr) (us:=qqn N rc) (fun u h _=>qkt N rc hr u h) (fun x=>by kernel_rfl)⟩⟩
theorem wzaB (N:Nat):∀rc:Nat,CallG X0 dzaB (FzaB N rc)
 |0=>CallG.none fun x=>rfl
 |rc+1=>(ozaB N rc (wzaB N rc)).call.base.base
def fs50 (N:Nat):List (FE D):=fs49 N
theorem qCj (N:Nat):∀y∈fs50 N,CallOk X0 y.d y.F:=qzF N
def gs50 (N:Nat):List (GE D):=⟨dzaB,FzaB N N⟩::gs49 N
theorem qxX (N:Nat):∀y∈gs50 N,CallG X0 y.d y.F:=qa7 (x:=⟨dzaB,FzaB N N⟩) (wzaB N N) (qnU N)
def X50 (N:Nat):Ev Try.prog D:=(X0.with (fs50 N)).gen (gs50 N)
theorem qHO (N:Nat):COk (X50 N):=COk.gen0 (COk.of (qCj N)) (qxX N)
def qfZ:GD D:={f:=37,np:=8,ins:=[.o 100000005 (.sl 3), .v 0 (.agg 74), .o 1 (.box 23), .o 2 (.bx 71 [(0,8)]), .o 3 (.bx 67 [(0,9)]), .o 4 (.box 3), .o 5 (.box 3), .o 6 (.box 60), .o 7 (.fb 72 37 [1,2,3,4,5,6,7]), .o 2002000 (.map 71 74 4), .o 2003000 (.map 67 3 4)],fx:=[(1, .box 1 0),(2, .box 2 0),(3, .box 3 0),(4, .box 4 0),(5, .box 5 0),(6, .box 6 0),(7, .box 7 0)],ks:=[1,1,1,1,1,1,1,1,2,1],outs:=[.v 9 .bool, .u 8 (.map 71 74 4)],ofx:=[],res:=[9],fz:=true}
theorem qAB (N rc:Nat) (hr:CallG X0 dzaB (FzaB N rc)):GOk Try.prog (Xr49 N rc) qfZ (FzaB N (rc+1)):=⟨⟨Try.f37,_,Try.func37,rfl,by kernel_rfl,by kernel_rfl,rfl,by kernel_rfl,CCn.of (qhg N rc hr) (us:=qqn N rc) (fun u h _=>qkt N rc hr u h) (fun x=>by kernel_rfl)⟩⟩
theorem qA5 (N:Nat):∀rc:Nat,CallG X0 qfZ (FzaB N rc)
 |0=>CallG.none fun x=>rfl
 |rc+1=>(qAB N rc (wzaB N rc)).call.base.base
def fs51 (N:Nat):List (FE D):=fs50 N
theorem qCk (N:Nat):∀y∈fs51 N,CallOk X0 y.d y.F:=qCj N
def gs51 (N:Nat):List (GE D):=⟨qfZ,FzaB N N⟩::gs50 N
theorem qxY (N:Nat):∀y∈gs51 N,CallG X0 y.d y.F:=qa7 (x:=⟨qfZ,FzaB N N⟩) (qA5 N N) (qxX N)
def X51 (N:Nat):Ev Try.prog D:=(X0.with (fs51 N)).gen (gs51 N)
theorem qGU (N:Nat):COk (X51 N):=COk.gen0 (COk.of (qCk N)) (qxY N)
def Y51 (N:Nat):Ev Try.prog D:=(X51 N).cuts fun x lo hi=>match x,lo,hi with| .func 37,none,none=>5|_,_,_=>0
theorem qhi (N:Nat):COk (Y51 N):=COk.cuts (qGU N)
def qpC (N:Nat):List (Pc D):=[]
theorem qjI (N:Nat):∀u∈qpC N,PcOk (Y51 N) (qab Try.f15) u:=qaj
def PzaO_2:PD D:={path:=[1,1,1,1,1,1,1,0,1,0,0,1,1,0,0,1,0,0],ins:=[.o 3 (.box 23), .o 8 (.box 60), .o 10 (.bx 67 [(0,7)]), .o 11 (.box 3), .o 12 (.box 3), .o 13 (.sl 3), .v 14 (.int .i64), .o 15 (.box 53), .o 2010000 (.map 67 3 4)],fx:=[(3, .box 0 0),(8, .box 1 0),(10, .box 2 0),(11, .box 3 0),(12, .box 4 0),(13, .c (.own 5)),(15, .box 6 0)],ks:=[1,1,1,1,1,1,1,1],exs:=[⟨.normal,[.v 57 .bool],[]⟩],keep:=[3,8,10,11,12,13,14,15,43,44,45]}
def qvD (N:Nat):PzaO_2.F:=fun x=>quw N x.2.2.2.2.2.2.1 x.2.2.2.2.2.2.2.1 x.2.2.2.2.2.2.2.2.1
theorem qDp (N:Nat):CC (Y51 N) (qab Try.f15) PzaO_2 (qvD N):=CC.of (qhi N) (us:=qpC N) (fun u h _=>qjI N u h) (fun x=>by kernel_rfl)
def qqB (N:Nat):List (Pc D):=PzaO_2.pc (Y51 N) (qvD N)::qpC N
theorem qkH (N:Nat):∀u∈qqB N,PcOk (Y51 N) (qab Try.f15) u:=qac ((qDp N).pc (by kernel_rfl)) (qjI N)
def PzaO_3:PD D:={path:=[1,1,1,1,1,1,1,0,1,0,0,1,1,0,0,1,1,1,1,1,0],ins:=[.o 3 (.box 23), .o 8 (.box 60), .o 10 (.bx 67 [(0,8)]), .o 11 (.box 3), .o 12 (.box 3), .o 13 (.sl 3), .v 14 (.int .i64), .o 15 (.box 53), .o 17 (.fb 72 37 [0,9,2,3,4,1,7]), .o 2010000 (.map 67 3 4), .o 200069634 (.bx 71 [(0,10)]), .o 204456577 (.map 71 74 4)],fx:=[(3, .box 0 0),(8, .box 1 0),(10, .box 2 0),(11, .box 3 0),(12, .box 4 0),(13, .c (.own 5)),(15, .box 6 0),(17, .box 7 0)],ks:=[1,1,1,1,1,1,0,1,1,1,2],exs:=[⟨.normal,[.v 73 .bool],[]⟩],keep:=[3,8,10,11,12,13,14,43,44,45]}
def qvE (N:Nat):PzaO_3.F:=fun x=>qux N x.1 x.2.1 x.2.2.2.1 x.2.2.2.2.1 x.2.2.2.2.2.1 x.2.2.2.2.2.2.1 x.2.2.2.2.2.2.2.1 x.2.2.2.2.2.2.2.2.2.1 x.2.2.2.2.2.2.2.2.2.2.2.1
theorem qDq (N:Nat):CC (Y51 N) (qab Try.f15) PzaO_3 (qvE N):=CC.of (qhi N) (us:=qqB N) (fun u h _=>qkH N u h) (fun x=>by kernel_rfl)
def qqC (N:Nat):List (Pc D):=PzaO_3.pc (Y51 N) (qvE N)::qqB N
theorem qkI (N:Nat):∀u∈qqC N,PcOk (Y51 N) (qab Try.f15) u:=qac ((qDq N).pc (by kernel_rfl)) (qkH N)
def PzaO_1:PD D:={path:=[1,1,1,1,1,1,1,0,1,0,0,1,1,0],ins:=[.o 3 (.box 23), .o 8 (.box 60), .o 10 (.bx 67 [(0,6)]), .o 11 (.box 3), .o 12 (.box 3), .o 13 (.sl 3), .v 43 (.sl 53), .v 45 (.int .i64), .o 2010000 (.map 67 3 4)],fx:=[(3, .box 0 0),(8, .box 1 0),(10, .box 2 0),(11, .box 3 0),(12, .box 4 0),(13, .c (.own 5))],ks:=[1,1,1,1,1,0,1],exs:=[⟨.normal,[.o 13 (.sl 3)],[(13, .c (.own 7))]⟩],keep:=[3,8,10,11,12,43,44,45]}
def qvC (N:Nat):PzaO_1.F:=fun x=>quv N x.1 x.2.1 x.2.2.2.1 x.2.2.2.2.1 x.2.2.2.2.2.1 x.2.2.2.2.2.2.1 x.2.2.2.2.2.2.2.1 x.2.2.2.2.2.2.2.2.1
theorem qDo (N:Nat):CC (Y51 N) (qab Try.f15) PzaO_1 (qvC N):=CC.of (qhi N) (us:=qqC N) (fun u h _=>qkI N u h) (fun x=>by kernel_rfl)
def qqA (N:Nat):List (Pc D):=PzaO_1.pc (Y51 N) (qvC N)::qqC N
theorem qkG (N:Nat):∀u∈qqA N,PcOk (Y51 N) (qab Try.f15) u:=qac ((qDo N).pc (by kernel_rfl)) (qkI N)
def PzaO_0:PD D:={path:=[1,1,1,1,1,1,1,0,1,0],ins:=[.o 3 (.box 23), .o 8 (.box 60), .o 10 (.bx 67 [(0,6)]), .o 11 (.box 3), .o 12 (.box 3), .o 13 (.sl 3), .v 43 (.sl 53), .v 44 (.int .i64), .v 45 (.int .i64), .o 2010000 (.map 67 3 4)],fx:=[(3, .box 0 0),(8, .box 1 0),(10, .box 2 0),(11, .box 3 0),(12, .box 4 0),(13, .c (.own 5))],ks:=[1,1,1,1,1,0,1],exs:=[⟨.exit 0,[.o 13 (.sl 3)],[(13, .c (.own 7))]⟩],keep:=[]}
def qvB (N:Nat) (n:Nat):PzaO_0.F:=fun x=>qiU N x.1 x.2.1 x.2.2.2.1 x.2.2.2.2.1 x.2.2.2.2.2.2.1 x.2.2.2.2.2.2.2.1 x.2.2.2.2.2.2.2.2.2.1 n x.2.2.2.2.2.1 x.2.2.2.2.2.2.2.2.1
theorem qDn (N:Nat) (n:Nat):CC (Y51 N) (qab Try.f15) PzaO_0 (qvB N n):=CC.loop (qhi N) (us:=qqA N) (c:=sub (qab Try.f15) [1,1,1,1,1,1,1,0,1,0,0]) (by kernel_rfl) (by kernel_rfl) (fun u h _=>qkG N u h) (fun x=>rfl) (fun n x=>by kernel_rfl) n
def qyN (N:Nat):List (Pc D):=PzaO_0.pc (Y51 N) (qvB N N)::qqA N
theorem qs1 (N:Nat):∀u∈qyN N,PcOk (Y51 N) (qab Try.f15) u:=qac ((qDn N N).pc (by kernel_rfl)) (qkG N)
def dzaO:FD D:={f:=15,np:=3,ins:=[.v 0 (.sl 53), .v 1 (.sl 70), .v 2 (.sl 33)],fx:=[],rcv:=none,rk:=0,outs:=[.o 6 (.sl 3), .v 7 (.int .i64)],ofx:=[(6, .c (.own 0))],rvs:=[.tmp 6, .tmp 7],flat:=false}
def FzaO (N:Nat):dzaO.F:=fun r x=>zaO N x.1 x.2.1 x.2.2.1
theorem ozaO (N:Nat):FOk Try.prog (Y51 N) dzaO (FzaO N):=⟨⟨Try.f15,_,Try.func15,rfl,by kernel_rfl,by kernel_rfl,rfl,FC.of (qhi N) (us:=qyN N) (fun u h _=>qs1 N u h) (fun r x=>by kernel_rfl)⟩,by kernel_rfl,by kernel_rfl,by kernel_rfl,by kernel_rfl⟩
def fs52 (N:Nat):List (FE D):=⟨dzaO,FzaO N⟩::fs51 N
theorem qCl (N:Nat):∀y∈fs52 N,CallOk X0 y.d y.F:=qao (x:=⟨dzaO,FzaO N⟩) (CallOk.ch (CallOk.ch (CallOk.ch (ozaO N).call))) (qCk N)
def gs52 (N:Nat):List (GE D):=gs51 N
theorem qxZ (N:Nat):∀y∈gs52 N,CallG X0 y.d y.F:=qxY N
def X52 (N:Nat):Ev Try.prog D:=(X0.with (fs52 N)).gen (gs52 N)
theorem qmA (N:Nat):COk (X52 N):=COk.gen0 (COk.of (qCl N)) (qxZ N)
def qp8 (N:Nat):List (Pc D):=[]
theorem qke (N:Nat):∀u∈qp8 N,PcOk (X52 N) (qab Try.f50) u:=qaj
def PzcB_2:PD D:={path:=[1,0,1,0,0,1,0,0,0,0],ins:=[.v 0 (.sl 53), .v 1 (.sl 33), .v 5 (.int .i64)],fx:=[],ks:=[],exs:=[⟨.normal,[.v 40 .bool],[]⟩],keep:=[0,1,5]}
def qxa (N:Nat):PzcB_2.F:=fun x=>qu2 N x.1 x.2.1 x.2.2.1
theorem qEW (N:Nat):CC (X52 N) (qab Try.f50) PzcB_2 (qxa N):=CC.of (qmA N) (us:=qp8 N) (fun u h _=>qke N u h) (fun x=>by kernel_rfl)
def qrB (N:Nat):List (Pc D):=PzcB_2.pc (X52 N) (qxa N)::qp8 N
theorem qlH (N:Nat):∀u∈qrB N,PcOk (X52 N) (qab Try.f50) u:=qac ((qEW N).pc (by kernel_rfl)) (qke N)
def PzcB_3:PD D:={path:=[1,0,1,0,0,1,0,0,1,1,1,0,1,0,0],ins:=[.v 6 (.int .i64)],fx:=[],ks:=[],exs:=[⟨.normal,[.v 62 .bool],[]⟩],keep:=[0,1,5]}
def qxb (N:Nat):PzcB_3.F:=fun x=>qu3 N x.1
theorem qEX (N:Nat):CC (X52 N) (qab Try.f50) PzcB_3 (qxb N):=CC.of (qmA N) (us:=qrB N) (fun u h _=>qlH N u h) (fun x=>by kernel_rfl)
def qrC (N:Nat):List (Pc D):=PzcB_3.pc (X52 N) (qxb N)::qrB N
theorem qlI (N:Nat):∀u∈qrC N,PcOk (X52 N) (qab Try.f50) u:=qac ((qEX N).pc (by kernel_rfl)) (qlH N)
def PzcB_4:PD D:={path:=[1,0,1,0,0,1,0,0,1,1,1,0,1,1,1,0,0],ins:=[.v 6 (.int .i64)],fx:=[],ks:=[],exs:=[⟨.normal,[.v 70 .bool],[]⟩],keep:=[0,1,5]}
def qxc (N:Nat):PzcB_4.F:=fun x=>qu4 N x.1
theorem qEY (N:Nat):CC (X52 N) (qab Try.f50) PzcB_4 (qxc N):=CC.of (qmA N) (us:=qrC N) (fun u h _=>qlI N u h) (fun x=>by kernel_rfl)
def qrD (N:Nat):List (Pc D):=PzcB_4.pc (X52 N) (qxc N)::qrC N
theorem qlJ (N:Nat):∀u∈qrD N,PcOk (X52 N) (qab Try.f50) u:=qac ((qEY N).pc (by kernel_rfl)) (qlI N)
def PzcB_1:PD D:={path:=[1,0,1,0,0,1,0],ins:=[.v 0 (.sl 53), .v 1 (.sl 33), .v 5 (.int .i64)],fx:=[],ks:=[],exs:=[⟨.normal,[],[]⟩,⟨.ret,[.v 4 .bool],[]⟩],keep:=[0,1,5]}
def qw9 (N:Nat):PzcB_1.F:=fun x=>qr0 N x.1 x.2.1 x.2.2.1
theorem qEV (N:Nat):CC (X52 N) (qab Try.f50) PzcB_1 (qw9 N):=CC.of (qmA N) (us:=qrD N) (fun u h _=>qlJ N u h) (fun x=>by kernel_rfl)
def qrA (N:Nat):List (Pc D):=PzcB_1.pc (X52 N) (qw9 N)::qrD N
theorem qlG (N:Nat):∀u∈qrA N,PcOk (X52 N) (qab Try.f50) u:=qac ((qEV N).pc (by kernel_rfl)) (qlJ N)
def PzcB_0:PD D:={path:=[1,0,1,0],ins:=[.v 0 (.sl 53), .v 1 (.sl 33), .v 5 (.int .i64)],fx:=[],ks:=[],exs:=[⟨.exit 0,[],[]⟩,⟨.ret,[.v 4 .bool],[]⟩],keep:=[]}
def qw8 (N:Nat) (n:Nat):PzcB_0.F:=fun x=>qg1 N x.1 x.2.1 n x.2.2.1
theorem qEU (N:Nat) (n:Nat):CC (X52 N) (qab Try.f50) PzcB_0 (qw8 N n):=CC.loop (qmA N) (us:=qrA N) (c:=sub (qab Try.f50) [1,0,1,0,0]) (by kernel_rfl) (by kernel_rfl) (fun u h _=>qlG N u h) (fun x=>rfl) (fun n x=>by kernel_rfl) n
def qzk (N:Nat):List (Pc D):=PzcB_0.pc (X52 N) (qw8 N N)::qrA N
theorem qty (N:Nat):∀u∈qzk N,PcOk (X52 N) (qab Try.f50) u:=qac ((qEU N N).pc (by kernel_rfl)) (qlG N)
def dzcB:FD D:={f:=50,np:=2,ins:=[.v 0 (.sl 53), .v 1 (.sl 33)],fx:=[],rcv:=none,rk:=0,outs:=[.v 4 .bool],ofx:=[],rvs:=[.tmp 4],flat:=true}
def FzcB (N:Nat):dzcB.F:=fun r x=>zcB N x.1 x.2.1
theorem ozcB (N:Nat):FOk Try.prog (X52 N) dzcB (FzcB N):=⟨⟨Try.f50,_,Try.func50,rfl,by kernel_rfl,by kernel_rfl,rfl,FC.of (qmA N) (us:=qzk N) (fun u h _=>qty N u h) (fun r x=>by kernel_rfl)⟩,by kernel_rfl,by kernel_rfl,by kernel_rfl,by kernel_rfl⟩
def fs53 (N:Nat):List (FE D):=⟨dzcB,FzcB N⟩::fs52 N
theorem qzG (N:Nat):∀y∈fs53 N,CallOk X0 y.d y.F:=qao (x:=⟨dzcB,FzcB N⟩) (CallOk.ch (CallOk.ch (ozcB N).call)) (qCl N)
def gs53 (N:Nat):List (GE D):=gs52 N
theorem qnV (N:Nat):∀y∈gs53 N,CallG X0 y.d y.F:=qxZ N
def X53 (N:Nat):Ev Try.prog D:=(X0.with (fs53 N)).gen (gs53 N)
theorem qHP (N:Nat):COk (X53 N):=COk.gen0 (COk.of (qzG N)) (qnV N)
def dzaZ:GD D:={f:=51,np:=6,ins:=[.o 100000000 (.sl 3), .v 0 (.sl 53), .v 1 (.sl 70), .v 2 (.sl 33), .v 3 (.int .i64), .v 4 (.int .i64), .o 5 (.map 85 109 4)],fx:=[(5, .c (.own 1))],ks:=[1,2],outs:=[.v 12 .bool, .u 1 (.map 85 109 4)],ofx:=[],res:=[12],fz:=true}
def FzaZ (N rc:Nat):dzaZ.pd.F:=fun x=>zaZ N rc x.1 x.2.1 x.2.2.1 x.2.2.2.1 x.2.2.2.2.1 x.2.2.2.2.2.1 x.2.2.2.2.2.2.1
def Xr53 (N rc:Nat):Ev Try.prog D:=(X0.with (fs53 N)).gen (⟨dzaZ,FzaZ N rc⟩::gs53 N)
theorem qez (N rc:Nat) (hr:CallG X0 dzaZ (FzaZ N rc)):COk (Xr53 N rc):=COk.gen0 (COk.of (qzG N)) (qa7 (x:=⟨dzaZ,FzaZ N rc⟩) hr (qnV N))
def qpM (N rc:Nat):List (Pc D):=[]
theorem qjS (N rc:Nat) (hr:CallG X0 dzaZ (FzaZ N rc)):∀u∈qpM N rc,PcOk (Xr53 N rc) (qab Try.f51) u:=qaj
def PzaZ_0:PD D:={path:=[1,1,0,0],ins:=[.o 100000000 (.sl 3), .v 4 (.int .i64), .o 5 (.map 85 109 4), .v 13 (.int .i64)],fx:=[(5, .c (.own 1))],ks:=[1,1],exs:=[⟨.normal,[.v 30 .bool],[]⟩],keep:=[0,1,2,4,5,13]}
def qwe (N rc:Nat):PzaZ_0.F:=fun x=>quH N (zaZ N rc) x.2.1 x.2.2.1 x.2.2.2.1
theorem qD0 (N rc:Nat) (hr:CallG X0 dzaZ (FzaZ N rc)):CC (Xr53 N rc) (qab Try.f51) PzaZ_0 (qwe N rc):=CC.of (qez N rc hr) (us:=qpM N rc) (fun u h _=>qjS N rc hr u h) (fun x=>by kernel_rfl)
def qq2 (N rc:Nat):List (Pc D):=PzaZ_0.pc (Xr53 N rc) (qwe N rc)::qpM N rc
theorem qk8 (N rc:Nat) (hr:CallG X0 dzaZ (FzaZ N rc)):∀u∈qq2 N rc,PcOk (Xr53 N rc) (qab Try.f51) u:=qac ((qD0 N rc hr).pc (by kernel_rfl)) (qjS N rc hr)
def PzaZ_1:PD D:={path:=[1,1,1,1,0,1,0,0],ins:=[.o 100000000 (.sl 3), .v 1 (.sl 70), .o 5 (.map 85 109 4), .v 13 (.int .i64)],fx:=[(5, .c (.own 1))],ks:=[1,1],exs:=[⟨.normal,[.v 12 .bool],[]⟩],keep:=[5]}
def qwf (N rc:Nat):PzaZ_1.F:=fun x=>qBm N (zaZ N rc) x.2.1 x.2.2.2.1
theorem qD1 (N rc:Nat) (hr:CallG X0 dzaZ (FzaZ N rc)):CC (Xr53 N rc) (qab Try.f51) PzaZ_1 (qwf N rc):=CC.of (qez N rc hr) (us:=qq2 N rc) (fun u h _=>qk8 N rc hr u h) (fun x=>by kernel_rfl)
def qq3 (N rc:Nat):List (Pc D):=PzaZ_1.pc (Xr53 N rc) (qwf N rc)::qq2 N rc
theorem qk9 (N rc:Nat) (hr:CallG X0 dzaZ (FzaZ N rc)):∀u∈qq3 N rc,PcOk (Xr53 N rc) (qab Try.f51) u:=qac ((qD1 N rc hr).pc (by kernel_rfl)) (qk8 N rc hr)
def PzaZ_2:PD D:={path:=[1,1,1,1,1,1,1,0,0],ins:=[.o 100000000 (.sl 3), .o 5 (.map 85 109 4), .v 14 (.rp 53), .v 15 (.int .i64), .v 16 (.sl 3)],fx:=[(5, .c (.own 1))],ks:=[1,1],exs:=[⟨.normal,[.v 72 .bool],[]⟩],keep:=[0,1,2,4,5,13,14,15,16]}
def qwg (N rc:Nat):PzaZ_2.F:=fun x=>quI N (zaZ N rc) x.2.2.1 x.2.2.2.1
theorem qD2 (N rc:Nat) (hr:CallG X0 dzaZ (FzaZ N rc)):CC (Xr53 N rc) (qab Try.f51) PzaZ_2 (qwg N rc):=CC.of (qez N rc hr) (us:=qq3 N rc) (fun u h _=>qk9 N rc hr u h) (fun x=>by kernel_rfl)
def qq4 (N rc:Nat):List (Pc D):=PzaZ_2.pc (Xr53 N rc) (qwg N rc)::qq3 N rc
theorem qla (N rc:Nat) (hr:CallG X0 dzaZ (FzaZ N rc)):∀u∈qq4 N rc,PcOk (Xr53 N rc) (qab Try.f51) u:=qac ((qD2 N rc hr).pc (by kernel_rfl)) (qk9 N rc hr)
def PzaZ_5:PD D:={path:=[1,1,1,1,1,1,1,1,0,1,0,0,1,0,0,0,0],ins:=[.o 100000000 (.sl 3), .v 4 (.int .i64), .o 5 (.map 85 109 4), .v 14 (.rp 53), .v 15 (.int .i64), .v 16 (.sl 3), .v 17 (.int .i64)],fx:=[(5, .c (.own 1))],ks:=[1,1],exs:=[⟨.normal,[.v 113 .bool],[]⟩],keep:=[0,1,2,4,5,13,14,15,16,17]}
def qwj (N rc:Nat):PzaZ_5.F:=fun x=>quJ N (zaZ N rc) x.2.1 x.2.2.2.1 x.2.2.2.2.1 x.2.2.2.2.2.1 x.2.2.2.2.2.2.1
theorem qD5 (N rc:Nat) (hr:CallG X0 dzaZ (FzaZ N rc)):CC (Xr53 N rc) (qab Try.f51) PzaZ_5 (qwj N rc):=CC.of (qez N rc hr) (us:=qq4 N rc) (fun u h _=>qla N rc hr u h) (fun x=>by kernel_rfl)
def qq6 (N rc:Nat):List (Pc D):=PzaZ_5.pc (Xr53 N rc) (qwj N rc)::qq4 N rc
theorem qlc (N rc:Nat) (hr:CallG X0 dzaZ (FzaZ N rc)):∀u∈qq6 N rc,PcOk (Xr53 N rc) (qab Try.f51) u:=qac ((qD5 N rc hr).pc (by kernel_rfl)) (qla N rc hr)
def PzaZ_4:PD D:={path:=[1,1,1,1,1,1,1,1,0,1,0,0,1,0],ins:=[.o 100000000 (.sl 3), .v 0 (.sl 53), .v 1 (.sl 70), .v 2 (.sl 33), .v 4 (.int .i64), .o 5 (.map 85 109 4), .v 13 (.int .i64), .v 14 (.rp 53), .v 15 (.int .i64), .v 16 (.sl 3), .v 17 (.int .i64)],fx:=[(5, .c (.own 1))],ks:=[1,2],exs:=[⟨.normal,[.u 1 (.map 85 109 4)],[]⟩,⟨.ret,[.u 1 (.map 85 109 4), .v 12 .bool],[]⟩],keep:=[0,1,2,4,5,13,14,15,16,17]}
def qwi (N rc:Nat):PzaZ_4.F:=fun x=>qBn N (zaZ N rc) x.1 x.2.1 x.2.2.1 x.2.2.2.1 x.2.2.2.2.1 x.2.2.2.2.2.1 x.2.2.2.2.2.2.1 x.2.2.2.2.2.2.2.1 x.2.2.2.2.2.2.2.2.1 x.2.2.2.2.2.2.2.2.2.1 x.2.2.2.2.2.2.2.2.2.2.1
theorem qD4 (N rc:Nat) (hr:CallG X0 dzaZ (FzaZ N rc)):CC (Xr53 N rc) (qab Try.f51) PzaZ_4 (qwi N rc):=CC.of (qez N rc hr) (us:=qq6 N rc) (fun u h _=>qlc N rc hr u h) (fun x=>by kernel_rfl)
def qq5 (N rc:Nat):List (Pc D):=PzaZ_4.pc (Xr53 N rc) (qwi N rc)::qq6 N rc
theorem qlb (N rc:Nat) (hr:CallG X0 dzaZ (FzaZ N rc)):∀u∈qq5 N rc,PcOk (Xr53 N rc) (qab Try.f51) u:=qac ((qD4 N rc hr).pc (by kernel_rfl)) (qlc N rc hr)
def PzaZ_3:PD D:={path:=[1,1,1,1,1,1,1,1,0,1,0],ins:=[.o 100000000 (.sl 3), .v 0 (.sl 53), .v 1 (.sl 70), .v 2 (.sl 33), .v 4 (.int .i64), .o 5 (.map 85 109 4), .v 13 (.int .i64), .v 14 (.rp 53), .v 15 (.int .i64), .v 16 (.sl 3), .v 17 (.int .i64)],fx:=[(5, .c (.own 1))],ks:=[1,2],exs:=[⟨.exit 0,[.u 1 (.map 85 109 4)],[]⟩,⟨.ret,[.u 1 (.map 85 109 4), .v 12 .bool],[]⟩],keep:=[5]}
def qwh (N rc:Nat) (n:Nat):PzaZ_3.F:=fun x=>qm7 N (zaZ N rc) x.1 x.2.1 x.2.2.1 x.2.2.2.1 x.2.2.2.2.1 x.2.2.2.2.2.2.1 x.2.2.2.2.2.2.2.1 x.2.2.2.2.2.2.2.2.1 x.2.2.2.2.2.2.2.2.2.1 n x.2.2.2.2.2.1 x.2.2.2.2.2.2.2.2.2.2.1
theorem qD3 (N rc:Nat) (hr:CallG X0 dzaZ (FzaZ N rc)) (n:Nat):CC (Xr53 N rc) (qab Try.f51) PzaZ_3 (qwh N rc n):=CC.loop (qez N rc hr) (us:=qq5 N rc) (c:=sub (qab Try.f51) [1,1,1,1,1,1,1,1,0,1,0,0]) (by kernel_rfl) (by kernel_rfl) (fun u h _=>qlb N rc hr u h) (fun x=>rfl) (fun n x=>by kernel_rfl) n
def qyY (N rc:Nat):List (Pc D):=PzaZ_3.pc (Xr53 N rc) (qwh N rc N)::qq5 N rc
theorem qtc (N rc:Nat) (hr:CallG X0 dzaZ (FzaZ N rc)):∀u∈qyY N rc,PcOk (Xr53 N rc) (qab Try.f51) u:=qac ((qD3 N rc hr N).pc (by kernel_rfl)) (qlb N rc hr)
theorem ozaZ (N rc:Nat) (hr:CallG X0 dzaZ (FzaZ N rc)):GOk Try.prog (Xr53 N rc) dzaZ (FzaZ N (rc+1)):=⟨⟨Try.f51,_,Try.func51,rfl,by kernel_rfl,by kernel_rfl,rfl,by kernel_rfl,CCn.of (qez N rc hr) (us:=qyY N rc) (fun u h _=>qtc N rc hr u h) (fun x=>by kernel_rfl)⟩⟩
theorem wzaZ (N:Nat):∀rc:Nat,CallG X0 dzaZ (FzaZ N rc)
 |0=>CallG.none fun x=>rfl
 |rc+1=>(ozaZ N rc (wzaZ N rc)).call.base.base
def fs54 (N:Nat):List (FE D):=fs53 N
theorem qCm (N:Nat):∀y∈fs54 N,CallOk X0 y.d y.F:=qzG N
def gs54 (N:Nat):List (GE D):=⟨dzaZ,FzaZ N N⟩::gs53 N
theorem qx0 (N:Nat):∀y∈gs54 N,CallG X0 y.d y.F:=qa7 (x:=⟨dzaZ,FzaZ N N⟩) (wzaZ N N) (qnV N)
def X54 (N:Nat):Ev Try.prog D:=(X0.with (fs54 N)).gen (gs54 N)
theorem qnu (N:Nat):COk (X54 N):=COk.gen0 (COk.of (qCm N)) (qx0 N)
def qpR (N:Nat):List (Pc D):=[]
theorem qjX (N:Nat):∀u∈qpR N,PcOk (X54 N) (qab Try.f24) u:=qaj
def PzbH_2:PD D:={path:=[1,1,1,1,0,1,0,0,1,0,0,0,0],ins:=[.v 0 (.sl 53), .v 1 (.sl 70), .o 8 (.sl 3), .v 9 (.int .i64)],fx:=[(8, .c (.own 0))],ks:=[1],exs:=[⟨.normal,[.v 34 .bool],[]⟩],keep:=[0,1,2,8,9]}
def qwx (N:Nat):PzbH_2.F:=fun x=>quQ N x.1 x.2.1 x.2.2.2.1
theorem qEj (N:Nat):CC (X54 N) (qab Try.f24) PzbH_2 (qwx N):=CC.of (qnu N) (us:=qpR N) (fun u h _=>qjX N u h) (fun x=>by kernel_rfl)
def qrf (N:Nat):List (Pc D):=PzbH_2.pc (X54 N) (qwx N)::qpR N
theorem qll (N:Nat):∀u∈qrf N,PcOk (X54 N) (qab Try.f24) u:=qac ((qEj N).pc (by kernel_rfl)) (qjX N)
def PzbH_3:PD D:={path:=[1,1,1,1,0,1,0,0,1,0,0,1,0],ins:=[.v 0 (.sl 53), .v 1 (.sl 70), .v 2 (.sl 33), .o 8 (.sl 3), .v 9 (.int .i64)],fx:=[(8, .c (.own 0))],ks:=[1],exs:=[⟨.normal,[.v 58 .bool],[]⟩],keep:=[0,1,2,8,9]}
def qwy (N:Nat):PzbH_3.F:=fun x=>quR N x.1 x.2.1 x.2.2.1 x.2.2.2.1 x.2.2.2.2.1
theorem qEk (N:Nat):CC (X54 N) (qab Try.f24) PzbH_3 (qwy N):=CC.of (qnu N) (us:=qrf N) (fun u h _=>qll N u h) (fun x=>by kernel_rfl)
def qrg (N:Nat):List (Pc D):=PzbH_3.pc (X54 N) (qwy N)::qrf N
theorem qlm (N:Nat):∀u∈qrg N,PcOk (X54 N) (qab Try.f24) u:=qac ((qEk N).pc (by kernel_rfl)) (qll N)
def PzbH_1:PD D:={path:=[1,1,1,1,0,1,0,0,1,0],ins:=[.v 0 (.sl 53), .v 1 (.sl 70), .v 2 (.sl 33), .o 8 (.sl 3), .v 9 (.int .i64)],fx:=[(8, .c (.own 0))],ks:=[0],exs:=[⟨.normal,[.o 8 (.sl 3)],[(8, .c (.own 1))]⟩],keep:=[0,1,2,9]}
def qww (N:Nat):PzbH_1.F:=fun x=>quP N x.1 x.2.1 x.2.2.1 x.2.2.2.1 x.2.2.2.2.1
theorem qEi (N:Nat):CC (X54 N) (qab Try.f24) PzbH_1 (qww N):=CC.of (qnu N) (us:=qrg N) (fun u h _=>qlm N u h) (fun x=>by kernel_rfl)
def qre (N:Nat):List (Pc D):=PzbH_1.pc (X54 N) (qww N)::qrg N
theorem qlk (N:Nat):∀u∈qre N,PcOk (X54 N) (qab Try.f24) u:=qac ((qEi N).pc (by kernel_rfl)) (qlm N)
def PzbH_0:PD D:={path:=[1,1,1,1,0,1,0],ins:=[.v 0 (.sl 53), .v 1 (.sl 70), .v 2 (.sl 33), .o 8 (.sl 3), .v 9 (.int .i64)],fx:=[(8, .c (.own 0))],ks:=[0],exs:=[⟨.exit 0,[.o 8 (.sl 3)],[(8, .c (.own 1))]⟩],keep:=[]}
def qwv (N:Nat) (n:Nat):PzbH_0.F:=fun x=>qiW N x.1 x.2.1 x.2.2.1 n x.2.2.2.1 x.2.2.2.2.1
theorem qEh (N:Nat) (n:Nat):CC (X54 N) (qab Try.f24) PzbH_0 (qwv N n):=CC.loop (qnu N) (us:=qre N) (c:=sub (qab Try.f24) [1,1,1,1,0,1,0,0]) (by kernel_rfl) (by kernel_rfl) (fun u h _=>qlk N u h) (fun x=>rfl) (fun n x=>by kernel_rfl) n
def qy3 (N:Nat):List (Pc D):=PzbH_0.pc (X54 N) (qwv N N)::qre N
theorem qth (N:Nat):∀u∈qy3 N,PcOk (X54 N) (qab Try.f24) u:=qac ((qEh N N).pc (by kernel_rfl)) (qlk N)
def dzbH:FD D:={f:=24,np:=3,ins:=[.v 0 (.sl 53), .v 1 (.sl 70), .v 2 (.sl 33)],fx:=[],rcv:=none,rk:=0,outs:=[.o 6 (.sl 3), .v 7 (.int .i64)],ofx:=[(6, .c (.own 0))],rvs:=[.tmp 6, .tmp 7],flat:=false}
def FzbH (N:Nat):dzbH.F:=fun r x=>zbH N x.1 x.2.1 x.2.2.1
theorem ozbH (N:Nat):FOk Try.prog (X54 N) dzbH (FzbH N):=⟨⟨Try.f24,_,Try.func24,rfl,by kernel_rfl,by kernel_rfl,rfl,FC.of (qnu N) (us:=qy3 N) (fun u h _=>qth N u h) (fun r x=>by kernel_rfl)⟩,by kernel_rfl,by kernel_rfl,by kernel_rfl,by kernel_rfl⟩
def fs55 (N:Nat):List (FE D):=⟨dzbH,FzbH N⟩::fs54 N
theorem qCn (N:Nat):∀y∈fs55 N,CallOk X0 y.d y.F:=qao (x:=⟨dzbH,FzbH N⟩) (CallOk.ch (CallOk.ch (ozbH N).call)) (qCm N)
def gs55 (N:Nat):List (GE D):=gs54 N
theorem qx1 (N:Nat):∀y∈gs55 N,CallG X0 y.d y.F:=qx0 N
def X55 (N:Nat):Ev Try.prog D:=(X0.with (fs55 N)).gen (gs55 N)
theorem qCT (N:Nat):COk (X55 N):=COk.gen0 (COk.of (qCn N)) (qx1 N)
def qpv (N:Nat):List (Pc D):=[]
theorem qjB (N:Nat):∀u∈qpv N,PcOk (X55 N) (qab Try.f52) u:=qaj
def PzaH_0:PD D:={path:=[1,1,0,1,0],ins:=[.v 0 (.sl 33), .v 1 (.sl 33), .v 5 (.int .i64)],fx:=[],ks:=[],exs:=[⟨.exit 0,[],[]⟩,⟨.ret,[.v 4 .bool],[]⟩],keep:=[]}
def qvm (N:Nat) (n:Nat):PzaH_0.F:=fun x=>qiR N x.1 x.2.1 n x.2.2.1
theorem qC8 (N:Nat) (n:Nat):CC (X55 N) (qab Try.f52) PzaH_0 (qvm N n):=CC.loop (qCT N) (us:=qpv N) (c:=sub (qab Try.f52) [1,1,0,1,0,0]) (by kernel_rfl) (by kernel_rfl) (fun u h _=>qjB N u h) (fun x=>rfl) (fun n x=>by kernel_rfl) n
def qyG (N:Nat):List (Pc D):=PzaH_0.pc (X55 N) (qvm N N)::qpv N
theorem qsU (N:Nat):∀u∈qyG N,PcOk (X55 N) (qab Try.f52) u:=qac ((qC8 N N).pc (by kernel_rfl)) (qjB N)
def dzaH:FD D:={f:=52,np:=2,ins:=[.v 0 (.sl 33), .v 1 (.sl 33)],fx:=[],rcv:=none,rk:=0,outs:=[.v 4 .bool],ofx:=[],rvs:=[.tmp 4],flat:=true}
def FzaH (N:Nat):dzaH.F:=fun r x=>zaH N x.1 x.2.1
theorem ozaH (N:Nat):FOk Try.prog (X55 N) dzaH (FzaH N):=⟨⟨Try.f52,_,Try.func52,rfl,by kernel_rfl,by kernel_rfl,rfl,FC.of (qCT N) (us:=qyG N) (fun u h _=>qsU N u h) (fun r x=>by kernel_rfl)⟩,by kernel_rfl,by kernel_rfl,by kernel_rfl,by kernel_rfl⟩
def fs56 (N:Nat):List (FE D):=⟨dzaH,FzaH N⟩::fs55 N
theorem qCo (N:Nat):∀y∈fs56 N,CallOk X0 y.d y.F:=qao (x:=⟨dzaH,FzaH N⟩) (CallOk.ch (CallOk.ch (ozaH N).call)) (qCn N)
def gs56 (N:Nat):List (GE D):=gs55 N
theorem qx2 (N:Nat):∀y∈gs56 N,CallG X0 y.d y.F:=qx1 N
def X56 (N:Nat):Ev Try.prog D:=(X0.with (fs56 N)).gen (gs56 N)
theorem qGV (N:Nat):COk (X56 N):=COk.gen0 (COk.of (qCo N)) (qx2 N)
def qys (N:Nat):List (Pc D):=[]
theorem qsH (N:Nat):∀u∈qys N,PcOk (X56 N) (qab Try.f25) u:=qaj
def dzaD:FD D:={f:=25,np:=2,ins:=[.v 0 (.sl 33), .v 1 (.sl 33)],fx:=[],rcv:=none,rk:=0,outs:=[.v 4 .bool],ofx:=[],rvs:=[.tmp 4],flat:=true}
def FzaD (N:Nat):dzaD.F:=fun r x=>zaD N x.1 x.2.1
theorem ozaD (N:Nat):FOk Try.prog (X56 N) dzaD (FzaD N):=⟨⟨Try.f25,_,Try.func25,rfl,by kernel_rfl,by kernel_rfl,rfl,FC.of (qGV N) (us:=qys N) (fun u h _=>qsH N u h) (fun r x=>by kernel_rfl)⟩,by kernel_rfl,by kernel_rfl,by kernel_rfl,by kernel_rfl⟩
def fs57 (N:Nat):List (FE D):=⟨dzaD,FzaD N⟩::fs56 N
theorem qCp (N:Nat):∀y∈fs57 N,CallOk X0 y.d y.F:=qao (x:=⟨dzaD,FzaD N⟩) (CallOk.ch (CallOk.ch (ozaD N).call)) (qCo N)
def gs57 (N:Nat):List (GE D):=gs56 N
theorem qx3 (N:Nat):∀y∈gs57 N,CallG X0 y.d y.F:=qx2 N
def X57 (N:Nat):Ev Try.prog D:=(X0.with (fs57 N)).gen (gs57 N)
theorem qCU (N:Nat):COk (X57 N):=COk.gen0 (COk.of (qCp N)) (qx3 N)
def qqa (N:Nat):List (Pc D):=[]
theorem qkg (N:Nat):∀u∈qqa N,PcOk (X57 N) (qab Try.f26) u:=qaj
def PzcD_0:PD D:={path:=[1,1,0,1,0],ins:=[.v 0 (.sl 3), .v 1 (.sl 3), .v 5 (.int .i64)],fx:=[],ks:=[],exs:=[⟨.exit 0,[],[]⟩,⟨.ret,[.v 4 .bool],[]⟩],keep:=[]}
def qxi (N:Nat) (n:Nat):PzcD_0.F:=fun x=>qnb N x.1 x.2.1 n x.2.2.1
theorem qE4 (N:Nat) (n:Nat):CC (X57 N) (qab Try.f26) PzcD_0 (qxi N n):=CC.loop (qCU N) (us:=qqa N) (c:=sub (qab Try.f26) [1,1,0,1,0,0]) (by kernel_rfl) (by kernel_rfl) (fun u h _=>qkg N u h) (fun x=>rfl) (fun n x=>by kernel_rfl) n
def qzm (N:Nat):List (Pc D):=PzcD_0.pc (X57 N) (qxi N N)::qqa N
theorem qtA (N:Nat):∀u∈qzm N,PcOk (X57 N) (qab Try.f26) u:=qac ((qE4 N N).pc (by kernel_rfl)) (qkg N)
def dzcD:FD D:={f:=26,np:=2,ins:=[.v 0 (.sl 3), .v 1 (.sl 3)],fx:=[],rcv:=none,rk:=0,outs:=[.v 4 .bool],ofx:=[],rvs:=[.tmp 4],flat:=true}
def FzcD (N:Nat):dzcD.F:=fun r x=>zcD N x.1 x.2.1
theorem ozcD (N:Nat):FOk Try.prog (X57 N) dzcD (FzcD N):=⟨⟨Try.f26,_,Try.func26,rfl,by kernel_rfl,by kernel_rfl,rfl,FC.of (qCU N) (us:=qzm N) (fun u h _=>qtA N u h) (fun r x=>by kernel_rfl)⟩,by kernel_rfl,by kernel_rfl,by kernel_rfl,by kernel_rfl⟩
def fs58 (N:Nat):List (FE D):=⟨dzcD,FzcD N⟩::fs57 N
theorem qCq (N:Nat):∀y∈fs58 N,CallOk X0 y.d y.F:=qao (x:=⟨dzcD,FzcD N⟩) (CallOk.ch (CallOk.ch (ozcD N).call)) (qCp N)
def gs58 (N:Nat):List (GE D):=gs57 N
theorem qx4 (N:Nat):∀y∈gs58 N,CallG X0 y.d y.F:=qx3 N
def X58 (N:Nat):Ev Try.prog D:=(X0.with (fs58 N)).gen (gs58 N)
theorem qCV (N:Nat):COk (X58 N):=COk.gen0 (COk.of (qCq N)) (qx4 N)
def qp2 (N:Nat):List (Pc D):=[]
theorem qj8 (N:Nat):∀u∈qp2 N,PcOk (X58 N) (qab Try.f11) u:=qaj
def PzbU_0:PD D:={path:=[1,1,1,1,1,0],ins:=[.v 7 (.sl 33), .v 8 (.int .i64), .v 9 (.sl 33), .v 10 (.int .i64), .o 11 (.sl 3), .v 12 (.int .i64), .o 13 (.sl 3), .v 14 (.int .i64)],fx:=[(11, .c (.own 0)),(13, .c (.own 1))],ks:=[1,1],exs:=[⟨.normal,[.v 6 .bool],[]⟩],keep:=[]}
def qwP (N:Nat):PzbU_0.F:=fun x=>quX N x.1 x.2.1 x.2.2.1 x.2.2.2.1 x.2.2.2.2.1 x.2.2.2.2.2.1 x.2.2.2.2.2.2.1 x.2.2.2.2.2.2.2.1
theorem qEB (N:Nat):CC (X58 N) (qab Try.f11) PzbU_0 (qwP N):=CC.of (qCV N) (us:=qp2 N) (fun u h _=>qj8 N u h) (fun x=>by kernel_rfl)
def qze (N:Nat):List (Pc D):=PzbU_0.pc (X58 N) (qwP N)::qp2 N
theorem qts (N:Nat):∀u∈qze N,PcOk (X58 N) (qab Try.f11) u:=qac ((qEB N).pc (by kernel_rfl)) (qj8 N)
def dzbU:FD D:={f:=11,np:=3,ins:=[.v 0 (.sl 53), .v 1 (.sl 70), .v 2 (.sl 33)],fx:=[],rcv:=none,rk:=0,outs:=[.v 6 .bool],ofx:=[],rvs:=[.tmp 6],flat:=true}
def FzbU (N:Nat):dzbU.F:=fun r x=>zbU N x.1 x.2.1 x.2.2.1
theorem ozbU (N:Nat):FOk Try.prog (X58 N) dzbU (FzbU N):=⟨⟨Try.f11,_,Try.func11,rfl,by kernel_rfl,by kernel_rfl,rfl,FC.of (qCV N) (us:=qze N) (fun u h _=>qts N u h) (fun r x=>by kernel_rfl)⟩,by kernel_rfl,by kernel_rfl,by kernel_rfl,by kernel_rfl⟩
def fs59 (N:Nat):List (FE D):=⟨dzbU,FzbU N⟩::fs58 N
theorem qCr (N:Nat):∀y∈fs59 N,CallOk X0 y.d y.F:=qao (x:=⟨dzbU,FzbU N⟩) (CallOk.ch (CallOk.ch (ozbU N).call)) (qCq N)
def gs59 (N:Nat):List (GE D):=gs58 N
theorem qx5 (N:Nat):∀y∈gs59 N,CallG X0 y.d y.F:=qx4 N
def X59 (N:Nat):Ev Try.prog D:=(X0.with (fs59 N)).gen (gs59 N)
theorem qGW (N:Nat):COk (X59 N):=COk.gen0 (COk.of (qCr N)) (qx5 N)
def qyy (N:Nat):List (Pc D):=[]
theorem qsN (N:Nat):∀u∈qyy N,PcOk (X59 N) (qab Try.f28) u:=qaj
def dzbW:FD D:={f:=28,np:=0,ins:=[],fx:=[],rcv:=none,rk:=0,outs:=[.o 0 (.sl 53)],ofx:=[(0, .c (.own 0))],rvs:=[.tmp 0],flat:=false}
def FzbW (N:Nat):dzbW.F:=fun r x=>zbW N
theorem ozbW (N:Nat):FOk Try.prog (X59 N) dzbW (FzbW N):=⟨⟨Try.f28,_,Try.func28,rfl,by kernel_rfl,by kernel_rfl,rfl,FC.of (qGW N) (us:=qyy N) (fun u h _=>qsN N u h) (fun r x=>by kernel_rfl)⟩,by kernel_rfl,by kernel_rfl,by kernel_rfl,by kernel_rfl⟩
def fs60 (N:Nat):List (FE D):=⟨dzbW,FzbW N⟩::fs59 N
theorem qCs (N:Nat):∀y∈fs60 N,CallOk X0 y.d y.F:=qao (x:=⟨dzbW,FzbW N⟩) (CallOk.ch (CallOk.ch (ozbW N).call)) (qCr N)
def gs60 (N:Nat):List (GE D):=gs59 N
theorem qx6 (N:Nat):∀y∈gs60 N,CallG X0 y.d y.F:=qx5 N
def X60 (N:Nat):Ev Try.prog D:=(X0.with (fs60 N)).gen (gs60 N)
theorem qGX (N:Nat):COk (X60 N):=COk.gen0 (COk.of (qCs N)) (qx6 N)
def qyz (N:Nat):List (Pc D):=[]
theorem qsO (N:Nat):∀u∈qyz N,PcOk (X60 N) (qab Try.f55) u:=qaj
def dzcJ:FD D:={f:=55,np:=2,ins:=[.v 0 (.sl 53), .v 1 (.agg 70)],fx:=[],rcv:=none,rk:=0,outs:=[.o 4 (.sl 3)],ofx:=[(4, .c (.own 0))],rvs:=[.tmp 4],flat:=false}
def FzcJ (N:Nat):dzcJ.F:=fun r x=>zcJ N x.1 x.2.1
theorem ozcJ (N:Nat):FOk Try.prog (X60 N) dzcJ (FzcJ N):=⟨⟨Try.f55,_,Try.func55,rfl,by kernel_rfl,by kernel_rfl,rfl,FC.of (qGX N) (us:=qyz N) (fun u h _=>qsO N u h) (fun r x=>by kernel_rfl)⟩,by kernel_rfl,by kernel_rfl,by kernel_rfl,by kernel_rfl⟩
def fs61 (N:Nat):List (FE D):=⟨dzcJ,FzcJ N⟩::fs60 N
theorem qCt (N:Nat):∀y∈fs61 N,CallOk X0 y.d y.F:=qao (x:=⟨dzcJ,FzcJ N⟩) (CallOk.ch (CallOk.ch (ozcJ N).call)) (qCs N)
def gs61 (N:Nat):List (GE D):=gs60 N
theorem qx7 (N:Nat):∀y∈gs61 N,CallG X0 y.d y.F:=qx6 N
def X61 (N:Nat):Ev Try.prog D:=(X0.with (fs61 N)).gen (gs61 N)
theorem qsc (N:Nat):COk (X61 N):=COk.gen0 (COk.of (qCt N)) (qx7 N)
end
end Go.W
end
section
set_option linter.unusedVariables false
set_option linter.unusedSimpArgs false
set_option maxRecDepth 100000
set_option maxHeartbeats 1000000
namespace Go.W
noncomputable section
open Go.AM Go.Proofs
def qqf (N:Nat):List (Pc D):=[]
theorem qkl (N:Nat):∀u∈qqf N,PcOk (X61 N) (qab Try.f54) u:=qaj
def PzcI_2:PD D:={path:=[1,1,1,0,1,0,0,1,0,0,1,0],ins:=[.o 5 (.box 70), .v 8 (.int .i64), .v 9 .bool, .o 10 (.sl 3), .v 12 (.int .i64), .v 13 .bool],fx:=[(5, .box 0 0),(10, .c (.own 1))],ks:=[1,1],exs:=[⟨.normal,[.v 50 .bool],[]⟩],keep:=[0,1,5,8,9,10,11,12]}
def qxw (N:Nat):PzcI_2.F:=fun x=>qGG N x.2.1 x.2.2.1 x.2.2.2.2.1 x.2.2.2.2.2.1
theorem qFi (N:Nat):CC (X61 N) (qab Try.f54) PzcI_2 (qxw N):=CC.of (qsc N) (us:=qqf N) (fun u h _=>qkl N u h) (fun x=>by kernel_rfl)
def qrQ (N:Nat):List (Pc D):=PzcI_2.pc (X61 N) (qxw N)::qqf N
theorem qlW (N:Nat):∀u∈qrQ N,PcOk (X61 N) (qab Try.f54) u:=qac ((qFi N).pc (by kernel_rfl)) (qkl N)
def PzcI_1:PD D:={path:=[1,1,1,0,1,0,0,1,0],ins:=[.v 0 (.sl 53), .v 1 (.mp 91 97 3), .o 5 (.box 70), .v 8 (.int .i64), .v 9 .bool, .o 10 (.sl 3), .v 11 (.int .i64)],fx:=[(5, .box 0 0),(10, .c (.own 1))],ks:=[1,1],exs:=[⟨.normal,[.v 8 (.int .i64), .v 9 .bool],[]⟩],keep:=[0,1,5,10,11]}
def qxv (N:Nat):PzcI_1.F:=fun x=>qGF N x.1 x.2.1 x.2.2.1 x.2.2.2.1 x.2.2.2.2.1 x.2.2.2.2.2.1 x.2.2.2.2.2.2.1
theorem qFh (N:Nat):CC (X61 N) (qab Try.f54) PzcI_1 (qxv N):=CC.of (qsc N) (us:=qrQ N) (fun u h _=>qlW N u h) (fun x=>by kernel_rfl)
def qrP (N:Nat):List (Pc D):=PzcI_1.pc (X61 N) (qxv N)::qrQ N
theorem qlV (N:Nat):∀u∈qrP N,PcOk (X61 N) (qab Try.f54) u:=qac ((qFh N).pc (by kernel_rfl)) (qlW N)
def PzcI_0:PD D:={path:=[1,1,1,0,1,0],ins:=[.v 0 (.sl 53), .v 1 (.mp 91 97 3), .o 5 (.box 70), .v 8 (.int .i64), .v 9 .bool, .o 10 (.sl 3), .v 11 (.int .i64)],fx:=[(5, .box 0 0),(10, .c (.own 1))],ks:=[1,1],exs:=[⟨.exit 0,[.v 8 (.int .i64), .v 9 .bool],[]⟩],keep:=[]}
def qxu (N:Nat) (n:Nat):PzcI_0.F:=fun x=>qBH N x.1 x.2.1 x.2.2.1 x.2.2.2.2.2.1 n x.2.2.2.1 x.2.2.2.2.1 x.2.2.2.2.2.2.1
theorem qFg (N:Nat) (n:Nat):CC (X61 N) (qab Try.f54) PzcI_0 (qxu N n):=CC.loop (qsc N) (us:=qrP N) (c:=sub (qab Try.f54) [1,1,1,0,1,0,0]) (by kernel_rfl) (by kernel_rfl) (fun u h _=>qlV N u h) (fun x=>rfl) (fun n x=>by kernel_rfl) n
def qzr (N:Nat):List (Pc D):=PzcI_0.pc (X61 N) (qxu N N)::qrP N
theorem qtF (N:Nat):∀u∈qzr N,PcOk (X61 N) (qab Try.f54) u:=qac ((qFg N N).pc (by kernel_rfl)) (qlV N)
def dzcI:FD D:={f:=54,np:=3,ins:=[.v 0 (.sl 53), .v 1 (.mp 91 97 3), .v 2 (.agg 70)],fx:=[],rcv:=none,rk:=0,outs:=[.v 6 (.int .i64), .v 7 .bool],ofx:=[],rvs:=[.tmp 6, .tmp 7],flat:=true}
def FzcI (N:Nat):dzcI.F:=fun r x=>zcI N x.1 x.2.1 x.2.2.1
theorem ozcI (N:Nat):FOk Try.prog (X61 N) dzcI (FzcI N):=⟨⟨Try.f54,_,Try.func54,rfl,by kernel_rfl,by kernel_rfl,rfl,FC.of (qsc N) (us:=qzr N) (fun u h _=>qtF N u h) (fun r x=>by kernel_rfl)⟩,by kernel_rfl,by kernel_rfl,by kernel_rfl,by kernel_rfl⟩
def fs62 (N:Nat):List (FE D):=⟨dzcI,FzcI N⟩::fs61 N
theorem qCu (N:Nat):∀y∈fs62 N,CallOk X0 y.d y.F:=qao (x:=⟨dzcI,FzcI N⟩) (CallOk.ch (CallOk.ch (ozcI N).call)) (qCt N)
def gs62 (N:Nat):List (GE D):=gs61 N
theorem qx8 (N:Nat):∀y∈gs62 N,CallG X0 y.d y.F:=qx7 N
def X62 (N:Nat):Ev Try.prog D:=(X0.with (fs62 N)).gen (gs62 N)
theorem qid (N:Nat):COk (X62 N):=COk.gen0 (COk.of (qCu N)) (qx8 N)
def qpH (N:Nat):List (Pc D):=[]
theorem qjN (N:Nat):∀u∈qpH N,PcOk (X62 N) (qab Try.f53) u:=qaj
def PzaU_0:PD D:={path:=[1,1,1,0,1,0],ins:=[.v 1 (.int .i64), .o 5 (.map 91 97 3), .o 6 (.sl 3), .v 7 (.int .i64)],fx:=[(5, .c (.own 0)),(6, .c (.own 1))],ks:=[2,1],exs:=[⟨.exit 0,[.u 0 (.map 91 97 3)],[]⟩],keep:=[0,1,5]}
def qvT (N:Nat) (n:Nat):PzaU_0.F:=fun x=>qBg N x.1 x.2.2.1 n x.2.1 x.2.2.2.1
theorem qDF (N:Nat) (n:Nat):CC (X62 N) (qab Try.f53) PzaU_0 (qvT N n):=CC.loop (qid N) (us:=qpH N) (c:=sub (qab Try.f53) [1,1,1,0,1,0,0]) (by kernel_rfl) (by kernel_rfl) (fun u h _=>qjN N u h) (fun x=>rfl) (fun n x=>by kernel_rfl) n
def qqM (N:Nat):List (Pc D):=PzaU_0.pc (X62 N) (qvT N N)::qpH N
theorem qkS (N:Nat):∀u∈qqM N,PcOk (X62 N) (qab Try.f53) u:=qac ((qDF N N).pc (by kernel_rfl)) (qjN N)
def PzaU_5:PD D:={path:=[1,1,1,1,0,1,0,0,1,0,1,1,0,0,1,0,0,1,1,0,0,1,0,0,1,1,1,0],ins:=[.o 5 (.map 91 97 3), .o 10 (.sl 3), .v 12 (.int .i64), .v 13 .bool, .v 14 (.int .i64), .v 15 .bool],fx:=[(5, .c (.own 0)),(10, .c (.own 1))],ks:=[1,1],exs:=[⟨.normal,[.v 85 .bool],[]⟩],keep:=[0,1,5,8,9,10,11,12]}
def qvY (N:Nat):PzaU_5.F:=fun x=>qGB N x.2.2.1 x.2.2.2.1 x.2.2.2.2.1 x.2.2.2.2.2.1
theorem qDK (N:Nat):CC (X62 N) (qab Try.f53) PzaU_5 (qvY N):=CC.of (qid N) (us:=qqM N) (fun u h _=>qkS N u h) (fun x=>by kernel_rfl)
def qqQ (N:Nat):List (Pc D):=PzaU_5.pc (X62 N) (qvY N)::qqM N
theorem qkW (N:Nat):∀u∈qqQ N,PcOk (X62 N) (qab Try.f53) u:=qac ((qDK N).pc (by kernel_rfl)) (qkS N)
def PzaU_4:PD D:={path:=[1,1,1,1,0,1,0,0,1,0,1,1,0,0,1,0,0,1,1,0,0,1,0],ins:=[.v 0 (.sl 53), .v 1 (.int .i64), .o 5 (.map 91 97 3), .v 8 .bool, .v 9 (.int .i64), .o 10 (.sl 3), .v 11 (.int .i64)],fx:=[(5, .c (.own 0)),(10, .c (.own 1))],ks:=[2,1],exs:=[⟨.normal,[.u 0 (.map 91 97 3), .v 8 .bool],[]⟩],keep:=[0,1,5,9,10,11]}
def qvX (N:Nat):PzaU_4.F:=fun x=>qGA N x.1 x.2.1 x.2.2.1 x.2.2.2.1 x.2.2.2.2.1 x.2.2.2.2.2.1 x.2.2.2.2.2.2.1
theorem qDJ (N:Nat):CC (X62 N) (qab Try.f53) PzaU_4 (qvX N):=CC.of (qid N) (us:=qqQ N) (fun u h _=>qkW N u h) (fun x=>by kernel_rfl)
def qqP (N:Nat):List (Pc D):=PzaU_4.pc (X62 N) (qvX N)::qqQ N
theorem qkV (N:Nat):∀u∈qqP N,PcOk (X62 N) (qab Try.f53) u:=qac ((qDJ N).pc (by kernel_rfl)) (qkW N)
def PzaU_3:PD D:={path:=[1,1,1,1,0,1,0,0,1,0,1,1,0,0,1,0,0,1,1,0],ins:=[.v 0 (.sl 53), .v 1 (.int .i64), .o 5 (.map 91 97 3), .v 8 .bool, .v 9 (.int .i64), .o 10 (.sl 3), .v 11 (.int .i64)],fx:=[(5, .c (.own 0)),(10, .c (.own 1))],ks:=[2,1],exs:=[⟨.exit 6,[.u 0 (.map 91 97 3), .v 8 .bool],[]⟩],keep:=[0,1,5,9]}
def qvW (N:Nat) (n:Nat):PzaU_3.F:=fun x=>qBj N x.1 x.2.1 x.2.2.2.2.1 x.2.2.2.2.2.1 n x.2.2.1 x.2.2.2.1 x.2.2.2.2.2.2.1
theorem qDI (N:Nat) (n:Nat):CC (X62 N) (qab Try.f53) PzaU_3 (qvW N n):=CC.loop (qid N) (us:=qqP N) (c:=sub (qab Try.f53) [1,1,1,1,0,1,0,0,1,0,1,1,0,0,1,0,0,1,1,0,0]) (by kernel_rfl) (by kernel_rfl) (fun u h _=>qkV N u h) (fun x=>rfl) (fun n x=>by kernel_rfl) n
def qqO (N:Nat):List (Pc D):=PzaU_3.pc (X62 N) (qvW N N)::qqP N
theorem qkU (N:Nat):∀u∈qqO N,PcOk (X62 N) (qab Try.f53) u:=qac ((qDI N N).pc (by kernel_rfl)) (qkV N)
def PzaU_2:PD D:={path:=[1,1,1,1,0,1,0,0,1,0,1,1,0],ins:=[.v 0 (.sl 53), .v 1 (.int .i64), .o 5 (.map 91 97 3), .v 8 .bool, .v 9 (.int .i64)],fx:=[(5, .c (.own 0))],ks:=[2],exs:=[⟨.exit 4,[.u 0 (.map 91 97 3), .v 8 .bool],[]⟩],keep:=[0,1,5]}
def qvV (N:Nat) (n:Nat):PzaU_2.F:=fun x=>qBi N x.1 x.2.1 n x.2.2.1 x.2.2.2.1 x.2.2.2.2.1
theorem qDH (N:Nat) (n:Nat):CC (X62 N) (qab Try.f53) PzaU_2 (qvV N n):=CC.loop (qid N) (us:=qqO N) (c:=sub (qab Try.f53) [1,1,1,1,0,1,0,0,1,0,1,1,0,0]) (by kernel_rfl) (by kernel_rfl) (fun u h _=>qkU N u h) (fun x=>rfl) (fun n x=>by kernel_rfl) n
def qqN (N:Nat):List (Pc D):=PzaU_2.pc (X62 N) (qvV N N)::qqO N
theorem qkT (N:Nat):∀u∈qqN N,PcOk (X62 N) (qab Try.f53) u:=qac ((qDH N N).pc (by kernel_rfl)) (qkU N)
def PzaU_1:PD D:={path:=[1,1,1,1,0,1,0],ins:=[.v 0 (.sl 53), .v 1 (.int .i64), .o 5 (.map 91 97 3), .v 8 .bool],fx:=[(5, .c (.own 0))],ks:=[2],exs:=[⟨.exit 2,[.u 0 (.map 91 97 3)],[]⟩],keep:=[5]}
def qvU (N:Nat) (n:Nat):PzaU_1.F:=fun x=>qBh N x.1 x.2.1 n x.2.2.1 x.2.2.2.1
theorem qDG (N:Nat) (n:Nat):CC (X62 N) (qab Try.f53) PzaU_1 (qvU N n):=CC.loop (qid N) (us:=qqN N) (c:=sub (qab Try.f53) [1,1,1,1,0,1,0,0]) (by kernel_rfl) (by kernel_rfl) (fun u h _=>qkT N u h) (fun x=>rfl) (fun n x=>by kernel_rfl) n
def qyT (N:Nat):List (Pc D):=PzaU_1.pc (X62 N) (qvU N N)::qqN N
theorem qs7 (N:Nat):∀u∈qyT N,PcOk (X62 N) (qab Try.f53) u:=qac ((qDG N N).pc (by kernel_rfl)) (qkT N)
def dzaU:FD D:={f:=53,np:=2,ins:=[.v 0 (.sl 53), .v 1 (.int .i64)],fx:=[],rcv:=none,rk:=0,outs:=[.o 4 (.map 91 97 3)],ofx:=[(4, .c (.own 0))],rvs:=[.tmp 4],flat:=false}
def FzaU (N:Nat):dzaU.F:=fun r x=>zaU N x.1 x.2.1
theorem ozaU (N:Nat):FOk Try.prog (X62 N) dzaU (FzaU N):=⟨⟨Try.f53,_,Try.func53,rfl,by kernel_rfl,by kernel_rfl,rfl,FC.of (qid N) (us:=qyT N) (fun u h _=>qs7 N u h) (fun r x=>by kernel_rfl)⟩,by kernel_rfl,by kernel_rfl,by kernel_rfl,by kernel_rfl⟩
def fs63 (N:Nat):List (FE D):=⟨dzaU,FzaU N⟩::fs62 N
theorem qCv (N:Nat):∀y∈fs63 N,CallOk X0 y.d y.F:=qao (x:=⟨dzaU,FzaU N⟩) (CallOk.ch (CallOk.ch (ozaU N).call)) (qCu N)
def gs63 (N:Nat):List (GE D):=gs62 N
theorem qx9 (N:Nat):∀y∈gs63 N,CallG X0 y.d y.F:=qx8 N
def X63 (N:Nat):Ev Try.prog D:=(X0.with (fs63 N)).gen (gs63 N)
theorem qmB (N:Nat):COk (X63 N):=COk.gen0 (COk.of (qCv N)) (qx9 N)
def qqe (N:Nat):List (Pc D):=[]
theorem qkk (N:Nat):∀u∈qqe N,PcOk (X63 N) (qab Try.f27) u:=qaj
def PzcH_0:PD D:={path:=[1,1,0,0],ins:=[.v 0 (.sl 53), .v 1 (.int .i64), .v 2 (.int .i64)],fx:=[],ks:=[],exs:=[⟨.normal,[.v 39 .bool],[]⟩],keep:=[0,1,2]}
def qxp (N:Nat):PzcH_0.F:=fun x=>qGC N x.1 x.2.1 x.2.2.1
theorem qFb (N:Nat):CC (X63 N) (qab Try.f27) PzcH_0 (qxp N):=CC.of (qmB N) (us:=qqe N) (fun u h _=>qkk N u h) (fun x=>by kernel_rfl)
def qrL (N:Nat):List (Pc D):=PzcH_0.pc (X63 N) (qxp N)::qqe N
theorem qlR (N:Nat):∀u∈qrL N,PcOk (X63 N) (qab Try.f27) u:=qac ((qFb N).pc (by kernel_rfl)) (qkk N)
def PzcH_4:PD D:={path:=[1,1,1,1,1,1,1,1,0,0,0,1,0,0,1,1,1,0,1,0,0,1,0,0,1,1,0],ins:=[.o 9 (.map 91 97 3), .o 10 (.box 70), .v 11 (.int .i64), .o 13 (.sl 70), .o 14 (.sl 3), .v 15 (.int .i64), .v 16 (.int .i64), .v 17 (.int .i64), .v 18 (.int .i64), .v 19 .bool],fx:=[(9, .c (.own 0)),(10, .box 1 0),(13, .c (.own 2)),(14, .c (.own 3))],ks:=[1,1,1,1],exs:=[⟨.normal,[.v 115 .bool],[]⟩],keep:=[0,2,9,10,11,13,14,15,16,17]}
def qxt (N:Nat):PzcH_4.F:=fun x=>qGE N x.2.1 x.2.2.1 x.2.2.2.2.1 x.2.2.2.2.2.1 x.2.2.2.2.2.2.1 x.2.2.2.2.2.2.2.1 x.2.2.2.2.2.2.2.2.1 x.2.2.2.2.2.2.2.2.2.1
theorem qFf (N:Nat):CC (X63 N) (qab Try.f27) PzcH_4 (qxt N):=CC.of (qmB N) (us:=qrL N) (fun u h _=>qlR N u h) (fun x=>by kernel_rfl)
def qrO (N:Nat):List (Pc D):=PzcH_4.pc (X63 N) (qxt N)::qrL N
theorem qlU (N:Nat):∀u∈qrO N,PcOk (X63 N) (qab Try.f27) u:=qac ((qFf N).pc (by kernel_rfl)) (qlR N)
def PzcH_3:PD D:={path:=[1,1,1,1,1,1,1,1,0,0,0,1,0,0,1,1,1,0,1,0,0,1,0],ins:=[.v 0 (.sl 53), .o 9 (.map 91 97 3), .o 10 (.box 70), .v 11 (.int .i64), .o 13 (.sl 70), .o 14 (.sl 3), .v 15 (.int .i64), .v 16 (.int .i64)],fx:=[(9, .c (.own 0)),(10, .box 1 0),(13, .c (.own 2)),(14, .c (.own 3))],ks:=[1,2,1,1],exs:=[⟨.normal,[.u 1 (.box 70), .v 15 (.int .i64)],[]⟩],keep:=[0,2,9,10,11,13,14,16]}
def qxs (N:Nat):PzcH_3.F:=fun x=>qGD N x.1 x.2.1 x.2.2.1 x.2.2.2.1 x.2.2.2.2.2.1 x.2.2.2.2.2.2.1 x.2.2.2.2.2.2.2.1
theorem qFe (N:Nat):CC (X63 N) (qab Try.f27) PzcH_3 (qxs N):=CC.of (qmB N) (us:=qrO N) (fun u h _=>qlU N u h) (fun x=>by kernel_rfl)
def qrN (N:Nat):List (Pc D):=PzcH_3.pc (X63 N) (qxs N)::qrO N
theorem qlT (N:Nat):∀u∈qrN N,PcOk (X63 N) (qab Try.f27) u:=qac ((qFe N).pc (by kernel_rfl)) (qlU N)
def PzcH_2:PD D:={path:=[1,1,1,1,1,1,1,1,0,0,0,1,0,0,1,1,1,0,1,0],ins:=[.v 0 (.sl 53), .o 9 (.map 91 97 3), .o 10 (.box 70), .v 11 (.int .i64), .o 13 (.sl 70), .o 14 (.sl 3), .v 15 (.int .i64), .v 16 (.int .i64)],fx:=[(9, .c (.own 0)),(10, .box 1 0),(13, .c (.own 2)),(14, .c (.own 3))],ks:=[1,2,1,1],exs:=[⟨.exit 2,[.u 1 (.box 70), .v 15 (.int .i64)],[]⟩],keep:=[0,2,9,10,11,13]}
def qxr (N:Nat) (n:Nat):PzcH_2.F:=fun x=>qBG N x.1 x.2.1 x.2.2.2.1 x.2.2.2.2.2.1 n x.2.2.1 x.2.2.2.2.2.2.1 x.2.2.2.2.2.2.2.1
theorem qFd (N:Nat) (n:Nat):CC (X63 N) (qab Try.f27) PzcH_2 (qxr N n):=CC.loop (qmB N) (us:=qrN N) (c:=sub (qab Try.f27) [1,1,1,1,1,1,1,1,0,0,0,1,0,0,1,1,1,0,1,0,0]) (by kernel_rfl) (by kernel_rfl) (fun u h _=>qlT N u h) (fun x=>rfl) (fun n x=>by kernel_rfl) n
def qrM (N:Nat):List (Pc D):=PzcH_2.pc (X63 N) (qxr N N)::qrN N
theorem qlS (N:Nat):∀u∈qrM N,PcOk (X63 N) (qab Try.f27) u:=qac ((qFd N N).pc (by kernel_rfl)) (qlT N)
def PzcH_1:PD D:={path:=[1,1,1,1,1,1,1,1,0,0],ins:=[.v 0 (.sl 53), .o 9 (.map 91 97 3), .o 10 (.box 70), .v 11 (.int .i64), .o 13 (.sl 70)],fx:=[(9, .c (.own 0)),(10, .box 1 0),(13, .c (.own 2))],ks:=[1,2,0],exs:=[⟨.exit 0,[.u 1 (.box 70), .o 13 (.sl 70)],[(13, .c (.own 3))]⟩,⟨.ret,[.v 7 (.int .i64)],[(6, .c .nilS)]⟩],keep:=[2,10]}
def qxq (N:Nat) (n:Nat):PzcH_1.F:=fun x=>qBF N x.1 x.2.1 n x.2.2.1 x.2.2.2.1 x.2.2.2.2.1
theorem qFc (N:Nat) (n:Nat):CC (X63 N) (qab Try.f27) PzcH_1 (qxq N n):=CC.loop (qmB N) (us:=qrM N) (c:=sub (qab Try.f27) [1,1,1,1,1,1,1,1,0,0,0]) (by kernel_rfl) (by kernel_rfl) (fun u h _=>qlS N u h) (fun x=>rfl) (fun n x=>by kernel_rfl) n
def qzq (N:Nat):List (Pc D):=PzcH_1.pc (X63 N) (qxq N N)::qrM N
theorem qtE (N:Nat):∀u∈qzq N,PcOk (X63 N) (qab Try.f27) u:=qac ((qFc N N).pc (by kernel_rfl)) (qlS N)
def dzcH:FD D:={f:=27,np:=3,ins:=[.v 0 (.sl 53), .v 1 (.int .i64), .v 2 (.int .i64)],fx:=[],rcv:=none,rk:=0,outs:=[.o 6 (.sl 70), .v 7 (.int .i64)],ofx:=[(6, .c (.own 0))],rvs:=[.tmp 6, .tmp 7],flat:=false}
def FzcH (N:Nat):dzcH.F:=fun r x=>zcH N x.1 x.2.1 x.2.2.1
theorem ozcH (N:Nat):FOk Try.prog (X63 N) dzcH (FzcH N):=⟨⟨Try.f27,_,Try.func27,rfl,by kernel_rfl,by kernel_rfl,rfl,FC.of (qmB N) (us:=qzq N) (fun u h _=>qtE N u h) (fun r x=>by kernel_rfl)⟩,by kernel_rfl,by kernel_rfl,by kernel_rfl,by kernel_rfl⟩
def fs64 (N:Nat):List (FE D):=⟨dzcH,FzcH N⟩::fs63 N
theorem qCw (N:Nat):∀y∈fs64 N,CallOk X0 y.d y.F:=qao (x:=⟨dzcH,FzcH N⟩) (CallOk.ch (CallOk.ch (ozcH N).call)) (qCv N)
def gs64 (N:Nat):List (GE D):=gs63 N
theorem qya (N:Nat):∀y∈gs64 N,CallG X0 y.d y.F:=qx9 N
def X64 (N:Nat):Ev Try.prog D:=(X0.with (fs64 N)).gen (gs64 N)
theorem qCW (N:Nat):COk (X64 N):=COk.gen0 (COk.of (qCw N)) (qya N)
def qqb (N:Nat):List (Pc D):=[]
theorem qkh (N:Nat):∀u∈qqb N,PcOk (X64 N) (qab Try.f12) u:=qaj
def PzcE_0:PD D:={path:=[1,1,1,1,1,1,0],ins:=[.v 3 (.sl 33), .v 4 (.int .i64), .o 5 (.sl 3), .v 6 (.int .i64), .o 7 (.sl 3), .v 8 (.int .i64), .v 10 (.int .i64)],fx:=[(5, .c (.own 0)),(7, .c (.own 1))],ks:=[1,1],exs:=[⟨.normal,[.v 0 .bool],[]⟩],keep:=[]}
def qxj (N:Nat):PzcE_0.F:=fun x=>qBB N x.1 x.2.1 x.2.2.1 x.2.2.2.1 x.2.2.2.2.1 x.2.2.2.2.2.1 x.2.2.2.2.2.2.1
theorem qE5 (N:Nat):CC (X64 N) (qab Try.f12) PzcE_0 (qxj N):=CC.of (qCW N) (us:=qqb N) (fun u h _=>qkh N u h) (fun x=>by kernel_rfl)
def qzn (N:Nat):List (Pc D):=PzcE_0.pc (X64 N) (qxj N)::qqb N
theorem qtB (N:Nat):∀u∈qzn N,PcOk (X64 N) (qab Try.f12) u:=qac ((qE5 N).pc (by kernel_rfl)) (qkh N)
def dzcE:FD D:={f:=12,np:=0,ins:=[],fx:=[],rcv:=none,rk:=0,outs:=[.v 0 .bool],ofx:=[],rvs:=[.tmp 0],flat:=true}
def FzcE (N:Nat):dzcE.F:=fun r x=>zcE N
theorem ozcE (N:Nat):FOk Try.prog (X64 N) dzcE (FzcE N):=⟨⟨Try.f12,_,Try.func12,rfl,by kernel_rfl,by kernel_rfl,rfl,FC.of (qCW N) (us:=qzn N) (fun u h _=>qtB N u h) (fun r x=>by kernel_rfl)⟩,by kernel_rfl,by kernel_rfl,by kernel_rfl,by kernel_rfl⟩
def fs65 (N:Nat):List (FE D):=⟨dzcE,FzcE N⟩::fs64 N
theorem qCx (N:Nat):∀y∈fs65 N,CallOk X0 y.d y.F:=qao (x:=⟨dzcE,FzcE N⟩) (CallOk.ch (CallOk.ch (ozcE N).call)) (qCw N)
def gs65 (N:Nat):List (GE D):=gs64 N
theorem qyb (N:Nat):∀y∈gs65 N,CallG X0 y.d y.F:=qya N
def X65 (N:Nat):Ev Try.prog D:=(X0.with (fs65 N)).gen (gs65 N)
theorem qnv (N:Nat):COk (X65 N):=COk.gen0 (COk.of (qCx N)) (qyb N)
def qpy (N:Nat):List (Pc D):=[]
theorem qjE (N:Nat):∀u∈qpy N,PcOk (X65 N) (qab Try.f3) u:=qaj
def PzaK_1:PD D:={path:=[1,1,0,1,0,0,1,0,0,1,1,0,1],ins:=[.o 9 (.box 48), .v 11 (.sl 53), .o 12 (.sl 70), .o 13 (.sl 33), .v 29 .bool],fx:=[(9, .box 0 0),(12, .c (.own 1)),(13, .c (.own 2))],ks:=[2,1,0],exs:=[⟨.normal,[.u 0 (.box 48), .o 13 (.sl 33)],[(13, .c (.own 3))]⟩],keep:=[1,2,3,9,10,11,12]}
def qvs (N:Nat):PzaK_1.F:=fun x=>qur N x.1 x.2.1 x.2.2.2.1 x.2.2.2.2.1
theorem qDe (N:Nat):CC (X65 N) (qab Try.f3) PzaK_1 (qvs N):=CC.of (qnv N) (us:=qpy N) (fun u h _=>qjE N u h) (fun x=>by kernel_rfl)
def qqv (N:Nat):List (Pc D):=PzaK_1.pc (X65 N) (qvs N)::qpy N
theorem qkB (N:Nat):∀u∈qqv N,PcOk (X65 N) (qab Try.f3) u:=qac ((qDe N).pc (by kernel_rfl)) (qjE N)
def PzaK_2:PD D:={path:=[1,1,0,1,0,0,1,0,0,1,1,1,0],ins:=[.o 9 (.box 48), .v 11 (.sl 53), .o 12 (.sl 70), .o 13 (.sl 33)],fx:=[(9, .box 0 0),(12, .c (.own 1)),(13, .c (.own 2))],ks:=[1,1,1],exs:=[⟨.normal,[.v 52 .bool],[]⟩],keep:=[1,2,3,9,10]}
def qvt (N:Nat):PzaK_2.F:=fun x=>qus N x.2.1 x.2.2.1 x.2.2.2.1
theorem qDf (N:Nat):CC (X65 N) (qab Try.f3) PzaK_2 (qvt N):=CC.of (qnv N) (us:=qqv N) (fun u h _=>qkB N u h) (fun x=>by kernel_rfl)
def qqw (N:Nat):List (Pc D):=PzaK_2.pc (X65 N) (qvt N)::qqv N
theorem qkC (N:Nat):∀u∈qqw N,PcOk (X65 N) (qab Try.f3) u:=qac ((qDf N).pc (by kernel_rfl)) (qkB N)
def PzaK_0:PD D:={path:=[1,1,0,1,0],ins:=[.o 9 (.box 48), .v 10 (.int .i64)],fx:=[(9, .box 0 0)],ks:=[0],exs:=[⟨.exit 0,[],[]⟩,⟨.ret,[.v 8 .bool],[]⟩],keep:=[1,2,3]}
def qvr (N:Nat) (n:Nat):PzaK_0.F:=fun x=>qiT N n x.1 x.2.1
theorem qDd (N:Nat) (n:Nat):CC (X65 N) (qab Try.f3) PzaK_0 (qvr N n):=CC.loop (qnv N) (us:=qqw N) (c:=sub (qab Try.f3) [1,1,0,1,0,0]) (by kernel_rfl) (by kernel_rfl) (fun u h _=>qkC N u h) (fun x=>rfl) (fun n x=>by kernel_rfl) n
def qqu (N:Nat):List (Pc D):=PzaK_0.pc (X65 N) (qvr N N)::qqw N
theorem qkA (N:Nat):∀u∈qqu N,PcOk (X65 N) (qab Try.f3) u:=qac ((qDd N N).pc (by kernel_rfl)) (qkC N)
def PzaK_3:PD D:={path:=[1,1,1,0],ins:=[.v 1 (.sl 53), .v 2 (.sl 70), .v 3 (.sl 33)],fx:=[],ks:=[],exs:=[⟨.normal,[.v 8 .bool],[]⟩],keep:=[]}
def qvu (N:Nat):PzaK_3.F:=fun x=>qut N x.1 x.2.1 x.2.2.1
theorem qDg (N:Nat):CC (X65 N) (qab Try.f3) PzaK_3 (qvu N):=CC.of (qnv N) (us:=qqu N) (fun u h _=>qkA N u h) (fun x=>by kernel_rfl)
def qyJ (N:Nat):List (Pc D):=PzaK_3.pc (X65 N) (qvu N)::qqu N
theorem qsX (N:Nat):∀u∈qyJ N,PcOk (X65 N) (qab Try.f3) u:=qac ((qDg N).pc (by kernel_rfl)) (qkA N)
def dzaK:FD D:={f:=3,np:=4,ins:=[.v 0 (.sl 3), .v 1 (.sl 53), .v 2 (.sl 70), .v 3 (.sl 33)],fx:=[],rcv:=none,rk:=0,outs:=[.v 8 .bool],ofx:=[],rvs:=[.tmp 8],flat:=true}
def FzaK (N:Nat):dzaK.F:=fun r x=>zaK N x.1 x.2.1 x.2.2.1 x.2.2.2.1
theorem ozaK (N:Nat):FOk Try.prog (X65 N) dzaK (FzaK N):=⟨⟨Try.f3,_,Try.func3,rfl,by kernel_rfl,by kernel_rfl,rfl,FC.of (qnv N) (us:=qyJ N) (fun u h _=>qsX N u h) (fun r x=>by kernel_rfl)⟩,by kernel_rfl,by kernel_rfl,by kernel_rfl,by kernel_rfl⟩
def fs66 (N:Nat):List (FE D):=⟨dzaK,FzaK N⟩::fs65 N
theorem qGN (N:Nat):∀y∈fs66 N,CallOk X0 y.d y.F:=qao (x:=⟨dzaK,FzaK N⟩) (CallOk.ch (CallOk.ch (ozaK N).call)) (qCx N)
def gs66 (N:Nat):List (GE D):=gs65 N
theorem qFG (N:Nat):∀y∈gs66 N,CallG X0 y.d y.F:=qyb N
def X66 (N:Nat):Ev Try.prog D:=(X0.with (fs66 N)).gen (gs66 N)
theorem qHQ (N:Nat):COk (X66 N):=COk.gen0 (COk.of (qGN N)) (qFG N)
end
end Go.W
end
section
set_option linter.unusedVariables false
set_option linter.unusedSimpArgs false
namespace Go.W
open Go.AM
theorem w64 {n:Int} (h: -9223372036854775808≤n) (h':n≤9223372036854775807):IntKind.wrap .i64 n=n:=by rw[IntKind.wrap_i64];omega
theorem w8 {n:Int} (h:0≤n) (h':n≤255):IntKind.wrap .u8 n=n:=by rw[IntKind.wrap_u8];omega
theorem qad {α β:Type} (x:α) (f:α→Option β):AM.lt x f=f x:=rfl
theorem qaa {α β:Type} (x:α) (f:α→Option β):Option.bind (some x) f=f x:=rfl
theorem qnW {α:Type} {xs:List α} {i:Int} (h0:0≤i) (h1:i<xs.length):∃x,getI xs i=some x∧x∈xs∧xs[i.toNat]? =some x:=by
 have hlt:i.toNat<xs.length:=by omega
 exact ⟨xs[i.toNat],by simp[getI,h0,hlt],by simp,by simp[hlt]⟩
def Mk (c:Int) (s:Maker):Prop:=0≤s.n∧s.n≤c
theorem qa0 (N:Nat) {c:Int} {s:Maker} (k:Int) (hk:1≤k) (hk2:k≤1000000) (hs:Mk c s) (hc:c≤1000000000000):∃r s',zbM N s k=some (r,s')∧0≤r∧r<k∧Mk (c+1) s':=by
 obtain ⟨h0,h1⟩:=hs
 have h15:∃y,quU N s 0 (decide (0<(s.l.length:Int)))=some y:=by
  unfold quU
  by_cases hl:0<(s.l.length:Int)
  ·rw[if_pos (by simpa using hl)]
   have hne:(s.l.length:Int)≠0:=by omega
   have hm:modI s.n s.l.length=some (s.n.tmod s.l.length):=by unfold modI;rw[if_neg hne]
   have hd:divI s.n s.l.length=some (s.n.tdiv s.l.length):=by unfold divI;rw[if_neg hne]
   have hr0:0≤s.n.tmod s.l.length:=Int.tmod_nonneg _ h0
   have hr1:s.n.tmod s.l.length<s.l.length:=Int.tmod_lt_of_pos _ hl
   obtain ⟨x,hx,_,_⟩:=qnW hr0 hr1
   rw[hm,qaa,hx,qaa,hd,qaa,qad]
   exact ⟨_,rfl⟩
  ·rw[if_neg (by simpa using hl)]
   exact ⟨_,rfl⟩
 obtain ⟨y,hy⟩:=h15
 unfold zbM
 rw[hy,qaa]
 have hm:modI y k=some (y.tmod k):=by simp[modI];omega
 have hlt:y.tmod k<k:=Int.tmod_lt_of_pos _ (by omega)
 have hgt: -k<y.tmod k:=by
  have:=Int.lt_tmod_of_pos y (by omega:0<k)
  omega
 have hn:IntKind.wrap .i64 (s.n+1)=s.n+1:=w64 (by omega) (by omega)
 simp only[hm,qaa,hn]
 unfold qBr
 by_cases hneg:y.tmod k<0
 ·rw[if_pos (by simpa using hneg),qad,qaa,w64 (by omega) (by omega)]
  exact ⟨_,_,rfl,by omega,by omega,by constructor<;>simp<;>omega⟩
 ·rw[if_neg (by simpa using hneg),qaa]
  exact ⟨_,_,rfl,by omega,by omega,by constructor<;>simp<;>omega⟩
theorem qiA (N:Nat) {c:Int} {s:Maker} (l:List Int) (hl:1≤l.length) (hl2:l.length≤1000) (hs:Mk c s) (hc:c≤1000000000000):∃x s',zbN N s l=some (x,s')∧x∈l∧Mk (c+1) s':=by
 obtain ⟨r,s',h1,h2,h3,h4⟩:=qa0 N (s:=s) (c:=c) (l.length:Int) (by omega) (by omega) hs hc
 obtain ⟨x,hx,hm,_⟩:=qnW h2 h3
 unfold zbN
 rw[h1,qaa]
 simp only[hx,qaa]
 exact ⟨x,s',rfl,hm,h4⟩
end Go.W
end
section
set_option linter.unusedVariables false
set_option linter.unusedSimpArgs false
namespace Go.W
open Go.AM
theorem qae {α:Type} {xs:List α} {i:Nat} {x:α} (h:xs[i]? =some x):getI xs (i:Int)=some x:=by simp[getI,h]
theorem qap {α:Type} {xs:List α} {i:Nat} (h:i<xs.length):xs[i]? =some xs[i]:=by simp[h]
theorem qbe {α:Type} {xs:List α} {i:Nat} {x:α} (h:xs[i]? =some x):xs.drop i=x::xs.drop (i+1):=by
 obtain ⟨hlt,rfl⟩:=List.getElem?_eq_some_iff.1 h
 exact List.drop_eq_getElem_cons hlt
theorem w64s {i:Nat} (h:i<9223372036854775807):IntKind.wrap .i64 ((i:Int)+1)=((i+1:Nat):Int):=by rw[w64 (by omega) (by omega)];omega
theorem w64p {i:Nat} (h:i<9223372036854775807):IntKind.wrap .i64 (((i+1:Nat):Int) - 1)=(i:Int):=by rw[w64 (by omega) (by omega)];omega
theorem dpos {a b:Int} (h:a<b):decide (a<b)=true:=decide_eq_true h
theorem dneg {a b:Int} (h:¬a<b):¬decide (a<b)=true:=by simpa using h
theorem lpos {a b:Int} (h:a≤b):decide (a≤b)=true:=decide_eq_true h
theorem lneg {a b:Int} (h:¬a≤b):¬decide (a≤b)=true:=by simpa using h
theorem qaF {α:Type} {xs ys:List α} (h:xs.length+ys.length≤4294967296):appI xs ys=some (xs++ys):=if_pos h
theorem qcb {α:Type} {xs:List α} {i:Nat} (h:i≤xs.length):cutI xs (i:Int) (xs.length:Int)=some (xs.drop i):=by
 unfold cutI;rw[if_pos (by omega)];simp
theorem qbF {α:Type} {xs:List α} {i:Nat} (h:i≤xs.length):cutI xs 0 (i:Int)=some (xs.take i):=by
 unfold cutI;rw[if_pos (by omega)];simp
theorem Mk.le {c c':Int} {s:Maker} (h:Mk c s) (hc:c≤c'):Mk c' s:=⟨h.1,Int.le_trans h.2 hc⟩
theorem mk0 (t:List Int):Mk 0 (Maker.mk t 0):=⟨by simp,by simp⟩
def res {α β:Type} (p:Nat→α→Bool) (out:Nat→α→β):Nat→List α→Sum Unit β
 |_,[]=> .inl ()
 |i,x::xs=>if p i x=true then .inr (out i x) else res p out (i+1) xs
theorem qau {α β:Type} {l:List α} (p:Nat→α→Bool) (out:Nat→α→β) (F:Nat→Int→Option (Sum Unit β)) (h0:∀n,F (n+1) (l.length:Int)=some (.inl ()))
  (h1:∀(n i:Nat) (x:α),l[i]? =some x→F (n+1) (i:Int)=if p i x=true then some (.inr (out i x)) else F n ((i+1:Nat):Int)):∀(k n i:Nat),k<n→i+k=l.length→F n (i:Int)=some (res p out i (l.drop i))
 |k,0,i,hn,_=>by omega
 |0,n+1,i,hn,hi=>by
  obtain rfl:i=l.length:=by omega
  rw[h0,List.drop_length,res]
 |k+1,n+1,i,hn,hi=>by
  have hlt:i<l.length:=by omega
  rw[h1 n i _ (qap hlt),qbe (qap hlt),res]
  split
  ·rfl
  ·exact qau p out F h0 h1 k n (i+1) (by omega) (by omega)
def qc5 {α:Type} (p:Nat→α→Bool):Nat→List α→Int
 |_,[]=> -1
 |i,x::xs=>if p i x=true then (i:Int) else qc5 p (i+1) xs
theorem qeY {α:Type} (p:Nat→α→Bool):∀(l:List α) (i:Nat),res p (fun i _=>(i:Int)) i l= .inl ()∧qc5 p i l= -1∨res p (fun i _=>(i:Int)) i l= .inr (qc5 p i l)∧0≤qc5 p i l
 |[],i=> .inl ⟨rfl,rfl⟩
 |x::xs,i=>by
  rw[res,qc5]
  by_cases h:p i x=true
  ·rw[if_pos h,if_pos h];exact .inr ⟨rfl,by omega⟩
  ·rw[if_neg h,if_neg h];exact qeY p xs (i+1)
theorem qeF {α:Type} (p:Nat→α→Bool):∀(l:List α) (i:Nat),(qc5 p i l= -1∧∀(j:Nat) (x:α),l[j]? =some x→p (i+j) x=false)∨
  ∃(j:Nat) (x:α),qc5 p i l=((i+j:Nat):Int)∧l[j]? =some x∧p (i+j) x=true∧∀(j':Nat) (y:α),j'<j→l[j']? =some y→p (i+j') y=false
 |[],i=> .inl ⟨rfl,fun j x h=>by simp at h⟩
 |x::xs,i=>by
  rw[qc5]
  by_cases h:p i x=true
  ·rw[if_pos h]
   exact .inr ⟨0,x,by simp,by simp,by simpa using h,fun j' y hj=>by omega⟩
  ·rw[if_neg h]
   have h':p i x=false:=by simpa using h
   rcases qeF p xs (i+1) with ⟨h1,h2⟩|⟨j,y,h1,h2,h3,h4⟩
   ·refine .inl ⟨h1,fun j y hj=> ?_⟩
    cases j with
    |zero=>simp at hj;subst hj;exact h'
    |succ j=>have:=h2 j y (by simpa using hj);rwa [show i+1+j=i+(j+1) by omega] at this
   ·refine .inr ⟨j+1,y,by rw[h1];omega,by simpa using h2,by rwa [show i+1+j=i+(j+1) by omega] at h3,fun j' z hj hz=> ?_⟩
    cases j' with
    |zero=>simp at hz;subst hz;exact h'
    |succ j'=>have:=h4 j' z (by omega) (by simpa using hz);rwa [show i+1+j'=i+(j'+1) by omega] at this
theorem qaD {α β:Type} [DecidableEq α] (m:List (α×β)) (a k:α) (b:β):qaf (qas m a b) k=if a=k then some b else qaf m k:=by
 induction m with
 |nil=>simp[qas,qaf]
 |cons p m ih=>
  simp only[qas]
  by_cases h:p.1=a
  ·rw[if_pos h]
   simp only[qaf]
   by_cases h2:a=k
   ·simp[h,h2]
   ·simp[h,h2]
  ·rw[if_neg h]
   simp only[qaf,ih]
   by_cases h2:p.1=k
   ·have:¬a=k:=fun h3=>h (h2.trans h3.symm)
    simp[h2,this]
   ·simp[h2]
end Go.W
end
section
set_option linter.unusedVariables false
set_option linter.unusedSimpArgs false
namespace Go.W
open Go.AM
theorem qiF {α:Type} (p:α→Bool):∀(l:List α) (i:Nat),res (fun _ y=>p y) (fun _ _=>true) i l=if l.any p=true then .inr true else .inl ()
 |[],i=>rfl
 |y::l,i=>by
  rw[res,List.any_cons]
  by_cases h:p y=true
  ·simp[h]
  ·simp only[Bool.not_eq_true] at h
   rw[h,if_neg (by simp),qiF p l (i+1),Bool.false_or]
theorem qi4 {l:List Int} {x:Int}:(l.any fun y=>y==x)=l.contains x:=by
 induction l with
 |nil=>rfl
 |cons y l ih=>
  rw[List.any_cons,List.contains_cons,ih]
  congr 1
  by_cases h:y=x
  ·rw[h]
  ·have h':¬x=y:=fun hh=>h hh.symm
   have e1:(y==x)=false:=by simpa using h
   have e2:(x==y)=false:=by simpa using h'
   rw[e1,e2]
def qag (x:PlantElement):List Int:=if x.kind=1∨x.kind=3 then [x.a,x.b] else if x.kind=2 then [x.a,x.b,x.c] else []
def eI (l:List PlantElement) (i:Int):List Int:=if 0≤i then (match l[i.toNat]? with|some x=>qag x|none=>[]) else []
theorem qa9 (x:PlantElement):(qag x).length≤3:=by unfold qag;split<;>(try split)<;>simp
theorem qd1 (l:List PlantElement) (i:Int):(eI l i).length≤3:=by
 unfold eI
 split
 ·split
  ·exact qa9 _
  ·simp
 ·simp
theorem qcM {l:List PlantElement} {i:Nat} {x:PlantElement} (h:l[i]? =some x):eI l (i:Int)=qag x:=by
 unfold eI;rw[if_pos (by omega)];simp[h]
theorem qd2 {l:List PlantElement} {i n:Int} (h:n∈eI l i):0≤i∧i<l.length∧∃x,l[i.toNat]? =some x∧n∈qag x:=by
 unfold eI at h
 split at h
 ·rename_i h0
  split at h
  ·rename_i x hx
   have:=(List.getElem?_eq_some_iff.1 hx).1
   exact ⟨h0,by omega,x,hx,h⟩
  ·simp at h
 ·simp at h
theorem qeu (N:Nat) (x:PlantElement):zbR N x=some (qag x):=by
 unfold zbR qag qBt
 simp only[qad]
 by_cases h1:x.kind=1
 ·simp[h1,qaa]
 ·by_cases h3:x.kind=3
  ·simp[h3,qaa]
  ·by_cases h2:x.kind=2
   ·simp[h2,qaa]
   ·simp[h1,h2,h3,qaa]
theorem ql6 (N:Nat) (l:List PlantElement) (i:Int):zbQ N l i=some (eI l i):=by
 unfold zbQ qBs eI
 by_cases h0:i<0
 ·rw[if_pos (dpos h0),qaa,if_pos rfl,if_neg (by omega)]
 ·rw[if_neg (dneg h0),qaa,if_pos (by omega:0≤i)]
  by_cases h1:(l.length:Int)≤i
  ·rw[if_pos (lpos h1),List.getElem?_eq_none (by omega)]
  ·rw[if_neg (lneg h1)]
   have hlt:i.toNat<l.length:=by omega
   have hg:getI l i=some l[i.toNat]:=by simp[getI,hlt];omega
   rw[hg,qaa,qeu,qaa,qap hlt]
theorem qcB (N:Nat) (l:List PlantElement) (i:Int):zcG N l i=some (eI l i):=by
 unfold zcG qBD eI
 by_cases h0:i<0
 ·rw[if_pos (dpos h0),qaa,if_pos rfl,if_neg (by omega)]
 ·rw[if_neg (dneg h0),qaa,if_pos (by omega:0≤i)]
  by_cases h1:(l.length:Int)≤i
  ·rw[if_pos (lpos h1),List.getElem?_eq_none (by omega)]
  ·rw[if_neg (lneg h1)]
   have hlt:i.toNat<l.length:=by omega
   have hg:getI l i=some l[i.toNat]:=by simp[getI,hlt];omega
   rw[hg,qaa,qap hlt]
   generalize l[i.toNat]=x at*
   simp only[hg,qaa,qad]
   unfold qag qBE
   by_cases h1:x.kind=1
   ·simp[h1,qaa]
   ·by_cases h3:x.kind=3
    ·simp[h3,qaa,qad]
    ·by_cases h2:x.kind=2
     ·simp[h2,qaa,qad]
     ·simp[h1,h2,h3,qaa,qad]
theorem qnY {l:List Int} {x:Int} (F:Nat→Int→Option (Sum Unit Bool)) (h0:∀n,F (n+1) (l.length:Int)=some (.inl ())) (h1:∀(n i:Nat) (y:Int),l[i]? =some y→F (n+1) (i:Int)=if (y==x)=true then some (.inr true) else F n ((i+1:Nat):Int))
  {n:Nat} (hn:l.length<n):F n 0=some (if l.contains x=true then .inr true else .inl ()):=by
 have h:=qau (l:=l) (fun _ y=>y==x) (fun _ _=>true) F h0 h1 l.length n 0 hn (by omega)
 simp only[Int.natCast_zero,List.drop_zero] at h
 rw[h,qiF (fun y=>y==x),qi4]
theorem qiH (N:Nat) {l:List Int} (hN:l.length<N) (hl:l.length≤1000000) (x:Int):zcM N l x=some (l.contains x):=by
 have h:=qnY (l:=l) (x:=x) (fun n i=>qh5 N l x n i) (fun n=>by
  show qh5 N l x (n+1) _=_
  rw[qh5,if_neg (dneg (by omega))]) (fun n i y hy=>by
  show qh5 N l x (n+1) _=_
  have hlt:=(List.getElem?_eq_some_iff.1 hy).1
  rw[qh5,if_pos (dpos (by omega)),qae hy,qaa,qad,w64s (by omega)]) hN
 unfold zcM
 rw[h,qaa]
 cases l.contains x<;>rfl
def nbrB (i n:Int) (k:Nat) (x:PlantElement):Bool:=((k:Int) !=i)&&(qag x).contains n
def nbr (l:List PlantElement) (i n:Int):Int:=qc5 (nbrB i n) 0 l
theorem qHx (N:Nat) (hN:4≤N) (x:PlantElement) (n k:Int):qgP N n k (qag x) (qag x).length N 0=some (if (qag x).contains n=true then .inr k else .inl ()):=by
 have h:=qau (l:=qag x) (fun _ y=>y==n) (fun _ _=>k) (fun m i=>qgP N n k (qag x) (qag x).length m i) (fun m=>by
  show qgP N n k (qag x) (qag x).length (m+1) _=_
  rw[qgP,if_neg (dneg (by omega))]) (fun m i y hy=>by
  show qgP N n k (qag x) (qag x).length (m+1) _=_
  have hlt:=(List.getElem?_eq_some_iff.1 hy).1
  have:=qa9 x
  rw[qgP,if_pos (dpos (by omega)),qae hy]
  simp only[qaa,w64s (show i<9223372036854775807 by omega)]) (qag x).length N 0 (by have:=qa9 x;omega) (by omega)
 simp only[Int.natCast_zero,List.drop_zero] at h
 rw[h]
 congr 1
 rw[←qi4]
 generalize qag x=e
 have key:∀(e:List Int) (i:Nat),res (fun _ y=>y==n) (fun _ _=>k) i e=if (e.any fun y=>y==n)=true then .inr k else .inl ():=by
  intro e
  induction e with
  |nil=>intro i;rfl
  |cons y e ih=>
   intro i
   rw[res,List.any_cons]
   by_cases h:(y==n)=true
   ·simp[h]
   ·simp only[Bool.not_eq_true] at h
    rw[h,if_neg (by simp),ih,Bool.false_or]
 exact key e 0
theorem qom {F:Option (Sum Unit Int)} {l:List PlantElement} {i n:Int} (h:F=some (res (nbrB i n) (fun k _=>(k:Int)) 0 l)):(Option.bind F fun y=>match y with| .inl _=>some (-1)| .inr y=>some y)=some (nbr l i n):=by
 rw[h,qaa]
 unfold nbr
 rcases qeY (nbrB i n) l 0 with ⟨h1,h2⟩|⟨h1,h2⟩
 ·rw[h1,h2]
 ·rw[h1]
theorem qiB (N:Nat) {l:List PlantElement} (hN:l.length+4≤N) (hl:l.length≤1000000) (i n:Int):zaI N l i n=some (nbr l i n):=by
 unfold zaI
 refine qom ?_
 have h:=qau (l:=l) (nbrB i n) (fun k _=>(k:Int)) (fun m j=>qhW N i n l l.length m j) (fun m=>by
  show qhW N i n l l.length (m+1) _=_
  rw[qhW,if_neg (dneg (by omega))]) (fun m j x hx=>by
  show qhW N i n l l.length (m+1) _=_
  have hlt:=(List.getElem?_eq_some_iff.1 hx).1
  rw[qhW,if_pos (dpos (by omega))]
  unfold qA7 nbrB
  rw[qae hx,qaa]
  by_cases hji:(j:Int)=i
  ·rw[if_pos (by simpa using hji)]
   simp only[qaa,hji,bne_self_eq_false,Bool.false_and,Bool.false_eq_true,if_false]
   rw[←hji,w64s (by omega)]
  ·rw[if_neg (by simpa using hji),qeu,qaa,qHx N (by omega),qaa]
   have hb:((j:Int) !=i)=true:=by simpa using hji
   rw[hb,Bool.true_and]
   by_cases hc:(qag x).contains n=true
   ·rw[if_pos hc,if_pos hc];rfl
   ·rw[if_neg hc,if_neg hc]
    simp only[qaa]
    rw[w64s (by omega)]) l.length N 0 (by omega) (by omega)
 simpa using h
theorem qdR (N:Nat) {l:List PlantElement} (hN:l.length+4≤N) (hl:l.length≤1000000) (i n:Int):zaT N l i n=some (nbr l i n):=by
 unfold zaT
 refine qom ?_
 have h:=qau (l:=l) (nbrB i n) (fun k _=>(k:Int)) (fun m j=>qhY N l i n m j) (fun m=>by
  show qhY N l i n (m+1) _=_
  rw[qhY,if_neg (dneg (by omega))]) (fun m j x hx=>by
  show qhY N l i n (m+1) _=_
  have hlt:=(List.getElem?_eq_some_iff.1 hx).1
  have hlen:=qa9 x
  rw[qhY,if_pos (dpos (by omega))]
  unfold qBf nbrB
  by_cases hji:(j:Int)=i
  ·have hb:((j:Int) !=i)=false:=by simpa using hji
   rw[hb,Bool.false_and]
   simp only[Bool.false_eq_true,if_false,qaa,qad]
   rw[w64s (by omega)]
  ·have hb:((j:Int) !=i)=true:=by simpa using hji
   rw[hb,if_pos rfl,qcB,qaa,qcM hx,qiH N (by omega) (by omega),qaa,qaa,Bool.true_and,qad,w64s (by omega)]) l.length N 0 (by omega) (by omega)
 simpa using h
def thrE (e:List Int) (n:Int):List Int:=if e.contains n=true then (if e.head? =some n then e.tail else e.take 1) else []
def thr (l:List PlantElement) (i n:Int):List Int:=thrE (eI l i) n
theorem qoM (N:Nat) (n:Int) {e:List Int} (he:e.length≤3):qcK N n e.length 4 e 0=some (if e.contains n=true then .inr (thrE e n) else .inl ()):=by
 match e,he with
 |[],_=>rfl
 |[a],_=>
  by_cases h:a=n
  ·subst h
   simp[qcK,getI,qaa,qad,cutI,thrE,w64s]
  ·have h':¬n=a:=fun hh=>h hh.symm
   simp[qcK,getI,qaa,qad,cutI,thrE,h,h',w64]
 |[a,b],_=>
  by_cases h:a=n
  ·subst h
   simp[qcK,getI,qaa,qad,cutI,thrE,w64s]
  ·have h':¬n=a:=fun hh=>h hh.symm
   by_cases h2:b=n
   ·subst h2
    simp[qcK,getI,qaa,qad,cutI,thrE,h,h',w64]
   ·have h2':¬n=b:=fun hh=>h2 hh.symm
    simp[qcK,getI,qaa,qad,cutI,thrE,h,h',h2,h2',w64]
 |[a,b,c],_=>
  by_cases h:a=n
  ·subst h
   simp[qcK,getI,qaa,qad,cutI,thrE,w64s]
  ·have h':¬n=a:=fun hh=>h hh.symm
   by_cases h2:b=n
   ·subst h2
    simp[qcK,getI,qaa,qad,cutI,thrE,h,h',w64]
   ·have h2':¬n=b:=fun hh=>h2 hh.symm
    by_cases h3:c=n
    ·subst h3
     simp[qcK,getI,qaa,qad,cutI,thrE,h,h',h2,h2',w64]
    ·have h3':¬n=c:=fun hh=>h3 hh.symm
     simp[qcK,getI,qaa,qad,cutI,thrE,h,h',h2,h2',h3,h3',w64]
 |a::b::c::d::e,h=>simp at h
theorem qfw {N:Nat} {n m:Int}:∀{k k':Nat} {e:List Int} {i:Int} {r:Sum Unit (List Int)},k≤k'→qcK N n m k e i=some r→qcK N n m k' e i=some r
 |0,_,_,_,_,_,h=>by cases h
 |k+1,0,_,_,_,hk,_=>by omega
 |k+1,k'+1,e,i,r,hk,h=>by
  rw[qcK] at h⊢
  split at h
  ·rename_i hc
   rw[if_pos hc]
   cases h1:getI e i with
   |none=>rw[h1] at h;cases h
   |some a=>
    rw[h1] at h
    simp only[qaa] at h⊢
    split at h
    ·rename_i hn
     rw[if_pos hn]
     exact qfw (by omega) h
    ·rename_i hn
     rw[if_neg hn]
     exact h
  ·rename_i hc
   rw[if_neg hc]
   exact h
theorem qoN (N:Nat) (hN:4≤N) (l:List PlantElement) (i n:Int):zaQ N l i n=some (thr l i n):=by
 unfold zaQ thr
 rw[ql6,qaa,qfw hN (qoM N n (qd1 l i)),qaa]
 by_cases hc:(eI l i).contains n=true
 ·rw[if_pos hc]
 ·rw[if_neg hc,thrE,if_neg hc]
theorem qiI (N:Nat) (hN:4≤N) (l:List PlantElement) (i n:Int):zbG N l i n=some (thr l i n):=by
 unfold zbG thr
 have hl:=qd1 l i
 rw[qcB,qaa,qiH N (by omega) (by omega),qaa,qad]
 generalize eI l i=e at*
 unfold thrE
 by_cases hc:e.contains n=true
 ·rw[hc]
  cases e with
  |nil=>simp at hc
  |cons a e=>
   simp only[Bool.not_true,Bool.false_eq_true,if_false,getI,Int.le_refl,if_true,Int.toNat_zero,List.getElem?_cons_zero,qaa,qad,List.head?_cons,List.tail_cons]
   by_cases ha:a=n
   ·subst ha
    have:=qcb (xs:=a::e) (i:=1) (by simp)
    simp only[beq_self_eq_true,if_true]
    rw[show (1:Int)=((1:Nat):Int) from rfl,this,qaa,qaF (by simp at hl⊢;omega),qaa]
    simp
   ·have:(a==n)=false:=by simpa using ha
    rw[this]
    simp[ha]
 ·simp only[Bool.not_eq_true] at hc
  rw[hc]
  simp
end Go.W
end
section
set_option linter.unusedVariables false
set_option linter.unusedSimpArgs false
namespace Go.W
open Go.AM
def pnCh (u:UInt8):Bool:=(decide (97≤u.toNat)&&decide (u.toNat≤122))||(decide (48≤u.toNat)&&decide (u.toNat≤57))
def pnOk (l:List UInt8):Bool:=l.all pnCh&&(decide (1≤l.length)&&decide (l.length≤12))
theorem qGd (N:Nat) {l:List UInt8} {i:Nat} {u:UInt8} (h:l[i]? =some u):quW N l i=some (!pnCh u):=by
 unfold quW pnCh
 rw[qae h]
 simp only[qaa]
 by_cases a:97≤u.toNat
 ·rw[if_neg (by simp;omega)]
  by_cases b:u.toNat≤122
  ·rw[if_neg (by simp;omega)];simp[a,b]
  ·rw[if_pos (by simp;omega),if_neg (by simp;omega)]
   simp[a,b,show ¬u.toNat≤57 by omega,show (57:Int)<u.toNat by omega]
 ·rw[if_pos (by simp;omega)]
  by_cases c:u.toNat<48
  ·rw[if_pos (by simp;omega)];simp[a,show ¬48≤u.toNat by omega]
  ·rw[if_neg (by simp;omega)]
   by_cases d:u.toNat≤57
   ·simp[a,show 48≤u.toNat by omega,d,show ¬(57:Int)<u.toNat by omega]
   ·simp[a,show 48≤u.toNat by omega,d,show (57:Int)<u.toNat by omega]
theorem qGh (N:Nat) {l:List UInt8} {i:Nat} {u:UInt8} (h:l[i]? =some u):qu8 N l i=some (!pnCh u):=by
 unfold qu8 pnCh
 rw[qae h]
 simp only[qaa]
 by_cases a:97≤u.toNat
 ·rw[if_pos (by simp;omega)]
  by_cases b:u.toNat≤122
  ·rw[if_pos (by simp;omega)];simp[a,b]
  ·rw[if_neg (by simp;omega)]
   by_cases c:48≤u.toNat
   ·rw[if_pos (by simp;omega)];simp[a,b,c];omega
   ·omega
 ·rw[if_neg (by simp;omega)]
  by_cases c:48≤u.toNat
  ·rw[if_pos (by simp;omega)]
   simp[a,c]
   omega
  ·rw[if_neg (by simp;omega)];simp[a,c]
theorem qiE {α β:Type} (p:α→Bool) (b:β):∀(l:List α) (i:Nat),res (fun _ y=> !p y) (fun _ _=>b) i l=if l.all p=true then .inl () else .inr b
 |[],i=>rfl
 |y::l,i=>by
  rw[res,List.all_cons]
  by_cases h:p y=true
  ·rw[h];simp only[Bool.not_true,Bool.false_eq_true,if_false,Bool.true_and];exact qiE p b l (i+1)
  ·simp only[Bool.not_eq_true] at h
   rw[h];simp
theorem qt1 (N:Nat) {l:List UInt8} (hN:14≤N):zbS N l=some (pnOk l):=by
 unfold zbS qBu pnOk
 by_cases h1:l.length<1
 ·rw[if_pos (dpos (by omega)),qaa,if_pos rfl]
  simp[show ¬1≤l.length by omega]
 ·rw[if_neg (dneg (by omega)),qaa]
  by_cases h2:12<l.length
  ·rw[if_pos (by simpa using by omega)]
   simp[show ¬l.length≤12 by omega]
  ·rw[if_neg (by simpa using by omega)]
   have h:=qau (l:=l) (fun _ y=> !pnCh y) (fun _ _=>false) (fun m i=>qhZ N l l.length m i) (fun m=>by
    show qhZ N l l.length (m+1) _=_
    rw[qhZ,if_neg (dneg (by omega))]) (fun m i y hy=>by
    show qhZ N l l.length (m+1) _=_
    have hlt:=(List.getElem?_eq_some_iff.1 hy).1
    rw[qhZ,if_pos (dpos (by omega)),qGd N hy,qaa,w64s (by omega)]) l.length N 0 (by omega) (by omega)
   simp only[Int.natCast_zero,List.drop_zero] at h
   rw[h,qiE pnCh,qaa]
   by_cases h3:l.all pnCh=true
   ·rw[if_pos h3,h3];simp[show 1≤l.length by omega,show l.length≤12 by omega]
   ·rw[if_neg h3];simp only[Bool.not_eq_true] at h3;rw[h3];simp
theorem qua (N:Nat) {l:List UInt8} (hN:l.length<N) (hl:l.length≤9223372036854775807):zcF N l=some (pnOk l):=by
 unfold zcF pnOk
 have h:=qau (l:=l) (fun _ y=> !pnCh y) (fun _ _=>false) (fun m i=>qh4 N l m i) (fun m=>by
  show qh4 N l (m+1) _=_
  rw[qh4,if_neg (dneg (by omega))]) (fun m i y hy=>by
  show qh4 N l (m+1) _=_
  have hlt:=(List.getElem?_eq_some_iff.1 hy).1
  rw[qh4,if_pos (dpos (by omega)),qGh N hy,qaa,qad,w64s (by omega)]) l.length N 0 (by omega) (by omega)
 simp only[Int.natCast_zero,List.drop_zero] at h
 rw[h,qiE pnCh,qaa]
 by_cases h3:l.all pnCh=true
 ·rw[if_pos h3,h3]
  unfold qBC
  by_cases a:1≤l.length
  ·rw[if_pos (lpos (by omega))];simp only[qad,qaa,decide_eq_true a,Bool.true_and];congr 1;rw[decide_eq_decide];omega
  ·rw[if_neg (lneg (by omega))];simp[a,qaa]
 ·rw[if_neg h3];simp only[Bool.not_eq_true] at h3;rw[h3];simp
def pE (e:List Int) (i:Nat) (a:Int):Bool:=(decide (a<0)||decide (64≤a))||(e.take i).contains a
def okE (e:List Int):Bool:=match res (pE e) (fun _ _=>false) 0 e with| .inl _=>true| .inr _=>false
def qaP (x:PlantElement):Bool:=
 (!(qag x).isEmpty&&pnOk x.name)&&(okE (qag x)&&if x.kind=1 then x.c==0&&(decide (1≤x.length)&&decide (x.length≤100000)) else x.length==0&&(x.kind==2||x.c==0))
theorem qbX {α β:Type} {p:Nat→α→Bool} {out:Nat→α→β}:∀{l:List α} {i:Nat},res p out i l= .inl ()↔∀(j:Nat) (x:α),l[j]? =some x→p (i+j) x=false
 |[],i=>by simp[res]
 |x::l,i=>by
  rw[res]
  by_cases h:p i x=true
  ·rw[if_pos h]
   constructor
   ·intro hh;cases hh
   ·intro hh
    have:=hh 0 x rfl
    rw[Nat.add_zero,h] at this;cases this
  ·rw[if_neg h,qbX]
   simp only[Bool.not_eq_true] at h
   constructor
   ·intro hh j y hj
    cases j with
    |zero=>simp at hj;subst hj;exact h
    |succ j=>have:=hh j y (by simpa using hj);rwa [show i+1+j=i+(j+1) by omega] at this
   ·intro hh j y hj
    have:=hh (j+1) y (by simpa using hj)
    rwa [show i+(j+1)=i+1+j by omega] at this
theorem qgq {e:List Int}:okE e=true↔e.Nodup∧∀a∈e,0≤a∧a<64:=by
 have h1:okE e=true↔res (pE e) (fun _ _=>false) 0 e= .inl ():=by
  unfold okE
  split
  ·rename_i u h;simp[h]
  ·rename_i u h;simp[h]
 rw[h1,qbX]
 constructor
 ·intro h
  refine ⟨?_,fun a ha=> ?_⟩
  ·refine List.pairwise_iff_getElem.2 fun i j hi hj hij heq=> ?_
   have hj':=qap hj
   have:=h j _ hj'
   rw[Nat.zero_add] at this
   simp only[pE,Bool.or_eq_false_iff,List.contains_eq_mem,decide_eq_false_iff_not] at this
   apply this.2
   refine List.mem_of_getElem? (i:=i) ?_
   rw[List.getElem?_take,if_pos hij,qap hi,heq]
  ·obtain ⟨j,hj⟩:=List.getElem?_of_mem ha
   have:=h j a hj
   simp only[pE,Bool.or_eq_false_iff,decide_eq_false_iff_not] at this
   omega
 ·rintro ⟨h2,h3⟩ j x hj
  rw[Nat.zero_add]
  have:=h3 x (List.mem_of_getElem? hj)
  simp only[pE,Bool.or_eq_false_iff,decide_eq_false_iff_not]
  refine ⟨⟨by omega,by omega⟩, ?_⟩
  simp only[List.contains_eq_mem,decide_eq_false_iff_not]
  intro hm
  obtain ⟨i,hi⟩:=List.getElem?_of_mem hm
  rw[List.getElem?_take] at hi
  split at hi
  ·rename_i hij
   have hjl:=(List.getElem?_eq_some_iff.1 hj).1
   obtain ⟨hil,hi⟩:=List.getElem?_eq_some_iff.1 hi
   obtain ⟨_,hj⟩:=List.getElem?_eq_some_iff.1 hj
   exact List.pairwise_iff_getElem.1 h2 i j hil hjl hij (by rw[hi,hj])
  ·cases hi
theorem qAL (N:Nat) {e:List Int} (hN:e.length<N) (hl:e.length≤1000000) (a:Int):qgR N a e e.length N 0=some (if e.contains a=true then .inr false else .inl ()):=by
 have h:=qau (l:=e) (fun _ y=>y==a) (fun _ _=>false) (fun m i=>qgR N a e e.length m i) (fun m=>by
  show qgR N a e e.length (m+1) _=_
  rw[qgR,if_neg (dneg (by omega))]) (fun m i y hy=>by
  show qgR N a e e.length (m+1) _=_
  have hlt:=(List.getElem?_eq_some_iff.1 hy).1
  rw[qgR,if_pos (dpos (by omega)),qae hy,qaa,w64s (by omega)]
  by_cases hay:a=y
  ·rw[if_pos (by simpa using hay),if_pos (by simpa using hay.symm)]
  ·rw[if_neg (by simpa using hay),if_neg (by simpa using fun hh:y=a=>hay hh.symm)]) e.length N 0 hN (by omega)
 simp only[Int.natCast_zero,List.drop_zero] at h
 rw[h]
 congr 1
 have key:∀(e:List Int) (i:Nat),res (fun _ y=>y==a) (fun _ _=>false) i e=if (e.any fun y=>y==a)=true then .inr false else .inl ():=by
  intro e
  induction e with
  |nil=>intro i;rfl
  |cons y e ih=>
   intro i
   rw[res,List.any_cons]
   by_cases h:(y==a)=true
   ·simp[h]
   ·simp only[Bool.not_eq_true] at h
    rw[h,if_neg (by simp),ih,Bool.false_or]
 rw[key,qi4]
theorem qAK (N:Nat) (hN:10≤N) {e:List Int} (he:e.length≤3):qgQ N e e e.length N 0=some (res (pE e) (fun _ _=>false) 0 e):=by
 have h:=qau (l:=e) (pE e) (fun _ _=>false) (fun m i=>qgQ N e e e.length m i) (fun m=>by
  show qgQ N e e e.length (m+1) _=_
  rw[qgQ,if_neg (dneg (by omega))]) (fun m i a ha=>by
  show qgQ N e e e.length (m+1) _=_
  have hlt:=(List.getElem?_eq_some_iff.1 ha).1
  rw[qgQ,if_pos (dpos (by omega)),qae ha,qaa]
  unfold qBc pE
  by_cases h0:a<0
  ·rw[if_pos (dpos h0),qaa];simp[h0]
  ·rw[if_neg (dneg h0),qaa]
   by_cases h1:64≤a
   ·simp[h1]
   ·rw[if_neg (by simpa using by omega),qbF (by omega),qaa,qAL N (by rw[List.length_take];omega) (by rw[List.length_take];omega),qaa]
    have e1:decide (a<0)=false:=by simpa using by omega
    have e2:decide (64≤a)=false:=by simpa using by omega
    rw[e1,e2,Bool.false_or,Bool.false_or]
    by_cases hc:(e.take i).contains a=true
    ·rw[if_pos hc,if_pos hc]
    ·rw[if_neg hc,if_neg hc]
     simp only[]
     rw[w64s (by omega)]) e.length N 0 (by omega) (by omega)
 simpa using h
theorem qAV (N:Nat) (hN:10≤N) {e:List Int} (he:e.length≤3):qg0 N e N 0=some (res (pE e) (fun _ _=>false) 0 e):=by
 have h:=qau (l:=e) (pE e) (fun _ _=>false) (fun m i=>qg0 N e m i) (fun m=>by
  show qg0 N e (m+1) _=_
  rw[qg0,if_neg (dneg (by omega))]) (fun m i a ha=>by
  show qg0 N e (m+1) _=_
  have hlt:=(List.getElem?_eq_some_iff.1 ha).1
  rw[qg0,if_pos (dpos (by omega))]
  unfold qBx pE
  rw[qae ha]
  simp only[qaa]
  by_cases h0:a<0
  ·rw[if_pos (dpos h0),qaa];simp[h0]
  ·rw[if_neg (dneg h0)]
   by_cases h1:64≤a
   ·rw[if_pos (lpos h1),qaa];simp[h1]
   ·rw[if_neg (lneg h1),qbF (by omega),qaa,qiH N (by rw[List.length_take];omega) (by rw[List.length_take];omega),qaa,qaa]
    have e1:decide (a<0)=false:=by simpa using by omega
    have e2:decide (64≤a)=false:=by simpa using by omega
    rw[e1,e2,Bool.false_or,Bool.false_or,qad,w64s (by omega)]) e.length N 0 (by omega) (by omega)
 simpa using h
theorem qmS (N:Nat) (hN:20≤N) (x:PlantElement) (hx:qag x≠[]∨pnOk x.name=false):zaS N x=some (qaP x):=by
 unfold zaS qaP qBb
 have he:=qa9 x
 rw[qeu,qaa,qt1 N (by omega)]
 by_cases hne:qag x=[]
 ·have hn:pnOk x.name=false:=by rcases hx with h|h;exact absurd hne h;exact h
  rw[hne,hn]
  simp[nilT,qaa]
 ·have hnil:∀{β:Type} (f:Bool→Option β),nilT (qag x) f=f false:=fun f=>by unfold nilT;rw[if_neg hne]
  rw[hnil]
  have hie:(qag x).isEmpty=false:=by cases h:qag x with|nil=>exact absurd h hne|cons _ _=>rfl
  simp only[Bool.false_eq_true,if_false,qaa,hie,Bool.not_false,Bool.true_and]
  by_cases hn:pnOk x.name=true
  ·rw[hn]
   simp only[Bool.not_true,Bool.false_eq_true,if_false,Bool.true_and]
   rw[qAK N (by omega) he,qaa]
   unfold okE
   cases hr:res (pE (qag x)) (fun _ _=>false) 0 (qag x) with
   |inr b=>
    have:b=false:=by
     have key:∀(e:List Int) (i:Nat) (b:Bool),res (pE (qag x)) (fun _ _=>false) i e= .inr b→b=false:=by
      intro e
      induction e with
      |nil=>intro i b h;cases h
      |cons y e ih=>
       intro i b h
       rw[res] at h
       split at h
       ·cases h;rfl
       ·exact ih _ _ h
     exact key _ _ _ hr
    subst this
    simp
   |inl u=>
    simp only[Bool.true_and]
    by_cases h1:x.kind=1
    ·rw[if_pos (by simpa using h1),if_pos h1]
     unfold qBd
     by_cases hc:x.c=0
     ·rw[if_pos (by simpa using hc)]
      by_cases ha:1≤x.length
      ·rw[if_pos (lpos ha)];simp[qad,qaa,hc,ha]
      ·rw[if_neg (lneg ha)];simp[qaa,ha]
     ·rw[if_neg (by simpa using hc)];simp[qaa,hc]
    ·rw[if_neg (by simpa using h1),if_neg h1]
     unfold qBe
     by_cases ha:x.length=0
     ·rw[if_pos (by simpa using ha)]
      by_cases h2:x.kind=2
      ·rw[if_pos (by simpa using h2)];simp[qaa,ha,h2]
      ·rw[if_neg (by simpa using h2)];simp[qad,qaa,ha,h2]
     ·rw[if_neg (by simpa using ha)];simp[qaa,ha]
  ·simp only[Bool.not_eq_true] at hn
   rw[hn];simp
theorem qoJ (N:Nat) (x:PlantElement):zaL N x=if qag x=[] then some () else none:=by
 unfold zaL qA8 qag
 simp only[qad]
 by_cases h1:x.kind=1
 ·simp[h1,qaa]
 ·by_cases h3:x.kind=3
  ·simp[h3,qaa]
  ·by_cases h2:x.kind=2
   ·simp[h2,qaa]
   ·simp[h1,h2,h3,qaa]
theorem qoL (N:Nat) (hN:20≤N) (x:PlantElement):zbF N x=some (qaP x):=by
 unfold zbF zaR
 rw[qoJ]
 by_cases he:qag x=[]
 ·rw[if_pos he,qaa]
  have h0:qBa N=some true:=rfl
  rw[h0,qaa,if_pos rfl]
  unfold qaP
  rw[he]
  rfl
 ·rw[if_neg he,qmS N hN x (.inl he)]
  rfl
theorem qo7 (N:Nat) {l:List PlantElement} {i:Nat} {x:PlantElement} (hx:l[i]? =some x) (hN:20≤N) (hn:x.name.length<N) (hn2:x.name.length≤9223372036854775807):zbY N l i=some (qaP x):=by
 unfold zbY qaP qBw
 have he:=qa9 x
 rw[qae hx,qaa,qcB,qcM hx,qaa,qua N hn hn2]
 by_cases hne:qag x=[]
 ·rw[hne];simp[qaa]
 ·have hie:(qag x).isEmpty=false:=by cases h:qag x with|nil=>exact absurd h hne|cons _ _=>rfl
  have hlen:((qag x).length:Int)≠0:=by cases h:qag x with|nil=>exact absurd h hne|cons _ _=>simp;omega
  rw[if_neg (by simpa using hlen)]
  simp only[qaa,hie,Bool.not_false,Bool.true_and]
  by_cases hnm:pnOk x.name=true
  ·rw[hnm]
   simp only[Bool.not_true,Bool.false_eq_true,if_false,Bool.true_and]
   rw[qAV N (by omega) he,qaa]
   unfold okE
   cases hr:res (pE (qag x)) (fun _ _=>false) 0 (qag x) with
   |inr b=>
    have:b=false:=by
     have key:∀(e:List Int) (i:Nat) (b:Bool),res (pE (qag x)) (fun _ _=>false) i e= .inr b→b=false:=by
      intro e
      induction e with
      |nil=>intro i b h;cases h
      |cons y e ih=>
       intro i b h
       rw[res] at h
       split at h
       ·cases h;rfl
       ·exact ih _ _ h
     exact key _ _ _ hr
    subst this
    simp
   |inl u=>
    simp only[Bool.true_and]
    unfold qBy
    have hl2:((qag x).length:Int)=2↔(x.kind=1∨x.kind=3):=by
     unfold qag
     split
     ·rename_i h;simp[h]
     ·rename_i h
      split
      ·simp[h]
      ·simp[h]
    by_cases h1:x.kind=1
    ·rw[if_pos (by simpa using hl2.2 (.inl h1)),qaa,if_pos h1]
     by_cases hc:x.c=0
     ·unfold qBz
      by_cases ha:1≤x.length
      ·simp[qad,qaa,hc,ha,h1]
      ·simp[qaa,ha,h1,hc]
     ·simp[hc]
    ·by_cases h3:x.kind=3
     ·rw[if_pos (by simpa using hl2.2 (.inr h3)),qaa,if_neg h1]
      by_cases hc:x.c=0
      ·simp[qad,hc,h3]
      ·simp[hc,h3]
     ·have h2:x.kind=2:=by
       have:=hne
       unfold qag at this
       rw[if_neg (by omega)] at this
       split at this
       ·assumption
       ·exact absurd rfl this
      have hl:¬((qag x).length:Int)=2:=by rw[hl2];omega
      rw[if_neg (by simpa using hl),qaa,if_neg h1]
      simp[qad,h2]
  ·simp only[Bool.not_eq_true] at hnm
   rw[hnm];simp
end Go.W
end
section
set_option linter.unusedVariables false
set_option linter.unusedSimpArgs false
namespace Go.W
open Go.AM
def cnt (l:List PlantElement) (n:Int):Int:=((l.filter fun x=>(qag x).contains n).length:Int)
theorem qdB (l:List PlantElement) (n:Int):0≤cnt l n:=by unfold cnt;omega
theorem qxG (l:List PlantElement) (n:Int):cnt l n≤l.length:=by unfold cnt;have:=List.length_filter_le (fun x=>(qag x).contains n) l;omega
theorem qbf {α:Type} {l:List α} {i:Nat} {x:α} (h:l[i]? =some x):l.take (i+1)=l.take i++[x]:=by
 rw[List.take_add_one,h];rfl
theorem qb9 (l:List PlantElement) (x:PlantElement) (n:Int):cnt (l++[x]) n=cnt l n+if n∈qag x then 1 else 0:=by
 unfold cnt
 rw[List.filter_append]
 by_cases h:n∈qag x
 ·simp[h]
 ·simp[h]
def qaA (l:List PlantElement) (i:Nat) (x:PlantElement):Int:=
 if qaP x=false then 1 else if ((l.take i).any fun y=>y.name==x.name)=true then 8 else if ((qag x).any fun n=>cnt (l.take i) n==2)=true then 17 else 0
def pC (l:List PlantElement) (i:Nat) (x:PlantElement):Bool:=qaA l i x !=0
def vErr (l:List PlantElement):Int:=if 96<l.length then 3 else match res (pC l) (qaA l) 0 l with| .inl _=>0| .inr c=>c
structure VInv (l:List PlantElement) (i:Nat) (x3:List (List UInt8×Bool)) (x4:List (Int×Int)):Prop where
 nm:∀k,(qaf x3 k).getD false=(l.take i).any fun y=>y.name==k
 ct:∀n,(qaf x4 n).getD 0=cnt (l.take i) n
theorem pv1 (N:Nat) {e:List Int} (hd:e.Nodup) (hl:e.length≤3):∀(k n i:Nat) (x4:List (Int×Int)),k<n→i+k=e.length→(∀a,0≤(qaf x4 a).getD 0∧(qaf x4 a).getD 0≤1000+i)→
  (((e.drop i).any fun a=>(qaf x4 a).getD 0==2)=true∧qgV N e e.length n x4 i=some (.inr 17))∨
  (((e.drop i).any fun a=>(qaf x4 a).getD 0==2)=false∧∃x4',qgV N e e.length n x4 i=some (.inl x4')∧∀m,(qaf x4' m).getD 0=(qaf x4 m).getD 0+if m∈e.drop i then 1 else 0)
 |k,0,i,x4,hn,_,_=>by omega
 |0,n+1,i,x4,hn,hi,hb=>by
  obtain rfl:i=e.length:=by omega
  rw[qgV,if_neg (dneg (by omega)),List.drop_length]
  exact .inr ⟨rfl,x4,rfl,fun m=>by simp⟩
 |k+1,n+1,i,x4,hn,hi,hb=>by
  have hlt:i<e.length:=by omega
  have ha:=qap hlt
  rw[qgV,if_pos (dpos (by omega)),qae ha,qbe ha,List.any_cons]
  simp only[qaa,qad]
  have hba:=hb e[i]
  by_cases h2:(qaf x4 e[i]).getD 0=2
  ·have h2':((qaf x4 e[i]).getD 0==2)=true:=by simpa using h2
   rw[if_pos h2',h2']
   exact .inl ⟨rfl,rfl⟩
  ·have h2':((qaf x4 e[i]).getD 0==2)=false:=by simpa using h2
   rw[if_neg (by rw[h2'];simp),w64s (by omega),w64 (by omega) (by omega),h2',Bool.false_or]
   have hset:∀m,(qaf (qas x4 e[i] ((qaf x4 e[i]).getD 0+1)) m).getD 0=(qaf x4 m).getD 0+if m=e[i] then 1 else 0:=by
    intro m
    rw[qaD]
    by_cases hm:m=e[i]
    ·subst hm;simp
    ·rw[if_neg (fun hh=>hm hh.symm),if_neg hm];simp
   have hnot:e[i]∉e.drop (i+1):=by
    intro hm
    obtain ⟨j,hj⟩:=List.getElem?_of_mem hm
    rw[List.getElem?_drop] at hj
    obtain ⟨hjl,hj⟩:=List.getElem?_eq_some_iff.1 hj
    exact List.pairwise_iff_getElem.1 hd i (i+1+j) hlt hjl (by omega) hj.symm
   have hany:((e.drop (i+1)).any fun a=>(qaf (qas x4 e[i] ((qaf x4 e[i]).getD 0+1)) a).getD 0==2)=((e.drop (i+1)).any fun a=>(qaf x4 a).getD 0==2):=by
    rw[Bool.eq_iff_iff]
    simp only[List.any_eq_true]
    constructor
    ·rintro ⟨a,h1,h3⟩
     refine ⟨a,h1, ?_⟩
     rw[hset,if_neg (fun hh=>hnot (by rw[←hh];exact h1)),Int.add_zero] at h3
     exact h3
    ·rintro ⟨a,h1,h3⟩
     refine ⟨a,h1, ?_⟩
     rw[hset,if_neg (fun hh=>hnot (by rw[←hh];exact h1)),Int.add_zero]
     exact h3
   have ih:=pv1 N hd hl k n (i+1) (qas x4 e[i] ((qaf x4 e[i]).getD 0+1)) (by omega) (by omega) (fun a=>by
    rw[hset]
    have:=hb a
    split
    ·rename_i h;subst h;omega
    ·omega)
   rw[hany] at ih
   rcases ih with ⟨g1,g2⟩|⟨g1,x4',g2,g3⟩
   ·exact .inl ⟨g1,g2⟩
   ·refine .inr ⟨g1,x4',g2,fun m=> ?_⟩
    rw[g3 m,hset m]
    by_cases hm:m=e[i]
    ·subst hm
     rw[if_pos rfl,if_neg hnot,if_pos List.mem_cons_self];omega
    ·rw[if_neg hm]
     by_cases hm2:m∈e.drop (i+1)
     ·rw[if_pos hm2,if_pos (List.mem_cons_of_mem _ hm2)];omega
     ·rw[if_neg hm2,if_neg (by simp only[List.mem_cons,not_or];exact ⟨hm,hm2⟩)];omega
theorem qaE {x:PlantElement} (h:qaP x=true):(qag x).Nodup∧(∀a∈qag x,0≤a∧a<64)∧qag x≠[]∧pnOk x.name=true:=by
 unfold qaP at h
 simp only[Bool.and_eq_true,Bool.not_eq_true'] at h
 obtain ⟨h1,h2⟩:=qgq.1 h.2.1
 exact ⟨h1,h2,fun hh=>by rw[hh] at h;simp at h,h.1.2⟩
theorem qeX (N:Nat) (hN:100≤N) {l:List PlantElement} (hl:l.length≤96):∀(k n i:Nat) (x3:List (List UInt8×Bool)) (x4:List (Int×Int)),k<n→i+k=l.length→VInv l i x3 x4→
  qm8 N l l.length n x3 x4 i=some (res (pC l) (qaA l) i (l.drop i))
 |k,0,i,x3,x4,hn,_,_=>by omega
 |0,n+1,i,x3,x4,hn,hi,hI=>by
  obtain rfl:i=l.length:=by omega
  rw[qm8,if_neg (dneg (by omega)),List.drop_length]
  rfl
 |k+1,n+1,i,x3,x4,hn,hi,hI=>by
  have hlt:i<l.length:=by omega
  have hx:=qap hlt
  rw[qm8,if_pos (dpos (by omega)),qae hx,qbe hx,res,qaa,qoL N (by omega) _,qaa]
  unfold pC
  by_cases hsd:qaP l[i]=true
  case neg=>
   simp only[Bool.not_eq_true] at hsd
   have hc:qaA l i l[i]=1:=by unfold qaA;rw[if_pos hsd]
   rw[hsd,hc];simp
  obtain ⟨e1,e2,e3,e4⟩:=qaE hsd
  rw[hsd]
  simp only[Bool.not_true,Bool.false_eq_true,if_false,qad,hI.nm]
  by_cases hnm:((l.take i).any fun y=>y.name==l[i].name)=true
  ·have hc:qaA l i l[i]=8:=by unfold qaA;rw[if_neg (by rw[hsd];simp),if_pos hnm]
   rw[if_pos hnm,hc];simp
  ·rw[if_neg hnm,qeu,qaa]
   have hb:∀a,0≤(qaf x4 a).getD 0∧(qaf x4 a).getD 0≤1000+(0:Nat):=fun a=>by
    rw[hI.ct]
    have h1:=qdB (l.take i) a
    have h2:=qxG (l.take i) a
    rw[List.length_take] at h2
    omega
   have hany:((qag l[i]).any fun a=>(qaf x4 a).getD 0==2)=((qag l[i]).any fun a=>cnt (l.take i) a==2):=by simp only[hI.ct]
   have h3:=qa9 l[i]
   have:=pv1 N e1 h3 (qag l[i]).length N 0 x4 (by omega) (by omega) hb
   rw[List.drop_zero,hany] at this
   rcases this with ⟨g1,g2⟩|⟨g1,x4',g2,g3⟩
   ·have hc:qaA l i l[i]=17:=by unfold qaA;rw[if_neg (by rw[hsd];simp),if_neg hnm,if_pos g1]
    have g2:qgV N (qag l[i]) (qag l[i]).length N x4 0=some (.inr 17):=g2
    rw[g2,hc];simp[qaa]
   ·have hc:qaA l i l[i]=0:=by unfold qaA;rw[if_neg (by rw[hsd];simp),if_neg hnm,if_neg (by rw[g1];simp)]
    have g2:qgV N (qag l[i]) (qag l[i]).length N x4 0=some (.inl x4'):=g2
    rw[g2,hc]
    simp only[qaa,bne_self_eq_false,Bool.false_eq_true,if_false]
    rw[w64s (by omega)]
    refine qeX N hN hl k n (i+1) _ x4' (by omega) (by omega) ⟨fun q=> ?_,fun m=> ?_⟩
    ·rw[qaD,qbf hx,List.any_append]
     by_cases hq:l[i].name=q
     ·rw[if_pos hq];simp[hq]
     ·rw[if_neg hq,hI.nm];simp[hq]
    ·rw[g3 m,hI.ct,qbf hx,qb9]
theorem qhG (N:Nat) (hN:100≤N) {l:List PlantElement}:zbE N l=some (vErr l):=by
 unfold zbE vErr
 by_cases hl:96<l.length
 ·rw[if_pos (by simpa using by omega),if_pos hl]
 ·rw[if_neg (by simpa using by omega),if_neg hl]
  have h:=qeX N hN (l:=l) (by omega) l.length N 0 [] [] (by omega) (by omega) ⟨fun k=>by simp[qaf],fun n=>by simp[qaf,cnt]⟩
  simp only[Int.natCast_zero,List.drop_zero] at h
  rw[h,qaa]
  cases res (pC l) (qaA l) 0 l<;>rfl
structure RInv (l:List PlantElement) (i:Nat) (x3:List Int):Prop where
 len:x3.length=64
 ct:∀n:Nat,n<64→x3[n]? =some (cnt (l.take i) (n:Int))
theorem RInv.get {l:List PlantElement} {i:Nat} {x3:List Int} (h:RInv l i x3) {a:Int} (h0:0≤a) (h1:a<64):getI x3 a=some (cnt (l.take i) a):=by
 obtain ⟨n,rfl⟩:=Int.eq_ofNat_of_zero_le h0
 have:=h.ct n (by omega)
 exact qae this
theorem rv1 (N:Nat) {l:List PlantElement} {i:Nat} {x:PlantElement} (hx:l[i]? =some x) (hN:l.length<N) (hl:l.length≤96):qgY N l i N 0=some (if ((l.take i).any fun y=>y.name==x.name)=true then .inr 8 else .inl ()):=by
 have hi:=(List.getElem?_eq_some_iff.1 hx).1
 have hlen:(l.take i).length=i:=by rw[List.length_take];omega
 have h:=qau (l:=l.take i) (fun _ y=>y.name==x.name) (fun _ _=>(8:Int)) (fun m j=>qgY N l i m j) (fun m=>by
  show qgY N l i (m+1) _=_
  rw[hlen,qgY,if_neg (dneg (by omega))]) (fun m j y hy=>by
  show qgY N l i (m+1) _=_
  have hlt:=(List.getElem?_eq_some_iff.1 hy).1
  rw[hlen] at hlt
  rw[List.getElem?_take,if_pos hlt] at hy
  rw[qgY,if_pos (dpos (by omega)),qae hy,qaa,qae hx,qaa,qad,w64s (by omega)]) i N 0 (by omega) (by rw[hlen];omega)
 simp only[Int.natCast_zero,List.drop_zero] at h
 rw[h]
 congr 1
 have key:∀(q:List PlantElement) (j:Nat),res (fun _ y=>y.name==x.name) (fun _ _=>(8:Int)) j q=if (q.any fun y=>y.name==x.name)=true then .inr 8 else .inl ():=by
  intro q
  induction q with
  |nil=>intro j;rfl
  |cons y q ih=>
   intro j
   rw[res,List.any_cons]
   by_cases h:(y.name==x.name)=true
   ·simp[h]
   ·simp only[Bool.not_eq_true] at h
    rw[h,if_neg (by simp),ih,Bool.false_or]
 exact key _ 0
theorem rv2 (N:Nat) (hN:10≤N) {l:List PlantElement} {i:Nat} {x3:List Int} (hI:RInv l i x3) {e:List Int} (he:e.length≤3) (hr:∀a∈e,0≤a∧a<64):qgZ N x3 e N 0=some (if (e.any fun a=>cnt (l.take i) a==2)=true then .inr 17 else .inl ()):=by
 have h:=qau (l:=e) (fun _ a=>cnt (l.take i) a==2) (fun _ _=>(17:Int)) (fun m j=>qgZ N x3 e m j) (fun m=>by
  show qgZ N x3 e (m+1) _=_
  rw[qgZ,if_neg (dneg (by omega))]) (fun m j y hy=>by
  show qgZ N x3 e (m+1) _=_
  have hlt:=(List.getElem?_eq_some_iff.1 hy).1
  obtain ⟨h0,h1⟩:=hr y (List.mem_of_getElem? hy)
  rw[qgZ,if_pos (dpos (by omega)),qae hy]
  simp only[qaa,hI.get h0 h1,qad]
  rw[w64s (by omega)]) e.length N 0 (by omega) (by omega)
 simp only[Int.natCast_zero,List.drop_zero] at h
 rw[h]
 congr 1
 have key:∀(q:List Int) (j:Nat),res (fun _ a=>cnt (l.take i) a==2) (fun _ _=>(17:Int)) j q=if (q.any fun a=>cnt (l.take i) a==2)=true then .inr 17 else .inl ():=by
  intro q
  induction q with
  |nil=>intro j;rfl
  |cons y q ih=>
   intro j
   rw[res,List.any_cons]
   by_cases h:(cnt (l.take i) y==2)=true
   ·simp[h]
   ·simp only[Bool.not_eq_true] at h
    rw[h,if_neg (by simp),ih,Bool.false_or]
 exact key _ 0
theorem rv3 (N:Nat) {e:List Int} (hd:e.Nodup) (he:e.length≤3) (hr:∀a∈e,0≤a∧a<64):∀(k n i:Nat) (x3:List Int) (f:Int→Int),k<n→i+k=e.length→x3.length=64→(∀m:Nat,m<64→x3[m]? =some (f m))→(∀m,0≤f m∧f m≤1000+i)→
  ∃x3',qiZ N e n x3 i=some x3'∧x3'.length=64∧∀m:Nat,m<64→x3'[m]? =some (f m+if (m:Int)∈e.drop i then 1 else 0)
 |k,0,i,x3,f,hn,_,_,_,_=>by omega
 |0,n+1,i,x3,f,hn,hi,h1,h2,h3=>by
  obtain rfl:i=e.length:=by omega
  rw[qiZ,if_neg (dneg (by omega)),List.drop_length]
  exact ⟨x3,rfl,h1,fun m hm=>by simpa using h2 m hm⟩
 |k+1,n+1,i,x3,f,hn,hi,h1,h2,h3=>by
  have hlt:i<e.length:=by omega
  have ha:=qap hlt
  obtain ⟨r0,r1⟩:=hr _ (List.getElem_mem hlt)
  obtain ⟨q,hq⟩:=Int.eq_ofNat_of_zero_le r0
  have hq64:q<64:=by omega
  have hg:getI x3 e[i]=some (f q):=by rw[hq];exact qae (h2 q hq64)
  have hf:=h3 q
  rw[qiZ,if_pos (dpos (by omega)),qae ha,qbe ha]
  simp only[qaa,qad,hg]
  rw[w64s (by omega),w64 (by omega) (by omega)]
  have hnot:e[i]∉e.drop (i+1):=by
   intro hm
   obtain ⟨j,hj⟩:=List.getElem?_of_mem hm
   rw[List.getElem?_drop] at hj
   obtain ⟨hjl,hj⟩:=List.getElem?_eq_some_iff.1 hj
   exact List.pairwise_iff_getElem.1 hd i (i+1+j) hlt hjl (by omega) hj.symm
  obtain ⟨x3',g1,g2,g3⟩:=rv3 N hd he hr k n (i+1) (x3.set q (f q+1)) (fun m=>if m=(q:Int) then f m+1 else f m) (by omega) (by omega) (by rw[List.length_set];exact h1) (fun m hm=>by
   rw[List.getElem?_set]
   by_cases hmq:q=m
   ·subst hmq;simp[h1,hq64]
   ·rw[if_neg hmq,h2 m hm,if_neg (by omega)]) (fun m=>by have:=h3 m;split<;>omega)
  refine ⟨x3',by rw[hq];exact g1,g2,fun m hm=> ?_⟩
  rw[g3 m hm]
  congr 1
  by_cases hmq:(m:Int)=q
  ·rw[if_pos hmq,if_neg (by rw[hmq,←hq];exact hnot),if_pos (by rw[hmq,←hq];exact List.mem_cons_self)];omega
  ·rw[if_neg hmq]
   by_cases hm2:(m:Int)∈e.drop (i+1)
   ·rw[if_pos hm2,if_pos (List.mem_cons_of_mem _ hm2)]
   ·rw[if_neg hm2,if_neg (by simp only[List.mem_cons,not_or];exact ⟨by rw[hq];exact hmq,hm2⟩)]
theorem qe1 (N:Nat) (hN:100≤N) {l:List PlantElement} (hl:l.length≤96) (hnm:∀x∈l,x.name.length<N∧x.name.length≤9223372036854775807):∀(k n i:Nat) (x3:List Int),k<n→i+k=l.length→RInv l i x3→
  qm9 N l n x3 i=some (res (pC l) (qaA l) i (l.drop i))
 |k,0,i,x3,hn,_,_=>by omega
 |0,n+1,i,x3,hn,hi,hI=>by
  obtain rfl:i=l.length:=by omega
  rw[qm9,if_neg (dneg (by omega)),List.drop_length]
  rfl
 |k+1,n+1,i,x3,hn,hi,hI=>by
  have hlt:i<l.length:=by omega
  have hx:=qap hlt
  obtain ⟨q1,q2⟩:=hnm _ (List.getElem_mem hlt)
  rw[qm9,if_pos (dpos (by omega)),qo7 N hx (by omega) q1 q2,qbe hx,res,qaa]
  unfold pC
  by_cases hsd:qaP l[i]=true
  case neg=>
   simp only[Bool.not_eq_true] at hsd
   have hc:qaA l i l[i]=1:=by unfold qaA;rw[if_pos hsd]
   rw[hsd,hc];simp
  obtain ⟨e1,e2,e3,e4⟩:=qaE hsd
  rw[hsd]
  simp only[Bool.not_true,Bool.false_eq_true,if_false]
  rw[rv1 N hx (by omega) hl,qaa]
  by_cases hnm':((l.take i).any fun y=>y.name==l[i].name)=true
  ·have hc:qaA l i l[i]=8:=by unfold qaA;rw[if_neg (by rw[hsd];simp),if_pos hnm']
   rw[if_pos hnm',hc];simp
  ·have h3:=qa9 l[i]
   rw[if_neg hnm']
   simp only[]
   rw[qcB,qcM hx,qaa,rv2 N (by omega) hI h3 e2,qaa]
   by_cases g1:((qag l[i]).any fun a=>cnt (l.take i) a==2)=true
   ·have hc:qaA l i l[i]=17:=by unfold qaA;rw[if_neg (by rw[hsd];simp),if_neg hnm',if_pos g1]
    rw[if_pos g1,hc];simp
   ·have hc:qaA l i l[i]=0:=by unfold qaA;rw[if_neg (by rw[hsd];simp),if_neg hnm',if_neg g1]
    rw[if_neg g1,hc]
    simp only[bne_self_eq_false,Bool.false_eq_true,if_false]
    obtain ⟨x3',k1,k2,k3⟩:=rv3 N e1 h3 e2 (qag l[i]).length N 0 x3 (fun m=>cnt (l.take i) m) (by omega) (by omega) hI.len hI.ct (fun m=>by
     have h1:=qdB (l.take i) m
     have h2:=qxG (l.take i) m
     rw[List.length_take] at h2
     omega)
    have k1:qiZ N (qag l[i]) N x3 0=some x3':=k1
    rw[k1,qaa,qad,w64s (by omega)]
    refine qe1 N hN hl hnm k n (i+1) x3' (by omega) (by omega) ⟨k2,fun m hm=> ?_⟩
    rw[k3 m hm,qbf hx,qb9,List.drop_zero]
theorem qds (N:Nat) (hN:100≤N) {l:List PlantElement} (hnm:l.length≤96→∀x∈l,x.name.length<N∧x.name.length≤9223372036854775807):zbX N l=some (vErr l):=by
 unfold zbX vErr
 by_cases hl:96<l.length
 ·rw[if_pos (by simpa using by omega),if_pos hl]
 ·rw[if_neg (by simpa using by omega),if_neg hl]
  have h:=qe1 N hN (by omega) (hnm (by omega)) l.length N 0 (List.replicate 64 0) (by omega) (by omega) ⟨by simp,fun n hn=>by rw[List.getElem?_replicate,if_pos hn];simp[cnt]⟩
  simp only[Int.natCast_zero,List.drop_zero] at h
  rw[h,qaa]
  cases res (pC l) (qaA l) 0 l<;>rfl
structure PlOk (l:List PlantElement):Prop where
 len:l.length≤96
 snd:∀x∈l,qaP x=true
 nm:l.Pairwise fun x y=>x.name≠y.name
 ct:∀n,cnt l n≤2
theorem PlOk.err {l:List PlantElement} (h:PlOk l):vErr l=0:=by
 unfold vErr
 rw[if_neg (by have:=h.len;omega)]
 have:res (pC l) (qaA l) 0 l= .inl ():=by
  rw[qbX]
  intro j x hj
  rw[Nat.zero_add]
  have hjl:=(List.getElem?_eq_some_iff.1 hj).1
  have hc:qaA l j x=0:=by
   unfold qaA
   rw[if_neg (by rw[h.snd x (List.mem_of_getElem? hj)];simp),if_neg,if_neg]
   ·intro hh
    obtain ⟨n,hn,hn2⟩:=List.any_eq_true.1 hh
    have h2:cnt (l.take j) n=2:=by simpa using hn2
    have h3:=qb9 (l.take j) x n
    rw[if_pos hn,←qbf hj,h2] at h3
    have h4:cnt (l.take (j+1)) n≤cnt l n:=by
     unfold cnt
     have:=(List.take_sublist (j+1) l).filter (fun x=>(qag x).contains n)
     have:=this.length_le
     omega
    have:=h.ct n
    omega
   ·intro hh
    obtain ⟨y,hy,hyn⟩:=List.any_eq_true.1 hh
    obtain ⟨i,hi⟩:=List.getElem?_of_mem hy
    rw[List.getElem?_take] at hi
    split at hi
    ·rename_i hij
     obtain ⟨hil,hi⟩:=List.getElem?_eq_some_iff.1 hi
     obtain ⟨_,hj⟩:=List.getElem?_eq_some_iff.1 hj
     have:=List.pairwise_iff_getElem.1 h.nm i j hil hjl hij
     rw[hi,hj] at this
     exact this (by simpa using hyn)
    ·cases hi
  unfold pC
  rw[hc];rfl
 rw[this]
theorem PlOk.p (N:Nat) (hN:100≤N) {l:List PlantElement} (h:PlOk l):zbE N l=some 0:=by
 rw[qhG N hN,h.err]
theorem PlOk.r (N:Nat) (hN:100≤N) {l:List PlantElement} (h:PlOk l):zbX N l=some 0:=by
 rw[qds N hN fun _ x hx=>by
  have h1:=(qaE (h.snd x hx)).2.2.2
  unfold pnOk at h1
  simp only[Bool.and_eq_true,decide_eq_true_eq] at h1
  omega,h.err]
end Go.W
end
section
set_option linter.unusedVariables false
set_option linter.unusedSimpArgs false
namespace Go.W
open Go.AM
theorem qcQ {l:List PlantElement} {n:Int} {a b:Nat} (h:a≤b):cnt (l.take a) n≤cnt (l.take b) n:=by
 unfold cnt
 have h1:l.take a=(l.take b).take a:=by rw[List.take_take];congr 1;omega
 rw[h1]
 have:=((List.take_sublist a (l.take b)).filter (fun x=>(qag x).contains n)).length_le
 omega
theorem qfW {l:List PlantElement} {n:Int} {i:Nat} {x:PlantElement} (h:l[i]? =some x) (hn:n∈qag x):cnt (l.take (i+1)) n=cnt (l.take i) n+1:=by
 rw[qbf h,qb9,if_pos hn]
theorem qzP {l:List PlantElement} {n:Int} {a:Nat}:cnt (l.take a) n≤cnt l n:=by
 have:=qcQ (l:=l) (n:=n) (Nat.le_max_left a l.length)
 rw[List.take_of_length_le (Nat.le_max_right _ _)] at this
 exact this
theorem cnt3 {l:List PlantElement} {n:Int} {i j k:Nat} {x y z:PlantElement} (hx:l[i]? =some x) (hy:l[j]? =some y) (hz:l[k]? =some z) (h1:n∈qag x) (h2:n∈qag y) (h3:n∈qag z) (hij:i<j) (hjk:j<k):3≤cnt l n:=by
 have a1:=qfW hx h1
 have a2:=qfW hy h2
 have a3:=qfW hz h3
 have b1:=qcQ (l:=l) (n:=n) (show i+1≤j by omega)
 have b2:=qcQ (l:=l) (n:=n) (show j+1≤k by omega)
 have b3:=qzP (l:=l) (n:=n) (a:=k+1)
 have b4:=qdB (l.take i) n
 omega
theorem PlOk.of {l:List PlantElement} (h:vErr l=0):PlOk l:=by
 unfold vErr at h
 split at h
 ·cases h
 rename_i hl
 have hres:res (pC l) (qaA l) 0 l= .inl ():=by
  cases hr:res (pC l) (qaA l) 0 l with
  |inl u=>rfl
  |inr c=>
   rw[hr] at h
   simp only at h
   have key:∀(e:List PlantElement) (i:Nat) (c:Int),res (pC l) (qaA l) i e= .inr c→c≠0:=by
    intro e
    induction e with
    |nil=>intro i c h;cases h
    |cons y e ih=>
     intro i c h
     rw[res] at h
     split at h
     ·rename_i hp
      cases h
      unfold pC at hp
      simpa using hp
     ·exact ih _ _ h
   exact absurd h (key _ _ _ hr)
 have hc:∀(j:Nat) (x:PlantElement),l[j]? =some x→qaA l j x=0:=fun j x hj=>by
  have:=(qbX.1 hres) j x hj
  rw[Nat.zero_add] at this
  unfold pC at this
  simpa using this
 have h3:∀(j:Nat) (x:PlantElement),l[j]? =some x→qaP x=true∧((l.take j).any fun y=>y.name==x.name)=false∧((qag x).any fun n=>cnt (l.take j) n==2)=false:=fun j x hj=>by
  have:=hc j x hj
  unfold qaA at this
  split at this
  ·cases this
  ·rename_i a
   split at this
   ·cases this
   ·rename_i b
    split at this
    ·cases this
    ·rename_i c
     exact ⟨by simpa using a,by simpa using b,by simpa using c⟩
 refine ⟨by omega,fun x hx=> ?_, ?_,fun n=> ?_⟩
 ·obtain ⟨j,hj⟩:=List.getElem?_of_mem hx
  exact (h3 j x hj).1
 ·rw[List.pairwise_iff_getElem]
  intro i j hi hj hij hne
  have hb:=(h3 j _ (qap hj)).2.1
  rw[List.any_eq_false] at hb
  have hm:l[i]∈l.take j:=by
   refine List.mem_of_getElem? (i:=i) ?_
   rw[List.getElem?_take,if_pos hij]
   exact qap hi
  exact hb _ hm (by simpa using hne)
 ·have key:∀(i:Nat),i≤l.length→cnt (l.take i) n≤2:=by
   intro i
   induction i with
   |zero=>intro _;simp[cnt]
   |succ i ih=>
    intro hi
    have hx:=qap (xs:=l) (i:=i) (by omega)
    rw[qbf hx,qb9]
    have:=ih (by omega)
    split
    ·rename_i hm
     have hb:=(h3 i _ hx).2.2
     rw[List.any_eq_false] at hb
     have:=hb n hm
     simp at this
     omega
    ·omega
  have:=key l.length (Nat.le_refl _)
  rw[List.take_length] at this
  exact this
theorem PlOk.two {l:List PlantElement} (h:PlOk l) {n:Int} {i j k:Nat} {x y z:PlantElement} (hx:l[i]? =some x) (hy:l[j]? =some y) (hz:l[k]? =some z) (h1:n∈qag x) (h2:n∈qag y) (h3:n∈qag z):i=j∨j=k∨i=k:=by
 have hc:=h.ct n
 rcases Nat.lt_trichotomy i j with a|a|a
 ·rcases Nat.lt_trichotomy j k with b|b|b
  ·have:=cnt3 hx hy hz h1 h2 h3 a b;omega
  ·exact .inr (.inl b)
  ·rcases Nat.lt_trichotomy i k with c|c|c
   ·have:=cnt3 hx hz hy h1 h3 h2 c b;omega
   ·exact .inr (.inr c)
   ·have:=cnt3 hz hx hy h3 h1 h2 c a;omega
 ·exact .inl a
 ·rcases Nat.lt_trichotomy i k with b|b|b
  ·have:=cnt3 hy hx hz h2 h1 h3 a b;omega
  ·exact .inr (.inr b)
  ·rcases Nat.lt_trichotomy j k with c|c|c
   ·have:=cnt3 hy hz hx h2 h3 h1 c b;omega
   ·exact .inr (.inl c)
   ·have:=cnt3 hz hy hx h3 h2 h1 c a;omega
theorem qeo (l:List PlantElement) (i n:Int):(nbr l i n= -1∧∀(j:Nat) (x:PlantElement),l[j]? =some x→(j:Int)≠i→n∉qag x)∨
  ∃(j:Nat) (x:PlantElement),nbr l i n=(j:Int)∧l[j]? =some x∧(j:Int)≠i∧n∈qag x:=by
 rcases qeF (nbrB i n) l 0 with ⟨h1,h2⟩|⟨j,x,h1,h2,h3,_⟩
 ·refine .inl ⟨h1,fun j x hj hji hn=> ?_⟩
  have:=h2 j x hj
  rw[Nat.zero_add] at this
  unfold nbrB at this
  have e1:((j:Int) !=i)=true:=by simpa using hji
  rw[e1] at this
  simp[hn] at this
 ·rw[Nat.zero_add] at h1 h3
  unfold nbrB at h3
  simp only[Bool.and_eq_true,bne_iff_ne,ne_eq] at h3
  exact .inr ⟨j,x,h1,h2,h3.1,by simpa using h3.2⟩
theorem qir {l:List PlantElement} {i n:Int} (h:0≤nbr l i n):n∈eI l (nbr l i n)∧nbr l i n≠i:=by
 rcases qeo l i n with ⟨h1,_⟩|⟨j,x,h1,h2,h3,h4⟩
 ·omega
 ·rw[h1,qcM h2];exact ⟨h4,h3⟩
theorem PlOk.nbr_sym {l:List PlantElement} (h:PlOk l) {i n:Int} (hn:n∈eI l i) (hk:0≤nbr l i n):nbr l (nbr l i n) n=i:=by
 obtain ⟨h0,h1,x,hx,hxn⟩:=qd2 hn
 obtain ⟨a,rfl⟩:=Int.eq_ofNat_of_zero_le h0
 rw[Int.toNat_natCast] at hx
 rcases qeo l (a:Int) n with ⟨g1,_⟩|⟨j,y,g1,g2,g3,g4⟩
 ·omega
 ·rw[g1]
  rcases qeo l (j:Int) n with ⟨k1,k2⟩|⟨c,z,k1,k2,k3,k4⟩
  ·exact absurd hxn (k2 a x hx (by omega))
  ·rw[k1]
   rcases h.two hx g2 k2 hxn g4 k4 with e|e|e
   ·omega
   ·omega
   ·omega
theorem PlOk.nodup {l:List PlantElement} (h:PlOk l) (i:Int):(eI l i).Nodup:=by
 unfold eI
 split
 ·split
  ·rename_i x hx
   exact (qaE (h.snd x (List.mem_of_getElem? hx))).1
  ·exact List.nodup_nil
 ·exact List.nodup_nil
theorem qmo {e:List Int} {n m:Int} (h:m∈thrE e n):n∈e∧m∈e:=by
 unfold thrE at h
 split at h
 ·rename_i hc
  refine ⟨by simpa using hc, ?_⟩
  split at h
  ·exact List.mem_of_mem_tail h
  ·exact List.mem_of_mem_take h
 ·simp at h
theorem qpm {l:List PlantElement} {i n m:Int} (h:m∈thr l i n):n∈eI l i∧m∈eI l i:=qmo h
theorem qdV (l:List PlantElement) (i n:Int):(thr l i n).length≤3:=by
 have:=qd1 l i
 unfold thr thrE
 split
 ·split
  ·rw[List.length_tail];omega
  ·rw[List.length_take];omega
 ·simp
end Go.W
end
section
set_option linter.unusedVariables false
set_option linter.unusedSimpArgs false
namespace Go.W
open Go.AM
def qci (i:Nat):List UInt8:=[112,UInt8.ofNat (48+i / 10%10),UInt8.ofNat (48+i%10)]
theorem qiP {n:Nat} (h:n<256):toU8 (n:Int)=some (UInt8.ofNat n):=by
 unfold toU8
 rw[if_pos (by omega)]
 simp
theorem qgO (N:Nat) {i:Nat} (h:i<1000):zbB N (i:Int)=some (qci i):=by
 unfold zbB qci
 have e1:IntKind.wrap .i64 (Int.tdiv (i:Int) 10)=((i / 10:Nat):Int):=by rw[Int.tdiv_eq_ediv_of_nonneg (by omega),w64 (by omega) (by omega)];omega
 have e2:Int.tmod ((i / 10:Nat):Int) 10=((i / 10%10:Nat):Int):=by rw[Int.tmod_eq_emod_of_nonneg (by omega)];omega
 have e3:Int.tmod (i:Int) 10=((i%10:Nat):Int):=by rw[Int.tmod_eq_emod_of_nonneg (by omega)];omega
 rw[e1,e2,e3,w64 (by omega) (by omega),w64 (by omega) (by omega),w8 (by omega) (by omega),w8 (by omega) (by omega)]
 have f1:=qiP (n:=112) (by omega)
 have f2:=qiP (n:=48+i / 10%10) (by omega)
 have f3:=qiP (n:=48+i%10) (by omega)
 rw[show ((48:Int)+((i / 10%10:Nat):Int))=((48+i / 10%10:Nat):Int) by omega,show ((48:Int)+((i%10:Nat):Int))=((48+i%10:Nat):Int) by omega,f2,f3]
 have f1:toU8 112=some (UInt8.ofNat 112):=f1
 rw[f1]
 rfl
theorem qol {i j:Nat} (hi:i<100) (hj:j<100) (h:qci i=qci j):i=j:=by
 unfold qci at h
 simp only[List.cons.injEq,and_true,true_and] at h
 have a1:=congrArg UInt8.toNat h.1
 have a2:=congrArg UInt8.toNat h.2
 simp only[UInt8.toNat_ofNat'] at a1 a2
 omega
theorem qgn (i:Nat):pnOk (qci i)=true:=by
 have key:∀d:Nat,d<10→pnCh (UInt8.ofNat (48+d))=true:=by
  intro d hd
  unfold pnCh
  rw[UInt8.toNat_ofNat']
  simp
  omega
 unfold pnOk qci
 simp only[List.all_cons,List.all_nil,key (i / 10%10) (by omega),key (i%10) (by omega)]
 rfl
structure PlI (l:List PlantElement) (op:List Int) (nx:Int):Prop where
 snd:∀x∈l,qaP x=true
 nm:∀(i:Nat) (x:PlantElement),l[i]? =some x→x.name=qci i
 ct:∀n,cnt l n≤2
 op1:∀n∈op,cnt l n≤1
 nd:op.Nodup
 rg:∀n∈op,0≤n∧n<nx
 nw:∀n,nx≤n→cnt l n=0
 ln:(op.length:Int)≤nx
 nx64:nx≤64
 nx0:0≤nx
 fst:∃x,l[0]? =some x∧x.kind=1
theorem PlI.add {l:List PlantElement} {op op':List Int} {nx nx':Int} {x:PlantElement} (h:PlI l op nx) (hs:qaP x=true) (hn:x.name=qci l.length) (h1:∀n∈qag x,n∈op∨(nx≤n∧n<nx')) (h2:∀n∈op',(n∈op∧n∉qag x)∨(nx≤n∧n<nx'))
  (h3:op'.Nodup) (h4:nx≤nx') (h5:nx'≤64) (h6:(op'.length:Int)≤nx'):PlI (l++[x]) op' nx' where
 snd:=fun y hy=>by
  rcases List.mem_append.1 hy with hy|hy
  ·exact h.snd y hy
  ·simp at hy;subst hy;exact hs
 nm:=fun i y hy=>by
  by_cases hi:i<l.length
  ·rw[List.getElem?_append_left hi] at hy;exact h.nm i y hy
  ·rw[List.getElem?_append_right (by omega)] at hy
   have hi2:=(List.getElem?_eq_some_iff.1 hy).1
   simp at hi2
   have:i=l.length:=by omega
   subst this
   simp at hy;subst hy;exact hn
 ct:=fun n=>by
  rw[qb9]
  have a:=h.ct n
  split
  ·rename_i hm
   rcases h1 n hm with hm|⟨hm,_⟩
   ·have:=h.op1 n hm;omega
   ·have:=h.nw n hm;omega
  ·omega
 op1:=fun n hm=>by
  rw[qb9]
  rcases h2 n hm with ⟨a,b⟩|⟨a,b⟩
  ·have:=h.op1 n a;rw[if_neg b];omega
  ·have:=h.nw n a;split<;>omega
 nd:=h3
 rg:=fun n hm=>by
  rcases h2 n hm with ⟨a,b⟩|⟨a,b⟩
  ·have:=h.rg n a;omega
  ·have:=h.nx0;omega
 nw:=fun n hm=>by
  rw[qb9,if_neg,h.nw n (by omega)]
  ·rfl
  ·intro hh
   rcases h1 n hh with a|a
   ·have:=h.rg n a;omega
   ·omega
 ln:=h6
 nx64:=h5
 nx0:=by have:=h.nx0;omega
 fst:=by
  obtain ⟨y,hy,hk⟩:=h.fst
  exact ⟨y,by rw[List.getElem?_append_left (List.getElem?_eq_some_iff.1 hy).1];exact hy,hk⟩
theorem PlI.ok {l:List PlantElement} {op:List Int} {nx:Int} (h:PlI l op nx) (hl:l.length≤96):PlOk l where
 len:=hl
 snd:=h.snd
 nm:=List.pairwise_iff_getElem.2 fun i j hi hj hij hh=>by
  rw[h.nm i _ (qap hi),h.nm j _ (qap hj)] at hh
  have:=qol (by omega) (by omega) hh
  omega
 ct:=h.ct
theorem qct {m:List UInt8} {a b len:Int} (hm:pnOk m=true) (ha:0≤a∧a<64) (hb:0≤b∧b<64) (hab:a≠b) (hl:1≤len∧len≤100000):qaP (PlantElement.mk 1 m a b 0 len)=true:=by
 have he:okE [a,b]=true:=qgq.2 ⟨by simp[hab],by simp;omega⟩
 unfold qaP
 have:qag (PlantElement.mk 1 m a b 0 len)=[a,b]:=by simp[qag]
 rw[this]
 simp[hm,he,hl]
theorem qmX {m:List UInt8} {a b:Int} (hm:pnOk m=true) (ha:0≤a∧a<64) (hb:0≤b∧b<64) (hab:a≠b):qaP (PlantElement.mk 3 m a b 0 0)=true:=by
 have he:okE [a,b]=true:=qgq.2 ⟨by simp[hab],by simp;omega⟩
 unfold qaP
 have:qag (PlantElement.mk 3 m a b 0 0)=[a,b]:=by simp[qag]
 rw[this]
 simp[hm,he]
theorem qfH {m:List UInt8} {a b c:Int} (hm:pnOk m=true) (ha:0≤a∧a<64) (hb:0≤b∧b<64) (hc:0≤c∧c<64) (hab:a≠b) (hac:a≠c) (hbc:b≠c):qaP (PlantElement.mk 2 m a b c 0)=true:=by
 have he:okE [a,b,c]=true:=qgq.2 ⟨by simp[hab,hac,hbc],by simp;omega⟩
 unfold qaP
 have:qag (PlantElement.mk 2 m a b c 0)=[a,b,c]:=by simp[qag]
 rw[this]
 simp[hm,he]
theorem qmn {op:List Int} {r:Nat} {a:Int} (ha:op[r]? =some a) (hd:op.Nodup):a∉op.take r++op.drop (r+1)∧(∀n∈op.take r++op.drop (r+1),n∈op)∧(op.take r++op.drop (r+1)).Nodup∧(op.take r++op.drop (r+1)).length+1=op.length:=by
 have hr:=(List.getElem?_eq_some_iff.1 ha).1
 have hsplit:op=op.take r++a::op.drop (r+1):=by
  conv=>lhs;rw[←List.take_append_drop r op,qbe ha]
 have hd':=hd
 rw[hsplit,List.nodup_append] at hd'
 obtain ⟨d1,d2,d3⟩:=hd'
 have d2':=List.nodup_cons.1 d2
 refine ⟨?_, ?_, ?_, ?_⟩
 ·intro hm
  rcases List.mem_append.1 hm with hm|hm
  ·exact d3 a hm a List.mem_cons_self rfl
  ·exact d2'.1 hm
 ·intro n hn
  rcases List.mem_append.1 hn with hn|hn
  ·exact List.mem_of_mem_take hn
  ·exact List.mem_of_mem_drop hn
 ·rw[List.nodup_append]
  exact ⟨d1,d2'.2,fun x hx y hy=>d3 x hx y (List.mem_cons_of_mem _ hy)⟩
 ·rw[List.length_append,List.length_take,List.length_drop];omega
theorem pl4 (N:Nat) (k:Int) (b:Bool):quB N k b=some (b||(k==1)):=by
 unfold quB
 cases b<;>simp[qad]
theorem qAI (N:Nat) {c:Int} {s:Maker} {l:List PlantElement} {op:List Int} {nx:Int} {r:Nat} {a:Int} {k:Int} (hI:PlI l op nx) (hl:l.length<96) (hs:Mk c s) (hc:c≤1000000) (hnx:nx<62) (ha:op[r]? =some a) (hk0:0≤k) (hk:k<6):
  ∃s' op' nx' x,quA N s (op.take r++op.drop (r+1)) nx a (PlantElement.mk 0 (qci l.length) 0 0 0 0) k=some (s',op',nx',x)∧Mk (c+5) s'∧PlI (l++[x]) op' nx':=by
 obtain ⟨t1,t2,t3,t4⟩:=qmn ha hI.nd
 generalize hop:op.take r++op.drop (r+1)=q at*
 have hnm:=qgn l.length
 have ham:=List.mem_of_getElem? ha
 obtain ⟨a0,a1⟩:=hI.rg a ham
 have hq:(q.length:Int)+1≤nx:=by have:=hI.ln;omega
 have hnx0:=hI.nx0
 have fresh:∀n∈q,n<nx:=fun n hn=>(hI.rg n (t2 n hn)).2
 have f1:nx∉q:=fun h=>by have:=fresh _ h;omega
 have f2:nx+1∉q:=fun h=>by have:=fresh _ h;omega
 have w1:IntKind.wrap .i64 (nx+1)=nx+1:=w64 (by omega) (by omega)
 have w2:IntKind.wrap .i64 (nx+2)=nx+2:=w64 (by omega) (by omega)
 have nd1:(q++[nx]).Nodup:=by
  rw[List.nodup_append]
  exact ⟨t3,by simp,fun x hx y hy=>by simp at hy;subst hy;exact fun hh=>f1 (hh▸hx)⟩
 have nd2:(q++[nx,nx+1]).Nodup:=by
  rw[List.nodup_append]
  refine ⟨t3,by simp;omega,fun x hx y hy=> ?_⟩
  simp at hy
  rcases hy with rfl|rfl
  ·exact fun hh=>f1 (hh▸hx)
  ·exact fun hh=>f2 (hh▸hx)
 have ap1:appI q [nx]=some (q++[nx]):=qaF (by simp;omega)
 have ap2:appI q [nx,nx+1]=some (q++[nx,nx+1]):=qaF (by simp;omega)
 have old:∀n∈q,n∈op∧n≠a:=fun n hn=>⟨t2 n hn,fun hh=>t1 (hh▸hn)⟩
 have hMk:Mk (c+5) s:=hs.le (by omega)
 unfold quA
 simp only[qad,pl4,qaa,w1,w2,ap1,ap2]
 by_cases k01:k=0∨k=1
 ·have hb:((k==0)||(k==1))=true:=by simpa using k01
  rw[if_pos hb]
  refine ⟨s,_,_,_,rfl,hMk,hI.add (qfH hnm ⟨a0,by omega⟩ ⟨hnx0,by omega⟩ ⟨by omega,by omega⟩ (by omega) (by omega) (by omega)) rfl ?_ ?_ nd2 (by omega) (by omega) (by simp;omega)⟩
  ·intro n hn
   simp[qag] at hn
   rcases hn with rfl|rfl|rfl
   ·exact .inl ham
   ·exact .inr (by omega)
   ·exact .inr (by omega)
  ·intro n hn
   rcases List.mem_append.1 hn with hn|hn
   ·obtain ⟨o1,o2⟩:=old n hn
    have:=fresh n hn
    refine .inl ⟨o1, ?_⟩
    simp[qag];omega
   ·simp at hn;right;omega
 ·have hb:((k==0)||(k==1))=false:=by simp;omega
  rw[if_neg (by rw[hb];simp)]
  by_cases k2:k=2
  ·rw[if_pos (by simpa using k2)]
   refine ⟨s,_,_,_,rfl,hMk,hI.add (qfH hnm ⟨hnx0,by omega⟩ ⟨a0,by omega⟩ ⟨by omega,by omega⟩ (by omega) (by omega) (by omega)) rfl ?_ ?_ nd2 (by omega) (by omega) (by simp;omega)⟩
   ·intro n hn
    simp[qag] at hn
    rcases hn with rfl|rfl|rfl
    ·exact .inr (by omega)
    ·exact .inl ham
    ·exact .inr (by omega)
   ·intro n hn
    rcases List.mem_append.1 hn with hn|hn
    ·obtain ⟨o1,o2⟩:=old n hn
     have:=fresh n hn
     refine .inl ⟨o1, ?_⟩
     simp[qag];omega
    ·simp at hn;right;omega
  ·rw[if_neg (by simpa using k2)]
   by_cases k3:k=3
   ·rw[if_pos (by simpa using k3)]
    refine ⟨s,_,_,_,rfl,hMk,hI.add (qmX hnm ⟨a0,by omega⟩ ⟨hnx0,by omega⟩ (by omega)) rfl ?_ ?_ nd1 (by omega) (by omega) (by simp;omega)⟩
    ·intro n hn
     simp[qag] at hn
     rcases hn with rfl|rfl
     ·exact .inl ham
     ·exact .inr (by omega)
    ·intro n hn
     rcases List.mem_append.1 hn with hn|hn
     ·obtain ⟨o1,o2⟩:=old n hn
      have:=fresh n hn
      refine .inl ⟨o1, ?_⟩
      simp[qag];omega
     ·simp at hn;right;omega
   ·rw[if_neg (by simpa using k3)]
    obtain ⟨len,s1,g1,g2,g3⟩:=qiA N (s:=s) (c:=c) [1,300,100000] (by simp) (by simp) hs (by omega)
    have hlen:1≤len∧len≤100000:=by simp at g2;omega
    rw[g1,qaa]
    unfold qBk
    obtain ⟨y,s2,h1,h2,h3,h4⟩:=qa0 N (s:=s1) (c:=c+1) 3 (by omega) (by omega) g3 (by omega)
    simp only[h1,qaa]
    by_cases hy:y=0∧0<q.length
    ·obtain ⟨hy,hq0⟩:=hy
     rw[if_pos (by simpa using hy),qaa,if_pos (dpos (by omega))]
     obtain ⟨p,hp⟩:∃p,q.length=p+1:=⟨q.length - 1,by omega⟩
     have hw:IntKind.wrap .i64 ((q.length:Int) - 1)=(p:Int):=by rw[w64 (by omega) (by omega)];omega
     have hpl:p<q.length:=by omega
     rw[hw,qae (qap hpl)]
     simp only[qaa]
     rw[qbF (by omega),qaa]
     have hbm:=List.getElem_mem hpl
     obtain ⟨b0,b1⟩:=old _ hbm
     obtain ⟨r0,r1⟩:=hI.rg _ b0
     have hqs:q=q.take p++[q[p]]:=by
      conv=>lhs;rw[←List.take_append_drop p q,qbe (qap hpl)]
      rw[List.drop_of_length_le (by omega)]
     have hnot:q[p]∉q.take p:=by
      intro hh
      have hd:=t3
      rw[hqs,List.nodup_append] at hd
      exact hd.2.2 _ hh q[p] (by simp) rfl
     refine ⟨s2,_,_,_,rfl,h4.le (by omega),hI.add (qct hnm ⟨a0,by omega⟩ ⟨r0,by omega⟩ (fun hh=>b1 hh.symm) hlen) rfl ?_ ?_ (t3.sublist (List.take_sublist p q)) (by omega) (by omega) (by rw[List.length_take];omega)⟩
     ·intro n hn
      simp[qag] at hn
      rcases hn with rfl|rfl
      ·exact .inl ham
      ·exact .inl b0
     ·intro n hn
      obtain ⟨o1,o2⟩:=old n (List.mem_of_mem_take hn)
      refine .inl ⟨o1, ?_⟩
      simp[qag]
      exact ⟨o2,fun hh=>hnot (hh▸hn)⟩
    ·have hgo:∀{β:Type} (f:Maker×Bool→Option β),(Option.bind (if (y==0)=true then some (s2,decide (0<(q.length:Int))) else some (s2,false)) f)=f (s2,false):=by
      intro β f
      by_cases h0:y=0
      ·rw[if_pos (by simpa using h0),qaa]
       have h00:¬0<q.length:=fun h=>hy ⟨h0,h⟩
       have:decide (0<(q.length:Int))=false:=by rw[decide_eq_false_iff_not];omega
       rw[this]
      ·rw[if_neg (by simpa using h0),qaa]
     rw[hgo]
     simp only[Bool.false_eq_true,if_false]
     obtain ⟨y2,s3,i1,i2,i3,i4⟩:=qa0 N (s:=s2) (c:=c+1+1) 2 (by omega) (by omega) h4 (by omega)
     rw[i1,qaa]
     have hend:∀n∈qag (PlantElement.mk 1 (qci l.length) a nx 0 len),n∈op∨(nx≤n∧n<nx+1):=by
      intro n hn
      simp[qag] at hn
      rcases hn with rfl|rfl
      ·exact .inl ham
      ·exact .inr (by omega)
     have hold:∀n∈q,n∈op∧n∉qag (PlantElement.mk 1 (qci l.length) a nx 0 len):=by
      intro n hn
      obtain ⟨o1,o2⟩:=old n hn
      have:=fresh n hn
      refine ⟨o1, ?_⟩
      simp[qag];omega
     by_cases hy2:y2=0
     ·rw[if_pos (by simpa using hy2)]
      refine ⟨s3,_,_,_,rfl,i4.le (by omega),hI.add (qct hnm ⟨a0,by omega⟩ ⟨hnx0,by omega⟩ (by omega) hlen) rfl hend ?_ nd1 (by omega) (by omega) (by simp;omega)⟩
      intro n hn
      rcases List.mem_append.1 hn with hn|hn
      ·exact .inl (hold n hn)
      ·simp at hn;right;omega
     ·rw[if_neg (by simpa using hy2)]
      exact ⟨s3,_,_,_,rfl,i4.le (by omega),hI.add (qct hnm ⟨a0,by omega⟩ ⟨hnx0,by omega⟩ (by omega) hlen) rfl hend (fun n hn=> .inl (hold n hn)) t3 (by omega) (by omega) (by omega)⟩
theorem pl2 (N:Nat) (k:Int) (l:List PlantElement) (op:List Int) (nx:Int):quz N k l op nx=some (decide ((l.length:Int)<k∧0<op.length∧nx<62)):=by
 unfold quz
 by_cases h1:(l.length:Int)<k
 ·rw[if_pos (dpos h1)]
  by_cases h2:0<op.length
  ·rw[if_pos (dpos (by omega))];simp[h1,h2]
  ·rw[if_neg (dneg (by omega))];simp[h2]
 ·rw[if_neg (dneg h1)];simp[h1]
theorem ql9 (N:Nat) {b:Int} (hb0:0≤b) (hb:b≤900000) {k:Int} (hk:k≤60):∀(f n:Nat) (c:Int) (s:Maker) (l:List PlantElement) (op:List Int) (nx:Int),f<n→k≤(l.length:Int)+f→(l.length:Int)≤61→c≤b+10000→(l.length:Int)*100+c≤b+9000+(l.length:Int)*107→Mk c s→PlI l op nx→
  ∃s' l' op' nx',qrY N k n s l op nx=some (s',l',op',nx')∧Mk (b+20000) s'∧(l'.length:Int)≤61∧PlI l' op' nx'
 |f,0,c,s,l,op,nx,hn,_,_,_,_,_,_=>by omega
 |f,n+1,c,s,l,op,nx,hn,hf,hl,hc,hc2,hs,hI=>by
  rw[qrY,pl2,qaa]
  by_cases hcond:(l.length:Int)<k∧0<op.length∧nx<62
  ·rw[decide_eq_true hcond,if_pos rfl]
   obtain ⟨c1,c2,c3⟩:=hcond
   have hol:=hI.ln
   obtain ⟨r,s1,h1,h2,h3,h4⟩:=qa0 N (s:=s) (c:=c) (op.length:Int) (by omega) (by omega) hs (by omega)
   obtain ⟨q,rfl⟩:=Int.eq_ofNat_of_zero_le h2
   have hq:q<op.length:=by omega
   have ha:=qap hq
   rw[h1,qaa]
   simp only[]
   rw[qae ha,qaa,qaa,qbF (by omega),qaa,w64s (by omega),qcb (by omega),qaa]
   have e1:List.take (Int.toNat (op.length:Int)) op=op:=by rw[Int.toNat_natCast,List.take_length]
   rw[e1,Int.toNat_natCast,Int.toNat_natCast,qaF (by rw[List.length_take,List.length_drop];omega),qaa,qgO N (by omega),qaa]
   obtain ⟨kd,s2,g1,g2,g3,g4⟩:=qa0 N (s:=s1) (c:=c+1) 6 (by omega) (by omega) h4 (by omega)
   rw[g1,qaa]
   simp only[]
   obtain ⟨s3,op',nx',x,p1,p2,p3⟩:=qAI N (c:=c+1+1) hI (by omega) g4 (by omega) c3 ha g2 g3
   rw[p1,qaa]
   simp only[]
   rw[qaF (by simp;omega),qaa]
   cases f with
   |zero=>omega
   |succ f=>
    exact ql9 N hb0 hb hk f n (c+7) s3 (l++[x]) op' nx' (by omega) (by simp;omega) (by simp;omega) (by simp at*;omega) (by simp;omega) (p2.le (by omega)) p3
  ·rw[decide_eq_false hcond,if_neg (by simp)]
   exact ⟨s,l,op,nx,rfl,hs.le (by omega),hl,hI⟩
theorem pl7 (N:Nat) (l:List PlantElement) (op:List Int) (nx:Int):quC N l op nx=some (decide (0<op.length∧l.length<96∧nx<64)):=by
 unfold quC
 by_cases h1:0<op.length
 ·rw[if_pos (dpos (by omega))]
  by_cases h2:l.length<96
  ·rw[if_pos (dpos (by omega))];simp[h1,h2]
  ·rw[if_neg (dneg (by omega))];simp[h2]
 ·rw[if_neg (dneg (by omega))];simp[h1]
theorem qgw (N:Nat) {b:Int} (hb0:0≤b) (hb:b≤900000):∀(f n:Nat) (c:Int) (s:Maker) (l:List PlantElement) (op:List Int) (nx:Int),f<n→op.length≤f→l.length≤96→c+op.length≤b+30000→Mk c s→PlI l op nx→
  ∃s' l',qrZ N n s l op nx=some (s',l')∧Mk (b+30000) s'∧l'.length≤96∧∃op' nx',PlI l' op' nx'
 |f,0,c,s,l,op,nx,hn,_,_,_,_,_=>by omega
 |f,n+1,c,s,l,op,nx,hn,hf,hl,hc,hs,hI=>by
  rw[qrZ,pl7,qaa]
  by_cases hcond:0<op.length∧l.length<96∧nx<64
  ·rw[decide_eq_true hcond,if_pos rfl]
   obtain ⟨c1,c2,c3⟩:=hcond
   obtain ⟨r,s1,h1,h2,h3,h4⟩:=qa0 N (s:=s) (c:=c) 5 (by omega) (by omega) hs (by omega)
   rw[h1,qaa]
   simp only[]
   have ha:=qap c1
   have hnx0:=hI.nx0
   obtain ⟨t1,t2,t3,t4⟩:=qmn ha hI.nd
   rw[List.take_zero,List.nil_append] at t1 t2 t3 t4
   have hcut:cutI op 1 (op.length:Int)=some (op.drop 1):=qcb (i:=1) (by omega)
   obtain ⟨a0,a1⟩:=hI.rg _ (List.getElem_mem c1)
   have hln:=hI.ln
   have fresh:∀n∈op.drop 1,n<nx:=fun n hn=>(hI.rg n (t2 n hn)).2
   cases f with
   |zero=>omega
   |succ f=>
    unfold qBl
    by_cases hr:0<r
    ·rw[if_pos (dpos hr),qgO N (by omega),qaa]
     have hg:getI op 0=some op[0]:=qae ha
     rw[hg,qaa,qaa,qaF (by simp;omega),qaa,qad,w64 (by omega) (by omega),qaa,hcut,qaa]
     refine qgw N hb0 hb f n (c+1) s1 _ _ _ (by omega) (by rw[List.length_drop];omega) (by simp;omega) (by rw[List.length_drop];omega) h4 (hI.add (qct (qgn _) ⟨a0,by omega⟩ ⟨hnx0,by omega⟩ (by omega) (by omega)) rfl ?_ ?_ t3 (by omega) (by omega) (by rw[List.length_drop];omega))
     ·intro n hn
      simp[qag] at hn
      rcases hn with rfl|rfl
      ·exact .inl (List.getElem_mem c1)
      ·exact .inr (by omega)
     ·intro n hn
      have:=fresh n hn
      refine .inl ⟨t2 n hn, ?_⟩
      simp[qag]
      exact ⟨fun hh=>t1 (hh▸hn),by omega⟩
    ·rw[if_neg (dneg hr),qaa,hcut,qaa]
     refine qgw N hb0 hb f n (c+1) s1 _ _ _ (by omega) (by rw[List.length_drop];omega) hl (by rw[List.length_drop];omega) h4 ?_
     exact {hI with op1:=fun n hn=>hI.op1 n (t2 n hn),nd:=t3,rg:=fun n hn=>hI.rg n (t2 n hn),ln:=by rw[List.length_drop];omega}
  ·rw[decide_eq_false hcond,if_neg (by simp)]
   exact ⟨s,l,rfl,hs.le (by omega),hl,op,nx,hI⟩
structure MadeP (l:List PlantElement):Prop where
 ok:PlOk l
 fst:∃x,l[0]? =some x∧x.kind=1
theorem qt0 (N:Nat) (hN:200≤N) {b:Int} (hb0:0≤b) (hb:b≤900000) {s:Maker} (hs:Mk b s) {k:Int} (hk:k≤60):∃l s',zaV N s k=some (l,s')∧Mk (b+30000) s'∧MadeP l:=by
 unfold zaV
 have hnm:zbB N 0=some (qci 0):=qgO N (i:=0) (by omega)
 obtain ⟨y,s1,h1,h2,h3,h4⟩:=qa0 N (s:=s) (c:=b) 2 (by omega) (by omega) hs (by omega)
 rw[hnm,qaa,h1,qaa]
 simp only[]
 have hct:∀n,cnt [PlantElement.mk 1 (qci 0) 0 1 0 500] n=if n=0∨n=1 then 1 else 0:=by
  intro n
  unfold cnt
  have:(qag (PlantElement.mk 1 (qci 0) 0 1 0 500))=[0,1]:=by simp[qag]
  rw[List.filter_cons,this]
  by_cases hn:n=0∨n=1
  ·rw[if_pos (by simpa using hn),if_pos hn];rfl
  ·rw[if_neg (by simpa using hn),if_neg hn];rfl
 have h0:∀op:List Int,(∀n∈op,n=0∨n=1)→op.Nodup→op.length≤2→PlI [PlantElement.mk 1 (qci 0) 0 1 0 500] op 2:=fun op ho hd hl=>
  {snd:=fun x hx=>by simp at hx;subst hx;exact qct (qgn 0) (by omega) (by omega) (by omega) (by omega)
   nm:=fun i x hx=>by
    have:=(List.getElem?_eq_some_iff.1 hx).1
    simp at this
    subst this
    simp at hx;subst hx;rfl
   ct:=fun n=>by rw[hct];split<;>omega
   op1:=fun n _=>by rw[hct];split<;>omega
   nd:=hd
   rg:=fun n hn=>by rcases ho n hn with h|h<;>omega
   nw:=fun n hn=>by rw[hct,if_neg (by omega)]
   ln:=by omega
   nx64:=by omega
   nx0:=by omega
   fst:=⟨_,rfl,rfl⟩}
 have hop:∃op,quy N [1] (y==0)=some op∧PlI [PlantElement.mk 1 (qci 0) 0 1 0 500] op 2:=by
  unfold quy
  by_cases hy:y=0
  ·rw[if_pos (by simpa using hy),qaF (by simp),qaa]
   exact ⟨_,rfl,h0 _ (by simp) (by simp) (by simp)⟩
  ·rw[if_neg (by simpa using hy)]
   exact ⟨_,rfl,h0 _ (by simp) (by simp) (by simp)⟩
 obtain ⟨op,g1,g2⟩:=hop
 rw[g1,qaa]
 obtain ⟨s2,l2,op2,nx2,p1,p2,p3,p4⟩:=ql9 N hb0 hb hk 100 N (b+1) s1 _ op 2 (by omega) (by simp;omega) (by simp) (by omega) (by simp;omega) h4 g2
 rw[p1,qaa]
 simp only[]
 have:=p4.ln
 have:=p4.nx64
 obtain ⟨s3,l3,q1,q2,q3,op3,nx3,q4⟩:=qgw N hb0 hb 64 N (b+20000) s2 l2 op2 nx2 (by omega) (by omega) (by omega) (by omega) p2 p4
 rw[q1,qaa]
 exact ⟨l3,s3,rfl,q2,q4.ok q3,q4.fst⟩
end Go.W
end
