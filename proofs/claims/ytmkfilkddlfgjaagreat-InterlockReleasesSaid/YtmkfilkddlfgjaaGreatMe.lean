/- W1 WLib LBas LPl1 LPl2 LPl3 LPl4 LPlM LRtD LRtS LRtV LRtW LRtF LRtE LRtG LRtR LRtT LRtU -/
import Derived.Test.YtmkfilkddlfgjaaGreatProg
import Derived.IntWalk
import Derived.Test.YtmkfilkddlfgjaaGreatMd
section
set_option linter.unusedVariables false
set_option linter.unusedSimpArgs false
set_option maxRecDepth 100000
set_option maxHeartbeats 1000000
namespace Go.W
noncomputable section
open Go.AM Go.Proofs
def Ty3:Ty Int:=TyOf 3 [.int .i64] fun x=>(x,())
def Ty4:Ty Bool:=TyOf 4 [.bool] fun x=>(x,())
def Ty5:Ty UInt8:=TU8 5
def Ty9:Ty (List UInt8):=TyOf 9 [.str] fun x=>(x,())
def Ty22:Ty (List Int):=TyOf 22 [.sl Int Ty3] fun x=>(x,())
def Ty63:Ty PlantElement:=TyOf 63 [.int .i64, .str, .int .i64, .int .i64, .int .i64, .int .i64] fun x=>(x.kind,x.name,x.a,x.b,x.c,x.length,())
def Ty25:Ty (List PlantElement):=TyOf 25 [.sl PlantElement Ty63] fun x=>(x,())
def Ty37:Ty Visit:=TyOf 37 [.int .i64, .int .i64, .int .i64] fun x=>(x.element,x.in_,x.out,())
def Ty31:Ty (List Visit):=TyOf 31 [.sl Visit Ty37] fun x=>(x,())
def Ty43:Ty Act:=TyOf 43 [.bool, .int .i64, .int .i64, .int .i64] fun x=>(x.set,x.id,x.from_,x.to,())
def Ty51:Ty Setting:=TyOf 51 [.int .i64, .int .i64] fun x=>(x.element,x.position,())
def Ty44:Ty (List Setting):=TyOf 44 [.sl Setting Ty51] fun x=>(x,())
def Ty49:Ty Lock:=TyOf 49 [.int .i64, .sl Visit Ty37, .sl Setting Ty51] fun x=>(x.iD,x.visits,x.settings,())
def Ty55:Ty Maker:=TyOf 55 [.sl Int Ty3, .int .i64] fun x=>(x.l,x.n,())
def Ty84:Ty (List (A2_int×Bool)):=TyOf 84 [.mp A2_int Bool ⟨fun x=>[.int .i64 x.a0, .int .i64 x.a1],qgr,84⟩] fun x=>(x,())
def Ty92:Ty (List (Place×Int)):=TyOf 92 [.mp Place Int ⟨fun x=>[.int .i64 x.element, .int .i64 x.in_],kInt .i64,92⟩] fun x=>(x,())
def Ty96:Ty Place:=TyOf 96 [.int .i64, .int .i64] fun x=>(x.element,x.in_,())
def qwb:Ty (List (Int×Int)):=TyOf 100 [.mp Int Int ⟨kInt .i64,kInt .i64,100⟩] fun x=>(x,())
def qwc:Ty (List ((List UInt8)×Bool)):=TyOf 111 [.mp (List UInt8) Bool ⟨kStr,qgr,111⟩] fun x=>(x,())
def qwd:Ty A2_int:=TyOf 114 [.int .i64, .int .i64] fun x=>(x.a0,x.a1,())
def qwe:Ty (List (Step×Int)):=TyOf 116 [.mp Step Int ⟨fun x=>[.int .i64 x.element, .int .i64 x.in_],kInt .i64,116⟩] fun x=>(x,())
def qwf:Ty Step:=TyOf 122 [.int .i64, .int .i64] fun x=>(x.element,x.in_,())
def qwg:Ty Guardian:=TyOf 125 [.sl PlantElement Ty63, .sl Visit Ty37, .sl Setting Ty51, .mp A2_int Bool ⟨fun x=>[.int .i64 x.a0, .int .i64 x.a1],qgr,84⟩] fun x=>(x.l,x.r,x.need,x.seen,())
def qwh:Ty (Option Nat):=TyOf 127 [.fn] fun x=>(x,())
def qwi:Ty (List (Int×Bool)):=TyOf 130 [.mp Int Bool ⟨kInt .i64,qgr,130⟩] fun x=>(x,())
def qwj:Ty (List (Spot×Bool)):=TyOf 132 [.mp Spot Bool ⟨fun x=>[.int .i64 x.element, .int .i64 x.node],qgr,132⟩] fun x=>(x,())
def qwk:Ty (Option Nat):=TyOf 133 [.fn] fun x=>(x,())
def qwl:Ty Spot:=TyOf 135 [.int .i64, .int .i64] fun x=>(x.element,x.node,())
structure TE where
 α:Type
 T:Ty α
 kc:α→List Value
def tabL:Nat→TE
 |3=>⟨Int,Ty3,kInt .i64⟩
 |4=>⟨Bool,Ty4,qgr⟩
 |5=>⟨UInt8,Ty5,fun _=>[]⟩
 |9=>⟨(List UInt8),Ty9,kStr⟩
 |22=>⟨(List Int),Ty22,fun _=>[]⟩
 |63=>⟨PlantElement,Ty63,fun _=>[]⟩
 |25=>⟨(List PlantElement),Ty25,fun _=>[]⟩
 |37=>⟨Visit,Ty37,fun _=>[]⟩
 |31=>⟨(List Visit),Ty31,fun _=>[]⟩
 |43=>⟨Act,Ty43,fun _=>[]⟩
 |51=>⟨Setting,Ty51,fun _=>[]⟩
 |44=>⟨(List Setting),Ty44,fun _=>[]⟩
 |49=>⟨Lock,Ty49,fun _=>[]⟩
 |55=>⟨Maker,Ty55,fun _=>[]⟩
 |84=>⟨(List (A2_int×Bool)),Ty84,fun _=>[]⟩
 |92=>⟨(List (Place×Int)),Ty92,fun _=>[]⟩
 |96=>⟨Place,Ty96,fun x=>[.int .i64 x.element, .int .i64 x.in_]⟩
 |100=>⟨(List (Int×Int)),qwb,fun _=>[]⟩
 |111=>⟨(List ((List UInt8)×Bool)),qwc,fun _=>[]⟩
 |114=>⟨A2_int,qwd,fun x=>[.int .i64 x.a0, .int .i64 x.a1]⟩
 |116=>⟨(List (Step×Int)),qwe,fun _=>[]⟩
 |122=>⟨Step,qwf,fun x=>[.int .i64 x.element, .int .i64 x.in_]⟩
 |125=>⟨Guardian,qwg,fun _=>[]⟩
 |127=>⟨(Option Nat),qwh,fun _=>[]⟩
 |130=>⟨(List (Int×Bool)),qwi,fun _=>[]⟩
 |132=>⟨(List (Spot×Bool)),qwj,fun _=>[]⟩
 |133=>⟨(Option Nat),qwk,fun _=>[]⟩
 |135=>⟨Spot,qwl,fun x=>[.int .i64 x.element, .int .i64 x.node]⟩
 |_=>⟨Bool,qlq 4,qgr⟩
def D (t:Nat):Type:=(tabL t).α
def G:Tab D:=⟨fun t=>(tabL t).T,fun t=>(tabL t).kc⟩
def ti3:TI Tryz.prog G 3:=tiOf [.int .i64] (fun (x:Int)=>(x,())) (fun y=>(y.1:Int)) (fun _=>rfl) (fun _=>rfl) (0:Int) Tryz.t3 (.int .i64 0) rfl Tryz.type3 rfl rfl rfl rfl rfl rfl (fun z=>⟨rfl,trivial⟩) rfl
def ti4:TI Tryz.prog G 4:=tiOf [.bool] (fun (x:Bool)=>(x,())) (fun y=>(y.1:Bool)) (fun _=>rfl) (fun _=>rfl) (false:Bool) Tryz.t4 (.bool false) rfl Tryz.type4 rfl rfl rfl rfl rfl rfl (fun z=>⟨rfl,trivial⟩) rfl
def ti5:TI Tryz.prog G 5:=tiU8 (fun (x:UInt8)=>x) (fun x=>x) (fun x=>x) (fun o=>by cases o<;>rfl) (fun _=>rfl) (fun _=>rfl) Tryz.t5 rfl rfl (fun _ _ _=>Iff.rfl) Tryz.type5 rfl rfl rfl
def ti9:TI Tryz.prog G 9:=tiOf [.str] (fun (x:(List UInt8))=>(x,())) (fun y=>(y.1:(List UInt8))) (fun _=>rfl) (fun _=>rfl) ([]:(List UInt8)) Tryz.t9 (.string ⟨#[]⟩) rfl Tryz.type9 rfl rfl rfl rfl rfl rfl (fun z=>⟨rfl,trivial⟩) rfl
def ti22:TI Tryz.prog G 22:=tiOf [.sl 3] (fun (x:(List Int))=>(x,())) (fun y=>(y.1:(List Int))) (fun _=>rfl) (fun _=>rfl) ([]:(List Int)) Tryz.t22 (.slice none 0 0) rfl Tryz.type22 rfl rfl rfl rfl rfl rfl (fun z=>⟨.inl ⟨rfl,rfl⟩,trivial⟩) rfl
def ti63:TI Tryz.prog G 63:=tiOf [.int .i64, .str, .int .i64, .int .i64, .int .i64, .int .i64] (fun (x:PlantElement)=>(x.kind,x.name,x.a,x.b,x.c,x.length,())) (fun y=>((PlantElement.mk y.1 y.2.1 y.2.2.1 y.2.2.2.1 y.2.2.2.2.1 y.2.2.2.2.2.1):PlantElement)) (fun _=>rfl) (fun _=>rfl) ((PlantElement.mk 0 [] 0 0 0 0):PlantElement) Tryz.t63 (.agg #[.int .i64 0, .string ⟨#[]⟩, .int .i64 0, .int .i64 0, .int .i64 0, .int .i64 0]) rfl Tryz.type63 rfl rfl rfl rfl rfl rfl (fun z=>⟨rfl,rfl,rfl,rfl,rfl,rfl,trivial⟩) rfl
def ti25:TI Tryz.prog G 25:=tiOf [.sl 63] (fun (x:(List PlantElement))=>(x,())) (fun y=>(y.1:(List PlantElement))) (fun _=>rfl) (fun _=>rfl) ([]:(List PlantElement)) Tryz.t25 (.slice none 0 0) rfl Tryz.type25 rfl rfl rfl rfl rfl rfl (fun z=>⟨.inl ⟨rfl,rfl⟩,trivial⟩) rfl
def ti37:TI Tryz.prog G 37:=tiOf [.int .i64, .int .i64, .int .i64] (fun (x:Visit)=>(x.element,x.in_,x.out,())) (fun y=>((Visit.mk y.1 y.2.1 y.2.2.1):Visit)) (fun _=>rfl) (fun _=>rfl) ((Visit.mk 0 0 0):Visit) Tryz.t37 (.agg #[.int .i64 0, .int .i64 0, .int .i64 0]) rfl Tryz.type37 rfl rfl rfl rfl rfl rfl (fun z=>⟨rfl,rfl,rfl,trivial⟩) rfl
def ti31:TI Tryz.prog G 31:=tiOf [.sl 37] (fun (x:(List Visit))=>(x,())) (fun y=>(y.1:(List Visit))) (fun _=>rfl) (fun _=>rfl) ([]:(List Visit)) Tryz.t31 (.slice none 0 0) rfl Tryz.type31 rfl rfl rfl rfl rfl rfl (fun z=>⟨.inl ⟨rfl,rfl⟩,trivial⟩) rfl
def ti43:TI Tryz.prog G 43:=tiOf [.bool, .int .i64, .int .i64, .int .i64] (fun (x:Act)=>(x.set,x.id,x.from_,x.to,())) (fun y=>((Act.mk y.1 y.2.1 y.2.2.1 y.2.2.2.1):Act)) (fun _=>rfl) (fun _=>rfl) ((Act.mk false 0 0 0):Act) Tryz.t43 (.agg #[.bool false, .int .i64 0, .int .i64 0, .int .i64 0]) rfl Tryz.type43 rfl rfl rfl rfl rfl rfl (fun z=>⟨rfl,rfl,rfl,rfl,trivial⟩) rfl
def ti51:TI Tryz.prog G 51:=tiOf [.int .i64, .int .i64] (fun (x:Setting)=>(x.element,x.position,())) (fun y=>((Setting.mk y.1 y.2.1):Setting)) (fun _=>rfl) (fun _=>rfl) ((Setting.mk 0 0):Setting) Tryz.t51 (.agg #[.int .i64 0, .int .i64 0]) rfl Tryz.type51 rfl rfl rfl rfl rfl rfl (fun z=>⟨rfl,rfl,trivial⟩) rfl
def ti44:TI Tryz.prog G 44:=tiOf [.sl 51] (fun (x:(List Setting))=>(x,())) (fun y=>(y.1:(List Setting))) (fun _=>rfl) (fun _=>rfl) ([]:(List Setting)) Tryz.t44 (.slice none 0 0) rfl Tryz.type44 rfl rfl rfl rfl rfl rfl (fun z=>⟨.inl ⟨rfl,rfl⟩,trivial⟩) rfl
def ti49:TI Tryz.prog G 49:=tiOf [.int .i64, .sl 37, .sl 51] (fun (x:Lock)=>(x.iD,x.visits,x.settings,())) (fun y=>((Lock.mk y.1 y.2.1 y.2.2.1):Lock)) (fun _=>rfl) (fun _=>rfl) ((Lock.mk 0 [] []):Lock) Tryz.t49 (.agg #[.int .i64 0, .slice none 0 0, .slice none 0 0]) rfl Tryz.type49 rfl rfl rfl rfl rfl rfl (fun z=>⟨rfl, .inl ⟨rfl,rfl⟩, .inl ⟨rfl,rfl⟩,trivial⟩) rfl
def ti55:TI Tryz.prog G 55:=tiOf [.sl 3, .int .i64] (fun (x:Maker)=>(x.l,x.n,())) (fun y=>((Maker.mk y.1 y.2.1):Maker)) (fun _=>rfl) (fun _=>rfl) ((Maker.mk [] 0):Maker) Tryz.t55 (.agg #[.slice none 0 0, .int .i64 0]) rfl Tryz.type55 rfl rfl rfl rfl rfl rfl (fun z=>⟨.inl ⟨rfl,rfl⟩,rfl,trivial⟩) rfl
def ti84:TI Tryz.prog G 84:=tiOf [.mp 84 114 4] (fun (x:(List (A2_int×Bool)))=>(x,())) (fun y=>(y.1:(List (A2_int×Bool)))) (fun _=>rfl) (fun _=>rfl) ([]:(List (A2_int×Bool))) Tryz.t84 (.map none) rfl Tryz.type84 rfl rfl rfl rfl rfl rfl (fun z=>⟨.inl ⟨rfl,rfl⟩,trivial⟩) rfl
def ti92:TI Tryz.prog G 92:=tiOf [.mp 92 96 3] (fun (x:(List (Place×Int)))=>(x,())) (fun y=>(y.1:(List (Place×Int)))) (fun _=>rfl) (fun _=>rfl) ([]:(List (Place×Int))) Tryz.t92 (.map none) rfl Tryz.type92 rfl rfl rfl rfl rfl rfl (fun z=>⟨.inl ⟨rfl,rfl⟩,trivial⟩) rfl
def ti96:TI Tryz.prog G 96:=tiOf [.int .i64, .int .i64] (fun (x:Place)=>(x.element,x.in_,())) (fun y=>((Place.mk y.1 y.2.1):Place)) (fun _=>rfl) (fun _=>rfl) ((Place.mk 0 0):Place) Tryz.t96 (.agg #[.int .i64 0, .int .i64 0]) rfl Tryz.type96 rfl rfl rfl rfl rfl rfl (fun z=>⟨rfl,rfl,trivial⟩) rfl
def qxg:TI Tryz.prog G 100:=tiOf [.mp 100 3 3] (fun (x:(List (Int×Int)))=>(x,())) (fun y=>(y.1:(List (Int×Int)))) (fun _=>rfl) (fun _=>rfl) ([]:(List (Int×Int))) Tryz.t100 (.map none) rfl Tryz.type100 rfl rfl rfl rfl rfl rfl (fun z=>⟨.inl ⟨rfl,rfl⟩,trivial⟩) rfl
def qxh:TI Tryz.prog G 111:=tiOf [.mp 111 9 4] (fun (x:(List ((List UInt8)×Bool)))=>(x,())) (fun y=>(y.1:(List ((List UInt8)×Bool)))) (fun _=>rfl) (fun _=>rfl) ([]:(List ((List UInt8)×Bool))) Tryz.t111 (.map none) rfl Tryz.type111 rfl rfl rfl rfl rfl rfl (fun z=>⟨.inl ⟨rfl,rfl⟩,trivial⟩) rfl
def qs4:TI Tryz.prog G 114:=tiOf [.int .i64, .int .i64] (fun (x:A2_int)=>(x.a0,x.a1,())) (fun y=>((A2_int.mk y.1 y.2.1):A2_int)) (fun _=>rfl) (fun _=>rfl) ((A2_int.mk 0 0):A2_int) Tryz.t114 (.agg #[.int .i64 0, .int .i64 0]) rfl Tryz.type114 rfl rfl rfl rfl rfl rfl (fun z=>⟨rfl,rfl,trivial⟩) rfl
def qxi:TI Tryz.prog G 116:=tiOf [.mp 116 122 3] (fun (x:(List (Step×Int)))=>(x,())) (fun y=>(y.1:(List (Step×Int)))) (fun _=>rfl) (fun _=>rfl) ([]:(List (Step×Int))) Tryz.t116 (.map none) rfl Tryz.type116 rfl rfl rfl rfl rfl rfl (fun z=>⟨.inl ⟨rfl,rfl⟩,trivial⟩) rfl
def qs5:TI Tryz.prog G 122:=tiOf [.int .i64, .int .i64] (fun (x:Step)=>(x.element,x.in_,())) (fun y=>((Step.mk y.1 y.2.1):Step)) (fun _=>rfl) (fun _=>rfl) ((Step.mk 0 0):Step) Tryz.t122 (.agg #[.int .i64 0, .int .i64 0]) rfl Tryz.type122 rfl rfl rfl rfl rfl rfl (fun z=>⟨rfl,rfl,trivial⟩) rfl
def qxj:TI Tryz.prog G 125:=tiOf [.sl 63, .sl 37, .sl 51, .mp 84 114 4] (fun (x:Guardian)=>(x.l,x.r,x.need,x.seen,())) (fun y=>((Guardian.mk y.1 y.2.1 y.2.2.1 y.2.2.2.1):Guardian)) (fun _=>rfl) (fun _=>rfl) ((Guardian.mk [] [] [] []):Guardian) Tryz.t125 (.agg #[.slice none 0 0, .slice none 0 0, .slice none 0 0, .map none]) rfl Tryz.type125 rfl rfl rfl rfl rfl rfl (fun z=>⟨.inl ⟨rfl,rfl⟩, .inl ⟨rfl,rfl⟩, .inl ⟨rfl,rfl⟩, .inl ⟨rfl,rfl⟩,trivial⟩) rfl
def qxk:TI Tryz.prog G 127:=tiOf [.fn] (fun (x:(Option Nat))=>(x,())) (fun y=>(y.1:(Option Nat))) (fun _=>rfl) (fun _=>rfl) ((none:Option Nat):(Option Nat)) Tryz.t127 (.nilFunc) rfl Tryz.type127 rfl rfl rfl rfl rfl rfl (fun z=>⟨rfl,trivial⟩) rfl
def qxl:TI Tryz.prog G 130:=tiOf [.mp 130 3 4] (fun (x:(List (Int×Bool)))=>(x,())) (fun y=>(y.1:(List (Int×Bool)))) (fun _=>rfl) (fun _=>rfl) ([]:(List (Int×Bool))) Tryz.t130 (.map none) rfl Tryz.type130 rfl rfl rfl rfl rfl rfl (fun z=>⟨.inl ⟨rfl,rfl⟩,trivial⟩) rfl
def qxm:TI Tryz.prog G 132:=tiOf [.mp 132 135 4] (fun (x:(List (Spot×Bool)))=>(x,())) (fun y=>(y.1:(List (Spot×Bool)))) (fun _=>rfl) (fun _=>rfl) ([]:(List (Spot×Bool))) Tryz.t132 (.map none) rfl Tryz.type132 rfl rfl rfl rfl rfl rfl (fun z=>⟨.inl ⟨rfl,rfl⟩,trivial⟩) rfl
def qxn:TI Tryz.prog G 133:=tiOf [.fn] (fun (x:(Option Nat))=>(x,())) (fun y=>(y.1:(Option Nat))) (fun _=>rfl) (fun _=>rfl) ((none:Option Nat):(Option Nat)) Tryz.t133 (.nilFunc) rfl Tryz.type133 rfl rfl rfl rfl rfl rfl (fun z=>⟨rfl,trivial⟩) rfl
def qs6:TI Tryz.prog G 135:=tiOf [.int .i64, .int .i64] (fun (x:Spot)=>(x.element,x.node,())) (fun y=>((Spot.mk y.1 y.2.1):Spot)) (fun _=>rfl) (fun _=>rfl) ((Spot.mk 0 0):Spot) Tryz.t135 (.agg #[.int .i64 0, .int .i64 0]) rfl Tryz.type135 rfl rfl rfl rfl rfl rfl (fun z=>⟨rfl,rfl,trivial⟩) rfl
def qi37:QI Tryz.prog G 37:=qiOf [.int .i64, .int .i64, .int .i64] (fun (x:Visit)=>(x.element,x.in_,x.out,())) (fun y=>((Visit.mk y.1 y.2.1 y.2.2.1):Visit)) (fun _=>rfl) _ (fun (x y:Visit)=>decide (x=y)) rfl (fun (x y:Visit)=>decide_eq_true_iff) Tryz.underlying37 (by kernel_rfl) (by kernel_rfl) (by kernel_rfl)
def qi51:QI Tryz.prog G 51:=qiOf [.int .i64, .int .i64] (fun (x:Setting)=>(x.element,x.position,())) (fun y=>((Setting.mk y.1 y.2.1):Setting)) (fun _=>rfl) _ (fun (x y:Setting)=>decide (x=y)) rfl (fun (x y:Setting)=>decide_eq_true_iff) Tryz.underlying51 (by kernel_rfl) (by kernel_rfl) (by kernel_rfl)
def bi5:BI Tryz.prog G 5:=⟨fun xs=>xs,fun xs=>xs,fun _ _ _ h=>h,fun _ _ _ _ _ _ h=>h,fun _ _ _ _ _ _ h=>h,Tryz.t5,Tryz.underlying5,Tryz.type5,rfl⟩
def qwH:KI Tryz.prog G 114:=kiP .i64 (inferInstance:DecidableEq A2_int) qs4 (fun (x:A2_int)=>(x.a0,x.a1,())) (fun y=>((A2_int.mk y.1 y.2.1):A2_int)) (fun _=>rfl) (e:=3) Tryz.t114 Tryz.t3 rfl Tryz.underlying114 Tryz.underlying3 Tryz.type3 rfl Tryz.type114 rfl (fun _=>rfl)
def vi4:VI Tryz.prog G 4:=viB (fun n=>n) (fun n=>n) (fun _=>rfl) Tryz.t4 Tryz.underlying4 Tryz.type4 (qrt Tryz.underlying4 Tryz.type4 rfl) (fun _=>rfl) rfl
def ki96:KI Tryz.prog G 96:=kiA (inferInstance:DecidableEq Place) ti96 [.int .i64, .int .i64] (fun (x:Place)=>(x.element,x.in_,())) (fun y=>((Place.mk y.1 y.2.1):Place)) (fun _=>rfl) _ Tryz.t96 rfl Tryz.underlying96 Tryz.type96 (by kernel_rfl) rfl (by kernel_rfl) (fun _=>rfl) (fun _=>rfl)
def vi3:VI Tryz.prog G 3:=viI .i64 (fun n=>n) (fun n=>n) (fun _=>rfl) Tryz.t3 Tryz.underlying3 Tryz.type3 (qvM Tryz.underlying3 Tryz.type3 rfl) (fun _=>rfl) rfl
def ki3:KI Tryz.prog G 3:=kiI .i64 (fun n=>n) (inferInstance:DecidableEq Int) Tryz.t3 Tryz.underlying3 (qss Tryz.underlying3 Tryz.type3 rfl) (fun _=>rfl)
def ki9:KI Tryz.prog G 9:=kiS (fun n=>n) (inferInstance:DecidableEq (List UInt8)) Tryz.underlying9 (qst Tryz.underlying9 Tryz.type9 rfl) (fun _=>rfl)
def qwI:KI Tryz.prog G 122:=kiA (inferInstance:DecidableEq Step) qs5 [.int .i64, .int .i64] (fun (x:Step)=>(x.element,x.in_,())) (fun y=>((Step.mk y.1 y.2.1):Step)) (fun _=>rfl) _ Tryz.t122 rfl Tryz.underlying122 Tryz.type122 (by kernel_rfl) rfl (by kernel_rfl) (fun _=>rfl) (fun _=>rfl)
def qwJ:KI Tryz.prog G 135:=kiA (inferInstance:DecidableEq Spot) qs6 [.int .i64, .int .i64] (fun (x:Spot)=>(x.element,x.node,())) (fun y=>((Spot.mk y.1 y.2.1):Spot)) (fun _=>rfl) _ Tryz.t135 rfl Tryz.underlying135 Tryz.type135 (by kernel_rfl) rfl (by kernel_rfl) (fun _=>rfl) (fun _=>rfl)
def qwm:AI Tryz.prog G 150:=⟨3,64,ti3,Tryz.t150, .agg #[.int .i64 0, .int .i64 0, .int .i64 0, .int .i64 0, .int .i64 0, .int .i64 0, .int .i64 0, .int .i64 0, .int .i64 0, .int .i64 0, .int .i64 0, .int .i64 0, .int .i64 0, .int .i64 0, .int .i64 0, .int .i64 0, .int .i64 0, .int .i64 0, .int .i64 0, .int .i64 0, .int .i64 0, .int .i64 0, .int .i64 0, .int .i64 0, .int .i64 0, .int .i64 0, .int .i64 0, .int .i64 0, .int .i64 0, .int .i64 0, .int .i64 0, .int .i64 0, .int .i64 0, .int .i64 0, .int .i64 0, .int .i64 0, .int .i64 0, .int .i64 0, .int .i64 0, .int .i64 0, .int .i64 0, .int .i64 0, .int .i64 0, .int .i64 0, .int .i64 0, .int .i64 0, .int .i64 0, .int .i64 0, .int .i64 0, .int .i64 0, .int .i64 0, .int .i64 0, .int .i64 0, .int .i64 0, .int .i64 0, .int .i64 0, .int .i64 0, .int .i64 0, .int .i64 0, .int .i64 0, .int .i64 0, .int .i64 0, .int .i64 0, .int .i64 0],Tryz.underlying150,Tryz.type150,rfl,rfl,rfl,rfl,rfl⟩
def si36_64:SI Tryz.prog G:=siOf (t:=51) [.int .i64, .int .i64] (fun (x:Setting)=>(x.element,x.position,())) rfl rfl ((Setting.mk 0 0):Setting) (fun (x:Setting)=>x.element) qnl 36 64 rfl (by kernel_rfl) Tryz.isAgg51 Tryz.sizeOf51 (Go.Proofs.enters_of Tryz.func64 (by kernel_rfl) rfl) rfl qr2
def qrn:SI Tryz.prog G:=siOf (t:=51) [.int .i64, .int .i64] (fun (x:Setting)=>(x.element,x.position,())) rfl rfl ((Setting.mk 0 0):Setting) (fun (x:Setting)=>x.element) qnl 36 89 rfl (by kernel_rfl) Tryz.isAgg51 Tryz.sizeOf51 (Go.Proofs.enters_of Tryz.func89 (by kernel_rfl) rfl) rfl qr3
def X0:Ev Tryz.prog D where
 G:=G
 S:=[si36_64,qrn]
 I:=fun t=>match t with|3=>some ti3|4=>some ti4|5=>some ti5|9=>some ti9|22=>some ti22|63=>some ti63|25=>some ti25|37=>some ti37|31=>some ti31|43=>some ti43|51=>some ti51|44=>some ti44|49=>some ti49|55=>some ti55|84=>some ti84|92=>some ti92|96=>some ti96|100=>some qxg|111=>some qxh|114=>some qs4|116=>some qxi|122=>some qs5|125=>some qxj|127=>some qxk|130=>some qxl|132=>some qxm|133=>some qxn|135=>some qs6|_=>none
 A:=fun t=>match t with|150=>some qwm|_=>none
 J:=fun k v=>match k,v with|3,3=>some (miOf ki3 vi3)|3,4=>some (miOf ki3 vi4)|9,4=>some (miOf ki9 vi4)|96,3=>some (miOf ki96 vi3)|114,4=>some (miOf qwH vi4)|122,3=>some (miOf qwI vi3)|135,4=>some (miOf qwJ vi4)|_,_=>none
 B:=fun t=>match t with|5=>some bi5|_=>none
 Q:=fun t=>match t with|37=>some qi37|51=>some qi51|_=>none
 F:=fun _ _ _=>false
 C:=fun _ _ _ _ _=>none
def T0 (N:Nat):TT X0:=TT.nil
def dzdM:FD D:=⟨6,1,[.v 0 (.sl 3)],[],none,0,[.o 2 (.box 55)],[(2, .box 0 0)],[.tmp 2],false⟩
def FzdM (N:Nat):dzdM.F:=fun r x=>zdM N x.1
theorem wzdM (N:Nat):CallOk X0 dzdM (FzdM N):=UU.fn (UU.nil:UU (T0 N).ev (qab Tryz.f6)) Tryz.func6
def T1 (N:Nat):TT X0:=(T0 N).ad dzdM (FzdM N) (wzdM N)
def dzbX:FD D:=⟨45,1,[.v 0 (.int .i64)],[],none,0,[.v 2 .str],[],[.tmp 2],true⟩
def FzbX (N:Nat):dzbX.F:=fun r x=>zbX N x.1
theorem wzbX (N:Nat):CallOk X0 dzbX (FzbX N):=UU.fn (UU.nil:UU (T1 N).ev (qab Tryz.f45)) Tryz.func45
def T2 (N:Nat):TT X0:=(T1 N).ad dzbX (FzbX N) (wzbX N)
def quH (N:Nat):UU (T2 N).ev (qab Tryz.f20):=UU.st UU.nil ⟨[1,1,0,1],[.o 0 (.recv 55), .v 5 (.int .i64), .v 11 .bool],[(0, .box 0 0)],[1],[⟨.normal,[.v 5 (.int .i64)],[]⟩],[0,1]⟩ fun x=>qo8 N x.1 x.2.1 x.2.2.1
def quI (N:Nat):UU (T2 N).ev (qab Tryz.f20):=UU.st (quH N) ⟨[1,1,1,1,1,0,1],[.o 0 (.recv 55), .v 1 (.int .i64), .v 5 (.int .i64), .v 51 .bool],[(0, .box 0 0)],[1],[⟨.normal,[.v 5 (.int .i64)],[]⟩],[0]⟩ fun x=>qrL N x.2.1 x.2.2.1 x.2.2.2.1
def dzcI:FD D:=⟨20,2,[.v 1 (.int .i64)],[],some (0,55),2,[.v 4 (.int .i64), .u 0 (.recv 55)],[],[.tmp 4],false⟩
def FzcI (N:Nat):dzcI.F:=fun r x=>zcI N r x.1
theorem wzcI (N:Nat):CallOk X0 dzcI (FzcI N):=UU.fn (quI N) Tryz.func20
def T3 (N:Nat):TT X0:=(T2 N).ad dzcI (FzcI N) (wzcI N)
def dzcJ:FD D:=⟨46,2,[.v 1 (.sl 3)],[],some (0,55),2,[.v 4 (.int .i64), .u 0 (.recv 55)],[],[.tmp 4],false⟩
def FzcJ (N:Nat):dzcJ.F:=fun r x=>zcJ N r x.1
theorem wzcJ (N:Nat):CallOk X0 dzcJ (FzcJ N):=UU.fn (UU.nil:UU (T3 N).ev (qab Tryz.f46)) Tryz.func46
def T4 (N:Nat):TT X0:=(T3 N).ad dzcJ (FzcJ N) (wzcJ N)
def Y4 (N:Nat):EV X0:=(T4 N).ev.cuts fun x lo hi=>match x,lo,hi with| .tmp 42,none,some (.tmp 43)=>1| .tmp 45,some (.tmp 47),none=>1| .tmp 80,none,some (.tmp 83)=>2| .tmp 178,some (.const _),none=>2|_,_,_=>0
def qud (N:Nat):UU (Y4 N) (qab Tryz.f18):=UU.st UU.nil ⟨[1,1,1,0,1],[.o 0 (.recv 55), .o 5 (.sl 63), .o 6 (.sl 3), .v 17 .bool],[(0, .box 0 0),(5, .c (.own 1)),(6, .c (.own 2))],[1,1,0],[⟨.normal,[.o 6 (.sl 3)],[(6, .c (.own 3))]⟩],[0,1,5,7]⟩ fun x=>qoY N x.2.2.1 x.2.2.2.1
def quf (N:Nat):UU (Y4 N) (qab Tryz.f18):=UU.st (qud N) ⟨[1,1,1,1,0,0,0,0,0],[.o 0 (.recv 55), .v 1 (.int .i64), .o 5 (.sl 63), .o 6 (.sl 3), .v 7 (.int .i64)],[(0, .box 0 0),(5, .c (.own 1)),(6, .c (.own 2))],[1,1,1],[⟨.normal,[.v 33 .bool],[]⟩],[0,1,5,6,7]⟩ fun x=>qoZ N x.2.1 x.2.2.1 x.2.2.2.1 x.2.2.2.2.1
def quh (N:Nat):UU (Y4 N) (qab Tryz.f18):=UU.st (quf N) ⟨[1,1,1,1,0,0,0,1,0,1,1,1,1,0,1,0,0,1],[.o 0 (.recv 55), .o 5 (.sl 63), .o 6 (.sl 3), .o 10 (.box 63), .v 55 (.int .i64), .v 96 .bool],[(0, .box 0 0),(5, .c (.own 1)),(6, .c (.own 2)),(10, .box 3 0)],[1,1,1,1],[⟨.normal,[.v 96 .bool],[]⟩],[0,1,5,6,7,9,10,55]⟩ fun x=>qo1 N x.2.2.2.2.1 x.2.2.2.2.2.1
def qui (N:Nat):UU (Y4 N) (qab Tryz.f18):=UU.st (quh N) ⟨[1,1,1,1,0,0,0,1,0,1,1,1,1,0,1,0,1,1,1,1,1,1,1,0],[.o 0 (.recv 55), .o 5 (.sl 63), .o 6 (.sl 3), .o 10 (.box 63)],[(0, .box 0 0),(5, .c (.own 1)),(6, .c (.own 2)),(10, .box 3 0)],[2,1,1,1],[⟨.normal,[.u 0 (.recv 55), .v 72 .bool],[]⟩],[0,1,5,6,7,10]⟩ fun x=>qrG N x.1 x.2.2.1
def qug (N:Nat):UU (Y4 N) (qab Tryz.f18):=UU.st (qui N) ⟨[1,1,1,1,0,0,0,1,0,1,1,1,1,0,1],[.o 0 (.recv 55), .o 5 (.sl 63), .o 6 (.sl 3), .v 7 (.int .i64), .v 9 (.int .i64), .o 10 (.box 63), .v 55 (.int .i64)],[(0, .box 0 0),(5, .c (.own 1)),(6, .c (.own 2)),(10, .box 3 0)],[2,1,0,2],[⟨.normal,[.u 0 (.recv 55), .o 6 (.sl 3), .v 7 (.int .i64), .u 3 (.box 63)],[(6, .c (.own 4))]⟩],[0,1,5,10]⟩ fun x=>qo0 N x.1 x.2.2.1 x.2.2.2.1 x.2.2.2.2.1 x.2.2.2.2.2.1 x.2.2.2.2.2.2.1
def que (N:Nat):UU (Y4 N) (qab Tryz.f18):=UU.lp (qug N) N ⟨[1,1,1,1,0,0],[.o 0 (.recv 55), .v 1 (.int .i64), .o 5 (.sl 63), .o 6 (.sl 3), .v 7 (.int .i64)],[(0, .box 0 0),(5, .c (.own 1)),(6, .c (.own 2))],[2,0,0],[⟨.exit 0,[.u 0 (.recv 55), .o 5 (.sl 63), .o 6 (.sl 3), .v 7 (.int .i64)],[(5, .c (.own 3)),(6, .c (.own 4))]⟩],[0]⟩ fun n x=>qnz N x.2.1 n x.1 x.2.2.1 x.2.2.2.1 x.2.2.2.2.1
def quk (N:Nat):UU (Y4 N) (qab Tryz.f18):=UU.st (que N) ⟨[1,1,1,1,1,0,0,0,0,0],[.o 0 (.recv 55), .o 5 (.sl 63), .o 6 (.sl 3), .v 7 (.int .i64)],[(0, .box 0 0),(5, .c (.own 1)),(6, .c (.own 2))],[1,1,1],[⟨.normal,[.v 161 .bool],[]⟩],[0,5,6,7]⟩ fun x=>qo2 N x.2.1 x.2.2.1 x.2.2.2.1
def qul (N:Nat):UU (Y4 N) (qab Tryz.f18):=UU.st (quk N) ⟨[1,1,1,1,1,0,0,0,1,0,0,1],[.o 0 (.recv 55), .o 5 (.sl 63), .o 6 (.sl 3), .v 7 (.int .i64), .v 164 .bool],[(0, .box 0 0),(5, .c (.own 1)),(6, .c (.own 2))],[1,0,1],[⟨.normal,[.o 5 (.sl 63), .v 7 (.int .i64)],[(5, .c (.own 3))]⟩],[0,6]⟩ fun x=>qrH N x.2.1 x.2.2.1 x.2.2.2.1 x.2.2.2.2.1
def quj (N:Nat):UU (Y4 N) (qab Tryz.f18):=UU.lp (qul N) N ⟨[1,1,1,1,1,0,0],[.o 0 (.recv 55), .o 5 (.sl 63), .o 6 (.sl 3), .v 7 (.int .i64)],[(0, .box 0 0),(5, .c (.own 1)),(6, .c (.own 2))],[2,0,0],[⟨.exit 3,[.u 0 (.recv 55), .o 5 (.sl 63)],[(5, .c (.own 3))]⟩],[0]⟩ fun n x=>qnA N n x.1 x.2.1 x.2.2.1 x.2.2.2.1
def dzbR:FD D:=⟨18,2,[.v 1 (.int .i64)],[],some (0,55),2,[.o 4 (.sl 63), .u 0 (.recv 55)],[(4, .c (.own 1))],[.tmp 4],false⟩
def FzbR (N:Nat):dzbR.F:=fun r x=>zbR N r x.1
theorem wzbR (N:Nat):CallOk X0 dzbR (FzbR N):=UU.fn (quj N) Tryz.func18
def T5 (N:Nat):TT X0:=(T4 N).ad dzbR (FzbR N) (wzbR N)
def qtP (N:Nat):UU (T5 N).ev (qab Tryz.f19):=UU.st UU.nil ⟨[1,1,0,1,0,0,1,0],[.v 0 (.sl 63), .o 3 (.sl 3), .v 4 (.int .i64)],[(3, .c (.own 0))],[0],[⟨.normal,[.o 3 (.sl 3)],[(3, .c (.own 1))]⟩],[0,4]⟩ fun x=>qrz N x.1 x.2.1 x.2.2.1
def qtO (N:Nat):UU (T5 N).ev (qab Tryz.f19):=UU.lp (qtP N) N ⟨[1,1,0,1,0],[.v 0 (.sl 63), .o 3 (.sl 3), .v 4 (.int .i64)],[(3, .c (.own 0))],[0],[⟨.exit 0,[.o 3 (.sl 3)],[(3, .c (.own 1))]⟩],[]⟩ fun n x=>qlf N x.1 n x.2.1 x.2.2.1
def dzbH:FD D:=⟨19,1,[.v 0 (.sl 63)],[],none,0,[.o 2 (.sl 3)],[(2, .c (.own 0))],[.tmp 2],false⟩
def FzbH (N:Nat):dzbH.F:=fun r x=>zbH N x.1
theorem wzbH (N:Nat):CallOk X0 dzbH (FzbH N):=UU.fn (qtO N) Tryz.func19
def T6 (N:Nat):TT X0:=(T5 N).ad dzbH (FzbH N) (wzbH N)
def qvu (N:Nat):UU (T6 N).ev (qab Tryz.f23):=UU.st UU.nil ⟨[1,0,0],[.v 0 (.sl 63), .v 1 (.int .i64)],[],[],[⟨.normal,[.v 12 .bool],[]⟩],[0,1]⟩ fun x=>qrX N x.1 x.2.1
def qvv (N:Nat):UU (T6 N).ev (qab Tryz.f23):=UU.st (qvu N) ⟨[1,1,0,1,0,0,1],[.v 17 (.int .i64), .v 18 .bool],[],[],[⟨.normal,[.v 18 .bool],[]⟩],[0,1,17]⟩ fun x=>qrY N x.1 x.2.1
def dzdH:FD D:=⟨23,2,[.v 0 (.sl 63), .v 1 (.int .i64)],[],none,0,[.o 4 (.sl 3)],[(4, .c (.own 0))],[.tmp 4],false⟩
def FzdH (N:Nat):dzdH.F:=fun r x=>zdH N x.1 x.2.1
theorem wzdH (N:Nat):CallOk X0 dzdH (FzdH N):=UU.fn (qvv N) Tryz.func23
def T7 (N:Nat):TT X0:=(T6 N).ad dzdH (FzdH N) (wzdH N)
def qvF (N:Nat):UU (T7 N).ev (qab Tryz.f53):=UU.lp UU.nil N ⟨[1,0,1,0],[.v 0 (.sl 3), .v 1 (.int .i64), .v 5 (.int .i64)],[],[],[⟨.exit 0,[],[]⟩,⟨.ret,[.v 4 .bool],[]⟩],[]⟩ fun n x=>qiC N x.1 x.2.1 n x.2.2.1
def dzdN:FD D:=⟨53,2,[.v 0 (.sl 3), .v 1 (.int .i64)],[],none,0,[.v 4 .bool],[],[.tmp 4],true⟩
def FzdN (N:Nat):dzdN.F:=fun r x=>zdN N x.1 x.2.1
theorem wzdN (N:Nat):CallOk X0 dzdN (FzdN N):=UU.fn (qvF N) Tryz.func53
def T8 (N:Nat):TT X0:=(T7 N).ad dzdN (FzdN N) (wzdN N)
def qt4 (N:Nat):UU (T8 N).ev (qab Tryz.f24):=UU.st UU.nil ⟨[1,0,1,0,0,1,0,0,0],[.v 0 (.sl 63), .v 1 (.int .i64), .v 2 (.int .i64), .v 7 (.int .i64)],[],[],[⟨.normal,[.v 23 .bool],[]⟩],[0,1,2,7]⟩ fun x=>qrF N x.1 x.2.1 x.2.2.1 x.2.2.2.1
def qt3 (N:Nat):UU (T8 N).ev (qab Tryz.f24):=UU.lp (qt4 N) N ⟨[1,0,1,0],[.v 0 (.sl 63), .v 1 (.int .i64), .v 2 (.int .i64), .v 7 (.int .i64)],[],[],[⟨.exit 0,[],[]⟩,⟨.ret,[.v 6 (.int .i64)],[]⟩],[]⟩ fun n x=>qiv N x.1 x.2.1 x.2.2.1 n x.2.2.2.1
def dzbO:FD D:=⟨24,3,[.v 0 (.sl 63), .v 1 (.int .i64), .v 2 (.int .i64)],[],none,0,[.v 6 (.int .i64)],[],[.tmp 6],true⟩
def FzbO (N:Nat):dzbO.F:=fun r x=>zbO N x.1 x.2.1 x.2.2.1
theorem wzbO (N:Nat):CallOk X0 dzbO (FzbO N):=UU.fn (qt3 N) Tryz.func24
def T9 (N:Nat):TT X0:=(T8 N).ad dzbO (FzbO N) (wzbO N)
def dzcB:FD D:=⟨25,3,[.v 0 (.sl 63), .v 1 (.int .i64), .v 2 (.int .i64)],[],none,0,[.o 6 (.sl 3)],[(6, .c (.own 0))],[.tmp 6],false⟩
def FzcB (N:Nat):dzcB.F:=fun r x=>zcB N x.1 x.2.1 x.2.2.1
theorem wzcB (N:Nat):CallOk X0 dzcB (FzcB N):=UU.fn (UU.nil:UU (T9 N).ev (qab Tryz.f25)) Tryz.func25
def T10 (N:Nat):TT X0:=(T9 N).ad dzcB (FzcB N) (wzcB N)
def quv (N:Nat):UU (T10 N).ev (qab Tryz.f9):=UU.st UU.nil ⟨[1,1,1,1,1,1,0,1,0,0,1,0,0,1,1,1,1,0,0],[.o 0 (.recv 55), .v 1 (.sl 63), .o 6 (.box 37), .o 8 (.sl 37), .v 10 (.int .i64), .o 11 (.sl 3)],[(0, .box 0 0),(6, .box 1 0),(8, .c (.own 2)),(11, .c (.own 3))],[2,1,1,1],[⟨.normal,[.u 0 (.recv 55), .v 76 .bool],[]⟩],[0,1,6,8,9,11]⟩ fun x=>qo5 N x.1 x.2.1 x.2.2.2.2.1 x.2.2.2.2.2.1
def quu (N:Nat):UU (T10 N).ev (qab Tryz.f9):=UU.lp (quv N) N ⟨[1,1,1,1,1,1,0,1,0],[.o 0 (.recv 55), .v 1 (.sl 63), .o 6 (.box 37), .o 8 (.sl 37), .v 9 (.int .i64)],[(0, .box 0 0),(6, .box 1 0),(8, .c (.own 2))],[2,0,0],[⟨.exit 0,[.u 0 (.recv 55), .o 8 (.sl 37)],[(8, .c (.own 3))]⟩,⟨.ret,[.u 0 (.recv 55), .o 4 (.sl 37)],[(4, .c (.own 3))]⟩],[0]⟩ fun n x=>qhl N x.2.1 n x.1 x.2.2.1 x.2.2.2.1 x.2.2.2.2.1
def dzbW:FD D:=⟨9,2,[.v 1 (.sl 63)],[],some (0,55),2,[.o 4 (.sl 37), .u 0 (.recv 55)],[(4, .c (.own 1))],[.tmp 4],false⟩
def FzbW (N:Nat):dzbW.F:=fun r x=>zbW N r x.1
theorem wzbW (N:Nat):CallOk X0 dzbW (FzbW N):=UU.fn (quu N) Tryz.func9
def T11 (N:Nat):TT X0:=(T10 N).ad dzbW (FzbW N) (wzbW N)
def qvp (N:Nat):UU (T11 N).ev (qab Tryz.f7):=UU.st UU.nil ⟨[1,1,1,1,0,1,0,0,1,0,0,1,1,0,1],[.o 0 (.recv 55), .v 6 (.sl 63), .o 7 (.sl 3), .o 8 (.sl 43), .o 11 (.box 43), .v 43 .bool],[(0, .box 0 0),(7, .c (.own 1)),(8, .c (.own 2)),(11, .box 3 0)],[2,1,1,2],[⟨.normal,[.u 0 (.recv 55), .u 3 (.box 43)],[]⟩],[0,1,6,7,8,9,11]⟩ fun x=>qpn N x.1 x.2.1 x.2.2.1 x.2.2.2.2.1 x.2.2.2.2.2.1
def qvo (N:Nat):UU (T11 N).ev (qab Tryz.f7):=UU.lp (qvp N) N ⟨[1,1,1,1,0,1,0],[.o 0 (.recv 55), .v 1 (.int .i64), .v 6 (.sl 63), .o 7 (.sl 3), .o 8 (.sl 43), .v 9 (.int .i64)],[(0, .box 0 0),(7, .c (.own 1)),(8, .c (.own 2))],[2,1,0],[⟨.exit 0,[.u 0 (.recv 55), .o 8 (.sl 43)],[(8, .c (.own 3))]⟩],[0,6]⟩ fun n x=>qjI N x.2.1 x.2.2.1 x.2.2.2.1 n x.1 x.2.2.2.2.1 x.2.2.2.2.2.1
def dzdE:FD D:=⟨7,2,[.v 1 (.int .i64)],[],some (0,55),2,[.v 4 (.sl 63), .o 5 (.sl 43), .u 0 (.recv 55)],[(5, .c (.own 1))],[.tmp 4, .tmp 5],false⟩
def FzdE (N:Nat):dzdE.F:=fun r x=>zdE N r x.1
theorem wzdE (N:Nat):CallOk X0 dzdE (FzdE N):=UU.fn (qvo N) Tryz.func7
def T12 (N:Nat):TT X0:=(T11 N).ad dzdE (FzdE N) (wzdE N)
def qvs (N:Nat):UU (T12 N).ev (qab Tryz.f113):=UU.st UU.nil ⟨[1,0,1,0,0,1,0,0,0],[.v 0 .str, .v 3 (.int .i64)],[],[],[⟨.normal,[.v 32 .bool],[]⟩],[0,3]⟩ fun x=>qpp N x.1 x.2.1
def qvr (N:Nat):UU (T12 N).ev (qab Tryz.f113):=UU.lp (qvs N) N ⟨[1,0,1,0],[.v 0 .str, .v 3 (.int .i64)],[],[],[⟨.exit 0,[],[]⟩,⟨.ret,[.v 2 .bool],[]⟩],[0]⟩ fun n x=>qiB N x.1 n x.2.1
def qvt (N:Nat):UU (T12 N).ev (qab Tryz.f113):=UU.st (qvr N) ⟨[1,1,0],[.v 0 .str],[],[],[⟨.normal,[.v 2 .bool],[]⟩],[]⟩ fun x=>qrW N x.1
def dzdG:FD D:=⟨113,1,[.v 0 .str],[],none,0,[.v 2 .bool],[],[.tmp 2],true⟩
def FzdG (N:Nat):dzdG.F:=fun r x=>zdG N x.1
theorem wzdG (N:Nat):CallOk X0 dzdG (FzdG N):=UU.fn (qvt N) Tryz.func113
def T13 (N:Nat):TT X0:=(T12 N).ad dzdG (FzdG N) (wzdG N)
def qu4 (N:Nat):UU (T13 N).ev (qab Tryz.f106):=UU.st UU.nil ⟨[1,1,0,0],[.o 5 (.box 63), .o 6 (.sl 3)],[(5, .box 0 0),(6, .c (.own 1))],[1,1],[⟨.normal,[.v 23 .bool],[]⟩],[5,6]⟩ fun x=>qrR N x.1 x.2.1
def qu6 (N:Nat):UU (T13 N).ev (qab Tryz.f106):=UU.st (qu4 N) ⟨[1,1,1,0,1,0,0,1,0,0,0],[.o 5 (.box 63), .v 6 (.sl 3), .v 7 (.int .i64)],[(5, .box 0 0)],[1],[⟨.normal,[.v 51 .bool],[]⟩],[5,6,7]⟩ fun x=>qrS N x.2.1 x.2.2.1
def qu5 (N:Nat):UU (T13 N).ev (qab Tryz.f106):=UU.lp (qu6 N) N ⟨[1,1,1,0,1,0],[.o 5 (.box 63), .v 6 (.sl 3), .v 7 (.int .i64)],[(5, .box 0 0)],[1],[⟨.exit 0,[],[]⟩,⟨.ret,[.v 4 .bool],[]⟩],[5,6]⟩ fun n x=>qhs N x.2.1 n x.2.2.1
def qu7 (N:Nat):UU (T13 N).ev (qab Tryz.f106):=UU.st (qu5 N) ⟨[1,1,1,1,0,0],[.o 5 (.box 63), .v 6 (.sl 3)],[(5, .box 0 0)],[1],[⟨.normal,[.v 59 .bool],[]⟩],[5]⟩ fun x=>qrT N x.1 x.2.1
def qu8 (N:Nat):UU (T13 N).ev (qab Tryz.f106):=UU.st (qu7 N) ⟨[1,1,1,1,1,0,1,0,0],[.o 5 (.box 63)],[(5, .box 0 0)],[1],[⟨.normal,[.v 4 .bool],[]⟩],[]⟩ fun x=>qrU N x.1
def dzcX:FD D:=⟨106,2,[.v 0 (.sl 63), .v 1 (.int .i64)],[],none,0,[.v 4 .bool],[],[.tmp 4],true⟩
def FzcX (N:Nat):dzcX.F:=fun r x=>zcX N x.1 x.2.1
theorem wzcX (N:Nat):CallOk X0 dzcX (FzcX N):=UU.fn (qu8 N) Tryz.func106
def T14 (N:Nat):TT X0:=(T13 N).ad dzcX (FzcX N) (wzcX N)
def qu1 (N:Nat):UU (T14 N).ev (qab Tryz.f75):=UU.lp UU.nil N ⟨[1,1,1,0,1,0,0,1,0,0,1,0,1,0],[.v 0 (.sl 63), .o 3 (.arr 3 150 64), .v 4 (.int .i64), .v 5 (.int .i64)],[(3, .arr 0)],[1],[⟨.exit 2,[],[]⟩,⟨.ret,[.v 2 (.int .i64)],[]⟩],[0,3,4]⟩ fun n x=>qhq N x.1 x.2.2.1 n x.2.2.2.1
def qu2 (N:Nat):UU (T14 N).ev (qab Tryz.f75):=UU.lp (qu1 N) N ⟨[1,1,1,0,1,0,0,1,0,0,1,1,1,0,1,0],[.o 3 (.arr 3 150 64), .o 6 (.sl 3), .v 7 (.int .i64)],[(3, .arr 0),(6, .c (.own 1))],[1,1],[⟨.exit 4,[],[]⟩,⟨.ret,[.v 2 (.int .i64)],[]⟩],[0,3,4,6]⟩ fun n x=>qhr N x.1 x.2.1 n x.2.2.1
def qu3 (N:Nat):UU (T14 N).ev (qab Tryz.f75):=UU.lp (qu2 N) N ⟨[1,1,1,0,1,0,0,1,0,0,1,1,1,1,1,0],[.o 3 (.arr 3 150 64), .o 6 (.sl 3), .v 8 (.int .i64)],[(3, .arr 0),(6, .c (.own 1))],[2,1],[⟨.exit 6,[.u 0 (.arr 3 150 64)],[]⟩],[0,3,4]⟩ fun n x=>qjG N x.2.1 n x.1 x.2.2.1
def qu0 (N:Nat):UU (T14 N).ev (qab Tryz.f75):=UU.lp (qu3 N) N ⟨[1,1,1,0,1,0],[.v 0 (.sl 63), .o 3 (.arr 3 150 64), .v 4 (.int .i64)],[(3, .arr 0)],[0],[⟨.exit 0,[],[]⟩,⟨.ret,[.v 2 (.int .i64)],[]⟩],[]⟩ fun n x=>qlk N x.1 n x.2.1 x.2.2.1
def dzcW:FD D:=⟨75,1,[.v 0 (.sl 63)],[],none,0,[.v 2 (.int .i64)],[],[.tmp 2],true⟩
def FzcW (N:Nat):dzcW.F:=fun r x=>zcW N x.1
theorem wzcW (N:Nat):CallOk X0 dzcW (FzcW N):=UU.fn (qu0 N) Tryz.func75
def T15 (N:Nat):TT X0:=(T14 N).ad dzcW (FzcW N) (wzcW N)
def qve (N:Nat):UU (T15 N).ev (qab Tryz.f76):=UU.st UU.nil ⟨[1,0],[.v 0 (.sl 63), .v 1 (.int .i64)],[],[],[⟨.normal,[.v 4 .bool],[]⟩],[]⟩ fun x=>qrV N x.1 x.2.1
def dzcZ:FD D:=⟨76,2,[.v 0 (.sl 63), .v 1 (.int .i64)],[],none,0,[.v 4 .bool],[],[.tmp 4],true⟩
def FzcZ (N:Nat):dzcZ.F:=fun r x=>zcZ N x.1 x.2.1
theorem wzcZ (N:Nat):CallOk X0 dzcZ (FzcZ N):=UU.fn (qve N) Tryz.func76
def T16 (N:Nat):TT X0:=(T15 N).ad dzcZ (FzcZ N) (wzcZ N)
def quT (N:Nat):UU (T16 N).ev (qab Tryz.f43):=UU.lp UU.nil N ⟨[1,0,1,0],[.v 0 (.sl 37), .v 1 (.int .i64), .v 5 (.int .i64)],[],[],[⟨.exit 0,[],[]⟩,⟨.ret,[.v 4 .bool],[]⟩],[]⟩ fun n x=>qix N x.1 x.2.1 n x.2.2.1
def dzcR:FD D:=⟨43,2,[.v 0 (.sl 37), .v 1 (.int .i64)],[],none,0,[.v 4 .bool],[],[.tmp 4],true⟩
def FzcR (N:Nat):dzcR.F:=fun r x=>zcR N x.1 x.2.1
theorem wzcR (N:Nat):CallOk X0 dzcR (FzcR N):=UU.fn (quT N) Tryz.func43
def T17 (N:Nat):TT X0:=(T16 N).ad dzcR (FzcR N) (wzcR N)
def qvG (N:Nat):UU (T17 N).ev (qab Tryz.f77):=UU.lp UU.nil N ⟨[1,0,1,0],[.v 0 (.sl 3), .v 1 (.int .i64), .v 5 (.int .i64)],[],[],[⟨.exit 0,[],[]⟩,⟨.ret,[.v 4 .bool],[]⟩],[]⟩ fun n x=>qiD N x.1 x.2.1 n x.2.2.1
def dzdO:FD D:=⟨77,2,[.v 0 (.sl 3), .v 1 (.int .i64)],[],none,0,[.v 4 .bool],[],[.tmp 4],true⟩
def FzdO (N:Nat):dzdO.F:=fun r x=>zdO N x.1 x.2.1
theorem wzdO (N:Nat):CallOk X0 dzdO (FzdO N):=UU.fn (qvG N) Tryz.func77
def T18 (N:Nat):TT X0:=(T17 N).ad dzdO (FzdO N) (wzdO N)
def qu9 (N:Nat):UU (T18 N).ev (qab Tryz.f42):=UU.st UU.nil ⟨[1,1,0,0],[.v 0 (.sl 63), .v 1 (.sl 37), .v 5 (.int .i64)],[],[],[⟨.normal,[.v 50 .bool],[]⟩],[0,1,5]⟩ fun x=>qiy N x.1 x.2.1 x.2.2.1
def qvb (N:Nat):UU (T18 N).ev (qab Tryz.f42):=UU.st (qu9 N) ⟨[1,1,1,0,1,0,0,1,0,0,0,0],[.v 0 (.sl 63), .v 1 (.sl 37), .v 6 (.int .i64)],[],[],[⟨.normal,[.v 82 .bool],[]⟩],[0,1,5,6]⟩ fun x=>qpf N x.1 x.2.1 x.2.2.1
def qvc (N:Nat):UU (T18 N).ev (qab Tryz.f42):=UU.st (qvb N) ⟨[1,1,1,0,1,0,0,1,0,0,1,0,0],[.v 0 (.sl 63), .v 1 (.sl 37), .v 5 (.int .i64), .v 6 (.int .i64)],[],[],[⟨.normal,[.v 136 .bool],[]⟩],[0,1,5,6]⟩ fun x=>qpg N x.1 x.2.1 x.2.2.1 x.2.2.2.1
def qvd (N:Nat):UU (T18 N).ev (qab Tryz.f42):=UU.st (qvc N) ⟨[1,1,1,0,1,0,0,1,0,0,1,1,0],[.v 0 (.sl 63), .v 1 (.sl 37), .v 5 (.int .i64), .v 6 (.int .i64)],[],[],[⟨.normal,[.v 164 .bool],[]⟩],[0,1,5,6]⟩ fun x=>qph N x.1 x.2.1 x.2.2.1 x.2.2.2.1
def qva (N:Nat):UU (T18 N).ev (qab Tryz.f42):=UU.lp (qvd N) N ⟨[1,1,1,0,1,0],[.v 0 (.sl 63), .v 1 (.sl 37), .v 5 (.int .i64), .v 6 (.int .i64)],[],[],[⟨.exit 0,[],[]⟩,⟨.ret,[.v 4 .bool],[]⟩],[]⟩ fun n x=>qiz N x.1 x.2.1 x.2.2.1 n x.2.2.2.1
def dzcY:FD D:=⟨42,2,[.v 0 (.sl 63), .v 1 (.sl 37)],[],none,0,[.v 4 .bool],[],[.tmp 4],true⟩
def FzcY (N:Nat):dzcY.F:=fun r x=>zcY N x.1 x.2.1
theorem wzcY (N:Nat):CallOk X0 dzcY (FzcY N):=UU.fn (qva N) Tryz.func42
def T19 (N:Nat):TT X0:=(T18 N).ad dzcY (FzcY N) (wzcY N)
def qum (N:Nat):UU (T19 N).ev (qab Tryz.f83):=UU.st UU.nil ⟨[1,1,0,0,1,1,0],[.o 3 (.box 37), .o 5 (.box 63)],[(3, .box 0 0),(5, .box 1 0)],[1,1],[⟨.normal,[.v 15 .bool],[]⟩],[5]⟩ fun x=>qlh N x.1 x.2.1
def dzbS:FD D:=⟨83,2,[.v 0 (.sl 63), .v 1 (.agg 37)],[],none,0,[.v 4 (.int .i64)],[],[.tmp 4],true⟩
def FzbS (N:Nat):dzbS.F:=fun r x=>zbS N x.1 x.2.1
theorem wzbS (N:Nat):CallOk X0 dzbS (FzbS N):=UU.fn (qum N) Tryz.func83
def T20 (N:Nat):TT X0:=(T19 N).ad dzbS (FzbS N) (wzbS N)
def qvI (N:Nat):UU (T20 N).ev (qab Tryz.f85):=UU.st UU.nil ⟨[1,1,0,0,0,0,0],[.v 0 (.sl 51), .o 3 (.box 51), .v 5 (.int .i64)],[(3, .box 0 0)],[1],[⟨.normal,[.v 20 .bool],[]⟩],[0,3,5]⟩ fun x=>qln N x.1 x.2.1 x.2.2.1
def qvH (N:Nat):UU (T20 N).ev (qab Tryz.f85):=UU.lp (qvI N) N ⟨[1,1,0,0],[.v 0 (.sl 51), .o 3 (.box 51), .v 5 (.int .i64)],[(3, .box 0 0)],[1],[⟨.exit 0,[.v 5 (.int .i64)],[]⟩],[0,3]⟩ fun n x=>qlm N x.1 x.2.1 n x.2.2.1
def qvJ (N:Nat):UU (T20 N).ev (qab Tryz.f85):=UU.st (qvH N) ⟨[1,1,1,0,0],[.v 0 (.sl 51), .o 3 (.box 51), .v 5 (.int .i64)],[(3, .box 0 0)],[1],[⟨.normal,[.v 36 .bool],[]⟩],[0,3,5]⟩ fun x=>qlo N x.1 x.2.1 x.2.2.1
def dzdP:FD D:=⟨85,2,[.v 0 (.sl 51), .v 1 (.agg 51)],[],none,0,[.v 4 (.sl 51)],[],[.tmp 4],false⟩
def FzdP (N:Nat):dzdP.F:=fun r x=>zdP N x.1 x.2.1
theorem wzdP (N:Nat):CallOk X0 dzdP (FzdP N):=UU.fn (qvJ N) Tryz.func85
def T21 (N:Nat):TT X0:=(T20 N).ad dzdP (FzdP N) (wzdP N)
def qup (N:Nat):UU (T21 N).ev (qab Tryz.f82):=UU.st UU.nil ⟨[1,1,1,0,1,0,0,1,0],[.v 0 (.sl 63), .v 1 (.sl 37), .v 6 (.sl 51), .v 7 (.int .i64)],[],[],[⟨.normal,[.v 6 (.sl 51)],[]⟩],[0,1,7]⟩ fun x=>qo3 N x.1 x.2.1 x.2.2.1 x.2.2.2.1
def qun (N:Nat):UU (T21 N).ev (qab Tryz.f82):=UU.lp (qup N) N ⟨[1,1,1,0,1,0],[.v 0 (.sl 63), .v 1 (.sl 37), .v 6 (.sl 51), .v 7 (.int .i64)],[],[],[⟨.exit 0,[.v 6 (.sl 51)],[]⟩],[]⟩ fun n x=>qjA N x.1 x.2.1 n x.2.2.1 x.2.2.2.1
def dzbT:FD D:=⟨82,2,[.v 0 (.sl 63), .v 1 (.sl 37)],[],none,0,[.v 4 (.sl 51), .v 5 (.int .i64)],[],[.tmp 4, .tmp 5],false⟩
def FzbT (N:Nat):dzbT.F:=fun r x=>zbT N x.1 x.2.1
theorem wzbT (N:Nat):CallOk X0 dzbT (FzbT N):=UU.fn (qun N) Tryz.func82
def T22 (N:Nat):TT X0:=(T21 N).ad dzbT (FzbT N) (wzbT N)
def qvL (N:Nat):UU (T22 N).ev (qab Tryz.f41):=UU.lp UU.nil N ⟨[1,0,1,0],[.v 0 (.sl 51), .v 1 (.int .i64), .v 5 (.int .i64)],[],[],[⟨.exit 0,[],[]⟩,⟨.ret,[.v 4 (.int .i64)],[]⟩],[]⟩ fun n x=>qjM N x.1 x.2.1 n x.2.2.1
def dzdR:FD D:=⟨41,2,[.v 0 (.sl 51), .v 1 (.int .i64)],[],none,0,[.v 4 (.int .i64)],[],[.tmp 4],true⟩
def FzdR (N:Nat):dzdR.F:=fun r x=>zdR N x.1 x.2.1
theorem wzdR (N:Nat):CallOk X0 dzdR (FzdR N):=UU.fn (qvL N) Tryz.func41
def T23 (N:Nat):TT X0:=(T22 N).ad dzdR (FzdR N) (wzdR N)
def dzaU:GD D:=⟨84,3,[.o 0 (.bx 125 [(3,1)]), .v 1 (.int .i64), .v 2 (.int .i64), .o 2000003 (.map 84 114 4)],[(0, .box 0 0)],[2,2],[.v 6 (.int .i64), .u 0 (.bx 125 [(3,1)]), .u 1 (.map 84 114 4)],[],[6],true⟩
def FzaU (N rc:Nat):dzaU.pd.F:=fun x=>zaU N rc x.1 x.2.1 x.2.2.1 x.2.2.2.1
def Tr23 (N rc:Nat) (hr:CallG X0 dzaU (FzaU N rc)):TT X0:=(T23 N).ag dzaU (FzaU N rc) hr
def qtp (N rc:Nat) (hr:CallG X0 dzaU (FzaU N rc)):UU (Tr23 N rc hr).ev (qab Tryz.f84):=UU.st UU.nil ⟨[1,1,1,1,0,0],[.o 0 (.bx 125 [(3,1)]), .v 7 (.int .i64), .o 2000003 (.map 84 114 4)],[(0, .box 0 0)],[1,1],[⟨.normal,[.v 43 .bool],[]⟩],[0,2,7]⟩ fun x=>qlc N (zaU N rc) x.1 x.2.1
def qtr (N rc:Nat) (hr:CallG X0 dzaU (FzaU N rc)):UU (Tr23 N rc hr).ev (qab Tryz.f84):=UU.st (qtp N rc hr) ⟨[1,1,1,1,1,1,1,0,0,1,1,0],[.o 0 (.bx 125 [(3,1)]), .v 2 (.int .i64), .v 8 (.rp 63), .o 2000003 (.map 84 114 4)],[(0, .box 0 0)],[1,1],[⟨.normal,[.v 55 .bool],[]⟩],[0,2,7,8,9]⟩ fun x=>qnt N (zaU N rc) x.2.1 x.2.2.1
def qts (N rc:Nat) (hr:CallG X0 dzaU (FzaU N rc)):UU (Tr23 N rc hr).ev (qab Tryz.f84):=UU.st (qtr N rc hr) ⟨[1,1,1,1,1,1,1,0,0,1,1,1,1,0],[.o 0 (.bx 125 [(3,1)]), .v 2 (.int .i64), .v 8 (.rp 63), .o 2000003 (.map 84 114 4)],[(0, .box 0 0)],[1,1],[⟨.normal,[.v 78 .bool],[]⟩],[0,7,8,9]⟩ fun x=>qnu N (zaU N rc) x.2.1 x.2.2.1
def qtq (N rc:Nat) (hr:CallG X0 dzaU (FzaU N rc)):UU (Tr23 N rc hr).ev (qab Tryz.f84):=UU.st (qts N rc hr) ⟨[1,1,1,1,1,1,1,0],[.o 0 (.bx 125 [(3,1)]), .v 2 (.int .i64), .v 7 (.int .i64), .v 8 (.rp 63), .v 9 (.int .i64), .o 2000003 (.map 84 114 4)],[(0, .box 0 0)],[2,2],[⟨.normal,[.u 0 (.bx 125 [(3,1)]), .v 9 (.int .i64), .u 1 (.map 84 114 4)],[]⟩,⟨.ret,[.u 0 (.bx 125 [(3,1)]), .v 6 (.int .i64), .u 1 (.map 84 114 4)],[]⟩],[0,7]⟩ fun x=>qld N (zaU N rc) x.1 x.2.1 x.2.2.1 x.2.2.2.1 x.2.2.2.2.1 x.2.2.2.2.2.1
def qtt (N rc:Nat) (hr:CallG X0 dzaU (FzaU N rc)):UU (Tr23 N rc hr).ev (qab Tryz.f84):=UU.st (qtq N rc hr) ⟨[1,1,1,1,1,1,1,1,0,1,0],[.o 0 (.bx 125 [(3,1)]), .v 9 (.int .i64), .v 11 (.int .i64), .o 2000003 (.map 84 114 4)],[(0, .box 0 0)],[1,1],[⟨.normal,[.v 104 .bool],[]⟩],[0,7,9]⟩ fun x=>qnv N (zaU N rc) x.2.1 x.2.2.1
theorem ozaU (N rc:Nat) (hr:CallG X0 dzaU (FzaU N rc)):CallG X0 dzaU (FzaU N (rc+1)):=UU.gn (qtt N rc hr) Tryz.func84
theorem wzaU (N:Nat):∀rc:Nat,CallG X0 dzaU (FzaU N rc)
 |0=>CallG.none fun x=>rfl
 |rc+1=>ozaU N rc (wzaU N rc)
def T24 (N:Nat):TT X0:=(T23 N).ag dzaU (FzaU N N) (wzaU N N)
def quC (N:Nat):UU (T24 N).ev (qab Tryz.f51):=UU.st UU.nil ⟨[1,1,1,1,0,1,0,0,1,0,0,1,1,1,0,1],[.o 8 (.bx 125 [(3,2)]), .o 10 (.box 63), .v 11 (.int .i64), .v 53 .bool, .o 2008003 (.map 84 114 4)],[(8, .box 0 0),(10, .box 1 0)],[1,1,1],[⟨.normal,[.v 11 (.int .i64)],[]⟩],[0,1,6,8,9]⟩ fun x=>qo6 N x.2.1 x.2.2.1 x.2.2.2.1
def quB (N:Nat):UU (T24 N).ev (qab Tryz.f51):=UU.st (quC N) ⟨[1,1,1,1,0,1,0,0,1,0],[.v 0 (.sl 63), .v 1 (.sl 37), .o 8 (.bx 125 [(3,1)]), .v 9 (.int .i64), .o 2008003 (.map 84 114 4)],[(8, .box 0 0)],[2,2],[⟨.normal,[.u 0 (.bx 125 [(3,1)]), .u 1 (.map 84 114 4)],[]⟩,⟨.ret,[.v 5 (.int .i64)],[(4, .c .nilS)]⟩],[0,1,6,8,9]⟩ fun x=>qrJ N x.1 x.2.1 x.2.2.1 x.2.2.2.1 x.2.2.2.2.1
def quA (N:Nat):UU (T24 N).ev (qab Tryz.f51):=UU.lp (quB N) N ⟨[1,1,1,1,0,1,0],[.v 0 (.sl 63), .v 1 (.sl 37), .o 8 (.bx 125 [(3,1)]), .v 9 (.int .i64), .o 2008003 (.map 84 114 4)],[(8, .box 0 0)],[0,0],[⟨.exit 0,[.o 8 (.bx 125 [(3,3)]), .o 2008003 (.map 84 114 4)],[(8, .box 2 0)]⟩,⟨.ret,[.v 5 (.int .i64)],[(4, .c .nilS)]⟩],[6,8]⟩ fun n x=>qho N x.1 x.2.1 n x.2.2.1 x.2.2.2.1 x.2.2.2.2.1
def quD (N:Nat):UU (T24 N).ev (qab Tryz.f51):=UU.lp (quA N) N ⟨[1,1,1,1,1,0,1,0],[.v 6 (.sl 51), .o 8 (.bx 125 [(3,1)]), .v 13 (.int .i64), .o 2008003 (.map 84 114 4)],[(8, .box 0 0)],[1,1],[⟨.exit 2,[.v 6 (.sl 51)],[]⟩],[]⟩ fun n x=>qjB N x.2.1 n x.1 x.2.2.1
def dzcD:FD D:=⟨51,2,[.v 0 (.sl 63), .v 1 (.sl 37)],[],none,0,[.v 4 (.sl 51), .v 5 (.int .i64)],[],[.tmp 4, .tmp 5],false⟩
def FzcD (N:Nat):dzcD.F:=fun r x=>zcD N x.1 x.2.1
theorem wzcD (N:Nat):CallOk X0 dzcD (FzcD N):=UU.fn (quD N) Tryz.func51
def T25 (N:Nat):TT X0:=(T24 N).ad dzcD (FzcD N) (wzcD N)
def qvE (N:Nat):UU (T25 N).ev (qab Tryz.f48):=UU.lp UU.nil N ⟨[1,0,1,0],[.v 0 (.sl 49), .v 1 (.int .i64), .v 5 (.int .i64)],[],[],[⟨.exit 0,[],[]⟩,⟨.ret,[.v 4 (.int .i64)],[]⟩],[]⟩ fun n x=>qhu N x.1 x.2.1 n x.2.2.1
def dzdL:FD D:=⟨48,2,[.v 0 (.sl 49), .v 1 (.int .i64)],[],none,0,[.v 4 (.int .i64)],[],[.tmp 4],true⟩
def FzdL (N:Nat):dzdL.F:=fun r x=>zdL N x.1 x.2.1
theorem wzdL (N:Nat):CallOk X0 dzdL (FzdL N):=UU.fn (qvE N) Tryz.func48
def T26 (N:Nat):TT X0:=(T25 N).ad dzdL (FzdL N) (wzdL N)
def qtu (N:Nat):UU (T26 N).ev (qab Tryz.f68):=UU.lp UU.nil N ⟨[1,1,0,1,0],[.v 0 (.sl 51), .v 1 (.sl 51), .v 5 (.int .i64)],[],[],[⟨.exit 0,[],[]⟩,⟨.ret,[.v 4 .bool],[]⟩],[]⟩ fun n x=>qha N x.1 x.2.1 n x.2.2.1
def dzaW:FD D:=⟨68,2,[.v 0 (.sl 51), .v 1 (.sl 51)],[],none,0,[.v 4 .bool],[],[.tmp 4],true⟩
def FzaW (N:Nat):dzaW.F:=fun r x=>zaW N x.1 x.2.1
theorem wzaW (N:Nat):CallOk X0 dzaW (FzaW N):=UU.fn (qtu N) Tryz.func68
def T27 (N:Nat):TT X0:=(T26 N).ad dzaW (FzaW N) (wzaW N)
def quq (N:Nat):UU (T27 N).ev (qab Tryz.f52):=UU.lp UU.nil N ⟨[1,0,1,0],[.o 2 (.box 49), .o 3 (.box 49), .v 5 (.int .i64)],[(2, .box 0 0),(3, .box 1 0)],[1,1],[⟨.exit 0,[],[]⟩,⟨.ret,[.v 4 .bool],[]⟩],[2,3]⟩ fun n x=>qhi N x.1 x.2.1 n x.2.2.1
def qut (N:Nat):UU (T27 N).ev (qab Tryz.f52):=UU.st (quq N) ⟨[1,1,0,1,0,0,1,0,0,1,0,0,1,0,0,0],[.o 2 (.box 49), .o 3 (.box 49), .v 6 (.int .i64), .v 7 (.int .i64)],[(2, .box 0 0),(3, .box 1 0)],[1,1],[⟨.normal,[.v 65 .bool],[]⟩],[2,3,6,7]⟩ fun x=>qo4 N x.1 x.2.1 x.2.2.1 x.2.2.2.1
def qus (N:Nat):UU (T27 N).ev (qab Tryz.f52):=UU.lp (qut N) N ⟨[1,1,0,1,0,0,1,0,0,1,0],[.o 2 (.box 49), .o 3 (.box 49), .v 6 (.int .i64), .v 7 (.int .i64)],[(2, .box 0 0),(3, .box 1 0)],[1,1],[⟨.exit 4,[],[]⟩,⟨.ret,[.v 4 .bool],[]⟩],[2,3,6]⟩ fun n x=>qhk N x.1 x.2.1 x.2.2.1 n x.2.2.2.1
def qur (N:Nat):UU (T27 N).ev (qab Tryz.f52):=UU.lp (qus N) N ⟨[1,1,0,1,0],[.o 2 (.box 49), .o 3 (.box 49), .v 6 (.int .i64)],[(2, .box 0 0),(3, .box 1 0)],[1,1],[⟨.exit 2,[],[]⟩,⟨.ret,[.v 4 .bool],[]⟩],[]⟩ fun n x=>qhj N x.1 x.2.1 n x.2.2.1
def dzbV:FD D:=⟨52,2,[.v 0 (.agg 49), .v 1 (.agg 49)],[],none,0,[.v 4 .bool],[],[.tmp 4],true⟩
def FzbV (N:Nat):dzbV.F:=fun r x=>zbV N x.1 x.2.1
theorem wzbV (N:Nat):CallOk X0 dzbV (FzbV N):=UU.fn (qur N) Tryz.func52
def T28 (N:Nat):TT X0:=(T27 N).ad dzbV (FzbV N) (wzbV N)
def qvf (N:Nat):UU (T28 N).ev (qab Tryz.f78):=UU.st UU.nil ⟨[1,0,0],[.v 0 (.sl 63), .v 1 (.sl 49)],[],[],[⟨.normal,[.v 16 .bool],[]⟩],[0,1]⟩ fun x=>qpi N x.1 x.2.1
def qvh (N:Nat):UU (T28 N).ev (qab Tryz.f78):=UU.st (qvf N) ⟨[1,1,0,1,0,0,1,0,0,1,0,0],[.v 1 (.sl 49), .v 5 (.int .i64), .v 6 (.sl 51), .v 7 (.int .i64)],[],[],[⟨.normal,[.v 63 .bool],[]⟩],[0,1,5]⟩ fun x=>qpj N x.1 x.2.1 x.2.2.1 x.2.2.2.1
def qvi (N:Nat):UU (T28 N).ev (qab Tryz.f78):=UU.lp (qvh N) N ⟨[1,1,0,1,0,0,1,0,0,1,1,1,0],[.v 1 (.sl 49), .v 5 (.int .i64), .v 8 (.int .i64)],[],[],[⟨.exit 2,[],[]⟩,⟨.ret,[.v 4 .bool],[]⟩],[0,1,5]⟩ fun n x=>qjH N x.1 x.2.1 n x.2.2.1
def qvg (N:Nat):UU (T28 N).ev (qab Tryz.f78):=UU.lp (qvi N) N ⟨[1,1,0,1,0],[.v 0 (.sl 63), .v 1 (.sl 49), .v 5 (.int .i64)],[],[],[⟨.exit 0,[],[]⟩,⟨.ret,[.v 4 .bool],[]⟩],[]⟩ fun n x=>qht N x.1 x.2.1 n x.2.2.1
def dzdB:FD D:=⟨78,2,[.v 0 (.sl 63), .v 1 (.sl 49)],[],none,0,[.v 4 .bool],[],[.tmp 4],true⟩
def FzdB (N:Nat):dzdB.F:=fun r x=>zdB N x.1 x.2.1
theorem wzdB (N:Nat):CallOk X0 dzdB (FzdB N):=UU.fn (qvg N) Tryz.func78
def T29 (N:Nat):TT X0:=(T28 N).ad dzdB (FzdB N) (wzdB N)
def dzdC:FD D:=⟨47,2,[.v 0 (.sl 63), .v 1 (.sl 49)],[],none,0,[.v 4 (.int .i64)],[],[.tmp 4],true⟩
def FzdC (N:Nat):dzdC.F:=fun r x=>zdC N x.1 x.2.1
theorem wzdC (N:Nat):CallOk X0 dzdC (FzdC N):=UU.fn (UU.nil:UU (T29 N).ev (qab Tryz.f47)) Tryz.func47
def T30 (N:Nat):TT X0:=(T29 N).ad dzdC (FzdC N) (wzdC N)
def quU (N:Nat):UU (T30 N).ev (qab Tryz.f49):=UU.lp UU.nil N ⟨[1,1,0,1,0],[.v 0 (.sl 49), .o 3 (.sl 49), .v 4 (.int .i64)],[(3, .c (.own 0))],[0],[⟨.exit 0,[.o 3 (.sl 49)],[(3, .c (.own 1))]⟩],[]⟩ fun n x=>qjE N x.1 n x.2.1 x.2.2.1
def dzcS:FD D:=⟨49,1,[.v 0 (.sl 49)],[],none,0,[.o 2 (.sl 49)],[(2, .c (.own 0))],[.tmp 2],false⟩
def FzcS (N:Nat):dzcS.F:=fun r x=>zcS N x.1
theorem wzcS (N:Nat):CallOk X0 dzcS (FzcS N):=UU.fn (quU N) Tryz.func49
def T31 (N:Nat):TT X0:=(T30 N).ad dzcS (FzcS N) (wzcS N)
def Y31 (N:Nat):EV X0:=(T31 N).ev.cuts fun x lo hi=>match x,lo,hi with| .tmp 31,some (.tmp 27),some (.tmp 27)=>6|_,_,_=>0
def dzcE:FD D:=⟨21,3,[.v 0 (.sl 63), .v 1 (.sl 49), .v 2 (.int .i64)],[],none,0,[.v 6 (.sl 49), .v 7 (.int .i64)],[],[.tmp 6, .tmp 7],false⟩
def FzcE (N:Nat):dzcE.F:=fun r x=>zcE N x.1 x.2.1 x.2.2.1
theorem wzcE (N:Nat):CallOk X0 dzcE (FzcE N):=UU.fn (UU.nil:UU (Y31 N) (qab Tryz.f21)) Tryz.func21
def T32 (N:Nat):TT X0:=(T31 N).ad dzcE (FzcE N) (wzcE N)
def dzdK:FD D:=⟨81,2,[.v 0 (.sl 63), .v 1 (.agg 37)],[],none,0,[.o 4 (.sl 3)],[(4, .c (.own 0))],[.tmp 4],false⟩
def FzdK (N:Nat):dzdK.F:=fun r x=>zdK N x.1 x.2.1
theorem wzdK (N:Nat):CallOk X0 dzdK (FzdK N):=UU.fn (UU.nil:UU (T32 N).ev (qab Tryz.f81)) Tryz.func81
def T33 (N:Nat):TT X0:=(T32 N).ad dzdK (FzdK N) (wzdK N)
def qvD (N:Nat):UU (T33 N).ev (qab Tryz.f80):=UU.st UU.nil ⟨[1,1,1,0,1,0,0,1,0,0,1,0],[.o 5 (.box 37), .v 8 (.int .i64), .v 9 .bool, .o 10 (.sl 3), .v 12 (.int .i64), .v 13 .bool],[(5, .box 0 0),(10, .c (.own 1))],[1,1],[⟨.normal,[.v 50 .bool],[]⟩],[0,1,5,8,9,10,11,12]⟩ fun x=>qnB N x.2.1 x.2.2.1 x.2.2.2.2.1 x.2.2.2.2.2.1
def qvC (N:Nat):UU (T33 N).ev (qab Tryz.f80):=UU.st (qvD N) ⟨[1,1,1,0,1,0,0,1,0],[.v 0 (.sl 63), .v 1 (.mp 116 122 3), .o 5 (.box 37), .v 8 (.int .i64), .v 9 .bool, .o 10 (.sl 3), .v 11 (.int .i64)],[(5, .box 0 0),(10, .c (.own 1))],[1,1],[⟨.normal,[.v 8 (.int .i64), .v 9 .bool],[]⟩],[0,1,5,10,11]⟩ fun x=>qpt N x.1 x.2.1 x.2.2.1 x.2.2.2.1 x.2.2.2.2.1 x.2.2.2.2.2.1 x.2.2.2.2.2.2.1
def qvB (N:Nat):UU (T33 N).ev (qab Tryz.f80):=UU.lp (qvC N) N ⟨[1,1,1,0,1,0],[.v 0 (.sl 63), .v 1 (.mp 116 122 3), .o 5 (.box 37), .v 8 (.int .i64), .v 9 .bool, .o 10 (.sl 3), .v 11 (.int .i64)],[(5, .box 0 0),(10, .c (.own 1))],[1,1],[⟨.exit 0,[.v 8 (.int .i64), .v 9 .bool],[]⟩],[]⟩ fun n x=>qjL N x.1 x.2.1 x.2.2.1 x.2.2.2.2.2.1 n x.2.2.2.1 x.2.2.2.2.1 x.2.2.2.2.2.2.1
def dzdJ:FD D:=⟨80,3,[.v 0 (.sl 63), .v 1 (.mp 116 122 3), .v 2 (.agg 37)],[],none,0,[.v 6 (.int .i64), .v 7 .bool],[],[.tmp 6, .tmp 7],true⟩
def FzdJ (N:Nat):dzdJ.F:=fun r x=>zdJ N x.1 x.2.1 x.2.2.1
theorem wzdJ (N:Nat):CallOk X0 dzdJ (FzdJ N):=UU.fn (qvB N) Tryz.func80
def T34 (N:Nat):TT X0:=(T33 N).ad dzdJ (FzdJ N) (wzdJ N)
def qt5 (N:Nat):UU (T34 N).ev (qab Tryz.f79):=UU.lp UU.nil N ⟨[1,1,1,0,1,0],[.v 1 (.int .i64), .o 5 (.map 116 122 3), .o 6 (.sl 3), .v 7 (.int .i64)],[(5, .c (.own 0)),(6, .c (.own 1))],[2,1],[⟨.exit 0,[.u 0 (.map 116 122 3)],[]⟩],[0,1,5]⟩ fun n x=>qjx N x.1 x.2.2.1 n x.2.1 x.2.2.2.1
def qua (N:Nat):UU (T34 N).ev (qab Tryz.f79):=UU.st (qt5 N) ⟨[1,1,1,1,0,1,0,0,1,0,1,1,0,0,1,0,0,1,1,0,0,1,0,0,1,1,1,0],[.o 5 (.map 116 122 3), .o 10 (.sl 3), .v 12 (.int .i64), .v 13 .bool, .v 14 (.int .i64), .v 15 .bool],[(5, .c (.own 0)),(10, .c (.own 1))],[1,1],[⟨.normal,[.v 85 .bool],[]⟩],[0,1,5,8,9,10,11,12]⟩ fun x=>qny N x.2.2.1 x.2.2.2.1 x.2.2.2.2.1 x.2.2.2.2.2.1
def qt9 (N:Nat):UU (T34 N).ev (qab Tryz.f79):=UU.st (qua N) ⟨[1,1,1,1,0,1,0,0,1,0,1,1,0,0,1,0,0,1,1,0,0,1,0],[.v 0 (.sl 63), .v 1 (.int .i64), .o 5 (.map 116 122 3), .v 8 .bool, .v 9 (.int .i64), .o 10 (.sl 3), .v 11 (.int .i64)],[(5, .c (.own 0)),(10, .c (.own 1))],[2,1],[⟨.normal,[.u 0 (.map 116 122 3), .v 8 .bool],[]⟩],[0,1,5,9,10,11]⟩ fun x=>qoW N x.1 x.2.1 x.2.2.1 x.2.2.2.1 x.2.2.2.2.1 x.2.2.2.2.2.1 x.2.2.2.2.2.2.1
def qt8 (N:Nat):UU (T34 N).ev (qab Tryz.f79):=UU.lp (qt9 N) N ⟨[1,1,1,1,0,1,0,0,1,0,1,1,0,0,1,0,0,1,1,0],[.v 0 (.sl 63), .v 1 (.int .i64), .o 5 (.map 116 122 3), .v 8 .bool, .v 9 (.int .i64), .o 10 (.sl 3), .v 11 (.int .i64)],[(5, .c (.own 0)),(10, .c (.own 1))],[2,1],[⟨.exit 6,[.u 0 (.map 116 122 3), .v 8 .bool],[]⟩],[0,1,5,9]⟩ fun n x=>qjz N x.1 x.2.1 x.2.2.2.2.1 x.2.2.2.2.2.1 n x.2.2.1 x.2.2.2.1 x.2.2.2.2.2.2.1
def qt7 (N:Nat):UU (T34 N).ev (qab Tryz.f79):=UU.lp (qt8 N) N ⟨[1,1,1,1,0,1,0,0,1,0,1,1,0],[.v 0 (.sl 63), .v 1 (.int .i64), .o 5 (.map 116 122 3), .v 8 .bool, .v 9 (.int .i64)],[(5, .c (.own 0))],[2],[⟨.exit 4,[.u 0 (.map 116 122 3), .v 8 .bool],[]⟩],[0,1,5]⟩ fun n x=>qjy N x.1 x.2.1 n x.2.2.1 x.2.2.2.1 x.2.2.2.2.1
def qt6 (N:Nat):UU (T34 N).ev (qab Tryz.f79):=UU.lp (qt7 N) N ⟨[1,1,1,1,0,1,0],[.v 0 (.sl 63), .v 1 (.int .i64), .o 5 (.map 116 122 3), .v 8 .bool],[(5, .c (.own 0))],[2],[⟨.exit 2,[.u 0 (.map 116 122 3)],[]⟩],[5]⟩ fun n x=>qlg N x.1 x.2.1 n x.2.2.1 x.2.2.2.1
def dzbP:FD D:=⟨79,2,[.v 0 (.sl 63), .v 1 (.int .i64)],[],none,0,[.o 4 (.map 116 122 3)],[(4, .c (.own 0))],[.tmp 4],false⟩
def FzbP (N:Nat):dzbP.F:=fun r x=>zbP N x.1 x.2.1
theorem wzbP (N:Nat):CallOk X0 dzbP (FzbP N):=UU.fn (qt6 N) Tryz.func79
def T35 (N:Nat):TT X0:=(T34 N).ad dzbP (FzbP N) (wzbP N)
def qvw (N:Nat):UU (T35 N).ev (qab Tryz.f50):=UU.st UU.nil ⟨[1,1,0,0],[.v 0 (.sl 63), .v 1 (.int .i64), .v 2 (.int .i64)],[],[],[⟨.normal,[.v 39 .bool],[]⟩],[0,1,2]⟩ fun x=>qpq N x.1 x.2.1 x.2.2.1
def qvA (N:Nat):UU (T35 N).ev (qab Tryz.f50):=UU.st (qvw N) ⟨[1,1,1,1,1,1,1,1,0,0,0,1,0,0,1,1,1,0,1,0,0,1,0,0,1,1,0],[.o 9 (.map 116 122 3), .o 10 (.box 37), .v 11 (.int .i64), .o 13 (.sl 37), .o 14 (.sl 3), .v 15 (.int .i64), .v 16 (.int .i64), .v 17 (.int .i64), .v 18 (.int .i64), .v 19 .bool],[(9, .c (.own 0)),(10, .box 1 0),(13, .c (.own 2)),(14, .c (.own 3))],[1,1,1,1],[⟨.normal,[.v 115 .bool],[]⟩],[0,2,9,10,11,13,14,15,16,17]⟩ fun x=>qps N x.2.1 x.2.2.1 x.2.2.2.2.1 x.2.2.2.2.2.1 x.2.2.2.2.2.2.1 x.2.2.2.2.2.2.2.1 x.2.2.2.2.2.2.2.2.1 x.2.2.2.2.2.2.2.2.2.1
def qvz (N:Nat):UU (T35 N).ev (qab Tryz.f50):=UU.st (qvA N) ⟨[1,1,1,1,1,1,1,1,0,0,0,1,0,0,1,1,1,0,1,0,0,1,0],[.v 0 (.sl 63), .o 9 (.map 116 122 3), .o 10 (.box 37), .v 11 (.int .i64), .o 13 (.sl 37), .o 14 (.sl 3), .v 15 (.int .i64), .v 16 (.int .i64)],[(9, .c (.own 0)),(10, .box 1 0),(13, .c (.own 2)),(14, .c (.own 3))],[1,2,1,1],[⟨.normal,[.u 1 (.box 37), .v 15 (.int .i64)],[]⟩],[0,2,9,10,11,13,14,16]⟩ fun x=>qpr N x.1 x.2.1 x.2.2.1 x.2.2.2.1 x.2.2.2.2.2.1 x.2.2.2.2.2.2.1 x.2.2.2.2.2.2.2.1
def qvy (N:Nat):UU (T35 N).ev (qab Tryz.f50):=UU.lp (qvz N) N ⟨[1,1,1,1,1,1,1,1,0,0,0,1,0,0,1,1,1,0,1,0],[.v 0 (.sl 63), .o 9 (.map 116 122 3), .o 10 (.box 37), .v 11 (.int .i64), .o 13 (.sl 37), .o 14 (.sl 3), .v 15 (.int .i64), .v 16 (.int .i64)],[(9, .c (.own 0)),(10, .box 1 0),(13, .c (.own 2)),(14, .c (.own 3))],[1,2,1,1],[⟨.exit 2,[.u 1 (.box 37), .v 15 (.int .i64)],[]⟩],[0,2,9,10,11,13]⟩ fun n x=>qjK N x.1 x.2.1 x.2.2.2.1 x.2.2.2.2.2.1 n x.2.2.1 x.2.2.2.2.2.2.1 x.2.2.2.2.2.2.2.1
def qvx (N:Nat):UU (T35 N).ev (qab Tryz.f50):=UU.lp (qvy N) N ⟨[1,1,1,1,1,1,1,1,0,0],[.v 0 (.sl 63), .o 9 (.map 116 122 3), .o 10 (.box 37), .v 11 (.int .i64), .o 13 (.sl 37)],[(9, .c (.own 0)),(10, .box 1 0),(13, .c (.own 2))],[1,2,0],[⟨.exit 0,[.u 1 (.box 37), .o 13 (.sl 37)],[(13, .c (.own 3))]⟩,⟨.ret,[.v 7 (.int .i64)],[(6, .c .nilS)]⟩],[2,10]⟩ fun n x=>qjJ N x.1 x.2.1 n x.2.2.1 x.2.2.2.1 x.2.2.2.2.1
def dzdI:FD D:=⟨50,3,[.v 0 (.sl 63), .v 1 (.int .i64), .v 2 (.int .i64)],[],none,0,[.o 6 (.sl 37), .v 7 (.int .i64)],[(6, .c (.own 0))],[.tmp 6, .tmp 7],false⟩
def FzdI (N:Nat):dzdI.F:=fun r x=>zdI N x.1 x.2.1 x.2.2.1
theorem wzdI (N:Nat):CallOk X0 dzdI (FzdI N):=UU.fn (qvx N) Tryz.func50
def T36 (N:Nat):TT X0:=(T35 N).ad dzdI (FzdI N) (wzdI N)
def qvK (N:Nat):UU (T36 N).ev (qab Tryz.f22):=UU.lp UU.nil N ⟨[1,1,1,1,1,1,1,1,0,1,0],[.v 1 (.sl 49), .o 16 (.box 49), .v 17 (.int .i64)],[(16, .box 0 0)],[1],[⟨.exit 1,[],[]⟩,⟨.ret,[.v 11 (.int .i64)],[(10, .c .nilS)]⟩],[1,16]⟩ fun n x=>qhv N x.1 x.2.1 n x.2.2.1
def dzdQ:FD D:=⟨22,5,[.v 0 (.sl 63), .v 1 (.sl 49), .v 2 (.int .i64), .v 3 (.int .i64), .v 4 (.int .i64)],[],none,0,[.o 10 (.sl 49), .v 11 (.int .i64)],[(10, .c (.own 0))],[.tmp 10, .tmp 11],false⟩
def FzdQ (N:Nat):dzdQ.F:=fun r x=>zdQ N x.1 x.2.1 x.2.2.1 x.2.2.2.1 x.2.2.2.2.1
theorem wzdQ (N:Nat):CallOk X0 dzdQ (FzdQ N):=UU.fn (qvK N) Tryz.func22
def T37 (N:Nat):TT X0:=(T36 N).ad dzdQ (FzdQ N) (wzdQ N)
def quN (N:Nat):UU (T37 N).ev (qab Tryz.f8):=UU.st UU.nil ⟨[1,1,0,1,0,0,1,0,0,1,0,1],[.v 0 (.sl 63), .v 1 (.sl 43), .v 5 (.sl 49), .v 6 (.int .i64), .v 7 (.sl 49), .v 8 (.int .i64), .v 30 .bool],[],[],[⟨.normal,[.v 7 (.sl 49), .v 8 (.int .i64)],[]⟩],[0,1,5,6]⟩ fun x=>qrM N x.1 x.2.1 x.2.2.1 x.2.2.2.1 x.2.2.2.2.1 x.2.2.2.2.2.1 x.2.2.2.2.2.2.1
def quM (N:Nat):UU (T37 N).ev (qab Tryz.f8):=UU.st (quN N) ⟨[1,1,0,1,0,0,1,0],[.v 0 (.sl 63), .v 1 (.sl 43), .v 5 (.sl 49), .v 6 (.int .i64)],[],[],[⟨.normal,[.v 5 (.sl 49)],[]⟩],[0,1,6]⟩ fun x=>qpa N x.1 x.2.1 x.2.2.1 x.2.2.2.1
def quL (N:Nat):UU (T37 N).ev (qab Tryz.f8):=UU.lp (quM N) N ⟨[1,1,0,1,0],[.v 0 (.sl 63), .v 1 (.sl 43), .v 5 (.sl 49), .v 6 (.int .i64)],[],[],[⟨.exit 0,[.v 5 (.sl 49)],[]⟩],[]⟩ fun n x=>qjD N x.1 x.2.1 n x.2.2.1 x.2.2.2.1
def dzcN:FD D:=⟨8,2,[.v 0 (.sl 63), .v 1 (.sl 43)],[],none,0,[.v 4 (.sl 49)],[],[.tmp 4],false⟩
def FzcN (N:Nat):dzcN.F:=fun r x=>zcN N x.1 x.2.1
theorem wzcN (N:Nat):CallOk X0 dzcN (FzcN N):=UU.fn (quL N) Tryz.func8
def T38 (N:Nat):TT X0:=(T37 N).ad dzcN (FzcN N) (wzcN N)
def quP (N:Nat):UU (T38 N).ev (qab Tryz.f74):=UU.st UU.nil ⟨[1,0,1,0,0,1],[.o 1 (.box 63), .v 4 (.int .i64), .v 5 .bool],[(1, .box 0 0)],[1],[⟨.normal,[.v 5 .bool],[]⟩],[1,4]⟩ fun x=>qrO N x.2.1 x.2.2.1
def dzcP:FD D:=⟨74,1,[.v 0 (.agg 63)],[],none,0,[.o 2 (.sl 3)],[(2, .c (.own 0))],[.tmp 2],false⟩
def FzcP (N:Nat):dzcP.F:=fun r x=>zcP N x.1
theorem wzcP (N:Nat):CallOk X0 dzcP (FzcP N):=UU.fn (quP N) Tryz.func74
def T39 (N:Nat):TT X0:=(T38 N).ad dzcP (FzcP N) (wzcP N)
def quQ (N:Nat):UU (T39 N).ev (qab Tryz.f105):=UU.st UU.nil ⟨[1,0,0],[.v 0 .str],[],[],[⟨.normal,[.v 11 .bool],[]⟩],[0]⟩ fun x=>qrP N x.1
def quS (N:Nat):UU (T39 N).ev (qab Tryz.f105):=UU.st (quQ N) ⟨[1,1,0,1,0,0,1,1,0,0,1,0],[.v 0 .str, .v 3 (.int .i64)],[],[],[⟨.normal,[.v 38 .bool],[]⟩],[0,13,14]⟩ fun x=>qpb N x.1 x.2.1
def quR (N:Nat):UU (T39 N).ev (qab Tryz.f105):=UU.lp (quS N) N ⟨[1,1,0,1,0],[.v 0 .str, .v 13 (.int .i64), .v 14 (.int .i64)],[],[],[⟨.exit 0,[],[]⟩,⟨.ret,[.v 2 .bool],[]⟩],[]⟩ fun n x=>qiw N x.1 x.2.1 n x.2.2.1
def dzcQ:FD D:=⟨105,1,[.v 0 .str],[],none,0,[.v 2 .bool],[],[.tmp 2],true⟩
def FzcQ (N:Nat):dzcQ.F:=fun r x=>zcQ N x.1
theorem wzcQ (N:Nat):CallOk X0 dzcQ (FzcQ N):=UU.fn (quR N) Tryz.func105
def T40 (N:Nat):TT X0:=(T39 N).ad dzcQ (FzcQ N) (wzcQ N)
def qtX (N:Nat):UU (T40 N).ev (qab Tryz.f73):=UU.st UU.nil ⟨[1,1,0,0],[.o 1 (.box 63), .o 3 (.sl 3)],[(1, .box 0 0),(3, .c (.own 1))],[1,1],[⟨.normal,[.v 17 .bool],[]⟩],[1,3]⟩ fun x=>qrB N x.1 x.2.1
def qtZ (N:Nat):UU (T40 N).ev (qab Tryz.f73):=UU.st (qtX N) ⟨[1,1,1,0,1,0,0,1,1,0,0,1,0,0],[.o 1 (.box 63), .v 5 (.int .i64)],[(1, .box 0 0)],[1],[⟨.normal,[.v 30 .bool],[]⟩],[1,3,4,5,18,19,20]⟩ fun x=>qrC N x.2.1
def qt0 (N:Nat):UU (T40 N).ev (qab Tryz.f73):=UU.lp (qtZ N) N ⟨[1,1,1,0,1,0,0,1,1,0,0,1,1,1,0],[.o 1 (.box 63), .v 5 (.int .i64), .v 33 (.sl 3), .v 34 (.int .i64), .v 35 (.int .i64)],[(1, .box 0 0)],[1],[⟨.exit 2,[],[]⟩,⟨.ret,[.v 2 .bool],[]⟩],[1,3,18,19,20]⟩ fun n x=>qhg N x.2.1 x.2.2.1 x.2.2.2.1 n x.2.2.2.2.1
def qtY (N:Nat):UU (T40 N).ev (qab Tryz.f73):=UU.lp (qt0 N) N ⟨[1,1,1,0,1,0],[.o 1 (.box 63), .v 3 (.sl 3), .v 18 (.sl 3), .v 19 (.int .i64), .v 20 (.int .i64)],[(1, .box 0 0)],[1],[⟨.exit 0,[],[]⟩,⟨.ret,[.v 2 .bool],[]⟩],[1]⟩ fun n x=>qhf N x.2.1 x.2.2.1 x.2.2.2.1 n x.2.2.2.2.1
def qt1 (N:Nat):UU (T40 N).ev (qab Tryz.f73):=UU.st (qtY N) ⟨[1,1,1,1,0,1,0,0],[.o 1 (.box 63)],[(1, .box 0 0)],[1],[⟨.normal,[.v 2 .bool],[]⟩],[]⟩ fun x=>qrD N x.1
def qt2 (N:Nat):UU (T40 N).ev (qab Tryz.f73):=UU.st (qt1 N) ⟨[1,1,1,1,1,0],[.o 1 (.box 63)],[(1, .box 0 0)],[1],[⟨.normal,[.v 2 .bool],[]⟩],[]⟩ fun x=>qrE N x.1
def dzbN:FD D:=⟨73,1,[.v 0 (.agg 63)],[],none,0,[.v 2 .bool],[],[.tmp 2],true⟩
def FzbN (N:Nat):dzbN.F:=fun r x=>zbN N x.1
theorem wzbN (N:Nat):CallOk X0 dzbN (FzbN N):=UU.fn (qt2 N) Tryz.func73
def qtJ (N:Nat):UU (T40 N).ev (qab Tryz.f74):=UU.st UU.nil ⟨[1,0,1,0,0,1],[.o 1 (.box 63), .v 4 (.int .i64), .v 5 .bool],[(1, .box 0 0)],[1],[⟨.normal,[.v 5 .bool],[]⟩],[1,4]⟩ fun x=>qry N x.2.1 x.2.2.1
def dzbE:FD D:=⟨74,1,[.v 0 (.agg 63)],[],none,0,[],[(2, .c .nilS)],[.tmp 2],false⟩
def FzbE (N:Nat):dzbE.F:=fun r x=>zbE N x.1
theorem wzbE (N:Nat):CallOk X0 dzbE (FzbE N):=UU.fn (qtJ N) Tryz.func74
def Y40 (N:Nat):EV X0:=(T40 N).sub dzbE (FzbE N) (wzbE N)
def qtT (N:Nat):UU (Y40 N) (qab Tryz.f73):=UU.st UU.nil ⟨[1,1,0,0],[.o 1 (.box 63)],[(1, .box 0 0),(3, .c .nilS)],[1],[⟨.normal,[.v 17 .bool],[]⟩],[1,3]⟩ fun x=>qrA N
def qtU (N:Nat):UU (Y40 N) (qab Tryz.f73):=UU.lp (qtT N) N ⟨[1,1,1,0,1,0],[.o 1 (.box 63), .v 19 (.int .i64), .v 20 (.int .i64)],[(1, .box 0 0),(3, .c .nilS),(18, .c .nilS)],[1],[⟨.exit 0,[],[]⟩],[1]⟩ fun n x=>qv2 N x.2.1 n x.2.2.1
def qtV (N:Nat):UU (Y40 N) (qab Tryz.f73):=UU.st (qtU N) ⟨[1,1,1,1,0,1,0,0],[.o 1 (.box 63)],[(1, .box 0 0)],[1],[⟨.normal,[.v 2 .bool],[]⟩],[]⟩ fun x=>qv3 N x.1
def qtW (N:Nat):UU (Y40 N) (qab Tryz.f73):=UU.st (qtV N) ⟨[1,1,1,1,1,0],[.o 1 (.box 63)],[(1, .box 0 0)],[1],[⟨.normal,[.v 2 .bool],[]⟩],[]⟩ fun x=>qv4 N x.1
def dzbM:FD D:=⟨73,1,[.v 0 (.agg 63)],[],none,0,[.v 2 .bool],[],[.tmp 2],true⟩
def FzbM (N:Nat):dzbM.F:=fun r x=>zbM N x.1
theorem wzbM (N:Nat):CallOk X0 dzbM (FzbM N):=UU.fn (qtW N) Tryz.func73
def dzcA:FD D:=dzbN
def FzcA (N:Nat):dzcA.F:=fun r x=>orI (FzbM N r x) (FzbN N r x)
theorem wzcA (N:Nat):CallOk X0 dzcA (FzcA N):=CallOk.or (F1:=FzbM N) (F2:=FzbN N) rfl (fun r x y h=>qsM h) (wzbM N) (wzbN N)
def T41 (N:Nat):TT X0:=(T40 N).ad dzcA (FzcA N) (wzcA N)
def quz (N:Nat):UU (T41 N).ev (qab Tryz.f39):=UU.lp UU.nil N ⟨[1,1,1,1,0,1,0,0,1,1,0,0,1,1,1,1,1,0],[.o 3 (.map 111 9 4), .o 4 (.map 100 3 3), .o 31 (.sl 3), .v 32 (.int .i64), .v 33 (.int .i64)],[(3, .c (.own 0)),(4, .c (.own 1)),(31, .c (.own 2))],[1,2,1],[⟨.exit 2,[.u 1 (.map 100 3 3)],[]⟩,⟨.ret,[.v 2 (.int .i64)],[]⟩],[3,4,14,15,16]⟩ fun n x=>qhn N x.2.2.1 x.2.2.2.1 n x.2.1 x.2.2.2.2.1
def quy (N:Nat):UU (T41 N).ev (qab Tryz.f39):=UU.lp (quz N) N ⟨[1,1,1,1,0,1,0],[.o 3 (.map 111 9 4), .o 4 (.map 100 3 3), .v 14 (.sl 63), .v 15 (.int .i64), .v 16 (.int .i64)],[(3, .c (.own 0)),(4, .c (.own 1))],[0,0],[⟨.exit 0,[],[]⟩,⟨.ret,[.v 2 (.int .i64)],[]⟩],[]⟩ fun n x=>qli N x.2.2.1 x.2.2.2.1 n x.1 x.2.1 x.2.2.2.2.1
def dzbZ:FD D:=⟨39,1,[.v 0 (.sl 63)],[],none,0,[.v 2 (.int .i64)],[],[.tmp 2],true⟩
def FzbZ (N:Nat):dzbZ.F:=fun r x=>zbZ N x.1
theorem wzbZ (N:Nat):CallOk X0 dzbZ (FzbZ N):=UU.fn (quy N) Tryz.func39
def T42 (N:Nat):TT X0:=(T41 N).ad dzbZ (FzbZ N) (wzbZ N)
def quF (N:Nat):UU (T42 N).ev (qab Tryz.f56):=UU.st UU.nil ⟨[1,0],[.v 0 (.sl 63), .v 1 (.int .i64)],[],[],[⟨.normal,[.v 4 .bool],[]⟩],[]⟩ fun x=>qo7 N x.1 x.2.1
def dzcG:FD D:=⟨56,2,[.v 0 (.sl 63), .v 1 (.int .i64)],[],none,0,[.v 4 .bool],[],[.tmp 4],true⟩
def FzcG (N:Nat):dzcG.F:=fun r x=>zcG N x.1 x.2.1
theorem wzcG (N:Nat):CallOk X0 dzcG (FzcG N):=UU.fn (quF N) Tryz.func56
def T43 (N:Nat):TT X0:=(T42 N).ad dzcG (FzcG N) (wzcG N)
def quO (N:Nat):UU (T43 N).ev (qab Tryz.f58):=UU.st UU.nil ⟨[1,0,0],[.v 0 (.sl 63), .v 1 (.int .i64)],[],[],[⟨.normal,[.v 12 .bool],[]⟩],[0,1]⟩ fun x=>qrN N x.1 x.2.1
def dzcO:FD D:=⟨58,2,[.v 0 (.sl 63), .v 1 (.int .i64)],[],none,0,[.o 4 (.sl 3)],[(4, .c (.own 0))],[.tmp 4],false⟩
def FzcO (N:Nat):dzcO.F:=fun r x=>zcO N x.1 x.2.1
theorem wzcO (N:Nat):CallOk X0 dzcO (FzcO N):=UU.fn (quO N) Tryz.func58
def T44 (N:Nat):TT X0:=(T43 N).ad dzcO (FzcO N) (wzcO N)
def qtf (N:Nat):UU (T44 N).ev (qab Tryz.f116):=UU.lp UU.nil N ⟨[1,0,1,0],[.v 0 (.sl 3), .v 1 (.int .i64), .v 7 (.int .i64), .v 8 (.int .i64)],[],[],[⟨.exit 0,[],[]⟩,⟨.ret,[.v 4 (.int .i64)],[]⟩],[]⟩ fun n x=>qit N x.1 x.2.1 x.2.2.1 n x.2.2.2.1
def dzaL:FD D:=⟨116,2,[.v 0 (.sl 3), .v 1 (.int .i64)],[],none,0,[.v 4 (.int .i64)],[],[.tmp 4],true⟩
def FzaL (N:Nat):dzaL.F:=fun r x=>zaL N x.1 x.2.1
theorem wzaL (N:Nat):CallOk X0 dzaL (FzaL N):=UU.fn (qtf N) Tryz.func116
def T45 (N:Nat):TT X0:=(T44 N).ad dzaL (FzaL N) (wzaL N)
def dzaG:FD D:=⟨114,2,[.v 0 (.sl 3), .v 1 (.int .i64)],[],none,0,[.v 4 .bool],[],[.tmp 4],true⟩
def FzaG (N:Nat):dzaG.F:=fun r x=>zaG N x.1 x.2.1
theorem wzaG (N:Nat):CallOk X0 dzaG (FzaG N):=UU.fn (UU.nil:UU (T45 N).ev (qab Tryz.f114)) Tryz.func114
def T46 (N:Nat):TT X0:=(T45 N).ad dzaG (FzaG N) (wzaG N)
def qtD (N:Nat):UU (T46 N).ev (qab Tryz.f86):=UU.lp UU.nil N ⟨[1,0,1,0,0,1,1,0,0,1,1,1,0],[.v 2 (.int .i64), .v 7 (.int .i64), .o 22 (.sl 3), .v 23 (.int .i64), .v 24 (.int .i64)],[(22, .c (.own 0))],[1],[⟨.exit 2,[],[]⟩,⟨.ret,[.v 6 (.int .i64)],[]⟩],[1,2,11,12,13]⟩ fun n x=>qhc N x.1 x.2.1 x.2.2.1 x.2.2.2.1 n x.2.2.2.2.1
def qtC (N:Nat):UU (T46 N).ev (qab Tryz.f86):=UU.st (qtD N) ⟨[1,0,1,0,0,1,1,0],[.v 1 (.int .i64), .v 2 (.int .i64), .v 11 (.sl 63), .v 13 (.int .i64)],[],[],[⟨.normal,[],[]⟩,⟨.ret,[.v 6 (.int .i64)],[]⟩],[1,2,11,12,13]⟩ fun x=>qrw N x.1 x.2.1 x.2.2.1 x.2.2.2.1
def qtB (N:Nat):UU (T46 N).ev (qab Tryz.f86):=UU.lp (qtC N) N ⟨[1,0,1,0],[.v 1 (.int .i64), .v 2 (.int .i64), .v 11 (.sl 63), .v 12 (.int .i64), .v 13 (.int .i64)],[],[],[⟨.exit 0,[],[]⟩,⟨.ret,[.v 6 (.int .i64)],[]⟩],[]⟩ fun n x=>qiu N x.1 x.2.1 x.2.2.1 x.2.2.2.1 n x.2.2.2.2.1
def dzbA:FD D:=⟨86,3,[.v 0 (.sl 63), .v 1 (.int .i64), .v 2 (.int .i64)],[],none,0,[.v 6 (.int .i64)],[],[.tmp 6],true⟩
def FzbA (N:Nat):dzbA.F:=fun r x=>zbA N x.1 x.2.1 x.2.2.1
theorem wzbA (N:Nat):CallOk X0 dzbA (FzbA N):=UU.fn (qtB N) Tryz.func86
def T47 (N:Nat):TT X0:=(T46 N).ad dzbA (FzbA N) (wzbA N)
def qtS (N:Nat):UU (T47 N).ev (qab Tryz.f60):=UU.lp UU.nil N ⟨[1,1,0,1,0],[.v 2 (.int .i64), .o 7 (.sl 3), .v 14 (.int .i64), .v 15 (.int .i64)],[(7, .c (.own 0)),(13, .c (.own 0))],[0],[⟨.exit 0,[],[]⟩,⟨.ret,[.v 6 (.sl 3)],[]⟩],[]⟩ fun n x=>qcQ N x.1 x.2.2.1 n x.2.1 x.2.2.2.1
def dzbL:FD D:=⟨60,3,[.v 0 (.sl 63), .v 1 (.int .i64), .v 2 (.int .i64)],[],none,0,[.v 6 (.sl 3)],[],[.tmp 6],false⟩
def FzbL (N:Nat):dzbL.F:=fun r x=>zbL N x.1 x.2.1 x.2.2.1
theorem wzbL (N:Nat):CallOk X0 dzbL (FzbL N):=UU.fn (qtS N) Tryz.func60
def T48 (N:Nat):TT X0:=(T47 N).ad dzbL (FzbL N) (wzbL N)
def qvj (N:Nat):UU (T48 N).ev (qab Tryz.f107):=UU.st UU.nil ⟨[1,1,0,0],[.v 0 (.sl 63), .v 1 (.sl 37), .v 5 (.int .i64)],[],[],[⟨.normal,[.v 47 .bool],[]⟩],[0,1,5]⟩ fun x=>qll N x.1 x.2.1 x.2.2.1
def qvk (N:Nat):UU (T48 N).ev (qab Tryz.f107):=UU.st (qvj N) ⟨[1,1,1,0,0],[.v 0 (.sl 63), .v 1 (.sl 37), .v 5 (.int .i64)],[],[],[⟨.normal,[.v 75 .bool],[]⟩],[0,1,5]⟩ fun x=>qpk N x.1 x.2.1 x.2.2.1
def qvm (N:Nat):UU (T48 N).ev (qab Tryz.f107):=UU.st (qvk N) ⟨[1,1,1,1,0,1,0,0,1,1,0,0,1,1,0,0],[.v 0 (.sl 63), .o 7 (.box 37), .o 8 (.box 37)],[(7, .box 0 0),(8, .box 1 0)],[1,1],[⟨.normal,[.v 108 .bool],[]⟩],[0,1,5,6,7,77,78,79]⟩ fun x=>qpl N x.1 x.2.1 x.2.2.1
def qvn (N:Nat):UU (T48 N).ev (qab Tryz.f107):=UU.st (qvm N) ⟨[1,1,1,1,0,1,0,0,1,1,0,0,1,1,1,0],[.v 0 (.sl 63), .v 5 (.int .i64), .v 6 (.int .i64), .o 7 (.box 37)],[(7, .box 0 0)],[1],[⟨.normal,[.v 124 .bool],[]⟩],[0,1,5,77,78,79]⟩ fun x=>qpm N x.1 x.2.1 x.2.2.1 x.2.2.2.1
def qvl (N:Nat):UU (T48 N).ev (qab Tryz.f107):=UU.lp (qvn N) N ⟨[1,1,1,1,0,1,0],[.v 0 (.sl 63), .v 1 (.sl 37), .v 5 (.int .i64), .v 77 (.sl 37), .v 78 (.int .i64), .v 79 (.int .i64)],[],[],[⟨.exit 0,[],[]⟩,⟨.ret,[.v 4 .bool],[]⟩],[]⟩ fun n x=>qiA N x.1 x.2.1 x.2.2.1 x.2.2.2.1 x.2.2.2.2.1 n x.2.2.2.2.2.1
def dzdD:FD D:=⟨107,2,[.v 0 (.sl 63), .v 1 (.sl 37)],[],none,0,[.v 4 .bool],[],[.tmp 4],true⟩
def FzdD (N:Nat):dzdD.F:=fun r x=>zdD N x.1 x.2.1
theorem wzdD (N:Nat):CallOk X0 dzdD (FzdD N):=UU.fn (qvl N) Tryz.func107
def T49 (N:Nat):TT X0:=(T48 N).ad dzdD (FzdD N) (wzdD N)
def quG (N:Nat):UU (T49 N).ev (qab Tryz.f61):=UU.lp UU.nil N ⟨[1,1,0,1,0],[.o 3 (.map 130 3 4), .v 7 (.sl 37), .v 8 (.int .i64), .v 9 (.int .i64)],[(3, .c (.own 0))],[0],[⟨.exit 0,[],[]⟩,⟨.ret,[.v 2 .bool],[]⟩],[]⟩ fun n x=>qhp N x.2.1 x.2.2.1 n x.1 x.2.2.2.1
def dzcH:FD D:=⟨61,1,[.v 0 (.sl 37)],[],none,0,[.v 2 .bool],[],[.tmp 2],true⟩
def FzcH (N:Nat):dzcH.F:=fun r x=>zcH N x.1
theorem wzcH (N:Nat):CallOk X0 dzcH (FzcH N):=UU.fn (quG N) Tryz.func61
def T50 (N:Nat):TT X0:=(T49 N).ad dzcH (FzcH N) (wzcH N)
def quE (N:Nat):UU (T50 N).ev (qab Tryz.f88):=UU.st UU.nil ⟨[1,0],[.v 0 (.sl 63), .v 1 (.sl 37)],[],[],[⟨.normal,[.v 4 .bool],[]⟩],[]⟩ fun x=>qrK N x.1 x.2.1
def dzcF:FD D:=⟨88,2,[.v 0 (.sl 63), .v 1 (.sl 37)],[],none,0,[.v 4 .bool],[],[.tmp 4],true⟩
def FzcF (N:Nat):dzcF.F:=fun r x=>zcF N x.1 x.2.1
theorem wzcF (N:Nat):CallOk X0 dzcF (FzcF N):=UU.fn (quE N) Tryz.func88
def T51 (N:Nat):TT X0:=(T50 N).ad dzcF (FzcF N) (wzcF N)
def dzbI:FD D:=⟨72,1,[.v 0 (.int .i64)],[],none,0,[.v 2 .bool],[],[.tmp 2],true⟩
def FzbI (N:Nat):dzbI.F:=fun r x=>zbI N x.1
theorem wzbI (N:Nat):CallOk X0 dzbI (FzbI N):=UU.fn (UU.nil:UU (T51 N).ev (qab Tryz.f72)) Tryz.func72
def T52 (N:Nat):TT X0:=(T51 N).ad dzbI (FzbI N) (wzbI N)
def dzaX:FD D:=⟨38,2,[.v 0 (.int .i64), .v 1 (.int .i64)],[],none,0,[.v 4 (.int .i64)],[],[.tmp 4],true⟩
def FzaX (N:Nat):dzaX.F:=fun r x=>zaX N x.1 x.2.1
theorem wzaX (N:Nat):CallOk X0 dzaX (FzaX N):=UU.fn (UU.nil:UU (T52 N).ev (qab Tryz.f38)) Tryz.func38
def T53 (N:Nat):TT X0:=(T52 N).ad dzaX (FzaX N) (wzaX N)
def qtN (N:Nat):UU (T53 N).ev (qab Tryz.f62):=UU.st UU.nil ⟨[1,1,1,0,1,0,0,1,1,0,0,1,1,0,1,1,0],[.o 6 (.sl 51), .o 8 (.box 37), .o 9 (.box 63)],[(6, .c (.own 0)),(8, .box 1 0),(9, .box 2 0)],[1,1,1],[⟨.normal,[.v 35 .bool],[]⟩],[0,6,8,9,14,15,16]⟩ fun x=>qle N x.2.1 x.2.2.1
def qtM (N:Nat):UU (T53 N).ev (qab Tryz.f62):=UU.st (qtN N) ⟨[1,1,1,0,1,0,0,1,1,0],[.v 0 (.sl 63), .o 6 (.sl 51), .v 14 (.sl 37), .v 16 (.int .i64)],[(6, .c (.own 0))],[0],[⟨.normal,[.o 6 (.sl 51)],[(6, .c (.own 1))]⟩],[0,14,15,16]⟩ fun x=>qoV N x.1 x.2.1 x.2.2.1 x.2.2.2.1
def qtL (N:Nat):UU (T53 N).ev (qab Tryz.f62):=UU.lp (qtM N) N ⟨[1,1,1,0,1,0],[.v 0 (.sl 63), .o 6 (.sl 51), .v 14 (.sl 37), .v 15 (.int .i64), .v 16 (.int .i64)],[(6, .c (.own 0))],[0],[⟨.exit 0,[.o 6 (.sl 51)],[(6, .c (.own 1))]⟩],[]⟩ fun n x=>qfl N x.1 x.2.2.1 x.2.2.2.1 n x.2.1 x.2.2.2.2.1
def dzbG:FD D:=⟨62,2,[.v 0 (.sl 63), .v 1 (.sl 37)],[],none,0,[.o 4 (.sl 51), .v 5 (.int .i64)],[(4, .c (.own 0))],[.tmp 4, .tmp 5],false⟩
def FzbG (N:Nat):dzbG.F:=fun r x=>zbG N x.1 x.2.1
theorem wzbG (N:Nat):CallOk X0 dzbG (FzbG N):=UU.fn (qtL N) Tryz.func62
def T54 (N:Nat):TT X0:=(T53 N).ad dzbG (FzbG N) (wzbG N)
def qtI (N:Nat):UU (T54 N).ev (qab Tryz.f90):=UU.lp UU.nil N ⟨[1,1,0,1,0],[.o 3 (.map 130 3 4), .v 7 (.sl 37), .v 8 (.int .i64), .v 9 (.int .i64)],[(3, .c (.own 0))],[2],[⟨.exit 0,[.u 0 (.map 130 3 4)],[]⟩],[3]⟩ fun n x=>qjv N x.2.1 x.2.2.1 n x.1 x.2.2.2.1
def dzbC:FD D:=⟨90,1,[.v 0 (.sl 37)],[],none,0,[.o 2 (.map 130 3 4)],[(2, .c (.own 0))],[.tmp 2],false⟩
def FzbC (N:Nat):dzbC.F:=fun r x=>zbC N x.1
theorem wzbC (N:Nat):CallOk X0 dzbC (FzbC N):=UU.fn (qtI N) Tryz.func90
def T55 (N:Nat):TT X0:=(T54 N).ad dzbC (FzbC N) (wzbC N)
def quK (N:Nat):UU (T55 N).ev (qab Tryz.f94):=UU.st UU.nil ⟨[1,0,0],[.o 2 (.box 63), .o 3 (.box 37)],[(2, .box 0 0),(3, .box 1 0)],[1,1],[⟨.normal,[.v 16 .bool],[]⟩],[2]⟩ fun x=>qo9 N x.1 x.2.1
def dzcM:FD D:=⟨94,2,[.v 0 (.agg 63), .v 1 (.agg 37)],[],none,0,[.v 4 (.int .i64)],[],[.tmp 4],true⟩
def FzcM (N:Nat):dzcM.F:=fun r x=>zcM N x.1 x.2.1
theorem wzcM (N:Nat):CallOk X0 dzcM (FzcM N):=UU.fn (quK N) Tryz.func94
def T56 (N:Nat):TT X0:=(T55 N).ad dzcM (FzcM N) (wzcM N)
def dzaS:GD D:=⟨91,3,[.o 100000000 (.box 25), .o 100000001 (.bx 132 [(0,5)]), .o 100000002 (.bx 130 [(0,6)]), .o 100000003 (.fb 127 91 [7]), .o 100000004 (.fb 133 92 [0,1,2,3,4]), .o 100000005 (.map 132 135 4), .o 100000006 (.map 130 3 4), .v 0 (.int .i64), .v 1 (.int .i64), .o 2 (.bx 100 [(0,8)]), .o 2002000 (.map 100 3 3)],[(2, .box 7 0)],[1,1,1,1,1,1,1,1,2],[.v 5 (.int .i64), .u 8 (.map 100 3 3)],[],[5],false⟩
def FzaS (N:Nat):dzaS.pd.F:=fun x=>zaS N x.2.2.2.2.2.2.2.1 x.2.2.2.2.2.2.2.2.1 x.2.2.2.2.2.2.2.2.2.2.1
def qtn (N:Nat):UU (T56 N).ev (qab Tryz.f91):=UU.st UU.nil ⟨[1,0,1,0],[.o 100000000 (.box 25), .o 100000001 (.bx 132 [(0,5)]), .o 100000002 (.bx 130 [(0,6)]), .o 100000003 (.fb 127 91 [7]), .o 100000004 (.fb 133 92 [0,1,2,3,4]), .o 100000005 (.map 132 135 4), .o 100000006 (.map 130 3 4), .v 1 (.int .i64), .o 2 (.bx 100 [(0,8)]), .v 6 (.int .i64), .v 7 .bool, .o 2002000 (.map 100 3 3)],[(2, .box 7 0)],[1,1,1,1,1,1,1,1,1],[⟨.normal,[.v 19 .bool],[]⟩],[0,1,2]⟩ fun x=>qoP N x.2.2.2.2.2.2.2.1 x.2.2.2.2.2.2.2.2.2.1 x.2.2.2.2.2.2.2.2.2.2.1
theorem wzaS (N:Nat):CallG X0 dzaS (FzaS N):=UU.gn (qtn N) Tryz.func91
def T57 (N:Nat):TT X0:=(T56 N).ag dzaS (FzaS N) (wzaS N)
def dzcL:FD D:=⟨93,2,[.v 0 (.agg 63), .v 1 (.int .i64)],[],none,0,[.v 4 (.int .i64)],[],[.tmp 4],true⟩
def FzcL (N:Nat):dzcL.F:=fun r x=>zcL N x.1 x.2.1
theorem wzcL (N:Nat):CallOk X0 dzcL (FzcL N):=UU.fn (UU.nil:UU (T57 N).ev (qab Tryz.f93)) Tryz.func93
def T58 (N:Nat):TT X0:=(T57 N).ad dzcL (FzcL N) (wzcL N)
def dzaT:GD D:=⟨92,6,[.v 0 (.agg 135), .o 1 (.box 25), .o 2 (.bx 132 [(0,5)]), .o 3 (.bx 130 [(0,6)]), .o 4 (.fb 127 91 [7]), .o 5 (.fb 133 92 [0,1,2,3,4]), .o 2002000 (.map 132 135 4), .o 2003000 (.map 130 3 4), .o 200016385 (.bx 100 [(0,8)]), .o 201048641 (.map 100 3 3)],[(1, .box 0 0),(2, .box 1 0),(3, .box 2 0),(4, .box 3 0),(5, .box 4 0)],[1,1,1,1,1,2,1,1,2],[.v 7 (.int .i64), .u 5 (.map 132 135 4), .u 8 (.map 100 3 3)],[],[7],true⟩
def FzaT (N rc:Nat):dzaT.pd.F:=fun x=>zaT N rc x.1 x.2.1 x.2.2.1 x.2.2.2.1 x.2.2.2.2.2.2.1 x.2.2.2.2.2.2.2.1 x.2.2.2.2.2.2.2.2.1 x.2.2.2.2.2.2.2.2.2.1
def Tr58 (N rc:Nat) (hr:CallG X0 dzaT (FzaT N rc)):TT X0:=(T58 N).ag dzaT (FzaT N rc) hr
def qto (N rc:Nat) (hr:CallG X0 dzaT (FzaT N rc)):UU (Tr58 N rc hr).ev (qab Tryz.f92):=UU.st UU.nil ⟨[1,1,0,0],[.o 1 (.box 25), .o 2 (.bx 132 [(0,5)]), .o 3 (.bx 130 [(0,6)]), .o 4 (.fb 127 91 [7]), .o 5 (.fb 133 92 [0,1,2,3,4]), .v 6 (.rp 135), .v 8 (.int .i64), .o 2002000 (.map 132 135 4), .o 2003000 (.map 130 3 4), .o 200016385 (.bx 100 [(0,8)]), .o 201048641 (.map 100 3 3)],[(1, .box 0 0),(2, .box 1 0),(3, .box 2 0),(4, .box 3 0),(5, .box 4 0)],[1,1,1,1,1,1,1,1,1],[⟨.normal,[.v 28 .bool],[]⟩],[1,2,3,4,5,6,8]⟩ fun x=>qoQ N (zaT N rc) x.2.2.2.2.2.1 x.2.2.2.2.2.2.1 x.2.2.2.2.2.2.2.1 x.2.2.2.2.2.2.2.2.1
theorem ozaT (N rc:Nat) (hr:CallG X0 dzaT (FzaT N rc)):CallG X0 dzaT (FzaT N (rc+1)):=UU.gn (qto N rc hr) Tryz.func92
theorem wzaT (N:Nat):∀rc:Nat,CallG X0 dzaT (FzaT N rc)
 |0=>CallG.none fun x=>rfl
 |rc+1=>ozaT N rc (wzaT N rc)
def T59 (N:Nat):TT X0:=(T58 N).ag dzaT (FzaT N N) (wzaT N N)
def Y59 (N:Nat):EV X0:=(T59 N).ev.cuts fun x lo hi=>match x,lo,hi with| .func 91,none,none=>5| .func 92,none,none=>5|_,_,_=>0
def qux (N:Nat):UU (Y59 N) (qab Tryz.f63):=UU.st UU.nil ⟨[1,1,1,1,1,1,1,0,1,0,0,1,1,0],[.o 2 (.box 25), .o 8 (.bx 100 [(0,3)]), .o 10 (.fb 133 92 [0,4,5,6,2]), .v 21 (.sl 37), .v 23 (.int .i64), .o 2008000 (.map 100 3 3), .o 200040962 (.bx 132 [(0,7)]), .o 200040963 (.bx 130 [(0,8)]), .o 200040964 (.fb 127 91 [1]), .o 202621569 (.map 132 135 4), .o 202621633 (.map 130 3 4)],[(2, .box 0 0),(8, .box 1 0),(10, .box 2 0)],[1,1,1,2,1,1,1,2,1],[⟨.normal,[.u 3 (.map 100 3 3), .u 7 (.map 132 135 4)],[]⟩,⟨.ret,[.v 5 (.int .i64)],[(4, .c .nilM)]⟩],[2,8,10,21,22,23]⟩ fun x=>qrI N x.1 x.2.2.2.1 x.2.2.2.2.1 x.2.2.2.2.2.1 x.2.2.2.2.2.2.2.2.2.1 x.2.2.2.2.2.2.2.2.2.2.1
def quw (N:Nat):UU (Y59 N) (qab Tryz.f63):=UU.lp (qux N) N ⟨[1,1,1,1,1,1,1,0,1,0],[.o 2 (.box 25), .o 8 (.bx 100 [(0,3)]), .o 10 (.fb 133 92 [0,4,5,6,2]), .v 21 (.sl 37), .v 22 (.int .i64), .v 23 (.int .i64), .o 2008000 (.map 100 3 3), .o 200040962 (.bx 132 [(0,7)]), .o 200040963 (.bx 130 [(0,8)]), .o 200040964 (.fb 127 91 [1]), .o 202621569 (.map 132 135 4), .o 202621633 (.map 130 3 4)],[(2, .box 0 0),(8, .box 1 0),(10, .box 2 0)],[1,2,1,0,2,1,1,0,1],[⟨.exit 0,[.u 1 (.bx 100 [(0,9)]), .o 2008000 (.map 100 3 3)],[]⟩,⟨.ret,[.v 5 (.int .i64)],[(4, .c .nilM)]⟩],[8]⟩ fun n x=>qhm N x.1 x.2.2.2.1 x.2.2.2.2.1 x.2.2.2.2.2.2.2.2.2.2.2.1 n x.2.1 x.2.2.2.2.2.1 x.2.2.2.2.2.2.1 x.2.2.2.2.2.2.2.1 x.2.2.2.2.2.2.2.2.2.2.1
def dzbY:FD D:=⟨63,2,[.v 0 (.sl 63), .v 1 (.sl 37)],[],none,0,[.v 4 (.mp 100 3 3), .v 5 (.int .i64)],[],[.tmp 4, .tmp 5],false⟩
def FzbY (N:Nat):dzbY.F:=fun r x=>zbY N x.1 x.2.1
theorem wzbY (N:Nat):CallOk X0 dzbY (FzbY N):=UU.fn (quw N) Tryz.func63
def T60 (N:Nat):TT X0:=(T59 N).ad dzbY (FzbY N) (wzbY N)
def PzbJ_0:PD D:=rngP D [1,1,1,1,1] 51 3 3 100
def qrZ (N:Nat):PzbJ_0.F:=fun x=>qnx N x.1 x.2.1
def qtQ (N:Nat):UU (T60 N).ev (qab Tryz.f29):=UU.add UU.nil PzbJ_0 (qrZ N) (qna (e:=51) (kt:=3) (vt:=3) (t:=100) (T60 N).ev.ok (by kernel_rfl) .i64 .i64 rfl rfl (fun (a:Int) (b:Int)=>(Setting.mk a b)) ((Setting.mk 0 0):Setting) (fun (x:Setting)=>x.element) (by kernel_rfl) (by kernel_rfl) (by kernel_rfl) (by kernel_rfl) rfl ki3.K vi3.V (fun _=>rfl) (fun _=>rfl) (by kernel_rfl) (fun a b ys wf=>by kernel_rfl) (fun ys wf=>by kernel_rfl) (fun ys wf=>by kernel_rfl) si36_64.hv si36_64.hr si36_64.hf (Nat.le_of_ble_eq_true (by kernel_rfl)) (by kernel_rfl) (by kernel_rfl)) (by kernel_rfl)
def dzbJ:FD D:=⟨29,2,[.v 0 (.sl 63), .v 1 (.sl 37)],[],none,0,[.v 4 (.sl 51), .v 5 (.int .i64)],[],[.tmp 4, .tmp 5],false⟩
def FzbJ (N:Nat):dzbJ.F:=fun r x=>zbJ N x.1 x.2.1
theorem wzbJ (N:Nat):CallOk X0 dzbJ (FzbJ N):=UU.fn (qtQ N) Tryz.func29
def T61 (N:Nat):TT X0:=(T60 N).ad dzbJ (FzbJ N) (wzbJ N)
def qtb (N:Nat):UU (T61 N).ev (qab Tryz.f40):=UU.lp UU.nil N ⟨[1,1,0,1,0],[.v 0 (.sl 51), .v 1 (.sl 51), .v 12 (.int .i64), .v 13 (.int .i64)],[],[],[⟨.exit 0,[],[]⟩,⟨.ret,[.v 4 .bool],[]⟩],[]⟩ fun n x=>qg5 N x.1 x.2.1 x.2.2.1 n x.2.2.2.1
def dzaE:FD D:=⟨40,2,[.v 0 (.sl 51), .v 1 (.sl 51)],[],none,0,[.v 4 .bool],[],[.tmp 4],true⟩
def FzaE (N:Nat):dzaE.F:=fun r x=>zaE N x.1 x.2.1
theorem wzaE (N:Nat):CallOk X0 dzaE (FzaE N):=UU.fn (qtb N) Tryz.func40
def T62 (N:Nat):TT X0:=(T61 N).ad dzaE (FzaE N) (wzaE N)
def qth (N:Nat):UU (T62 N).ev (qab Tryz.f30):=UU.lp UU.nil N ⟨[1,0,1,0,0,1,1,0,0,1,1,0],[.o 2 (.box 49), .o 3 (.box 49), .o 6 (.box 37), .v 21 (.sl 37), .v 22 (.int .i64), .v 23 (.int .i64)],[(2, .box 0 0),(3, .box 1 0),(6, .box 2 0)],[1,1,1],[⟨.exit 2,[],[]⟩,⟨.ret,[.v 4 .bool],[]⟩],[2,3,14,15,16]⟩ fun n x=>qg7 N x.2.2.1 x.2.2.2.1 x.2.2.2.2.1 n x.2.2.2.2.2.1
def qtg (N:Nat):UU (T62 N).ev (qab Tryz.f30):=UU.lp (qth N) N ⟨[1,0,1,0],[.o 2 (.box 49), .o 3 (.box 49), .v 14 (.sl 37), .v 15 (.int .i64), .v 16 (.int .i64)],[(2, .box 0 0),(3, .box 1 0)],[1,1],[⟨.exit 0,[],[]⟩,⟨.ret,[.v 4 .bool],[]⟩],[2,3]⟩ fun n x=>qg6 N x.2.1 x.2.2.1 x.2.2.2.1 n x.2.2.2.2.1
def qtk (N:Nat):UU (T62 N).ev (qab Tryz.f30):=UU.st (qtg N) ⟨[1,1,0,1,0,0,1,1,0,0,1,1,0,0,1,1,0,0,1,0],[.o 3 (.box 49), .o 10 (.box 51), .o 12 (.box 51)],[(3, .box 0 0),(10, .box 1 0),(12, .box 2 0)],[1,1,1],[⟨.normal,[.v 59 .bool],[]⟩],[3,10,35,36,37,42,43,44]⟩ fun x=>qoO N x.2.1 x.2.2.1
def qtj (N:Nat):UU (T62 N).ev (qab Tryz.f30):=UU.lp (qtk N) N ⟨[1,1,0,1,0,0,1,1,0,0,1,1,0],[.o 3 (.box 49), .o 10 (.box 51), .v 42 (.sl 51), .v 43 (.int .i64), .v 44 (.int .i64)],[(3, .box 0 0),(10, .box 1 0)],[1,1],[⟨.exit 6,[],[]⟩,⟨.ret,[.v 4 .bool],[]⟩],[3,35,36,37]⟩ fun n x=>qg9 N x.2.1 x.2.2.1 x.2.2.2.1 n x.2.2.2.2.1
def qti (N:Nat):UU (T62 N).ev (qab Tryz.f30):=UU.lp (qtj N) N ⟨[1,1,0,1,0],[.o 3 (.box 49), .v 35 (.sl 51), .v 36 (.int .i64), .v 37 (.int .i64)],[(3, .box 0 0)],[1],[⟨.exit 4,[],[]⟩,⟨.ret,[.v 4 .bool],[]⟩],[]⟩ fun n x=>qg8 N x.1 x.2.1 x.2.2.1 n x.2.2.2.1
def dzaN:FD D:=⟨30,2,[.v 0 (.agg 49), .v 1 (.agg 49)],[],none,0,[.v 4 .bool],[],[.tmp 4],true⟩
def FzaN (N:Nat):dzaN.F:=fun r x=>zaN N x.1 x.2.1
theorem wzaN (N:Nat):CallOk X0 dzaN (FzaN N):=UU.fn (qti N) Tryz.func30
def T63 (N:Nat):TT X0:=(T62 N).ad dzaN (FzaN N) (wzaN N)
def qtv (N:Nat):UU (T63 N).ev (qab Tryz.f15):=UU.st UU.nil ⟨[1,0,0,0],[.v 0 (.sl 63), .v 1 (.sl 49)],[],[],[⟨.normal,[.v 18 .bool],[]⟩],[0,1]⟩ fun x=>qoR N x.1 x.2.1
def qty (N:Nat):UU (T63 N).ev (qab Tryz.f15):=UU.st (qtv N) ⟨[1,0,1,1,0,1,0,0,1,1,0,0,1,1,0,0],[.o 6 (.box 49), .v 7 (.sl 51), .v 8 (.int .i64)],[(6, .box 0 0)],[1],[⟨.normal,[.v 46 .bool],[]⟩],[0,1,5,6,19,20,21]⟩ fun x=>qoT N x.1 x.2.1 x.2.2.1
def qtA (N:Nat):UU (T63 N).ev (qab Tryz.f15):=UU.st (qty N) ⟨[1,0,1,1,0,1,0,0,1,1,0,0,1,1,1,1,0,0,1,1,0,0,1,1,0],[.o 6 (.box 49), .o 10 (.box 49)],[(6, .box 0 0),(10, .box 1 0)],[1,1],[⟨.normal,[.v 66 .bool],[]⟩],[0,1,5,6,19,20,21,47,48,49]⟩ fun x=>qoU N x.1 x.2.1
def qtz (N:Nat):UU (T63 N).ev (qab Tryz.f15):=UU.lp (qtA N) N ⟨[1,0,1,1,0,1,0,0,1,1,0,0,1,1,1,1,0],[.v 5 (.int .i64), .o 6 (.box 49), .v 47 (.sl 49), .v 48 (.int .i64), .v 49 (.int .i64)],[(6, .box 0 0)],[1],[⟨.exit 1,[],[]⟩,⟨.exit 2,[],[]⟩,⟨.ret,[.v 4 .bool],[]⟩],[0,1,19,20,21]⟩ fun n x=>qjt N x.1 x.2.1 x.2.2.1 x.2.2.2.1 n x.2.2.2.2.1
def qtx (N:Nat):UU (T63 N).ev (qab Tryz.f15):=UU.st (qtz N) ⟨[1,0,1,1,0,1,0,0,1,1,0],[.v 0 (.sl 63), .v 1 (.sl 49), .v 19 (.sl 49), .v 21 (.int .i64)],[],[],[⟨.normal,[],[]⟩,⟨.ret,[.v 4 .bool],[]⟩],[0,1,19,20,21]⟩ fun x=>qoS N x.1 x.2.1 x.2.2.1 x.2.2.2.1
def qtw (N:Nat):UU (T63 N).ev (qab Tryz.f15):=UU.lp (qtx N) N ⟨[1,0,1,1,0,1,0],[.v 0 (.sl 63), .v 1 (.sl 49), .v 19 (.sl 49), .v 20 (.int .i64), .v 21 (.int .i64)],[],[],[⟨.exit 0,[],[]⟩,⟨.ret,[.v 4 .bool],[]⟩],[]⟩ fun n x=>qhb N x.1 x.2.1 x.2.2.1 x.2.2.2.1 n x.2.2.2.2.1
def dzaY:FD D:=⟨15,2,[.v 0 (.sl 63), .v 1 (.sl 49)],[],none,0,[.v 4 .bool],[],[.tmp 4],true⟩
def FzaY (N:Nat):dzaY.F:=fun r x=>zaY N x.1 x.2.1
theorem wzaY (N:Nat):CallOk X0 dzaY (FzaY N):=UU.fn (qtw N) Tryz.func15
def T64 (N:Nat):TT X0:=(T63 N).ad dzaY (FzaY N) (wzaY N)
def dzaZ:FD D:=⟨26,2,[.v 0 (.sl 63), .v 1 (.sl 49)],[],none,0,[.v 4 (.int .i64)],[],[.tmp 4],true⟩
def FzaZ (N:Nat):dzaZ.F:=fun r x=>zaZ N x.1 x.2.1
theorem wzaZ (N:Nat):CallOk X0 dzaZ (FzaZ N):=UU.fn (UU.nil:UU (T64 N).ev (qab Tryz.f26)) Tryz.func26
def T65 (N:Nat):TT X0:=(T64 N).ad dzaZ (FzaZ N) (wzaZ N)
def dzaQ:FD D:=⟨55,2,[.v 0 (.agg 49), .v 1 (.rp 3)],[],none,0,[.v 3 .bool],[],[.tmp 3],true⟩
def FzaQ (N:Nat):dzaQ.F:=fun r x=>zaQ N x.1 x.2.1
theorem wzaQ (N:Nat):CallOk X0 dzaQ (FzaQ N):=UU.fn (UU.nil:UU (T65 N).ev (qab Tryz.f55)) Tryz.func55
def T66 (N:Nat):TT X0:=(T65 N).ad dzaQ (FzaQ N) (wzaQ N)
def qta (N:Nat):UU (T66 N).ev (qab Tryz.f54):=UU.lp UU.nil N ⟨[1,0,1,0],[.v 0 (.sl 49), .v 1 (.fn 55 [3]), .v 7 (.int .i64), .v 8 (.int .i64)],[],[],[⟨.exit 0,[],[]⟩,⟨.ret,[.v 4 (.int .i64)],[]⟩],[]⟩ fun n x=>qg4 N x.1 x.2.1.1 x.2.2.1 n x.2.2.2.1
def dzaC:FD D:=⟨54,2,[.v 0 (.sl 49), .v 1 (.fn 55 [3])],[],none,0,[.v 4 (.int .i64)],[],[.tmp 4],true⟩
def FzaC (N:Nat):dzaC.F:=fun r x=>zaC N x.1 x.2.1.1
theorem wzaC (N:Nat):CallOk X0 dzaC (FzaC N):=UU.fn (qta N) Tryz.func54
def T67 (N:Nat):TT X0:=(T66 N).ad dzaC (FzaC N) (wzaC N)
def dzbD:FD D:=⟨27,2,[.v 0 (.sl 49), .v 1 (.int .i64)],[],none,0,[.v 4 (.int .i64)],[],[.tmp 4],true⟩
def FzbD (N:Nat):dzbD.F:=fun r x=>zbD N x.1 x.2.1
theorem wzbD (N:Nat):CallOk X0 dzbD (FzbD N):=UU.fn (UU.nil:UU (T67 N).ev (qab Tryz.f27)) Tryz.func27
def T68 (N:Nat):TT X0:=(T67 N).ad dzbD (FzbD N) (wzbD N)
def Y68 (N:Nat):EV X0:=(T68 N).ev.cuts fun x lo hi=>match x,lo,hi with| .tmp 42,some (.const _),none=>2|_,_,_=>0
def qtE (N:Nat):UU (Y68 N) (qab Tryz.f57):=UU.lp UU.nil N ⟨[1,1,1,0,1,0],[.v 1 (.int .i64), .o 5 (.map 92 96 3), .o 6 (.sl 96), .o 20 (.sl 3), .v 21 (.int .i64), .v 22 (.int .i64)],[(5, .c (.own 0)),(6, .c (.own 1)),(20, .c (.own 2))],[2,0,1],[⟨.exit 0,[.u 0 (.map 92 96 3), .o 6 (.sl 96)],[(6, .c (.own 3))]⟩],[0,5]⟩ fun n x=>qju N x.1 x.2.2.2.1 x.2.2.2.2.1 n x.2.1 x.2.2.1 x.2.2.2.2.2.1
def qtH (N:Nat):UU (Y68 N) (qab Tryz.f57):=UU.st (qtE N) ⟨[1,1,1,1,0,0,0,1,0,1,1,1,1,0,0,1,1,0],[.o 5 (.map 92 96 3), .o 6 (.sl 96), .o 10 (.box 96), .v 11 (.int .i64), .v 54 (.sl 3), .v 56 (.int .i64)],[(5, .c (.own 0)),(6, .c (.own 1)),(10, .box 2 0)],[2,0,1],[⟨.normal,[.u 0 (.map 92 96 3), .o 6 (.sl 96)],[(6, .c (.own 3))]⟩],[0,5,10,11,54,55,56]⟩ fun x=>qrx N x.1 x.2.1 x.2.2.1 x.2.2.2.1 x.2.2.2.2.1 x.2.2.2.2.2.1
def qtG (N:Nat):UU (Y68 N) (qab Tryz.f57):=UU.lp (qtH N) N ⟨[1,1,1,1,0,0,0,1,0,1,1,1,1,0],[.o 5 (.map 92 96 3), .o 6 (.sl 96), .o 10 (.box 96), .v 11 (.int .i64), .v 54 (.sl 3), .v 55 (.int .i64), .v 56 (.int .i64)],[(5, .c (.own 0)),(6, .c (.own 1)),(10, .box 2 0)],[2,0,1],[⟨.exit 4,[.u 0 (.map 92 96 3), .o 6 (.sl 96)],[(6, .c (.own 3))]⟩],[0,5]⟩ fun n x=>qhd N x.2.2.1 x.2.2.2.1 x.2.2.2.2.1 x.2.2.2.2.2.1 n x.1 x.2.1 x.2.2.2.2.2.2.1
def qtF (N:Nat):UU (Y68 N) (qab Tryz.f57):=UU.lp (qtG N) N ⟨[1,1,1,1,0,0],[.v 0 (.sl 63), .o 5 (.map 92 96 3), .o 6 (.sl 96)],[(5, .c (.own 0)),(6, .c (.own 1))],[2,0],[⟨.exit 2,[.u 0 (.map 92 96 3)],[]⟩],[5]⟩ fun n x=>qnw N x.1 n x.2.1 x.2.2.1
def dzbB:FD D:=⟨57,2,[.v 0 (.sl 63), .v 1 (.int .i64)],[],none,0,[.o 4 (.map 92 96 3)],[(4, .c (.own 0))],[.tmp 4],false⟩
def FzbB (N:Nat):dzbB.F:=fun r x=>zbB N x.1 x.2.1
theorem wzbB (N:Nat):CallOk X0 dzbB (FzbB N):=UU.fn (qtF N) Tryz.func57
def T69 (N:Nat):TT X0:=(T68 N).ad dzbB (FzbB N) (wzbB N)
def quJ (N:Nat):UU (T69 N).ev (qab Tryz.f87):=UU.lp UU.nil N ⟨[1,1,0,1,0],[.v 3 (.int .i64), .v 6 (.sl 3), .v 7 (.int .i64), .v 8 (.int .i64)],[],[],[⟨.exit 0,[],[]⟩,⟨.ret,[.v 2 (.int .i64)],[]⟩],[3]⟩ fun n x=>qjC N x.1 x.2.1 x.2.2.1 n x.2.2.2.1
def dzcK:FD D:=⟨87,1,[.v 0 (.sl 3)],[],none,0,[.v 2 (.int .i64)],[],[.tmp 2],true⟩
def FzcK (N:Nat):dzcK.F:=fun r x=>zcK N x.1
theorem wzcK (N:Nat):CallOk X0 dzcK (FzcK N):=UU.fn (quJ N) Tryz.func87
def T70 (N:Nat):TT X0:=(T69 N).ad dzcK (FzcK N) (wzcK N)
def quZ (N:Nat):UU (T70 N).ev (qab Tryz.f59):=UU.st UU.nil ⟨[1,1,0,1,0,0,1,1,0,0,1,1,1,1,0],[.v 1 (.mp 92 96 3), .o 9 (.box 96), .v 11 (.int .i64), .o 12 (.box 96), .v 13 .bool, .v 15 (.int .i64), .o 16 (.box 96), .v 17 (.int .i64)],[(9, .box 0 0),(12, .box 1 0),(16, .box 2 0)],[1,1,1],[⟨.normal,[.v 59 .bool],[]⟩],[0,1,2,9,11,12,13,15,16,20,21,22]⟩ fun x=>qrQ N x.1 x.2.2.1 x.2.2.2.1 x.2.2.2.2.1 x.2.2.2.2.2.1 x.2.2.2.2.2.2.1 x.2.2.2.2.2.2.2.1
def quY (N:Nat):UU (T70 N).ev (qab Tryz.f59):=UU.st (quZ N) ⟨[1,1,0,1,0,0,1,1,0],[.v 0 (.sl 63), .v 1 (.mp 92 96 3), .v 2 (.int .i64), .o 9 (.box 96), .v 11 (.int .i64), .o 12 (.box 96), .v 13 .bool, .v 20 (.sl 3), .v 22 (.int .i64)],[(9, .box 0 0),(12, .box 1 0)],[1,2],[⟨.normal,[.v 11 (.int .i64), .u 1 (.box 96), .v 13 .bool],[]⟩],[0,1,2,9,12,20,21,22]⟩ fun x=>qpd N x.1 x.2.1 x.2.2.1 x.2.2.2.2.1 x.2.2.2.2.2.1 x.2.2.2.2.2.2.1 x.2.2.2.2.2.2.2.1 x.2.2.2.2.2.2.2.2.1
def quX (N:Nat):UU (T70 N).ev (qab Tryz.f59):=UU.lp (quY N) N ⟨[1,1,0,1,0],[.v 0 (.sl 63), .v 1 (.mp 92 96 3), .v 2 (.int .i64), .o 9 (.box 96), .v 11 (.int .i64), .o 12 (.box 96), .v 13 .bool, .v 20 (.sl 3), .v 21 (.int .i64), .v 22 (.int .i64)],[(9, .box 0 0),(12, .box 1 0)],[1,2],[⟨.exit 0,[.v 11 (.int .i64), .u 1 (.box 96), .v 13 .bool],[]⟩],[9,12]⟩ fun n x=>qjF N x.1 x.2.1 x.2.2.1 x.2.2.2.2.2.2.2.1 x.2.2.2.2.2.2.2.2.1 n x.2.2.2.2.1 x.2.2.2.2.2.1 x.2.2.2.2.2.2.1 x.2.2.2.2.2.2.2.2.2.1
def dzcU:FD D:=⟨59,4,[.v 0 (.sl 63), .v 1 (.mp 92 96 3), .v 2 (.int .i64), .v 3 (.sl 3)],[],none,0,[.v 8 (.int .i64), .v 1000001 (.agg 96), .v 10 .bool],[],[.tmp 8, .cell 9 96, .tmp 10],true⟩
def FzcU (N:Nat):dzcU.F:=fun r x=>zcU N x.1 x.2.1 x.2.2.1 x.2.2.2.1
theorem wzcU (N:Nat):CallOk X0 dzcU (FzcU N):=UU.fn (quX N) Tryz.func59
def T71 (N:Nat):TT X0:=(T70 N).ad dzcU (FzcU N) (wzcU N)
def quV (N:Nat):UU (T71 N).ev (qab Tryz.f28):=UU.st UU.nil ⟨[1,1,0,0],[.v 0 (.sl 63), .v 1 (.int .i64), .v 2 (.int .i64)],[],[],[⟨.normal,[.v 35 .bool],[]⟩],[0,1,2]⟩ fun x=>qpc N x.1 x.2.1 x.2.2.1
def quW (N:Nat):UU (T71 N).ev (qab Tryz.f28):=UU.lp (quV N) N ⟨[1,1,1,1,1,1,0,0],[.v 0 (.sl 63), .o 9 (.map 92 96 3), .o 10 (.sl 37), .v 11 (.sl 3)],[(9, .c (.own 0)),(10, .c (.own 1))],[1,0],[⟨.exit 0,[.o 10 (.sl 37)],[(10, .c (.own 2))]⟩,⟨.ret,[.v 7 (.int .i64)],[(6, .c .nilS)]⟩],[]⟩ fun n x=>qlj N x.1 x.2.1 n x.2.2.1 x.2.2.2.1
def dzcT:FD D:=⟨28,3,[.v 0 (.sl 63), .v 1 (.int .i64), .v 2 (.int .i64)],[],none,0,[.o 6 (.sl 37), .v 7 (.int .i64)],[(6, .c (.own 0))],[.tmp 6, .tmp 7],false⟩
def FzcT (N:Nat):dzcT.F:=fun r x=>zcT N x.1 x.2.1 x.2.2.1
theorem wzcT (N:Nat):CallOk X0 dzcT (FzcT N):=UU.fn (quW N) Tryz.func28
def T72 (N:Nat):TT X0:=(T71 N).ad dzcT (FzcT N) (wzcT N)
def dzaF:FD D:=⟨65,1,[.v 0 (.sl 37)],[],none,0,[.o 2 (.sl 37)],[(2, .c (.own 0))],[.tmp 2],false⟩
def FzaF (N:Nat):dzaF.F:=fun r x=>zaF N x.1
theorem wzaF (N:Nat):CallOk X0 dzaF (FzaF N):=UU.fn (UU.nil:UU (T72 N).ev (qab Tryz.f65)) Tryz.func65
def T73 (N:Nat):TT X0:=(T72 N).ad dzaF (FzaF N) (wzaF N)
def dzaD:FD D:=⟨66,1,[.v 0 (.sl 51)],[],none,0,[.o 2 (.sl 51)],[(2, .c (.own 0))],[.tmp 2],false⟩
def FzaD (N:Nat):dzaD.F:=fun r x=>zaD N x.1
theorem wzaD (N:Nat):CallOk X0 dzaD (FzaD N):=UU.fn (UU.nil:UU (T73 N).ev (qab Tryz.f66)) Tryz.func66
def T74 (N:Nat):TT X0:=(T73 N).ad dzaD (FzaD N) (wzaD N)
def dzaV:FD D:=⟨31,1,[.v 0 (.agg 49)],[],none,0,[.v 1000000 (.agg 49)],[],[.cell 2 49],false⟩
def FzaV (N:Nat):dzaV.F:=fun r x=>zaV N x.1
theorem wzaV (N:Nat):CallOk X0 dzaV (FzaV N):=UU.fn (UU.nil:UU (T74 N).ev (qab Tryz.f31)) Tryz.func31
def T75 (N:Nat):TT X0:=(T74 N).ad dzaV (FzaV N) (wzaV N)
def qtR (N:Nat):UU (T75 N).ev (qab Tryz.f10):=UU.lp UU.nil N ⟨[1,1,1,1,1,1,1,0,1,0],[.o 13 (.box 49), .o 14 (.sl 49), .v 60 (.sl 49), .v 61 (.int .i64), .v 62 (.int .i64)],[(13, .box 0 0),(14, .c (.own 1))],[1,0],[⟨.exit 1,[.o 14 (.sl 49)],[(14, .c (.own 2))]⟩,⟨.ret,[.v 11 (.int .i64)],[(10, .c .nilS)]⟩],[13]⟩ fun n x=>qjw N x.1 x.2.2.1 x.2.2.2.1 n x.2.1 x.2.2.2.2.1
def dzbK:FD D:=⟨10,5,[.v 0 (.sl 63), .v 1 (.sl 49), .v 2 (.int .i64), .v 3 (.int .i64), .v 4 (.int .i64)],[],none,0,[.o 10 (.sl 49), .v 11 (.int .i64)],[(10, .c (.own 0))],[.tmp 10, .tmp 11],false⟩
def FzbK (N:Nat):dzbK.F:=fun r x=>zbK N x.1 x.2.1 x.2.2.1 x.2.2.2.1 x.2.2.2.2.1
theorem wzbK (N:Nat):CallOk X0 dzbK (FzbK N):=UU.fn (qtR N) Tryz.func10
def T76 (N:Nat):TT X0:=(T75 N).ad dzbK (FzbK N) (wzbK N)
def qtm (N:Nat):UU (T76 N).ev (qab Tryz.f11):=UU.st UU.nil ⟨[1,1,1,1,1,0,1,0,0,1,1,0],[.v 9 (.int .i64), .o 10 (.sl 49), .v 24 (.sl 49), .v 26 (.int .i64)],[(10, .c (.own 0))],[0],[⟨.normal,[.o 10 (.sl 49)],[(10, .c (.own 1))]⟩],[9,24,25,26]⟩ fun x=>qrv N x.1 x.2.1 x.2.2.1 x.2.2.2.1
def qtl (N:Nat):UU (T76 N).ev (qab Tryz.f11):=UU.lp (qtm N) N ⟨[1,1,1,1,1,0,1,0],[.v 9 (.int .i64), .o 10 (.sl 49), .v 24 (.sl 49), .v 25 (.int .i64), .v 26 (.int .i64)],[(10, .c (.own 0))],[0],[⟨.exit 0,[.o 10 (.sl 49)],[(10, .c (.own 1))]⟩],[]⟩ fun n x=>qjs N x.1 x.2.2.1 x.2.2.2.1 n x.2.1 x.2.2.2.2.1
def dzaP:FD D:=⟨11,3,[.v 0 (.sl 63), .v 1 (.sl 49), .v 2 (.int .i64)],[],none,0,[.o 6 (.sl 49), .v 7 (.int .i64)],[(6, .c (.own 0))],[.tmp 6, .tmp 7],false⟩
def FzaP (N:Nat):dzaP.F:=fun r x=>zaP N x.1 x.2.1 x.2.2.1
theorem wzaP (N:Nat):CallOk X0 dzaP (FzaP N):=UU.fn (qtl N) Tryz.func11
def T77 (N:Nat):TT X0:=(T76 N).ad dzaP (FzaP N) (wzaP N)
def qtK (N:Nat):UU (T77 N).ev (qab Tryz.f67):=UU.lp UU.nil N ⟨[1,1,0,1,0],[.v 0 (.sl 37), .v 1 (.sl 37), .v 5 (.int .i64)],[],[],[⟨.exit 0,[],[]⟩,⟨.ret,[.v 4 .bool],[]⟩],[]⟩ fun n x=>qhe N x.1 x.2.1 n x.2.2.1
def dzbF:FD D:=⟨67,2,[.v 0 (.sl 37), .v 1 (.sl 37)],[],none,0,[.v 4 .bool],[],[.tmp 4],true⟩
def FzbF (N:Nat):dzbF.F:=fun r x=>zbF N x.1 x.2.1
theorem wzbF (N:Nat):CallOk X0 dzbF (FzbF N):=UU.fn (qtK N) Tryz.func67
def T78 (N:Nat):TT X0:=(T77 N).ad dzbF (FzbF N) (wzbF N)
def quc (N:Nat):UU (T78 N).ev (qab Tryz.f32):=UU.st UU.nil ⟨[1,1,0,1,0,0,1,0,0,0],[.v 0 (.sl 49), .v 1 (.sl 49), .v 5 (.int .i64)],[],[],[⟨.normal,[.v 55 .bool],[]⟩],[0,1,5]⟩ fun x=>qoX N x.1 x.2.1 x.2.2.1
def qub (N:Nat):UU (T78 N).ev (qab Tryz.f32):=UU.lp (quc N) N ⟨[1,1,0,1,0],[.v 0 (.sl 49), .v 1 (.sl 49), .v 5 (.int .i64)],[],[],[⟨.exit 0,[],[]⟩,⟨.ret,[.v 4 .bool],[]⟩],[]⟩ fun n x=>qhh N x.1 x.2.1 n x.2.2.1
def dzbQ:FD D:=⟨32,2,[.v 0 (.sl 49), .v 1 (.sl 49)],[],none,0,[.v 4 .bool],[],[.tmp 4],true⟩
def FzbQ (N:Nat):dzbQ.F:=fun r x=>zbQ N x.1 x.2.1
theorem wzbQ (N:Nat):CallOk X0 dzbQ (FzbQ N):=UU.fn (qub N) Tryz.func32
def T79 (N:Nat):TT X0:=(T78 N).ad dzbQ (FzbQ N) (wzbQ N)
def dzaR:FD D:=⟨12,2,[.v 0 (.sl 49), .v 1 (.sl 49)],[],none,0,[.v 4 .bool],[],[.tmp 4],true⟩
def FzaR (N:Nat):dzaR.F:=fun r x=>zaR N x.1 x.2.1
theorem wzaR (N:Nat):CallOk X0 dzaR (FzaR N):=UU.fn (UU.nil:UU (T79 N).ev (qab Tryz.f12)) Tryz.func12
def T80 (N:Nat):TT X0:=(T79 N).ad dzaR (FzaR N) (wzaR N)
def dzcV:FD D:=⟨33,0,[],[],none,0,[.o 0 (.sl 63)],[(0, .c (.own 0))],[.tmp 0],false⟩
def FzcV (N:Nat):dzcV.F:=fun r x=>zcV N
theorem wzcV (N:Nat):CallOk X0 dzcV (FzcV N):=UU.fn (UU.nil:UU (T80 N).ev (qab Tryz.f33)) Tryz.func33
def T81 (N:Nat):TT X0:=(T80 N).ad dzcV (FzcV N) (wzcV N)
def qvq (N:Nat):UU (T81 N).ev (qab Tryz.f13):=UU.st UU.nil ⟨[1,1,1,1,1,0],[.v 1 (.sl 49), .v 2 (.int .i64), .v 4 (.int .i64), .v 6 (.int .i64), .o 7 (.sl 49), .v 8 (.int .i64)],[(7, .c (.own 0))],[1],[⟨.normal,[.v 0 .bool],[]⟩],[]⟩ fun x=>qpo N x.1 x.2.1 x.2.2.1 x.2.2.2.1 x.2.2.2.2.1 x.2.2.2.2.2.1
def dzdF:FD D:=⟨13,0,[],[],none,0,[.v 0 .bool],[],[.tmp 0],true⟩
def FzdF (N:Nat):dzdF.F:=fun r x=>zdF N
theorem wzdF (N:Nat):CallOk X0 dzdF (FzdF N):=UU.fn (qvq N) Tryz.func13
def T82 (N:Nat):TT X0:=(T81 N).ad dzdF (FzdF N) (wzdF N)
def qte (N:Nat):UU (T82 N).ev (qab Tryz.f3):=UU.st UU.nil ⟨[1,1,1,1,0,1,0,0,1,0,0,1,1,1,1,1,0],[.o 3 (.box 55), .v 6 (.sl 49), .v 9 (.sl 49), .v 11 (.sl 49), .v 12 (.int .i64), .o 13 (.sl 49), .v 14 (.int .i64)],[(3, .box 0 0),(13, .c (.own 1))],[1,1],[⟨.normal,[.v 99 .bool],[]⟩],[3,4,6,7]⟩ fun x=>qoN N x.2.1 x.2.2.1 x.2.2.2.1 x.2.2.2.2.1 x.2.2.2.2.2.1 x.2.2.2.2.2.2.1
def qtd (N:Nat):UU (T82 N).ev (qab Tryz.f3):=UU.st (qte N) ⟨[1,1,1,1,0,1,0,0,1,0],[.o 3 (.box 55), .v 4 (.sl 63), .v 6 (.sl 49)],[(3, .box 0 0)],[2],[⟨.normal,[.u 0 (.box 55)],[]⟩,⟨.ret,[.v 2 .bool],[]⟩],[3,4,6,7]⟩ fun x=>qoM N x.1 x.2.1 x.2.2.1
def qtc (N:Nat):UU (T82 N).ev (qab Tryz.f3):=UU.lp (qtd N) N ⟨[1,1,1,1,0,1,0],[.o 3 (.box 55), .v 4 (.sl 63), .v 6 (.sl 49), .v 7 (.int .i64)],[(3, .box 0 0)],[0],[⟨.exit 0,[],[]⟩,⟨.ret,[.v 2 .bool],[]⟩],[]⟩ fun n x=>qjr N x.2.1 x.2.2.1 n x.1 x.2.2.2.1
def dzaK:FD D:=⟨3,1,[.v 0 (.sl 3)],[],none,0,[.v 2 .bool],[],[.tmp 2],true⟩
def FzaK (N:Nat):dzaK.F:=fun r x=>zaK N x.1
theorem wzaK (N:Nat):CallOk X0 dzaK (FzaK N):=UU.fn (qtc N) Tryz.func3
def T83 (N:Nat):TT X0:=(T82 N).ad dzaK (FzaK N) (wzaK N)
end
end Go.W
end
section
set_option linter.unusedVariables false
set_option linter.unusedSimpArgs false
namespace Go.W
open Go.AM
theorem w64 {n:Int} (h: -9223372036854775808≤n) (h':n≤9223372036854775807):IntKind.wrap .i64 n=n:=by rw[IntKind.wrap_i64];omega
theorem w8 {n:Int} (h:0≤n) (h':n≤255):IntKind.wrap .u8 n=n:=by rw[IntKind.wrap_u8];omega
theorem qad {α β:Type} (x:α) (f:α→Option β):AM.lt x f=f x:=rfl
theorem qaa {α β:Type} (x:α) (f:α→Option β):Option.bind (some x) f=f x:=rfl
theorem qiW {α:Type} {xs:List α} {i:Int} (h0:0≤i) (h1:i<xs.length):∃x,getI xs i=some x∧x∈xs∧xs[i.toNat]? =some x:=by
 have hlt:i.toNat<xs.length:=by omega
 exact ⟨xs[i.toNat],by simp[getI,h0,hlt],by simp,by simp[hlt]⟩
def Mk (c:Int) (s:Maker):Prop:=0≤s.n∧s.n≤c
theorem qaU (N:Nat) {c:Int} {s:Maker} (k:Int) (hk:1≤k) (hk2:k≤1000000) (hs:Mk c s) (hc:c≤1000000000000):∃r s',zcI N s k=some (r,s')∧0≤r∧r<k∧Mk (c+1) s':=by
 obtain ⟨h0,h1⟩:=hs
 have h15:∃y,qo8 N s 0 (decide (0<(s.l.length:Int)))=some y:=by
  unfold qo8
  by_cases hl:0<(s.l.length:Int)
  ·rw[if_pos (by simpa using hl)]
   have hne:(s.l.length:Int)≠0:=by omega
   have hm:modI s.n s.l.length=some (s.n.tmod s.l.length):=by unfold modI;rw[if_neg hne]
   have hd:divI s.n s.l.length=some (s.n.tdiv s.l.length):=by unfold divI;rw[if_neg hne]
   have hr0:0≤s.n.tmod s.l.length:=Int.tmod_nonneg _ h0
   have hr1:s.n.tmod s.l.length<s.l.length:=Int.tmod_lt_of_pos _ hl
   obtain ⟨x,hx,_,_⟩:=qiW hr0 hr1
   rw[hm,qaa,hx,qaa,hd,qaa,qad]
   exact ⟨_,rfl⟩
  ·rw[if_neg (by simpa using hl)]
   exact ⟨_,rfl⟩
 obtain ⟨y,hy⟩:=h15
 unfold zcI
 rw[hy,qaa]
 have hm:modI y k=some (y.tmod k):=by simp[modI];omega
 have hlt:y.tmod k<k:=Int.tmod_lt_of_pos _ (by omega)
 have hgt: -k<y.tmod k:=by
  have:=Int.lt_tmod_of_pos y (by omega:0<k)
  omega
 have hn:IntKind.wrap .i64 (s.n+1)=s.n+1:=w64 (by omega) (by omega)
 simp only[hm,qaa,hn]
 unfold qrL
 by_cases hneg:y.tmod k<0
 ·rw[if_pos (by simpa using hneg),qad,qaa,w64 (by omega) (by omega)]
  exact ⟨_,_,rfl,by omega,by omega,by constructor<;>simp<;>omega⟩
 ·rw[if_neg (by simpa using hneg),qaa]
  exact ⟨_,_,rfl,by omega,by omega,by constructor<;>simp<;>omega⟩
theorem qq9 (N:Nat) {c:Int} {s:Maker} (l:List Int) (hl:1≤l.length) (hl2:l.length≤1000) (hs:Mk c s) (hc:c≤1000000000000):∃x s',zcJ N s l=some (x,s')∧x∈l∧Mk (c+1) s':=by
 obtain ⟨r,s',h1,h2,h3,h4⟩:=qaU N (s:=s) (c:=c) (l.length:Int) (by omega) (by omega) hs hc
 obtain ⟨x,hx,hm,_⟩:=qiW h2 h3
 unfold zcJ
 rw[h1,qaa]
 simp only[hx,qaa]
 exact ⟨x,s',rfl,hm,h4⟩
end Go.W
end
section
set_option linter.unusedVariables false
set_option linter.unusedSimpArgs false
namespace Go.W
open Go.AM
theorem qac {α:Type} {xs:List α} {i:Nat} {x:α} (h:xs[i]? =some x):getI xs (i:Int)=some x:=by simp[getI,h]
theorem qak {α:Type} {xs:List α} {i:Nat} (h:i<xs.length):xs[i]? =some xs[i]:=by simp[h]
theorem qaF {α:Type} {xs:List α} {i:Nat} {x:α} (h:xs[i]? =some x):xs.drop i=x::xs.drop (i+1):=by
 obtain ⟨hlt,rfl⟩:=List.getElem?_eq_some_iff.1 h
 exact List.drop_eq_getElem_cons hlt
theorem w64s {i:Nat} (h:i<9223372036854775807):IntKind.wrap .i64 ((i:Int)+1)=((i+1:Nat):Int):=by rw[w64 (by omega) (by omega)];omega
theorem w64p {i:Nat} (h:i<9223372036854775807):IntKind.wrap .i64 (((i+1:Nat):Int) - 1)=(i:Int):=by rw[w64 (by omega) (by omega)];omega
theorem dpos {a b:Int} (h:a<b):decide (a<b)=true:=decide_eq_true h
theorem dneg {a b:Int} (h:¬a<b):¬decide (a<b)=true:=by simpa using h
theorem lpos {a b:Int} (h:a≤b):decide (a≤b)=true:=decide_eq_true h
theorem lneg {a b:Int} (h:¬a≤b):¬decide (a≤b)=true:=by simpa using h
theorem qap {α:Type} {xs ys:List α} (h:xs.length+ys.length≤4294967296):appI xs ys=some (xs++ys):=if_pos h
theorem qbt {α:Type} {xs:List α} {i:Nat} (h:i≤xs.length):cutI xs (i:Int) (xs.length:Int)=some (xs.drop i):=by
 unfold cutI;rw[if_pos (by omega)];simp
theorem qcf {α:Type} {xs:List α} {i:Nat} (h:i≤xs.length):cutI xs 0 (i:Int)=some (xs.take i):=by
 unfold cutI;rw[if_pos (by omega)];simp
theorem Mk.le {c c':Int} {s:Maker} (h:Mk c s) (hc:c≤c'):Mk c' s:=⟨h.1,Int.le_trans h.2 hc⟩
theorem mk0 (t:List Int):Mk 0 (Maker.mk t 0):=⟨by simp,by simp⟩
def res {α β:Type} (p:Nat→α→Bool) (out:Nat→α→β):Nat→List α→Sum Unit β
 |_,[]=> .inl ()
 |i,x::xs=>if p i x=true then .inr (out i x) else res p out (i+1) xs
theorem qar {α β:Type} {l:List α} (p:Nat→α→Bool) (out:Nat→α→β) (F:Nat→Int→Option (Sum Unit β)) (h0:∀n,F (n+1) (l.length:Int)=some (.inl ()))
  (h1:∀(n i:Nat) (x:α),l[i]? =some x→F (n+1) (i:Int)=if p i x=true then some (.inr (out i x)) else F n ((i+1:Nat):Int)):∀(k n i:Nat),k<n→i+k=l.length→F n (i:Int)=some (res p out i (l.drop i))
 |k,0,i,hn,_=>by omega
 |0,n+1,i,hn,hi=>by
  obtain rfl:i=l.length:=by omega
  rw[h0,List.drop_length,res]
 |k+1,n+1,i,hn,hi=>by
  have hlt:i<l.length:=by omega
  rw[h1 n i _ (qak hlt),qaF (qak hlt),res]
  split
  ·rfl
  ·exact qar p out F h0 h1 k n (i+1) (by omega) (by omega)
def qcR {α:Type} (p:Nat→α→Bool):Nat→List α→Int
 |_,[]=> -1
 |i,x::xs=>if p i x=true then (i:Int) else qcR p (i+1) xs
theorem qct {α:Type} (p:Nat→α→Bool):∀(l:List α) (i:Nat),res p (fun i _=>(i:Int)) i l= .inl ()∧qcR p i l= -1∨res p (fun i _=>(i:Int)) i l= .inr (qcR p i l)∧0≤qcR p i l
 |[],i=> .inl ⟨rfl,rfl⟩
 |x::xs,i=>by
  rw[res,qcR]
  by_cases h:p i x=true
  ·rw[if_pos h,if_pos h];exact .inr ⟨rfl,by omega⟩
  ·rw[if_neg h,if_neg h];exact qct p xs (i+1)
theorem qcY {α:Type} (p:Nat→α→Bool):∀(l:List α) (i:Nat),(qcR p i l= -1∧∀(j:Nat) (x:α),l[j]? =some x→p (i+j) x=false)∨
  ∃(j:Nat) (x:α),qcR p i l=((i+j:Nat):Int)∧l[j]? =some x∧p (i+j) x=true∧∀(j':Nat) (y:α),j'<j→l[j']? =some y→p (i+j') y=false
 |[],i=> .inl ⟨rfl,fun j x h=>by simp at h⟩
 |x::xs,i=>by
  rw[qcR]
  by_cases h:p i x=true
  ·rw[if_pos h]
   exact .inr ⟨0,x,by simp,by simp,by simpa using h,fun j' y hj=>by omega⟩
  ·rw[if_neg h]
   have h':p i x=false:=by simpa using h
   rcases qcY p xs (i+1) with ⟨h1,h2⟩|⟨j,y,h1,h2,h3,h4⟩
   ·refine .inl ⟨h1,fun j y hj=> ?_⟩
    cases j with
    |zero=>simp at hj;subst hj;exact h'
    |succ j=>have:=h2 j y (by simpa using hj);rwa [show i+1+j=i+(j+1) by omega] at this
   ·refine .inr ⟨j+1,y,by rw[h1];omega,by simpa using h2,by rwa [show i+1+j=i+(j+1) by omega] at h3,fun j' z hj hz=> ?_⟩
    cases j' with
    |zero=>simp at hz;subst hz;exact h'
    |succ j'=>have:=h4 j' z (by omega) (by simpa using hz);rwa [show i+1+j'=i+(j'+1) by omega] at this
theorem qan {α β:Type} [DecidableEq α] (m:List (α×β)) (a k:α) (b:β):qae (qao m a b) k=if a=k then some b else qae m k:=by
 induction m with
 |nil=>simp[qao,qae]
 |cons p m ih=>
  simp only[qao]
  by_cases h:p.1=a
  ·rw[if_pos h]
   simp only[qae]
   by_cases h2:a=k
   ·simp[h,h2]
   ·simp[h,h2]
  ·rw[if_neg h]
   simp only[qae,ih]
   by_cases h2:p.1=k
   ·have:¬a=k:=fun h3=>h (h2.trans h3.symm)
    simp[h2,this]
   ·simp[h2]
end Go.W
end
section
set_option linter.unusedVariables false
set_option linter.unusedSimpArgs false
namespace Go.W
open Go.AM
theorem qjd {α:Type} (p:α→Bool):∀(l:List α) (i:Nat),res (fun _ y=>p y) (fun _ _=>true) i l=if l.any p=true then .inr true else .inl ()
 |[],i=>rfl
 |y::l,i=>by
  rw[res,List.any_cons]
  by_cases h:p y=true
  ·simp[h]
  ·simp only[Bool.not_eq_true] at h
   rw[h,if_neg (by simp),qjd p l (i+1),Bool.false_or]
theorem qjQ {l:List Int} {x:Int}:(l.any fun y=>y==x)=l.contains x:=by
 induction l with
 |nil=>rfl
 |cons y l ih=>
  rw[List.any_cons,List.contains_cons,ih]
  congr 1
  by_cases h:y=x
  ·rw[h]
  ·have h':¬x=y:=fun hh=>h hh.symm
   have e1:(y==x)=false:=by simpa using h
   have e2:(x==y)=false:=by simpa using h'
   rw[e1,e2]
def qaf (x:PlantElement):List Int:=if x.kind=1∨x.kind=3 then [x.a,x.b] else if x.kind=2 then [x.a,x.b,x.c] else []
def eI (l:List PlantElement) (i:Int):List Int:=if 0≤i then (match l[i.toNat]? with|some x=>qaf x|none=>[]) else []
theorem qbe (x:PlantElement):(qaf x).length≤3:=by unfold qaf;split<;>(try split)<;>simp
theorem qbd (l:List PlantElement) (i:Int):(eI l i).length≤3:=by
 unfold eI
 split
 ·split
  ·exact qbe _
  ·simp
 ·simp
theorem qfx {l:List PlantElement} {i:Nat} {x:PlantElement} (h:l[i]? =some x):eI l (i:Int)=qaf x:=by
 unfold eI;rw[if_pos (by omega)];simp[h]
theorem qaS {l:List PlantElement} {i n:Int} (h:n∈eI l i):0≤i∧i<l.length∧∃x,l[i.toNat]? =some x∧n∈qaf x:=by
 unfold eI at h
 split at h
 ·rename_i h0
  split at h
  ·rename_i x hx
   have:=(List.getElem?_eq_some_iff.1 hx).1
   exact ⟨h0,by omega,x,hx,h⟩
  ·simp at h
 ·simp at h
theorem qex (N:Nat) (x:PlantElement):zcP N x=some (qaf x):=by
 unfold zcP qaf qrO
 simp only[qad]
 by_cases h1:x.kind=1
 ·simp[h1,qaa]
 ·by_cases h3:x.kind=3
  ·simp[h3,qaa]
  ·by_cases h2:x.kind=2
   ·simp[h2,qaa]
   ·simp[h1,h2,h3,qaa]
theorem qew (N:Nat) (l:List PlantElement) (i:Int):zcO N l i=some (eI l i):=by
 unfold zcO qrN eI
 by_cases h0:i<0
 ·rw[if_pos (dpos h0),qaa,if_pos rfl,if_neg (by omega)]
 ·rw[if_neg (dneg h0),qaa,if_pos (by omega:0≤i)]
  by_cases h1:(l.length:Int)≤i
  ·rw[if_pos (lpos h1),List.getElem?_eq_none (by omega)]
  ·rw[if_neg (lneg h1)]
   have hlt:i.toNat<l.length:=by omega
   have hg:getI l i=some l[i.toNat]:=by simp[getI,hlt];omega
   rw[hg,qaa,qex,qaa,qak hlt]
theorem qbm (N:Nat) (l:List PlantElement) (i:Int):zdH N l i=some (eI l i):=by
 unfold zdH qrX eI
 by_cases h0:i<0
 ·rw[if_pos (dpos h0),qaa,if_pos rfl,if_neg (by omega)]
 ·rw[if_neg (dneg h0),qaa,if_pos (by omega:0≤i)]
  by_cases h1:(l.length:Int)≤i
  ·rw[if_pos (lpos h1),List.getElem?_eq_none (by omega)]
  ·rw[if_neg (lneg h1)]
   have hlt:i.toNat<l.length:=by omega
   have hg:getI l i=some l[i.toNat]:=by simp[getI,hlt];omega
   rw[hg,qaa,qak hlt]
   generalize l[i.toNat]=x at*
   simp only[hg,qaa,qad]
   unfold qaf qrY
   by_cases h1:x.kind=1
   ·simp[h1,qaa]
   ·by_cases h3:x.kind=3
    ·simp[h3,qaa,qad]
    ·by_cases h2:x.kind=2
     ·simp[h2,qaa,qad]
     ·simp[h1,h2,h3,qaa,qad]
theorem qlZ {l:List Int} {x:Int} (F:Nat→Int→Option (Sum Unit Bool)) (h0:∀n,F (n+1) (l.length:Int)=some (.inl ())) (h1:∀(n i:Nat) (y:Int),l[i]? =some y→F (n+1) (i:Int)=if (y==x)=true then some (.inr true) else F n ((i+1:Nat):Int))
  {n:Nat} (hn:l.length<n):F n 0=some (if l.contains x=true then .inr true else .inl ()):=by
 have h:=qar (l:=l) (fun _ y=>y==x) (fun _ _=>true) F h0 h1 l.length n 0 hn (by omega)
 simp only[Int.natCast_zero,List.drop_zero] at h
 rw[h,qjd (fun y=>y==x),qjQ]
theorem qjf (N:Nat) {l:List Int} (hN:l.length<N) (hl:l.length≤1000000) (x:Int):zdN N l x=some (l.contains x):=by
 have h:=qlZ (l:=l) (x:=x) (fun n i=>qiC N l x n i) (fun n=>by
  show qiC N l x (n+1) _=_
  rw[qiC,if_neg (dneg (by omega))]) (fun n i y hy=>by
  show qiC N l x (n+1) _=_
  have hlt:=(List.getElem?_eq_some_iff.1 hy).1
  rw[qiC,if_pos (dpos (by omega)),qac hy,qaa,qad,w64s (by omega)]) hN
 unfold zdN
 rw[h,qaa]
 cases l.contains x<;>rfl
def nbrB (i n:Int) (k:Nat) (x:PlantElement):Bool:=((k:Int) !=i)&&(qaf x).contains n
def nbr (l:List PlantElement) (i n:Int):Int:=qcR (nbrB i n) 0 l
theorem qw9 (N:Nat) (hN:4≤N) (x:PlantElement) (n k:Int):qhc N n k (qaf x) (qaf x).length N 0=some (if (qaf x).contains n=true then .inr k else .inl ()):=by
 have h:=qar (l:=qaf x) (fun _ y=>y==n) (fun _ _=>k) (fun m i=>qhc N n k (qaf x) (qaf x).length m i) (fun m=>by
  show qhc N n k (qaf x) (qaf x).length (m+1) _=_
  rw[qhc,if_neg (dneg (by omega))]) (fun m i y hy=>by
  show qhc N n k (qaf x) (qaf x).length (m+1) _=_
  have hlt:=(List.getElem?_eq_some_iff.1 hy).1
  have:=qbe x
  rw[qhc,if_pos (dpos (by omega)),qac hy]
  simp only[qaa,w64s (show i<9223372036854775807 by omega)]) (qaf x).length N 0 (by have:=qbe x;omega) (by omega)
 simp only[Int.natCast_zero,List.drop_zero] at h
 rw[h]
 congr 1
 rw[←qjQ]
 generalize qaf x=e
 have key:∀(e:List Int) (i:Nat),res (fun _ y=>y==n) (fun _ _=>k) i e=if (e.any fun y=>y==n)=true then .inr k else .inl ():=by
  intro e
  induction e with
  |nil=>intro i;rfl
  |cons y e ih=>
   intro i
   rw[res,List.any_cons]
   by_cases h:(y==n)=true
   ·simp[h]
   ·simp only[Bool.not_eq_true] at h
    rw[h,if_neg (by simp),ih,Bool.false_or]
 exact key e 0
theorem qmo {F:Option (Sum Unit Int)} {l:List PlantElement} {i n:Int} (h:F=some (res (nbrB i n) (fun k _=>(k:Int)) 0 l)):(Option.bind F fun y=>match y with| .inl _=>some (-1)| .inr y=>some y)=some (nbr l i n):=by
 rw[h,qaa]
 unfold nbr
 rcases qct (nbrB i n) l 0 with ⟨h1,h2⟩|⟨h1,h2⟩
 ·rw[h1,h2]
 ·rw[h1]
theorem qgI (N:Nat) {l:List PlantElement} (hN:l.length+4≤N) (hl:l.length≤1000000) (i n:Int):zbA N l i n=some (nbr l i n):=by
 unfold zbA
 refine qmo ?_
 have h:=qar (l:=l) (nbrB i n) (fun k _=>(k:Int)) (fun m j=>qiu N i n l l.length m j) (fun m=>by
  show qiu N i n l l.length (m+1) _=_
  rw[qiu,if_neg (dneg (by omega))]) (fun m j x hx=>by
  show qiu N i n l l.length (m+1) _=_
  have hlt:=(List.getElem?_eq_some_iff.1 hx).1
  rw[qiu,if_pos (dpos (by omega))]
  unfold qrw nbrB
  rw[qac hx,qaa]
  by_cases hji:(j:Int)=i
  ·rw[if_pos (by simpa using hji)]
   simp only[qaa,hji,bne_self_eq_false,Bool.false_and,Bool.false_eq_true,if_false]
   rw[←hji,w64s (by omega)]
  ·rw[if_neg (by simpa using hji),qex,qaa,qw9 N (by omega),qaa]
   have hb:((j:Int) !=i)=true:=by simpa using hji
   rw[hb,Bool.true_and]
   by_cases hc:(qaf x).contains n=true
   ·rw[if_pos hc,if_pos hc];rfl
   ·rw[if_neg hc,if_neg hc]
    simp only[qaa]
    rw[w64s (by omega)]) l.length N 0 (by omega) (by omega)
 simpa using h
theorem qc1 (N:Nat) {l:List PlantElement} (hN:l.length+4≤N) (hl:l.length≤1000000) (i n:Int):zbO N l i n=some (nbr l i n):=by
 unfold zbO
 refine qmo ?_
 have h:=qar (l:=l) (nbrB i n) (fun k _=>(k:Int)) (fun m j=>qiv N l i n m j) (fun m=>by
  show qiv N l i n (m+1) _=_
  rw[qiv,if_neg (dneg (by omega))]) (fun m j x hx=>by
  show qiv N l i n (m+1) _=_
  have hlt:=(List.getElem?_eq_some_iff.1 hx).1
  have hlen:=qbe x
  rw[qiv,if_pos (dpos (by omega))]
  unfold qrF nbrB
  by_cases hji:(j:Int)=i
  ·have hb:((j:Int) !=i)=false:=by simpa using hji
   rw[hb,Bool.false_and]
   simp only[Bool.false_eq_true,if_false,qaa,qad]
   rw[w64s (by omega)]
  ·have hb:((j:Int) !=i)=true:=by simpa using hji
   rw[hb,if_pos rfl,qbm,qaa,qfx hx,qjf N (by omega) (by omega),qaa,qaa,Bool.true_and,qad,w64s (by omega)]) l.length N 0 (by omega) (by omega)
 simpa using h
def thrE (e:List Int) (n:Int):List Int:=if e.contains n=true then (if e.head? =some n then e.tail else e.take 1) else []
def thr (l:List PlantElement) (i n:Int):List Int:=thrE (eI l i) n
theorem qmQ (N:Nat) (n:Int) {e:List Int} (he:e.length≤3):qcQ N n e.length 4 e 0=some (if e.contains n=true then .inr (thrE e n) else .inl ()):=by
 match e,he with
 |[],_=>rfl
 |[a],_=>
  by_cases h:a=n
  ·subst h
   simp[qcQ,getI,qaa,qad,cutI,thrE,w64s]
  ·have h':¬n=a:=fun hh=>h hh.symm
   simp[qcQ,getI,qaa,qad,cutI,thrE,h,h',w64]
 |[a,b],_=>
  by_cases h:a=n
  ·subst h
   simp[qcQ,getI,qaa,qad,cutI,thrE,w64s]
  ·have h':¬n=a:=fun hh=>h hh.symm
   by_cases h2:b=n
   ·subst h2
    simp[qcQ,getI,qaa,qad,cutI,thrE,h,h',w64]
   ·have h2':¬n=b:=fun hh=>h2 hh.symm
    simp[qcQ,getI,qaa,qad,cutI,thrE,h,h',h2,h2',w64]
 |[a,b,c],_=>
  by_cases h:a=n
  ·subst h
   simp[qcQ,getI,qaa,qad,cutI,thrE,w64s]
  ·have h':¬n=a:=fun hh=>h hh.symm
   by_cases h2:b=n
   ·subst h2
    simp[qcQ,getI,qaa,qad,cutI,thrE,h,h',w64]
   ·have h2':¬n=b:=fun hh=>h2 hh.symm
    by_cases h3:c=n
    ·subst h3
     simp[qcQ,getI,qaa,qad,cutI,thrE,h,h',h2,h2',w64]
    ·have h3':¬n=c:=fun hh=>h3 hh.symm
     simp[qcQ,getI,qaa,qad,cutI,thrE,h,h',h2,h2',h3,h3',w64]
 |a::b::c::d::e,h=>simp at h
theorem qfF {N:Nat} {n m:Int}:∀{k k':Nat} {e:List Int} {i:Int} {r:Sum Unit (List Int)},k≤k'→qcQ N n m k e i=some r→qcQ N n m k' e i=some r
 |0,_,_,_,_,_,h=>by cases h
 |k+1,0,_,_,_,hk,_=>by omega
 |k+1,k'+1,e,i,r,hk,h=>by
  rw[qcQ] at h⊢
  split at h
  ·rename_i hc
   rw[if_pos hc]
   cases h1:getI e i with
   |none=>rw[h1] at h;cases h
   |some a=>
    rw[h1] at h
    simp only[qaa] at h⊢
    split at h
    ·rename_i hn
     rw[if_pos hn]
     exact qfF (by omega) h
    ·rename_i hn
     rw[if_neg hn]
     exact h
  ·rename_i hc
   rw[if_neg hc]
   exact h
theorem qi9 (N:Nat) (hN:4≤N) (l:List PlantElement) (i n:Int):zbL N l i n=some (thr l i n):=by
 unfold zbL thr
 rw[qew,qaa,qfF hN (qmQ N n (qbd l i)),qaa]
 by_cases hc:(eI l i).contains n=true
 ·rw[if_pos hc]
 ·rw[if_neg hc,thrE,if_neg hc]
theorem qjg (N:Nat) (hN:4≤N) (l:List PlantElement) (i n:Int):zcB N l i n=some (thr l i n):=by
 unfold zcB thr
 have hl:=qbd l i
 rw[qbm,qaa,qjf N (by omega) (by omega),qaa,qad]
 generalize eI l i=e at*
 unfold thrE
 by_cases hc:e.contains n=true
 ·rw[hc]
  cases e with
  |nil=>simp at hc
  |cons a e=>
   simp only[Bool.not_true,Bool.false_eq_true,if_false,getI,Int.le_refl,if_true,Int.toNat_zero,List.getElem?_cons_zero,qaa,qad,List.head?_cons,List.tail_cons]
   by_cases ha:a=n
   ·subst ha
    have:=qbt (xs:=a::e) (i:=1) (by simp)
    simp only[beq_self_eq_true,if_true]
    rw[show (1:Int)=((1:Nat):Int) from rfl,this,qaa,qap (by simp at hl⊢;omega),qaa]
    simp
   ·have:(a==n)=false:=by simpa using ha
    rw[this]
    simp[ha]
 ·simp only[Bool.not_eq_true] at hc
  rw[hc]
  simp
end Go.W
end
section
set_option linter.unusedVariables false
set_option linter.unusedSimpArgs false
namespace Go.W
open Go.AM
def pnCh (u:UInt8):Bool:=(decide (97≤u.toNat)&&decide (u.toNat≤122))||(decide (48≤u.toNat)&&decide (u.toNat≤57))
def pnOk (l:List UInt8):Bool:=l.all pnCh&&(decide (1≤l.length)&&decide (l.length≤12))
theorem qsS (N:Nat) {l:List UInt8} {i:Nat} {u:UInt8} (h:l[i]? =some u):qpb N l i=some (!pnCh u):=by
 unfold qpb pnCh
 rw[qac h]
 simp only[qaa]
 by_cases a:97≤u.toNat
 ·rw[if_neg (by simp;omega)]
  by_cases b:u.toNat≤122
  ·rw[if_neg (by simp;omega)];simp[a,b]
  ·rw[if_pos (by simp;omega),if_neg (by simp;omega)]
   simp[a,b,show ¬u.toNat≤57 by omega,show (57:Int)<u.toNat by omega]
 ·rw[if_pos (by simp;omega)]
  by_cases c:u.toNat<48
  ·rw[if_pos (by simp;omega)];simp[a,show ¬48≤u.toNat by omega]
  ·rw[if_neg (by simp;omega)]
   by_cases d:u.toNat≤57
   ·simp[a,show 48≤u.toNat by omega,d,show ¬(57:Int)<u.toNat by omega]
   ·simp[a,show 48≤u.toNat by omega,d,show (57:Int)<u.toNat by omega]
theorem qsY (N:Nat) {l:List UInt8} {i:Nat} {u:UInt8} (h:l[i]? =some u):qpp N l i=some (!pnCh u):=by
 unfold qpp pnCh
 rw[qac h]
 simp only[qaa]
 by_cases a:97≤u.toNat
 ·rw[if_pos (by simp;omega)]
  by_cases b:u.toNat≤122
  ·rw[if_pos (by simp;omega)];simp[a,b]
  ·rw[if_neg (by simp;omega)]
   by_cases c:48≤u.toNat
   ·rw[if_pos (by simp;omega)];simp[a,b,c];omega
   ·omega
 ·rw[if_neg (by simp;omega)]
  by_cases c:48≤u.toNat
  ·rw[if_pos (by simp;omega)]
   simp[a,c]
   omega
  ·rw[if_neg (by simp;omega)];simp[a,c]
theorem qjc {α β:Type} (p:α→Bool) (b:β):∀(l:List α) (i:Nat),res (fun _ y=> !p y) (fun _ _=>b) i l=if l.all p=true then .inl () else .inr b
 |[],i=>rfl
 |y::l,i=>by
  rw[res,List.all_cons]
  by_cases h:p y=true
  ·rw[h];simp only[Bool.not_true,Bool.false_eq_true,if_false,Bool.true_and];exact qjc p b l (i+1)
  ·simp only[Bool.not_eq_true] at h
   rw[h];simp
theorem qon (N:Nat) {l:List UInt8} (hN:14≤N):zcQ N l=some (pnOk l):=by
 unfold zcQ qrP pnOk
 by_cases h1:l.length<1
 ·rw[if_pos (dpos (by omega)),qaa,if_pos rfl]
  simp[show ¬1≤l.length by omega]
 ·rw[if_neg (dneg (by omega)),qaa]
  by_cases h2:12<l.length
  ·rw[if_pos (by simpa using by omega)]
   simp[show ¬l.length≤12 by omega]
  ·rw[if_neg (by simpa using by omega)]
   have h:=qar (l:=l) (fun _ y=> !pnCh y) (fun _ _=>false) (fun m i=>qiw N l l.length m i) (fun m=>by
    show qiw N l l.length (m+1) _=_
    rw[qiw,if_neg (dneg (by omega))]) (fun m i y hy=>by
    show qiw N l l.length (m+1) _=_
    have hlt:=(List.getElem?_eq_some_iff.1 hy).1
    rw[qiw,if_pos (dpos (by omega)),qsS N hy,qaa,w64s (by omega)]) l.length N 0 (by omega) (by omega)
   simp only[Int.natCast_zero,List.drop_zero] at h
   rw[h,qjc pnCh,qaa]
   by_cases h3:l.all pnCh=true
   ·rw[if_pos h3,h3];simp[show 1≤l.length by omega,show l.length≤12 by omega]
   ·rw[if_neg h3];simp only[Bool.not_eq_true] at h3;rw[h3];simp
theorem qoz (N:Nat) {l:List UInt8} (hN:l.length<N) (hl:l.length≤9223372036854775807):zdG N l=some (pnOk l):=by
 unfold zdG pnOk
 have h:=qar (l:=l) (fun _ y=> !pnCh y) (fun _ _=>false) (fun m i=>qiB N l m i) (fun m=>by
  show qiB N l (m+1) _=_
  rw[qiB,if_neg (dneg (by omega))]) (fun m i y hy=>by
  show qiB N l (m+1) _=_
  have hlt:=(List.getElem?_eq_some_iff.1 hy).1
  rw[qiB,if_pos (dpos (by omega)),qsY N hy,qaa,qad,w64s (by omega)]) l.length N 0 (by omega) (by omega)
 simp only[Int.natCast_zero,List.drop_zero] at h
 rw[h,qjc pnCh,qaa]
 by_cases h3:l.all pnCh=true
 ·rw[if_pos h3,h3]
  unfold qrW
  by_cases a:1≤l.length
  ·rw[if_pos (lpos (by omega))];simp only[qad,qaa,decide_eq_true a,Bool.true_and];congr 1;rw[decide_eq_decide];omega
  ·rw[if_neg (lneg (by omega))];simp[a,qaa]
 ·rw[if_neg h3];simp only[Bool.not_eq_true] at h3;rw[h3];simp
def pE (e:List Int) (i:Nat) (a:Int):Bool:=(decide (a<0)||decide (64≤a))||(e.take i).contains a
def okE (e:List Int):Bool:=match res (pE e) (fun _ _=>false) 0 e with| .inl _=>true| .inr _=>false
def qaO (x:PlantElement):Bool:=
 (!(qaf x).isEmpty&&pnOk x.name)&&(okE (qaf x)&&if x.kind=1 then x.c==0&&(decide (1≤x.length)&&decide (x.length≤100000)) else x.length==0&&(x.kind==2||x.c==0))
theorem qbH {α β:Type} {p:Nat→α→Bool} {out:Nat→α→β}:∀{l:List α} {i:Nat},res p out i l= .inl ()↔∀(j:Nat) (x:α),l[j]? =some x→p (i+j) x=false
 |[],i=>by simp[res]
 |x::l,i=>by
  rw[res]
  by_cases h:p i x=true
  ·rw[if_pos h]
   constructor
   ·intro hh;cases hh
   ·intro hh
    have:=hh 0 x rfl
    rw[Nat.add_zero,h] at this;cases this
  ·rw[if_neg h,qbH]
   simp only[Bool.not_eq_true] at h
   constructor
   ·intro hh j y hj
    cases j with
    |zero=>simp at hj;subst hj;exact h
    |succ j=>have:=hh j y (by simpa using hj);rwa [show i+1+j=i+(j+1) by omega] at this
   ·intro hh j y hj
    have:=hh (j+1) y (by simpa using hj)
    rwa [show i+(j+1)=i+1+j by omega] at this
theorem qgC {e:List Int}:okE e=true↔e.Nodup∧∀a∈e,0≤a∧a<64:=by
 have h1:okE e=true↔res (pE e) (fun _ _=>false) 0 e= .inl ():=by
  unfold okE
  split
  ·rename_i u h;simp[h]
  ·rename_i u h;simp[h]
 rw[h1,qbH]
 constructor
 ·intro h
  refine ⟨?_,fun a ha=> ?_⟩
  ·refine List.pairwise_iff_getElem.2 fun i j hi hj hij heq=> ?_
   have hj':=qak hj
   have:=h j _ hj'
   rw[Nat.zero_add] at this
   simp only[pE,Bool.or_eq_false_iff,List.contains_eq_mem,decide_eq_false_iff_not] at this
   apply this.2
   refine List.mem_of_getElem? (i:=i) ?_
   rw[List.getElem?_take,if_pos hij,qak hi,heq]
  ·obtain ⟨j,hj⟩:=List.getElem?_of_mem ha
   have:=h j a hj
   simp only[pE,Bool.or_eq_false_iff,decide_eq_false_iff_not] at this
   omega
 ·rintro ⟨h2,h3⟩ j x hj
  rw[Nat.zero_add]
  have:=h3 x (List.mem_of_getElem? hj)
  simp only[pE,Bool.or_eq_false_iff,decide_eq_false_iff_not]
  refine ⟨⟨by omega,by omega⟩, ?_⟩
  simp only[List.contains_eq_mem,decide_eq_false_iff_not]
  intro hm
  obtain ⟨i,hi⟩:=List.getElem?_of_mem hm
  rw[List.getElem?_take] at hi
  split at hi
  ·rename_i hij
   have hjl:=(List.getElem?_eq_some_iff.1 hj).1
   obtain ⟨hil,hi⟩:=List.getElem?_eq_some_iff.1 hi
   obtain ⟨_,hj⟩:=List.getElem?_eq_some_iff.1 hj
   exact List.pairwise_iff_getElem.1 h2 i j hil hjl hij (by rw[hi,hj])
  ·cases hi
theorem qrc (N:Nat) {e:List Int} (hN:e.length<N) (hl:e.length≤1000000) (a:Int):qhg N a e e.length N 0=some (if e.contains a=true then .inr false else .inl ()):=by
 have h:=qar (l:=e) (fun _ y=>y==a) (fun _ _=>false) (fun m i=>qhg N a e e.length m i) (fun m=>by
  show qhg N a e e.length (m+1) _=_
  rw[qhg,if_neg (dneg (by omega))]) (fun m i y hy=>by
  show qhg N a e e.length (m+1) _=_
  have hlt:=(List.getElem?_eq_some_iff.1 hy).1
  rw[qhg,if_pos (dpos (by omega)),qac hy,qaa,w64s (by omega)]
  by_cases hay:a=y
  ·rw[if_pos (by simpa using hay),if_pos (by simpa using hay.symm)]
  ·rw[if_neg (by simpa using hay),if_neg (by simpa using fun hh:y=a=>hay hh.symm)]) e.length N 0 hN (by omega)
 simp only[Int.natCast_zero,List.drop_zero] at h
 rw[h]
 congr 1
 have key:∀(e:List Int) (i:Nat),res (fun _ y=>y==a) (fun _ _=>false) i e=if (e.any fun y=>y==a)=true then .inr false else .inl ():=by
  intro e
  induction e with
  |nil=>intro i;rfl
  |cons y e ih=>
   intro i
   rw[res,List.any_cons]
   by_cases h:(y==a)=true
   ·simp[h]
   ·simp only[Bool.not_eq_true] at h
    rw[h,if_neg (by simp),ih,Bool.false_or]
 rw[key,qjQ]
theorem qrb (N:Nat) (hN:10≤N) {e:List Int} (he:e.length≤3):qhf N e e e.length N 0=some (res (pE e) (fun _ _=>false) 0 e):=by
 have h:=qar (l:=e) (pE e) (fun _ _=>false) (fun m i=>qhf N e e e.length m i) (fun m=>by
  show qhf N e e e.length (m+1) _=_
  rw[qhf,if_neg (dneg (by omega))]) (fun m i a ha=>by
  show qhf N e e e.length (m+1) _=_
  have hlt:=(List.getElem?_eq_some_iff.1 ha).1
  rw[qhf,if_pos (dpos (by omega)),qac ha,qaa]
  unfold qrC pE
  by_cases h0:a<0
  ·rw[if_pos (dpos h0),qaa];simp[h0]
  ·rw[if_neg (dneg h0),qaa]
   by_cases h1:64≤a
   ·simp[h1]
   ·rw[if_neg (by simpa using by omega),qcf (by omega),qaa,qrc N (by rw[List.length_take];omega) (by rw[List.length_take];omega),qaa]
    have e1:decide (a<0)=false:=by simpa using by omega
    have e2:decide (64≤a)=false:=by simpa using by omega
    rw[e1,e2,Bool.false_or,Bool.false_or]
    by_cases hc:(e.take i).contains a=true
    ·rw[if_pos hc,if_pos hc]
    ·rw[if_neg hc,if_neg hc]
     simp only[]
     rw[w64s (by omega)]) e.length N 0 (by omega) (by omega)
 simpa using h
theorem qrl (N:Nat) (hN:10≤N) {e:List Int} (he:e.length≤3):qhs N e N 0=some (res (pE e) (fun _ _=>false) 0 e):=by
 have h:=qar (l:=e) (pE e) (fun _ _=>false) (fun m i=>qhs N e m i) (fun m=>by
  show qhs N e (m+1) _=_
  rw[qhs,if_neg (dneg (by omega))]) (fun m i a ha=>by
  show qhs N e (m+1) _=_
  have hlt:=(List.getElem?_eq_some_iff.1 ha).1
  rw[qhs,if_pos (dpos (by omega))]
  unfold qrS pE
  rw[qac ha]
  simp only[qaa]
  by_cases h0:a<0
  ·rw[if_pos (dpos h0),qaa];simp[h0]
  ·rw[if_neg (dneg h0)]
   by_cases h1:64≤a
   ·rw[if_pos (lpos h1),qaa];simp[h1]
   ·rw[if_neg (lneg h1),qcf (by omega),qaa,qjf N (by rw[List.length_take];omega) (by rw[List.length_take];omega),qaa,qaa]
    have e1:decide (a<0)=false:=by simpa using by omega
    have e2:decide (64≤a)=false:=by simpa using by omega
    rw[e1,e2,Bool.false_or,Bool.false_or,qad,w64s (by omega)]) e.length N 0 (by omega) (by omega)
 simpa using h
theorem qk3 (N:Nat) (hN:20≤N) (x:PlantElement) (hx:qaf x≠[]∨pnOk x.name=false):zbN N x=some (qaO x):=by
 unfold zbN qaO qrB
 have he:=qbe x
 rw[qex,qaa,qon N (by omega)]
 by_cases hne:qaf x=[]
 ·have hn:pnOk x.name=false:=by rcases hx with h|h;exact absurd hne h;exact h
  rw[hne,hn]
  simp[nilT,qaa]
 ·have hnil:∀{β:Type} (f:Bool→Option β),nilT (qaf x) f=f false:=fun f=>by unfold nilT;rw[if_neg hne]
  rw[hnil]
  have hie:(qaf x).isEmpty=false:=by cases h:qaf x with|nil=>exact absurd h hne|cons _ _=>rfl
  simp only[Bool.false_eq_true,if_false,qaa,hie,Bool.not_false,Bool.true_and]
  by_cases hn:pnOk x.name=true
  ·rw[hn]
   simp only[Bool.not_true,Bool.false_eq_true,if_false,Bool.true_and]
   rw[qrb N (by omega) he,qaa]
   unfold okE
   cases hr:res (pE (qaf x)) (fun _ _=>false) 0 (qaf x) with
   |inr b=>
    have:b=false:=by
     have key:∀(e:List Int) (i:Nat) (b:Bool),res (pE (qaf x)) (fun _ _=>false) i e= .inr b→b=false:=by
      intro e
      induction e with
      |nil=>intro i b h;cases h
      |cons y e ih=>
       intro i b h
       rw[res] at h
       split at h
       ·cases h;rfl
       ·exact ih _ _ h
     exact key _ _ _ hr
    subst this
    simp
   |inl u=>
    simp only[Bool.true_and]
    by_cases h1:x.kind=1
    ·rw[if_pos (by simpa using h1),if_pos h1]
     unfold qrD
     by_cases hc:x.c=0
     ·rw[if_pos (by simpa using hc)]
      by_cases ha:1≤x.length
      ·rw[if_pos (lpos ha)];simp[qad,qaa,hc,ha]
      ·rw[if_neg (lneg ha)];simp[qaa,ha]
     ·rw[if_neg (by simpa using hc)];simp[qaa,hc]
    ·rw[if_neg (by simpa using h1),if_neg h1]
     unfold qrE
     by_cases ha:x.length=0
     ·rw[if_pos (by simpa using ha)]
      by_cases h2:x.kind=2
      ·rw[if_pos (by simpa using h2)];simp[qaa,ha,h2]
      ·rw[if_neg (by simpa using h2)];simp[qad,qaa,ha,h2]
     ·rw[if_neg (by simpa using ha)];simp[qaa,ha]
  ·simp only[Bool.not_eq_true] at hn
   rw[hn];simp
theorem qmN (N:Nat) (x:PlantElement):zbE N x=if qaf x=[] then some () else none:=by
 unfold zbE qry qaf
 simp only[qad]
 by_cases h1:x.kind=1
 ·simp[h1,qaa]
 ·by_cases h3:x.kind=3
  ·simp[h3,qaa]
  ·by_cases h2:x.kind=2
   ·simp[h2,qaa]
   ·simp[h1,h2,h3,qaa]
theorem qmP (N:Nat) (hN:20≤N) (x:PlantElement):zcA N x=some (qaO x):=by
 unfold zcA zbM
 rw[qmN]
 by_cases he:qaf x=[]
 ·rw[if_pos he,qaa]
  have h0:qrA N=some true:=rfl
  rw[h0,qaa,if_pos rfl]
  unfold qaO
  rw[he]
  rfl
 ·rw[if_neg he,qk3 N hN x (.inl he)]
  rfl
theorem qnc (N:Nat) {l:List PlantElement} {i:Nat} {x:PlantElement} (hx:l[i]? =some x) (hN:20≤N) (hn:x.name.length<N) (hn2:x.name.length≤9223372036854775807):zcX N l i=some (qaO x):=by
 unfold zcX qaO qrR
 have he:=qbe x
 rw[qac hx,qaa,qbm,qfx hx,qaa,qoz N hn hn2]
 by_cases hne:qaf x=[]
 ·rw[hne];simp[qaa]
 ·have hie:(qaf x).isEmpty=false:=by cases h:qaf x with|nil=>exact absurd h hne|cons _ _=>rfl
  have hlen:((qaf x).length:Int)≠0:=by cases h:qaf x with|nil=>exact absurd h hne|cons _ _=>simp;omega
  rw[if_neg (by simpa using hlen)]
  simp only[qaa,hie,Bool.not_false,Bool.true_and]
  by_cases hnm:pnOk x.name=true
  ·rw[hnm]
   simp only[Bool.not_true,Bool.false_eq_true,if_false,Bool.true_and]
   rw[qrl N (by omega) he,qaa]
   unfold okE
   cases hr:res (pE (qaf x)) (fun _ _=>false) 0 (qaf x) with
   |inr b=>
    have:b=false:=by
     have key:∀(e:List Int) (i:Nat) (b:Bool),res (pE (qaf x)) (fun _ _=>false) i e= .inr b→b=false:=by
      intro e
      induction e with
      |nil=>intro i b h;cases h
      |cons y e ih=>
       intro i b h
       rw[res] at h
       split at h
       ·cases h;rfl
       ·exact ih _ _ h
     exact key _ _ _ hr
    subst this
    simp
   |inl u=>
    simp only[Bool.true_and]
    unfold qrT
    have hl2:((qaf x).length:Int)=2↔(x.kind=1∨x.kind=3):=by
     unfold qaf
     split
     ·rename_i h;simp[h]
     ·rename_i h
      split
      ·simp[h]
      ·simp[h]
    by_cases h1:x.kind=1
    ·rw[if_pos (by simpa using hl2.2 (.inl h1)),qaa,if_pos h1]
     by_cases hc:x.c=0
     ·unfold qrU
      by_cases ha:1≤x.length
      ·simp[qad,qaa,hc,ha,h1]
      ·simp[qaa,ha,h1,hc]
     ·simp[hc]
    ·by_cases h3:x.kind=3
     ·rw[if_pos (by simpa using hl2.2 (.inr h3)),qaa,if_neg h1]
      by_cases hc:x.c=0
      ·simp[qad,hc,h3]
      ·simp[hc,h3]
     ·have h2:x.kind=2:=by
       have:=hne
       unfold qaf at this
       rw[if_neg (by omega)] at this
       split at this
       ·assumption
       ·exact absurd rfl this
      have hl:¬((qaf x).length:Int)=2:=by rw[hl2];omega
      rw[if_neg (by simpa using hl),qaa,if_neg h1]
      simp[qad,h2]
  ·simp only[Bool.not_eq_true] at hnm
   rw[hnm];simp
end Go.W
end
section
set_option linter.unusedVariables false
set_option linter.unusedSimpArgs false
namespace Go.W
open Go.AM
def cnt (l:List PlantElement) (n:Int):Int:=((l.filter fun x=>(qaf x).contains n).length:Int)
theorem qdF (l:List PlantElement) (n:Int):0≤cnt l n:=by unfold cnt;omega
theorem qpx (l:List PlantElement) (n:Int):cnt l n≤l.length:=by unfold cnt;have:=List.length_filter_le (fun x=>(qaf x).contains n) l;omega
theorem qaW {α:Type} {l:List α} {i:Nat} {x:α} (h:l[i]? =some x):l.take (i+1)=l.take i++[x]:=by
 rw[List.take_add_one,h];rfl
theorem qcd (l:List PlantElement) (x:PlantElement) (n:Int):cnt (l++[x]) n=cnt l n+if n∈qaf x then 1 else 0:=by
 unfold cnt
 rw[List.filter_append]
 by_cases h:n∈qaf x
 ·simp[h]
 ·simp[h]
def qaA (l:List PlantElement) (i:Nat) (x:PlantElement):Int:=
 if qaO x=false then 1 else if ((l.take i).any fun y=>y.name==x.name)=true then 8 else if ((qaf x).any fun n=>cnt (l.take i) n==2)=true then 17 else 0
def pC (l:List PlantElement) (i:Nat) (x:PlantElement):Bool:=qaA l i x !=0
def vErr (l:List PlantElement):Int:=if 96<l.length then 3 else match res (pC l) (qaA l) 0 l with| .inl _=>0| .inr c=>c
structure VInv (l:List PlantElement) (i:Nat) (x3:List (List UInt8×Bool)) (x4:List (Int×Int)):Prop where
 nm:∀k,(qae x3 k).getD false=(l.take i).any fun y=>y.name==k
 ct:∀n,(qae x4 n).getD 0=cnt (l.take i) n
theorem pv1 (N:Nat) {e:List Int} (hd:e.Nodup) (hl:e.length≤3):∀(k n i:Nat) (x4:List (Int×Int)),k<n→i+k=e.length→(∀a,0≤(qae x4 a).getD 0∧(qae x4 a).getD 0≤1000+i)→
  (((e.drop i).any fun a=>(qae x4 a).getD 0==2)=true∧qhn N e e.length n x4 i=some (.inr 17))∨
  (((e.drop i).any fun a=>(qae x4 a).getD 0==2)=false∧∃x4',qhn N e e.length n x4 i=some (.inl x4')∧∀m,(qae x4' m).getD 0=(qae x4 m).getD 0+if m∈e.drop i then 1 else 0)
 |k,0,i,x4,hn,_,_=>by omega
 |0,n+1,i,x4,hn,hi,hb=>by
  obtain rfl:i=e.length:=by omega
  rw[qhn,if_neg (dneg (by omega)),List.drop_length]
  exact .inr ⟨rfl,x4,rfl,fun m=>by simp⟩
 |k+1,n+1,i,x4,hn,hi,hb=>by
  have hlt:i<e.length:=by omega
  have ha:=qak hlt
  rw[qhn,if_pos (dpos (by omega)),qac ha,qaF ha,List.any_cons]
  simp only[qaa,qad]
  have hba:=hb e[i]
  by_cases h2:(qae x4 e[i]).getD 0=2
  ·have h2':((qae x4 e[i]).getD 0==2)=true:=by simpa using h2
   rw[if_pos h2',h2']
   exact .inl ⟨rfl,rfl⟩
  ·have h2':((qae x4 e[i]).getD 0==2)=false:=by simpa using h2
   rw[if_neg (by rw[h2'];simp),w64s (by omega),w64 (by omega) (by omega),h2',Bool.false_or]
   have hset:∀m,(qae (qao x4 e[i] ((qae x4 e[i]).getD 0+1)) m).getD 0=(qae x4 m).getD 0+if m=e[i] then 1 else 0:=by
    intro m
    rw[qan]
    by_cases hm:m=e[i]
    ·subst hm;simp
    ·rw[if_neg (fun hh=>hm hh.symm),if_neg hm];simp
   have hnot:e[i]∉e.drop (i+1):=by
    intro hm
    obtain ⟨j,hj⟩:=List.getElem?_of_mem hm
    rw[List.getElem?_drop] at hj
    obtain ⟨hjl,hj⟩:=List.getElem?_eq_some_iff.1 hj
    exact List.pairwise_iff_getElem.1 hd i (i+1+j) hlt hjl (by omega) hj.symm
   have hany:((e.drop (i+1)).any fun a=>(qae (qao x4 e[i] ((qae x4 e[i]).getD 0+1)) a).getD 0==2)=((e.drop (i+1)).any fun a=>(qae x4 a).getD 0==2):=by
    rw[Bool.eq_iff_iff]
    simp only[List.any_eq_true]
    constructor
    ·rintro ⟨a,h1,h3⟩
     refine ⟨a,h1, ?_⟩
     rw[hset,if_neg (fun hh=>hnot (by rw[←hh];exact h1)),Int.add_zero] at h3
     exact h3
    ·rintro ⟨a,h1,h3⟩
     refine ⟨a,h1, ?_⟩
     rw[hset,if_neg (fun hh=>hnot (by rw[←hh];exact h1)),Int.add_zero]
     exact h3
   have ih:=pv1 N hd hl k n (i+1) (qao x4 e[i] ((qae x4 e[i]).getD 0+1)) (by omega) (by omega) (fun a=>by
    rw[hset]
    have:=hb a
    split
    ·rename_i h;subst h;omega
    ·omega)
   rw[hany] at ih
   rcases ih with ⟨g1,g2⟩|⟨g1,x4',g2,g3⟩
   ·exact .inl ⟨g1,g2⟩
   ·refine .inr ⟨g1,x4',g2,fun m=> ?_⟩
    rw[g3 m,hset m]
    by_cases hm:m=e[i]
    ·subst hm
     rw[if_pos rfl,if_neg hnot,if_pos List.mem_cons_self];omega
    ·rw[if_neg hm]
     by_cases hm2:m∈e.drop (i+1)
     ·rw[if_pos hm2,if_pos (List.mem_cons_of_mem _ hm2)];omega
     ·rw[if_neg hm2,if_neg (by simp only[List.mem_cons,not_or];exact ⟨hm,hm2⟩)];omega
theorem qaq {x:PlantElement} (h:qaO x=true):(qaf x).Nodup∧(∀a∈qaf x,0≤a∧a<64)∧qaf x≠[]∧pnOk x.name=true:=by
 unfold qaO at h
 simp only[Bool.and_eq_true,Bool.not_eq_true'] at h
 obtain ⟨h1,h2⟩:=qgC.1 h.2.1
 exact ⟨h1,h2,fun hh=>by rw[hh] at h;simp at h,h.1.2⟩
theorem qe5 (N:Nat) (hN:100≤N) {l:List PlantElement} (hl:l.length≤96):∀(k n i:Nat) (x3:List (List UInt8×Bool)) (x4:List (Int×Int)),k<n→i+k=l.length→VInv l i x3 x4→
  qli N l l.length n x3 x4 i=some (res (pC l) (qaA l) i (l.drop i))
 |k,0,i,x3,x4,hn,_,_=>by omega
 |0,n+1,i,x3,x4,hn,hi,hI=>by
  obtain rfl:i=l.length:=by omega
  rw[qli,if_neg (dneg (by omega)),List.drop_length]
  rfl
 |k+1,n+1,i,x3,x4,hn,hi,hI=>by
  have hlt:i<l.length:=by omega
  have hx:=qak hlt
  rw[qli,if_pos (dpos (by omega)),qac hx,qaF hx,res,qaa,qmP N (by omega) _,qaa]
  unfold pC
  by_cases hsd:qaO l[i]=true
  case neg=>
   simp only[Bool.not_eq_true] at hsd
   have hc:qaA l i l[i]=1:=by unfold qaA;rw[if_pos hsd]
   rw[hsd,hc];simp
  obtain ⟨e1,e2,e3,e4⟩:=qaq hsd
  rw[hsd]
  simp only[Bool.not_true,Bool.false_eq_true,if_false,qad,hI.nm]
  by_cases hnm:((l.take i).any fun y=>y.name==l[i].name)=true
  ·have hc:qaA l i l[i]=8:=by unfold qaA;rw[if_neg (by rw[hsd];simp),if_pos hnm]
   rw[if_pos hnm,hc];simp
  ·rw[if_neg hnm,qex,qaa]
   have hb:∀a,0≤(qae x4 a).getD 0∧(qae x4 a).getD 0≤1000+(0:Nat):=fun a=>by
    rw[hI.ct]
    have h1:=qdF (l.take i) a
    have h2:=qpx (l.take i) a
    rw[List.length_take] at h2
    omega
   have hany:((qaf l[i]).any fun a=>(qae x4 a).getD 0==2)=((qaf l[i]).any fun a=>cnt (l.take i) a==2):=by simp only[hI.ct]
   have h3:=qbe l[i]
   have:=pv1 N e1 h3 (qaf l[i]).length N 0 x4 (by omega) (by omega) hb
   rw[List.drop_zero,hany] at this
   rcases this with ⟨g1,g2⟩|⟨g1,x4',g2,g3⟩
   ·have hc:qaA l i l[i]=17:=by unfold qaA;rw[if_neg (by rw[hsd];simp),if_neg hnm,if_pos g1]
    have g2:qhn N (qaf l[i]) (qaf l[i]).length N x4 0=some (.inr 17):=g2
    rw[g2,hc];simp[qaa]
   ·have hc:qaA l i l[i]=0:=by unfold qaA;rw[if_neg (by rw[hsd];simp),if_neg hnm,if_neg (by rw[g1];simp)]
    have g2:qhn N (qaf l[i]) (qaf l[i]).length N x4 0=some (.inl x4'):=g2
    rw[g2,hc]
    simp only[qaa,bne_self_eq_false,Bool.false_eq_true,if_false]
    rw[w64s (by omega)]
    refine qe5 N hN hl k n (i+1) _ x4' (by omega) (by omega) ⟨fun q=> ?_,fun m=> ?_⟩
    ·rw[qan,qaW hx,List.any_append]
     by_cases hq:l[i].name=q
     ·rw[if_pos hq];simp[hq]
     ·rw[if_neg hq,hI.nm];simp[hq]
    ·rw[g3 m,hI.ct,qaW hx,qcd]
theorem qe6 (N:Nat) (hN:100≤N) {l:List PlantElement}:zbZ N l=some (vErr l):=by
 unfold zbZ vErr
 by_cases hl:96<l.length
 ·rw[if_pos (by simpa using by omega),if_pos hl]
 ·rw[if_neg (by simpa using by omega),if_neg hl]
  have h:=qe5 N hN (l:=l) (by omega) l.length N 0 [] [] (by omega) (by omega) ⟨fun k=>by simp[qae],fun n=>by simp[qae,cnt]⟩
  simp only[Int.natCast_zero,List.drop_zero] at h
  rw[h,qaa]
  cases res (pC l) (qaA l) 0 l<;>rfl
structure RInv (l:List PlantElement) (i:Nat) (x3:List Int):Prop where
 len:x3.length=64
 ct:∀n:Nat,n<64→x3[n]? =some (cnt (l.take i) (n:Int))
theorem RInv.get {l:List PlantElement} {i:Nat} {x3:List Int} (h:RInv l i x3) {a:Int} (h0:0≤a) (h1:a<64):getI x3 a=some (cnt (l.take i) a):=by
 obtain ⟨n,rfl⟩:=Int.eq_ofNat_of_zero_le h0
 have:=h.ct n (by omega)
 exact qac this
theorem rv1 (N:Nat) {l:List PlantElement} {i:Nat} {x:PlantElement} (hx:l[i]? =some x) (hN:l.length<N) (hl:l.length≤96):qhq N l i N 0=some (if ((l.take i).any fun y=>y.name==x.name)=true then .inr 8 else .inl ()):=by
 have hi:=(List.getElem?_eq_some_iff.1 hx).1
 have hlen:(l.take i).length=i:=by rw[List.length_take];omega
 have h:=qar (l:=l.take i) (fun _ y=>y.name==x.name) (fun _ _=>(8:Int)) (fun m j=>qhq N l i m j) (fun m=>by
  show qhq N l i (m+1) _=_
  rw[hlen,qhq,if_neg (dneg (by omega))]) (fun m j y hy=>by
  show qhq N l i (m+1) _=_
  have hlt:=(List.getElem?_eq_some_iff.1 hy).1
  rw[hlen] at hlt
  rw[List.getElem?_take,if_pos hlt] at hy
  rw[qhq,if_pos (dpos (by omega)),qac hy,qaa,qac hx,qaa,qad,w64s (by omega)]) i N 0 (by omega) (by rw[hlen];omega)
 simp only[Int.natCast_zero,List.drop_zero] at h
 rw[h]
 congr 1
 have key:∀(q:List PlantElement) (j:Nat),res (fun _ y=>y.name==x.name) (fun _ _=>(8:Int)) j q=if (q.any fun y=>y.name==x.name)=true then .inr 8 else .inl ():=by
  intro q
  induction q with
  |nil=>intro j;rfl
  |cons y q ih=>
   intro j
   rw[res,List.any_cons]
   by_cases h:(y.name==x.name)=true
   ·simp[h]
   ·simp only[Bool.not_eq_true] at h
    rw[h,if_neg (by simp),ih,Bool.false_or]
 exact key _ 0
theorem rv2 (N:Nat) (hN:10≤N) {l:List PlantElement} {i:Nat} {x3:List Int} (hI:RInv l i x3) {e:List Int} (he:e.length≤3) (hr:∀a∈e,0≤a∧a<64):qhr N x3 e N 0=some (if (e.any fun a=>cnt (l.take i) a==2)=true then .inr 17 else .inl ()):=by
 have h:=qar (l:=e) (fun _ a=>cnt (l.take i) a==2) (fun _ _=>(17:Int)) (fun m j=>qhr N x3 e m j) (fun m=>by
  show qhr N x3 e (m+1) _=_
  rw[qhr,if_neg (dneg (by omega))]) (fun m j y hy=>by
  show qhr N x3 e (m+1) _=_
  have hlt:=(List.getElem?_eq_some_iff.1 hy).1
  obtain ⟨h0,h1⟩:=hr y (List.mem_of_getElem? hy)
  rw[qhr,if_pos (dpos (by omega)),qac hy]
  simp only[qaa,hI.get h0 h1,qad]
  rw[w64s (by omega)]) e.length N 0 (by omega) (by omega)
 simp only[Int.natCast_zero,List.drop_zero] at h
 rw[h]
 congr 1
 have key:∀(q:List Int) (j:Nat),res (fun _ a=>cnt (l.take i) a==2) (fun _ _=>(17:Int)) j q=if (q.any fun a=>cnt (l.take i) a==2)=true then .inr 17 else .inl ():=by
  intro q
  induction q with
  |nil=>intro j;rfl
  |cons y q ih=>
   intro j
   rw[res,List.any_cons]
   by_cases h:(cnt (l.take i) y==2)=true
   ·simp[h]
   ·simp only[Bool.not_eq_true] at h
    rw[h,if_neg (by simp),ih,Bool.false_or]
 exact key _ 0
theorem rv3 (N:Nat) {e:List Int} (hd:e.Nodup) (he:e.length≤3) (hr:∀a∈e,0≤a∧a<64):∀(k n i:Nat) (x3:List Int) (f:Int→Int),k<n→i+k=e.length→x3.length=64→(∀m:Nat,m<64→x3[m]? =some (f m))→(∀m,0≤f m∧f m≤1000+i)→
  ∃x3',qjG N e n x3 i=some x3'∧x3'.length=64∧∀m:Nat,m<64→x3'[m]? =some (f m+if (m:Int)∈e.drop i then 1 else 0)
 |k,0,i,x3,f,hn,_,_,_,_=>by omega
 |0,n+1,i,x3,f,hn,hi,h1,h2,h3=>by
  obtain rfl:i=e.length:=by omega
  rw[qjG,if_neg (dneg (by omega)),List.drop_length]
  exact ⟨x3,rfl,h1,fun m hm=>by simpa using h2 m hm⟩
 |k+1,n+1,i,x3,f,hn,hi,h1,h2,h3=>by
  have hlt:i<e.length:=by omega
  have ha:=qak hlt
  obtain ⟨r0,r1⟩:=hr _ (List.getElem_mem hlt)
  obtain ⟨q,hq⟩:=Int.eq_ofNat_of_zero_le r0
  have hq64:q<64:=by omega
  have hg:getI x3 e[i]=some (f q):=by rw[hq];exact qac (h2 q hq64)
  have hf:=h3 q
  rw[qjG,if_pos (dpos (by omega)),qac ha,qaF ha]
  simp only[qaa,qad,hg]
  rw[w64s (by omega),w64 (by omega) (by omega)]
  have hnot:e[i]∉e.drop (i+1):=by
   intro hm
   obtain ⟨j,hj⟩:=List.getElem?_of_mem hm
   rw[List.getElem?_drop] at hj
   obtain ⟨hjl,hj⟩:=List.getElem?_eq_some_iff.1 hj
   exact List.pairwise_iff_getElem.1 hd i (i+1+j) hlt hjl (by omega) hj.symm
  obtain ⟨x3',g1,g2,g3⟩:=rv3 N hd he hr k n (i+1) (x3.set q (f q+1)) (fun m=>if m=(q:Int) then f m+1 else f m) (by omega) (by omega) (by rw[List.length_set];exact h1) (fun m hm=>by
   rw[List.getElem?_set]
   by_cases hmq:q=m
   ·subst hmq;simp[h1,hq64]
   ·rw[if_neg hmq,h2 m hm,if_neg (by omega)]) (fun m=>by have:=h3 m;split<;>omega)
  refine ⟨x3',by rw[hq];exact g1,g2,fun m hm=> ?_⟩
  rw[g3 m hm]
  congr 1
  by_cases hmq:(m:Int)=q
  ·rw[if_pos hmq,if_neg (by rw[hmq,←hq];exact hnot),if_pos (by rw[hmq,←hq];exact List.mem_cons_self)];omega
  ·rw[if_neg hmq]
   by_cases hm2:(m:Int)∈e.drop (i+1)
   ·rw[if_pos hm2,if_pos (List.mem_cons_of_mem _ hm2)]
   ·rw[if_neg hm2,if_neg (by simp only[List.mem_cons,not_or];exact ⟨by rw[hq];exact hmq,hm2⟩)]
theorem qe9 (N:Nat) (hN:100≤N) {l:List PlantElement} (hl:l.length≤96) (hnm:∀x∈l,x.name.length<N∧x.name.length≤9223372036854775807):∀(k n i:Nat) (x3:List Int),k<n→i+k=l.length→RInv l i x3→
  qlk N l n x3 i=some (res (pC l) (qaA l) i (l.drop i))
 |k,0,i,x3,hn,_,_=>by omega
 |0,n+1,i,x3,hn,hi,hI=>by
  obtain rfl:i=l.length:=by omega
  rw[qlk,if_neg (dneg (by omega)),List.drop_length]
  rfl
 |k+1,n+1,i,x3,hn,hi,hI=>by
  have hlt:i<l.length:=by omega
  have hx:=qak hlt
  obtain ⟨q1,q2⟩:=hnm _ (List.getElem_mem hlt)
  rw[qlk,if_pos (dpos (by omega)),qnc N hx (by omega) q1 q2,qaF hx,res,qaa]
  unfold pC
  by_cases hsd:qaO l[i]=true
  case neg=>
   simp only[Bool.not_eq_true] at hsd
   have hc:qaA l i l[i]=1:=by unfold qaA;rw[if_pos hsd]
   rw[hsd,hc];simp
  obtain ⟨e1,e2,e3,e4⟩:=qaq hsd
  rw[hsd]
  simp only[Bool.not_true,Bool.false_eq_true,if_false]
  rw[rv1 N hx (by omega) hl,qaa]
  by_cases hnm':((l.take i).any fun y=>y.name==l[i].name)=true
  ·have hc:qaA l i l[i]=8:=by unfold qaA;rw[if_neg (by rw[hsd];simp),if_pos hnm']
   rw[if_pos hnm',hc];simp
  ·have h3:=qbe l[i]
   rw[if_neg hnm']
   simp only[]
   rw[qbm,qfx hx,qaa,rv2 N (by omega) hI h3 e2,qaa]
   by_cases g1:((qaf l[i]).any fun a=>cnt (l.take i) a==2)=true
   ·have hc:qaA l i l[i]=17:=by unfold qaA;rw[if_neg (by rw[hsd];simp),if_neg hnm',if_pos g1]
    rw[if_pos g1,hc];simp
   ·have hc:qaA l i l[i]=0:=by unfold qaA;rw[if_neg (by rw[hsd];simp),if_neg hnm',if_neg g1]
    rw[if_neg g1,hc]
    simp only[bne_self_eq_false,Bool.false_eq_true,if_false]
    obtain ⟨x3',k1,k2,k3⟩:=rv3 N e1 h3 e2 (qaf l[i]).length N 0 x3 (fun m=>cnt (l.take i) m) (by omega) (by omega) hI.len hI.ct (fun m=>by
     have h1:=qdF (l.take i) m
     have h2:=qpx (l.take i) m
     rw[List.length_take] at h2
     omega)
    have k1:qjG N (qaf l[i]) N x3 0=some x3':=k1
    rw[k1,qaa,qad,w64s (by omega)]
    refine qe9 N hN hl hnm k n (i+1) x3' (by omega) (by omega) ⟨k2,fun m hm=> ?_⟩
    rw[k3 m hm,qaW hx,qcd,List.drop_zero]
theorem qdx (N:Nat) (hN:100≤N) {l:List PlantElement} (hnm:l.length≤96→∀x∈l,x.name.length<N∧x.name.length≤9223372036854775807):zcW N l=some (vErr l):=by
 unfold zcW vErr
 by_cases hl:96<l.length
 ·rw[if_pos (by simpa using by omega),if_pos hl]
 ·rw[if_neg (by simpa using by omega),if_neg hl]
  have h:=qe9 N hN (by omega) (hnm (by omega)) l.length N 0 (List.replicate 64 0) (by omega) (by omega) ⟨by simp,fun n hn=>by rw[List.getElem?_replicate,if_pos hn];simp[cnt]⟩
  simp only[Int.natCast_zero,List.drop_zero] at h
  rw[h,qaa]
  cases res (pC l) (qaA l) 0 l<;>rfl
structure PlOk (l:List PlantElement):Prop where
 len:l.length≤96
 snd:∀x∈l,qaO x=true
 nm:l.Pairwise fun x y=>x.name≠y.name
 ct:∀n,cnt l n≤2
theorem PlOk.err {l:List PlantElement} (h:PlOk l):vErr l=0:=by
 unfold vErr
 rw[if_neg (by have:=h.len;omega)]
 have:res (pC l) (qaA l) 0 l= .inl ():=by
  rw[qbH]
  intro j x hj
  rw[Nat.zero_add]
  have hjl:=(List.getElem?_eq_some_iff.1 hj).1
  have hc:qaA l j x=0:=by
   unfold qaA
   rw[if_neg (by rw[h.snd x (List.mem_of_getElem? hj)];simp),if_neg,if_neg]
   ·intro hh
    obtain ⟨n,hn,hn2⟩:=List.any_eq_true.1 hh
    have h2:cnt (l.take j) n=2:=by simpa using hn2
    have h3:=qcd (l.take j) x n
    rw[if_pos hn,←qaW hj,h2] at h3
    have h4:cnt (l.take (j+1)) n≤cnt l n:=by
     unfold cnt
     have:=(List.take_sublist (j+1) l).filter (fun x=>(qaf x).contains n)
     have:=this.length_le
     omega
    have:=h.ct n
    omega
   ·intro hh
    obtain ⟨y,hy,hyn⟩:=List.any_eq_true.1 hh
    obtain ⟨i,hi⟩:=List.getElem?_of_mem hy
    rw[List.getElem?_take] at hi
    split at hi
    ·rename_i hij
     obtain ⟨hil,hi⟩:=List.getElem?_eq_some_iff.1 hi
     obtain ⟨_,hj⟩:=List.getElem?_eq_some_iff.1 hj
     have:=List.pairwise_iff_getElem.1 h.nm i j hil hjl hij
     rw[hi,hj] at this
     exact this (by simpa using hyn)
    ·cases hi
  unfold pC
  rw[hc];rfl
 rw[this]
theorem PlOk.p (N:Nat) (hN:100≤N) {l:List PlantElement} (h:PlOk l):zbZ N l=some 0:=by
 rw[qe6 N hN,h.err]
theorem PlOk.r (N:Nat) (hN:100≤N) {l:List PlantElement} (h:PlOk l):zcW N l=some 0:=by
 rw[qdx N hN fun _ x hx=>by
  have h1:=(qaq (h.snd x hx)).2.2.2
  unfold pnOk at h1
  simp only[Bool.and_eq_true,decide_eq_true_eq] at h1
  omega,h.err]
end Go.W
end
section
set_option linter.unusedVariables false
set_option linter.unusedSimpArgs false
namespace Go.W
open Go.AM
theorem qcV {l:List PlantElement} {n:Int} {a b:Nat} (h:a≤b):cnt (l.take a) n≤cnt (l.take b) n:=by
 unfold cnt
 have h1:l.take a=(l.take b).take a:=by rw[List.take_take];congr 1;omega
 rw[h1]
 have:=((List.take_sublist a (l.take b)).filter (fun x=>(qaf x).contains n)).length_le
 omega
theorem qgc {l:List PlantElement} {n:Int} {i:Nat} {x:PlantElement} (h:l[i]? =some x) (hn:n∈qaf x):cnt (l.take (i+1)) n=cnt (l.take i) n+1:=by
 rw[qaW h,qcd,if_pos hn]
theorem qql {l:List PlantElement} {n:Int} {a:Nat}:cnt (l.take a) n≤cnt l n:=by
 have:=qcV (l:=l) (n:=n) (Nat.le_max_left a l.length)
 rw[List.take_of_length_le (Nat.le_max_right _ _)] at this
 exact this
theorem cnt3 {l:List PlantElement} {n:Int} {i j k:Nat} {x y z:PlantElement} (hx:l[i]? =some x) (hy:l[j]? =some y) (hz:l[k]? =some z) (h1:n∈qaf x) (h2:n∈qaf y) (h3:n∈qaf z) (hij:i<j) (hjk:j<k):3≤cnt l n:=by
 have a1:=qgc hx h1
 have a2:=qgc hy h2
 have a3:=qgc hz h3
 have b1:=qcV (l:=l) (n:=n) (show i+1≤j by omega)
 have b2:=qcV (l:=l) (n:=n) (show j+1≤k by omega)
 have b3:=qql (l:=l) (n:=n) (a:=k+1)
 have b4:=qdF (l.take i) n
 omega
theorem PlOk.of {l:List PlantElement} (h:vErr l=0):PlOk l:=by
 unfold vErr at h
 split at h
 ·cases h
 rename_i hl
 have hres:res (pC l) (qaA l) 0 l= .inl ():=by
  cases hr:res (pC l) (qaA l) 0 l with
  |inl u=>rfl
  |inr c=>
   rw[hr] at h
   simp only at h
   have key:∀(e:List PlantElement) (i:Nat) (c:Int),res (pC l) (qaA l) i e= .inr c→c≠0:=by
    intro e
    induction e with
    |nil=>intro i c h;cases h
    |cons y e ih=>
     intro i c h
     rw[res] at h
     split at h
     ·rename_i hp
      cases h
      unfold pC at hp
      simpa using hp
     ·exact ih _ _ h
   exact absurd h (key _ _ _ hr)
 have hc:∀(j:Nat) (x:PlantElement),l[j]? =some x→qaA l j x=0:=fun j x hj=>by
  have:=(qbH.1 hres) j x hj
  rw[Nat.zero_add] at this
  unfold pC at this
  simpa using this
 have h3:∀(j:Nat) (x:PlantElement),l[j]? =some x→qaO x=true∧((l.take j).any fun y=>y.name==x.name)=false∧((qaf x).any fun n=>cnt (l.take j) n==2)=false:=fun j x hj=>by
  have:=hc j x hj
  unfold qaA at this
  split at this
  ·cases this
  ·rename_i a
   split at this
   ·cases this
   ·rename_i b
    split at this
    ·cases this
    ·rename_i c
     exact ⟨by simpa using a,by simpa using b,by simpa using c⟩
 refine ⟨by omega,fun x hx=> ?_, ?_,fun n=> ?_⟩
 ·obtain ⟨j,hj⟩:=List.getElem?_of_mem hx
  exact (h3 j x hj).1
 ·rw[List.pairwise_iff_getElem]
  intro i j hi hj hij hne
  have hb:=(h3 j _ (qak hj)).2.1
  rw[List.any_eq_false] at hb
  have hm:l[i]∈l.take j:=by
   refine List.mem_of_getElem? (i:=i) ?_
   rw[List.getElem?_take,if_pos hij]
   exact qak hi
  exact hb _ hm (by simpa using hne)
 ·have key:∀(i:Nat),i≤l.length→cnt (l.take i) n≤2:=by
   intro i
   induction i with
   |zero=>intro _;simp[cnt]
   |succ i ih=>
    intro hi
    have hx:=qak (xs:=l) (i:=i) (by omega)
    rw[qaW hx,qcd]
    have:=ih (by omega)
    split
    ·rename_i hm
     have hb:=(h3 i _ hx).2.2
     rw[List.any_eq_false] at hb
     have:=hb n hm
     simp at this
     omega
    ·omega
  have:=key l.length (Nat.le_refl _)
  rw[List.take_length] at this
  exact this
theorem PlOk.two {l:List PlantElement} (h:PlOk l) {n:Int} {i j k:Nat} {x y z:PlantElement} (hx:l[i]? =some x) (hy:l[j]? =some y) (hz:l[k]? =some z) (h1:n∈qaf x) (h2:n∈qaf y) (h3:n∈qaf z):i=j∨j=k∨i=k:=by
 have hc:=h.ct n
 rcases Nat.lt_trichotomy i j with a|a|a
 ·rcases Nat.lt_trichotomy j k with b|b|b
  ·have:=cnt3 hx hy hz h1 h2 h3 a b;omega
  ·exact .inr (.inl b)
  ·rcases Nat.lt_trichotomy i k with c|c|c
   ·have:=cnt3 hx hz hy h1 h3 h2 c b;omega
   ·exact .inr (.inr c)
   ·have:=cnt3 hz hx hy h3 h1 h2 c a;omega
 ·exact .inl a
 ·rcases Nat.lt_trichotomy i k with b|b|b
  ·have:=cnt3 hy hx hz h2 h1 h3 a b;omega
  ·exact .inr (.inr b)
  ·rcases Nat.lt_trichotomy j k with c|c|c
   ·have:=cnt3 hy hz hx h2 h3 h1 c b;omega
   ·exact .inr (.inl c)
   ·have:=cnt3 hz hy hx h3 h2 h1 c a;omega
theorem qer (l:List PlantElement) (i n:Int):(nbr l i n= -1∧∀(j:Nat) (x:PlantElement),l[j]? =some x→(j:Int)≠i→n∉qaf x)∨
  ∃(j:Nat) (x:PlantElement),nbr l i n=(j:Int)∧l[j]? =some x∧(j:Int)≠i∧n∈qaf x:=by
 rcases qcY (nbrB i n) l 0 with ⟨h1,h2⟩|⟨j,x,h1,h2,h3,_⟩
 ·refine .inl ⟨h1,fun j x hj hji hn=> ?_⟩
  have:=h2 j x hj
  rw[Nat.zero_add] at this
  unfold nbrB at this
  have e1:((j:Int) !=i)=true:=by simpa using hji
  rw[e1] at this
  simp[hn] at this
 ·rw[Nat.zero_add] at h1 h3
  unfold nbrB at h3
  simp only[Bool.and_eq_true,bne_iff_ne,ne_eq] at h3
  exact .inr ⟨j,x,h1,h2,h3.1,by simpa using h3.2⟩
theorem qdS {l:List PlantElement} {i n:Int} (h:0≤nbr l i n):n∈eI l (nbr l i n)∧nbr l i n≠i:=by
 rcases qer l i n with ⟨h1,_⟩|⟨j,x,h1,h2,h3,h4⟩
 ·omega
 ·rw[h1,qfx h2];exact ⟨h4,h3⟩
theorem PlOk.nbr_sym {l:List PlantElement} (h:PlOk l) {i n:Int} (hn:n∈eI l i) (hk:0≤nbr l i n):nbr l (nbr l i n) n=i:=by
 obtain ⟨h0,h1,x,hx,hxn⟩:=qaS hn
 obtain ⟨a,rfl⟩:=Int.eq_ofNat_of_zero_le h0
 rw[Int.toNat_natCast] at hx
 rcases qer l (a:Int) n with ⟨g1,_⟩|⟨j,y,g1,g2,g3,g4⟩
 ·omega
 ·rw[g1]
  rcases qer l (j:Int) n with ⟨k1,k2⟩|⟨c,z,k1,k2,k3,k4⟩
  ·exact absurd hxn (k2 a x hx (by omega))
  ·rw[k1]
   rcases h.two hx g2 k2 hxn g4 k4 with e|e|e
   ·omega
   ·omega
   ·omega
theorem PlOk.nodup {l:List PlantElement} (h:PlOk l) (i:Int):(eI l i).Nodup:=by
 unfold eI
 split
 ·split
  ·rename_i x hx
   exact (qaq (h.snd x (List.mem_of_getElem? hx))).1
  ·exact List.nodup_nil
 ·exact List.nodup_nil
theorem qez {e:List Int} {n m:Int} (h:m∈thrE e n):n∈e∧m∈e:=by
 unfold thrE at h
 split at h
 ·rename_i hc
  refine ⟨by simpa using hc, ?_⟩
  split at h
  ·exact List.mem_of_mem_tail h
  ·exact List.mem_of_mem_take h
 ·simp at h
theorem qoJ {e:List Int} (hd:e.Nodup) {n m:Int} (h:m∈thrE e n):n∈thrE e m∧n≠m:=by
 obtain ⟨h1,h2⟩:=qez h
 unfold thrE at h⊢
 rw[if_pos (by simpa using h1)] at h
 rw[if_pos (by simpa using h2)]
 cases e with
 |nil=>simp at h1
 |cons a e=>
  have hd':=List.nodup_cons.1 hd
  simp only[List.head?_cons,List.tail_cons,Option.some.injEq,List.take_succ_cons,List.take_zero,List.mem_cons,List.not_mem_nil,or_false] at h⊢
  split at h
  ·rename_i ha
   subst ha
   have hne:¬a=m:=fun hh=>hd'.1 (hh▸h)
   rw[if_neg hne]
   exact ⟨by simp,hne⟩
  ·rename_i ha
   simp only[List.mem_cons,List.not_mem_nil,or_false] at h
   subst h
   rw[if_pos rfl]
   refine ⟨?_,fun hh=>ha hh.symm⟩
   rcases List.mem_cons.1 h1 with hh|hh
   ·exact absurd hh.symm ha
   ·exact hh
theorem qdZ {l:List PlantElement} {i n m:Int} (h:m∈thr l i n):n∈eI l i∧m∈eI l i:=qez h
theorem PlOk.thr_sym {l:List PlantElement} (h:PlOk l) {i n m:Int} (hm:m∈thr l i n):n∈thr l i m∧n≠m:=qoJ (h.nodup i) hm
theorem qcC (l:List PlantElement) (i n:Int):(thr l i n).length≤3:=by
 have:=qbd l i
 unfold thr thrE
 split
 ·split
  ·rw[List.length_tail];omega
  ·rw[List.length_take];omega
 ·simp
end Go.W
end
section
set_option linter.unusedVariables false
set_option linter.unusedSimpArgs false
namespace Go.W
open Go.AM
def qcn (i:Nat):List UInt8:=[112,UInt8.ofNat (48+i / 10%10),UInt8.ofNat (48+i%10)]
theorem qjp {n:Nat} (h:n<256):toU8 (n:Int)=some (UInt8.ofNat n):=by
 unfold toU8
 rw[if_pos (by omega)]
 simp
theorem qg3 (N:Nat) {i:Nat} (h:i<1000):zbX N (i:Int)=some (qcn i):=by
 unfold zbX qcn
 have e1:IntKind.wrap .i64 (Int.tdiv (i:Int) 10)=((i / 10:Nat):Int):=by rw[Int.tdiv_eq_ediv_of_nonneg (by omega),w64 (by omega) (by omega)];omega
 have e2:Int.tmod ((i / 10:Nat):Int) 10=((i / 10%10:Nat):Int):=by rw[Int.tmod_eq_emod_of_nonneg (by omega)];omega
 have e3:Int.tmod (i:Int) 10=((i%10:Nat):Int):=by rw[Int.tmod_eq_emod_of_nonneg (by omega)];omega
 rw[e1,e2,e3,w64 (by omega) (by omega),w64 (by omega) (by omega),w8 (by omega) (by omega),w8 (by omega) (by omega)]
 have f1:=qjp (n:=112) (by omega)
 have f2:=qjp (n:=48+i / 10%10) (by omega)
 have f3:=qjp (n:=48+i%10) (by omega)
 rw[show ((48:Int)+((i / 10%10:Nat):Int))=((48+i / 10%10:Nat):Int) by omega,show ((48:Int)+((i%10:Nat):Int))=((48+i%10:Nat):Int) by omega,f2,f3]
 have f1:toU8 112=some (UInt8.ofNat 112):=f1
 rw[f1]
 rfl
theorem qmn {i j:Nat} (hi:i<100) (hj:j<100) (h:qcn i=qcn j):i=j:=by
 unfold qcn at h
 simp only[List.cons.injEq,and_true,true_and] at h
 have a1:=congrArg UInt8.toNat h.1
 have a2:=congrArg UInt8.toNat h.2
 simp only[UInt8.toNat_ofNat'] at a1 a2
 omega
theorem qgA (i:Nat):pnOk (qcn i)=true:=by
 have key:∀d:Nat,d<10→pnCh (UInt8.ofNat (48+d))=true:=by
  intro d hd
  unfold pnCh
  rw[UInt8.toNat_ofNat']
  simp
  omega
 unfold pnOk qcn
 simp only[List.all_cons,List.all_nil,key (i / 10%10) (by omega),key (i%10) (by omega)]
 rfl
structure PlI (l:List PlantElement) (op:List Int) (nx:Int):Prop where
 snd:∀x∈l,qaO x=true
 nm:∀(i:Nat) (x:PlantElement),l[i]? =some x→x.name=qcn i
 ct:∀n,cnt l n≤2
 op1:∀n∈op,cnt l n≤1
 nd:op.Nodup
 rg:∀n∈op,0≤n∧n<nx
 nw:∀n,nx≤n→cnt l n=0
 ln:(op.length:Int)≤nx
 nx64:nx≤64
 nx0:0≤nx
 fst:∃x,l[0]? =some x∧x.kind=1
theorem PlI.add {l:List PlantElement} {op op':List Int} {nx nx':Int} {x:PlantElement} (h:PlI l op nx) (hs:qaO x=true) (hn:x.name=qcn l.length) (h1:∀n∈qaf x,n∈op∨(nx≤n∧n<nx')) (h2:∀n∈op',(n∈op∧n∉qaf x)∨(nx≤n∧n<nx'))
  (h3:op'.Nodup) (h4:nx≤nx') (h5:nx'≤64) (h6:(op'.length:Int)≤nx'):PlI (l++[x]) op' nx' where
 snd:=fun y hy=>by
  rcases List.mem_append.1 hy with hy|hy
  ·exact h.snd y hy
  ·simp at hy;subst hy;exact hs
 nm:=fun i y hy=>by
  by_cases hi:i<l.length
  ·rw[List.getElem?_append_left hi] at hy;exact h.nm i y hy
  ·rw[List.getElem?_append_right (by omega)] at hy
   have hi2:=(List.getElem?_eq_some_iff.1 hy).1
   simp at hi2
   have:i=l.length:=by omega
   subst this
   simp at hy;subst hy;exact hn
 ct:=fun n=>by
  rw[qcd]
  have a:=h.ct n
  split
  ·rename_i hm
   rcases h1 n hm with hm|⟨hm,_⟩
   ·have:=h.op1 n hm;omega
   ·have:=h.nw n hm;omega
  ·omega
 op1:=fun n hm=>by
  rw[qcd]
  rcases h2 n hm with ⟨a,b⟩|⟨a,b⟩
  ·have:=h.op1 n a;rw[if_neg b];omega
  ·have:=h.nw n a;split<;>omega
 nd:=h3
 rg:=fun n hm=>by
  rcases h2 n hm with ⟨a,b⟩|⟨a,b⟩
  ·have:=h.rg n a;omega
  ·have:=h.nx0;omega
 nw:=fun n hm=>by
  rw[qcd,if_neg,h.nw n (by omega)]
  ·rfl
  ·intro hh
   rcases h1 n hh with a|a
   ·have:=h.rg n a;omega
   ·omega
 ln:=h6
 nx64:=h5
 nx0:=by have:=h.nx0;omega
 fst:=by
  obtain ⟨y,hy,hk⟩:=h.fst
  exact ⟨y,by rw[List.getElem?_append_left (List.getElem?_eq_some_iff.1 hy).1];exact hy,hk⟩
theorem PlI.ok {l:List PlantElement} {op:List Int} {nx:Int} (h:PlI l op nx) (hl:l.length≤96):PlOk l where
 len:=hl
 snd:=h.snd
 nm:=List.pairwise_iff_getElem.2 fun i j hi hj hij hh=>by
  rw[h.nm i _ (qak hi),h.nm j _ (qak hj)] at hh
  have:=qmn (by omega) (by omega) hh
  omega
 ct:=h.ct
theorem qcz {m:List UInt8} {a b len:Int} (hm:pnOk m=true) (ha:0≤a∧a<64) (hb:0≤b∧b<64) (hab:a≠b) (hl:1≤len∧len≤100000):qaO (PlantElement.mk 1 m a b 0 len)=true:=by
 have he:okE [a,b]=true:=qgC.2 ⟨by simp[hab],by simp;omega⟩
 unfold qaO
 have:qaf (PlantElement.mk 1 m a b 0 len)=[a,b]:=by simp[qaf]
 rw[this]
 simp[hm,he,hl]
theorem qk8 {m:List UInt8} {a b:Int} (hm:pnOk m=true) (ha:0≤a∧a<64) (hb:0≤b∧b<64) (hab:a≠b):qaO (PlantElement.mk 3 m a b 0 0)=true:=by
 have he:okE [a,b]=true:=qgC.2 ⟨by simp[hab],by simp;omega⟩
 unfold qaO
 have:qaf (PlantElement.mk 3 m a b 0 0)=[a,b]:=by simp[qaf]
 rw[this]
 simp[hm,he]
theorem qfU {m:List UInt8} {a b c:Int} (hm:pnOk m=true) (ha:0≤a∧a<64) (hb:0≤b∧b<64) (hc:0≤c∧c<64) (hab:a≠b) (hac:a≠c) (hbc:b≠c):qaO (PlantElement.mk 2 m a b c 0)=true:=by
 have he:okE [a,b,c]=true:=qgC.2 ⟨by simp[hab,hac,hbc],by simp;omega⟩
 unfold qaO
 have:qaf (PlantElement.mk 2 m a b c 0)=[a,b,c]:=by simp[qaf]
 rw[this]
 simp[hm,he]
theorem qkD {op:List Int} {r:Nat} {a:Int} (ha:op[r]? =some a) (hd:op.Nodup):a∉op.take r++op.drop (r+1)∧(∀n∈op.take r++op.drop (r+1),n∈op)∧(op.take r++op.drop (r+1)).Nodup∧(op.take r++op.drop (r+1)).length+1=op.length:=by
 have hr:=(List.getElem?_eq_some_iff.1 ha).1
 have hsplit:op=op.take r++a::op.drop (r+1):=by
  conv=>lhs;rw[←List.take_append_drop r op,qaF ha]
 have hd':=hd
 rw[hsplit,List.nodup_append] at hd'
 obtain ⟨d1,d2,d3⟩:=hd'
 have d2':=List.nodup_cons.1 d2
 refine ⟨?_, ?_, ?_, ?_⟩
 ·intro hm
  rcases List.mem_append.1 hm with hm|hm
  ·exact d3 a hm a List.mem_cons_self rfl
  ·exact d2'.1 hm
 ·intro n hn
  rcases List.mem_append.1 hn with hn|hn
  ·exact List.mem_of_mem_take hn
  ·exact List.mem_of_mem_drop hn
 ·rw[List.nodup_append]
  exact ⟨d1,d2'.2,fun x hx y hy=>d3 x hx y (List.mem_cons_of_mem _ hy)⟩
 ·rw[List.length_append,List.length_take,List.length_drop];omega
theorem pl4 (N:Nat) (k:Int) (b:Bool):qo1 N k b=some (b||(k==1)):=by
 unfold qo1
 cases b<;>simp[qad]
theorem qra (N:Nat) {c:Int} {s:Maker} {l:List PlantElement} {op:List Int} {nx:Int} {r:Nat} {a:Int} {k:Int} (hI:PlI l op nx) (hl:l.length<96) (hs:Mk c s) (hc:c≤1000000) (hnx:nx<62) (ha:op[r]? =some a) (hk0:0≤k) (hk:k<6):
  ∃s' op' nx' x,qo0 N s (op.take r++op.drop (r+1)) nx a (PlantElement.mk 0 (qcn l.length) 0 0 0 0) k=some (s',op',nx',x)∧Mk (c+5) s'∧PlI (l++[x]) op' nx':=by
 obtain ⟨t1,t2,t3,t4⟩:=qkD ha hI.nd
 generalize hop:op.take r++op.drop (r+1)=q at*
 have hnm:=qgA l.length
 have ham:=List.mem_of_getElem? ha
 obtain ⟨a0,a1⟩:=hI.rg a ham
 have hq:(q.length:Int)+1≤nx:=by have:=hI.ln;omega
 have hnx0:=hI.nx0
 have fresh:∀n∈q,n<nx:=fun n hn=>(hI.rg n (t2 n hn)).2
 have f1:nx∉q:=fun h=>by have:=fresh _ h;omega
 have f2:nx+1∉q:=fun h=>by have:=fresh _ h;omega
 have w1:IntKind.wrap .i64 (nx+1)=nx+1:=w64 (by omega) (by omega)
 have w2:IntKind.wrap .i64 (nx+2)=nx+2:=w64 (by omega) (by omega)
 have nd1:(q++[nx]).Nodup:=by
  rw[List.nodup_append]
  exact ⟨t3,by simp,fun x hx y hy=>by simp at hy;subst hy;exact fun hh=>f1 (hh▸hx)⟩
 have nd2:(q++[nx,nx+1]).Nodup:=by
  rw[List.nodup_append]
  refine ⟨t3,by simp;omega,fun x hx y hy=> ?_⟩
  simp at hy
  rcases hy with rfl|rfl
  ·exact fun hh=>f1 (hh▸hx)
  ·exact fun hh=>f2 (hh▸hx)
 have ap1:appI q [nx]=some (q++[nx]):=qap (by simp;omega)
 have ap2:appI q [nx,nx+1]=some (q++[nx,nx+1]):=qap (by simp;omega)
 have old:∀n∈q,n∈op∧n≠a:=fun n hn=>⟨t2 n hn,fun hh=>t1 (hh▸hn)⟩
 have hMk:Mk (c+5) s:=hs.le (by omega)
 unfold qo0
 simp only[qad,pl4,qaa,w1,w2,ap1,ap2]
 by_cases k01:k=0∨k=1
 ·have hb:((k==0)||(k==1))=true:=by simpa using k01
  rw[if_pos hb]
  refine ⟨s,_,_,_,rfl,hMk,hI.add (qfU hnm ⟨a0,by omega⟩ ⟨hnx0,by omega⟩ ⟨by omega,by omega⟩ (by omega) (by omega) (by omega)) rfl ?_ ?_ nd2 (by omega) (by omega) (by simp;omega)⟩
  ·intro n hn
   simp[qaf] at hn
   rcases hn with rfl|rfl|rfl
   ·exact .inl ham
   ·exact .inr (by omega)
   ·exact .inr (by omega)
  ·intro n hn
   rcases List.mem_append.1 hn with hn|hn
   ·obtain ⟨o1,o2⟩:=old n hn
    have:=fresh n hn
    refine .inl ⟨o1, ?_⟩
    simp[qaf];omega
   ·simp at hn;right;omega
 ·have hb:((k==0)||(k==1))=false:=by simp;omega
  rw[if_neg (by rw[hb];simp)]
  by_cases k2:k=2
  ·rw[if_pos (by simpa using k2)]
   refine ⟨s,_,_,_,rfl,hMk,hI.add (qfU hnm ⟨hnx0,by omega⟩ ⟨a0,by omega⟩ ⟨by omega,by omega⟩ (by omega) (by omega) (by omega)) rfl ?_ ?_ nd2 (by omega) (by omega) (by simp;omega)⟩
   ·intro n hn
    simp[qaf] at hn
    rcases hn with rfl|rfl|rfl
    ·exact .inr (by omega)
    ·exact .inl ham
    ·exact .inr (by omega)
   ·intro n hn
    rcases List.mem_append.1 hn with hn|hn
    ·obtain ⟨o1,o2⟩:=old n hn
     have:=fresh n hn
     refine .inl ⟨o1, ?_⟩
     simp[qaf];omega
    ·simp at hn;right;omega
  ·rw[if_neg (by simpa using k2)]
   by_cases k3:k=3
   ·rw[if_pos (by simpa using k3)]
    refine ⟨s,_,_,_,rfl,hMk,hI.add (qk8 hnm ⟨a0,by omega⟩ ⟨hnx0,by omega⟩ (by omega)) rfl ?_ ?_ nd1 (by omega) (by omega) (by simp;omega)⟩
    ·intro n hn
     simp[qaf] at hn
     rcases hn with rfl|rfl
     ·exact .inl ham
     ·exact .inr (by omega)
    ·intro n hn
     rcases List.mem_append.1 hn with hn|hn
     ·obtain ⟨o1,o2⟩:=old n hn
      have:=fresh n hn
      refine .inl ⟨o1, ?_⟩
      simp[qaf];omega
     ·simp at hn;right;omega
   ·rw[if_neg (by simpa using k3)]
    obtain ⟨len,s1,g1,g2,g3⟩:=qq9 N (s:=s) (c:=c) [1,300,100000] (by simp) (by simp) hs (by omega)
    have hlen:1≤len∧len≤100000:=by simp at g2;omega
    rw[g1,qaa]
    unfold qrG
    obtain ⟨y,s2,h1,h2,h3,h4⟩:=qaU N (s:=s1) (c:=c+1) 3 (by omega) (by omega) g3 (by omega)
    simp only[h1,qaa]
    by_cases hy:y=0∧0<q.length
    ·obtain ⟨hy,hq0⟩:=hy
     rw[if_pos (by simpa using hy),qaa,if_pos (dpos (by omega))]
     obtain ⟨p,hp⟩:∃p,q.length=p+1:=⟨q.length - 1,by omega⟩
     have hw:IntKind.wrap .i64 ((q.length:Int) - 1)=(p:Int):=by rw[w64 (by omega) (by omega)];omega
     have hpl:p<q.length:=by omega
     rw[hw,qac (qak hpl)]
     simp only[qaa]
     rw[qcf (by omega),qaa]
     have hbm:=List.getElem_mem hpl
     obtain ⟨b0,b1⟩:=old _ hbm
     obtain ⟨r0,r1⟩:=hI.rg _ b0
     have hqs:q=q.take p++[q[p]]:=by
      conv=>lhs;rw[←List.take_append_drop p q,qaF (qak hpl)]
      rw[List.drop_of_length_le (by omega)]
     have hnot:q[p]∉q.take p:=by
      intro hh
      have hd:=t3
      rw[hqs,List.nodup_append] at hd
      exact hd.2.2 _ hh q[p] (by simp) rfl
     refine ⟨s2,_,_,_,rfl,h4.le (by omega),hI.add (qcz hnm ⟨a0,by omega⟩ ⟨r0,by omega⟩ (fun hh=>b1 hh.symm) hlen) rfl ?_ ?_ (t3.sublist (List.take_sublist p q)) (by omega) (by omega) (by rw[List.length_take];omega)⟩
     ·intro n hn
      simp[qaf] at hn
      rcases hn with rfl|rfl
      ·exact .inl ham
      ·exact .inl b0
     ·intro n hn
      obtain ⟨o1,o2⟩:=old n (List.mem_of_mem_take hn)
      refine .inl ⟨o1, ?_⟩
      simp[qaf]
      exact ⟨o2,fun hh=>hnot (hh▸hn)⟩
    ·have hgo:∀{β:Type} (f:Maker×Bool→Option β),(Option.bind (if (y==0)=true then some (s2,decide (0<(q.length:Int))) else some (s2,false)) f)=f (s2,false):=by
      intro β f
      by_cases h0:y=0
      ·rw[if_pos (by simpa using h0),qaa]
       have h00:¬0<q.length:=fun h=>hy ⟨h0,h⟩
       have:decide (0<(q.length:Int))=false:=by rw[decide_eq_false_iff_not];omega
       rw[this]
      ·rw[if_neg (by simpa using h0),qaa]
     rw[hgo]
     simp only[Bool.false_eq_true,if_false]
     obtain ⟨y2,s3,i1,i2,i3,i4⟩:=qaU N (s:=s2) (c:=c+1+1) 2 (by omega) (by omega) h4 (by omega)
     rw[i1,qaa]
     have hend:∀n∈qaf (PlantElement.mk 1 (qcn l.length) a nx 0 len),n∈op∨(nx≤n∧n<nx+1):=by
      intro n hn
      simp[qaf] at hn
      rcases hn with rfl|rfl
      ·exact .inl ham
      ·exact .inr (by omega)
     have hold:∀n∈q,n∈op∧n∉qaf (PlantElement.mk 1 (qcn l.length) a nx 0 len):=by
      intro n hn
      obtain ⟨o1,o2⟩:=old n hn
      have:=fresh n hn
      refine ⟨o1, ?_⟩
      simp[qaf];omega
     by_cases hy2:y2=0
     ·rw[if_pos (by simpa using hy2)]
      refine ⟨s3,_,_,_,rfl,i4.le (by omega),hI.add (qcz hnm ⟨a0,by omega⟩ ⟨hnx0,by omega⟩ (by omega) hlen) rfl hend ?_ nd1 (by omega) (by omega) (by simp;omega)⟩
      intro n hn
      rcases List.mem_append.1 hn with hn|hn
      ·exact .inl (hold n hn)
      ·simp at hn;right;omega
     ·rw[if_neg (by simpa using hy2)]
      exact ⟨s3,_,_,_,rfl,i4.le (by omega),hI.add (qcz hnm ⟨a0,by omega⟩ ⟨hnx0,by omega⟩ (by omega) hlen) rfl hend (fun n hn=> .inl (hold n hn)) t3 (by omega) (by omega) (by omega)⟩
theorem pl2 (N:Nat) (k:Int) (l:List PlantElement) (op:List Int) (nx:Int):qoZ N k l op nx=some (decide ((l.length:Int)<k∧0<op.length∧nx<62)):=by
 unfold qoZ
 by_cases h1:(l.length:Int)<k
 ·rw[if_pos (dpos h1)]
  by_cases h2:0<op.length
  ·rw[if_pos (dpos (by omega))];simp[h1,h2]
  ·rw[if_neg (dneg (by omega))];simp[h2]
 ·rw[if_neg (dneg h1)];simp[h1]
theorem qko (N:Nat) {b:Int} (hb0:0≤b) (hb:b≤900000) {k:Int} (hk:k≤60):∀(f n:Nat) (c:Int) (s:Maker) (l:List PlantElement) (op:List Int) (nx:Int),f<n→k≤(l.length:Int)+f→(l.length:Int)≤61→c≤b+10000→(l.length:Int)*100+c≤b+9000+(l.length:Int)*107→Mk c s→PlI l op nx→
  ∃s' l' op' nx',qnz N k n s l op nx=some (s',l',op',nx')∧Mk (b+20000) s'∧(l'.length:Int)≤61∧PlI l' op' nx'
 |f,0,c,s,l,op,nx,hn,_,_,_,_,_,_=>by omega
 |f,n+1,c,s,l,op,nx,hn,hf,hl,hc,hc2,hs,hI=>by
  rw[qnz,pl2,qaa]
  by_cases hcond:(l.length:Int)<k∧0<op.length∧nx<62
  ·rw[decide_eq_true hcond,if_pos rfl]
   obtain ⟨c1,c2,c3⟩:=hcond
   have hol:=hI.ln
   obtain ⟨r,s1,h1,h2,h3,h4⟩:=qaU N (s:=s) (c:=c) (op.length:Int) (by omega) (by omega) hs (by omega)
   obtain ⟨q,rfl⟩:=Int.eq_ofNat_of_zero_le h2
   have hq:q<op.length:=by omega
   have ha:=qak hq
   rw[h1,qaa]
   simp only[]
   rw[qac ha,qaa,qaa,qcf (by omega),qaa,w64s (by omega),qbt (by omega),qaa]
   have e1:List.take (Int.toNat (op.length:Int)) op=op:=by rw[Int.toNat_natCast,List.take_length]
   rw[e1,Int.toNat_natCast,Int.toNat_natCast,qap (by rw[List.length_take,List.length_drop];omega),qaa,qg3 N (by omega),qaa]
   obtain ⟨kd,s2,g1,g2,g3,g4⟩:=qaU N (s:=s1) (c:=c+1) 6 (by omega) (by omega) h4 (by omega)
   rw[g1,qaa]
   simp only[]
   obtain ⟨s3,op',nx',x,p1,p2,p3⟩:=qra N (c:=c+1+1) hI (by omega) g4 (by omega) c3 ha g2 g3
   rw[p1,qaa]
   simp only[]
   rw[qap (by simp;omega),qaa]
   cases f with
   |zero=>omega
   |succ f=>
    exact qko N hb0 hb hk f n (c+7) s3 (l++[x]) op' nx' (by omega) (by simp;omega) (by simp;omega) (by simp at*;omega) (by simp;omega) (p2.le (by omega)) p3
  ·rw[decide_eq_false hcond,if_neg (by simp)]
   exact ⟨s,l,op,nx,rfl,hs.le (by omega),hl,hI⟩
theorem pl7 (N:Nat) (l:List PlantElement) (op:List Int) (nx:Int):qo2 N l op nx=some (decide (0<op.length∧l.length<96∧nx<64)):=by
 unfold qo2
 by_cases h1:0<op.length
 ·rw[if_pos (dpos (by omega))]
  by_cases h2:l.length<96
  ·rw[if_pos (dpos (by omega))];simp[h1,h2]
  ·rw[if_neg (dneg (by omega))];simp[h2]
 ·rw[if_neg (dneg (by omega))];simp[h1]
theorem qgH (N:Nat) {b:Int} (hb0:0≤b) (hb:b≤900000):∀(f n:Nat) (c:Int) (s:Maker) (l:List PlantElement) (op:List Int) (nx:Int),f<n→op.length≤f→l.length≤96→c+op.length≤b+30000→Mk c s→PlI l op nx→
  ∃s' l',qnA N n s l op nx=some (s',l')∧Mk (b+30000) s'∧l'.length≤96∧∃op' nx',PlI l' op' nx'
 |f,0,c,s,l,op,nx,hn,_,_,_,_,_=>by omega
 |f,n+1,c,s,l,op,nx,hn,hf,hl,hc,hs,hI=>by
  rw[qnA,pl7,qaa]
  by_cases hcond:0<op.length∧l.length<96∧nx<64
  ·rw[decide_eq_true hcond,if_pos rfl]
   obtain ⟨c1,c2,c3⟩:=hcond
   obtain ⟨r,s1,h1,h2,h3,h4⟩:=qaU N (s:=s) (c:=c) 5 (by omega) (by omega) hs (by omega)
   rw[h1,qaa]
   simp only[]
   have ha:=qak c1
   have hnx0:=hI.nx0
   obtain ⟨t1,t2,t3,t4⟩:=qkD ha hI.nd
   rw[List.take_zero,List.nil_append] at t1 t2 t3 t4
   have hcut:cutI op 1 (op.length:Int)=some (op.drop 1):=qbt (i:=1) (by omega)
   obtain ⟨a0,a1⟩:=hI.rg _ (List.getElem_mem c1)
   have hln:=hI.ln
   have fresh:∀n∈op.drop 1,n<nx:=fun n hn=>(hI.rg n (t2 n hn)).2
   cases f with
   |zero=>omega
   |succ f=>
    unfold qrH
    by_cases hr:0<r
    ·rw[if_pos (dpos hr),qg3 N (by omega),qaa]
     have hg:getI op 0=some op[0]:=qac ha
     rw[hg,qaa,qaa,qap (by simp;omega),qaa,qad,w64 (by omega) (by omega),qaa,hcut,qaa]
     refine qgH N hb0 hb f n (c+1) s1 _ _ _ (by omega) (by rw[List.length_drop];omega) (by simp;omega) (by rw[List.length_drop];omega) h4 (hI.add (qcz (qgA _) ⟨a0,by omega⟩ ⟨hnx0,by omega⟩ (by omega) (by omega)) rfl ?_ ?_ t3 (by omega) (by omega) (by rw[List.length_drop];omega))
     ·intro n hn
      simp[qaf] at hn
      rcases hn with rfl|rfl
      ·exact .inl (List.getElem_mem c1)
      ·exact .inr (by omega)
     ·intro n hn
      have:=fresh n hn
      refine .inl ⟨t2 n hn, ?_⟩
      simp[qaf]
      exact ⟨fun hh=>t1 (hh▸hn),by omega⟩
    ·rw[if_neg (dneg hr),qaa,hcut,qaa]
     refine qgH N hb0 hb f n (c+1) s1 _ _ _ (by omega) (by rw[List.length_drop];omega) hl (by rw[List.length_drop];omega) h4 ?_
     exact {hI with op1:=fun n hn=>hI.op1 n (t2 n hn),nd:=t3,rg:=fun n hn=>hI.rg n (t2 n hn),ln:=by rw[List.length_drop];omega}
  ·rw[decide_eq_false hcond,if_neg (by simp)]
   exact ⟨s,l,rfl,hs.le (by omega),hl,op,nx,hI⟩
structure MadeP (l:List PlantElement):Prop where
 ok:PlOk l
 fst:∃x,l[0]? =some x∧x.kind=1
theorem qol (N:Nat) (hN:200≤N) {b:Int} (hb0:0≤b) (hb:b≤900000) {s:Maker} (hs:Mk b s) {k:Int} (hk:k≤60):∃l s',zbR N s k=some (l,s')∧Mk (b+30000) s'∧MadeP l:=by
 unfold zbR
 have hnm:zbX N 0=some (qcn 0):=qg3 N (i:=0) (by omega)
 obtain ⟨y,s1,h1,h2,h3,h4⟩:=qaU N (s:=s) (c:=b) 2 (by omega) (by omega) hs (by omega)
 rw[hnm,qaa,h1,qaa]
 simp only[]
 have hct:∀n,cnt [PlantElement.mk 1 (qcn 0) 0 1 0 500] n=if n=0∨n=1 then 1 else 0:=by
  intro n
  unfold cnt
  have:(qaf (PlantElement.mk 1 (qcn 0) 0 1 0 500))=[0,1]:=by simp[qaf]
  rw[List.filter_cons,this]
  by_cases hn:n=0∨n=1
  ·rw[if_pos (by simpa using hn),if_pos hn];rfl
  ·rw[if_neg (by simpa using hn),if_neg hn];rfl
 have h0:∀op:List Int,(∀n∈op,n=0∨n=1)→op.Nodup→op.length≤2→PlI [PlantElement.mk 1 (qcn 0) 0 1 0 500] op 2:=fun op ho hd hl=>
  {snd:=fun x hx=>by simp at hx;subst hx;exact qcz (qgA 0) (by omega) (by omega) (by omega) (by omega)
   nm:=fun i x hx=>by
    have:=(List.getElem?_eq_some_iff.1 hx).1
    simp at this
    subst this
    simp at hx;subst hx;rfl
   ct:=fun n=>by rw[hct];split<;>omega
   op1:=fun n _=>by rw[hct];split<;>omega
   nd:=hd
   rg:=fun n hn=>by rcases ho n hn with h|h<;>omega
   nw:=fun n hn=>by rw[hct,if_neg (by omega)]
   ln:=by omega
   nx64:=by omega
   nx0:=by omega
   fst:=⟨_,rfl,rfl⟩}
 have hop:∃op,qoY N [1] (y==0)=some op∧PlI [PlantElement.mk 1 (qcn 0) 0 1 0 500] op 2:=by
  unfold qoY
  by_cases hy:y=0
  ·rw[if_pos (by simpa using hy),qap (by simp),qaa]
   exact ⟨_,rfl,h0 _ (by simp) (by simp) (by simp)⟩
  ·rw[if_neg (by simpa using hy)]
   exact ⟨_,rfl,h0 _ (by simp) (by simp) (by simp)⟩
 obtain ⟨op,g1,g2⟩:=hop
 rw[g1,qaa]
 obtain ⟨s2,l2,op2,nx2,p1,p2,p3,p4⟩:=qko N hb0 hb hk 100 N (b+1) s1 _ op 2 (by omega) (by simp;omega) (by simp) (by omega) (by simp;omega) h4 g2
 rw[p1,qaa]
 simp only[]
 have:=p4.ln
 have:=p4.nx64
 obtain ⟨s3,l3,q1,q2,q3,op3,nx3,q4⟩:=qgH N hb0 hb 64 N (b+20000) s2 l2 op2 nx2 (by omega) (by omega) (by omega) (by omega) p2 p4
 rw[q1,qaa]
 exact ⟨l3,s3,rfl,q2,q4.ok q3,q4.fst⟩
theorem qom (N:Nat) (hN:200≤N) {s:Maker} (hs:Mk 0 s) {k:Int} (hk:k≤60):∃l s',zbR N s k=some (l,s')∧Mk 30000 s'∧MadeP l:=qol N hN (b:=0) (by omega) (by omega) hs hk
end Go.W
end
section
set_option linter.unusedVariables false
set_option linter.unusedSimpArgs false
namespace Go.W
open Go.AM
abbrev Dst:=List (Place×Int)
def beh (l:List PlantElement) (i n:Int):Place:=Place.mk (nbr l i n) n
structure DI (l:List PlantElement) (to:Int) (d:Dst):Prop where
 key:∀p v,qae d p=some v→p.in_∈eI l p.element
 zero:∀p,qae d p=some 0→p.element=to
 pos:∀p v,qae d p=some v→v≠0→0<v∧∃n∈thr l p.element p.in_,qae d (beh l p.element n)=some (v - 1)
 keys:(d.map Prod.fst).Nodup
theorem qbg {α β:Type} [DecidableEq α]:∀{m:List (α×β)} {k:α},(∃v,qae m k=some v)↔k∈m.map Prod.fst
 |[],k=>by simp[qae]
 |p::m,k=>by
  simp only[qae,List.map_cons,List.mem_cons]
  by_cases h:p.1=k
  ·rw[if_pos h];simp[h]
  ·rw[if_neg h,qbg]
   constructor
   ·exact .inr
   ·rintro (hh|hh)
    ·exact absurd hh.symm h
    ·exact hh
theorem qa3 {α β:Type} [DecidableEq α]:∀{m:List (α×β)} {k:α} {v:β},qae m k=none→qao m k v=m++[(k,v)]
 |[],k,v,_=>rfl
 |p::m,k,v,h=>by
  simp only[qae] at h
  split at h
  ·cases h
  ·rename_i hk
   rw[qao,if_neg hk,qa3 h];rfl
def Dle (d d':Dst):Prop:=∀p v,qae d p=some v→qae d' p=some v
theorem Dle.refl (d:Dst):Dle d d:=fun _ _ h=>h
theorem Dle.trans {a b c:Dst} (h:Dle a b) (k:Dle b c):Dle a c:=fun p v hp=>k p v (h p v hp)
theorem Dle.set {d:Dst} {p:Place} {v:Int} (h:qae d p=none):Dle d (qao d p v):=fun q w hq=>by
 rw[qan,if_neg (fun hh=>by rw[hh,hq] at h;cases h)];exact hq
theorem DI.add {l:List PlantElement} {to:Int} {d:Dst} (h:DI l to d) {p:Place} {v:Int} (hp:qae d p=none) (h1:p.in_∈eI l p.element) (h2:v=0→p.element=to) (h3:v≠0→0<v∧∃n∈thr l p.element p.in_,qae d (beh l p.element n)=some (v - 1)):DI l to (qao d p v):=by
 have hle:=Dle.set (v:=v) hp
 refine ⟨fun q w hq=> ?_,fun q hq=> ?_,fun q w hq hw=> ?_, ?_⟩
 ·rw[qan] at hq
  split at hq
  ·rename_i hh;cases hq;subst hh;exact h1
  ·exact h.key q w hq
 ·rw[qan] at hq
  split at hq
  ·rename_i hh;cases hq;subst hh;exact h2 rfl
  ·exact h.zero q hq
 ·rw[qan] at hq
  split at hq
  ·rename_i hh
   cases hq;subst hh
   obtain ⟨a,n,b,c⟩:=h3 hw
   exact ⟨a,n,b,hle _ _ c⟩
  ·obtain ⟨a,n,b,c⟩:=h.pos q w hq hw
   exact ⟨a,n,b,hle _ _ c⟩
 ·rw[qa3 hp,List.map_append,List.nodup_append]
  refine ⟨h.keys,by simp,fun x hx y hy=> ?_⟩
  simp at hy
  subst hy
  intro hh
  subst hh
  obtain ⟨w,hw⟩:=qbg.2 hx
  rw[hw] at hp;cases hp
def allP (l:List PlantElement):List Place:=(List.range l.length).flatMap fun (i:Nat)=>(eI l (i:Int)).map fun n=>Place.mk (i:Int) n
theorem qf2 (l:List PlantElement):(allP l).length≤3*l.length:=by
 unfold allP
 have key:∀(q:List Nat),(q.flatMap fun (i:Nat)=>(eI l (i:Int)).map fun n=>Place.mk (i:Int) n).length≤3*q.length:=by
  intro q
  induction q with
  |nil=>simp
  |cons a q ih=>
   rw[List.flatMap_cons,List.length_append,List.length_map,List.length_cons]
   have:=qbd l (a:Int)
   omega
 have:=key (List.range l.length)
 rw[List.length_range] at this
 exact this
theorem qf3 {l:List PlantElement} {p:Place} (h:p.in_∈eI l p.element):p∈allP l:=by
 obtain ⟨h0,h1,x,hx,hn⟩:=qaS h
 unfold allP
 rw[List.mem_flatMap]
 refine ⟨p.element.toNat,List.mem_range.2 (by omega),List.mem_map.2 ⟨p.in_, ?_, ?_⟩⟩
 ·rw[Int.toNat_of_nonneg h0];exact h
 ·rw[Int.toNat_of_nonneg h0]
theorem qbF {α:Type} [DecidableEq α]:∀{a b:List α},a.Nodup→(∀x∈a,x∈b)→a.length≤b.length
 |[],b,_,_=>by simp
 |x::a,b,hd,hs=>by
  have hd':=List.nodup_cons.1 hd
  have hx:=hs x List.mem_cons_self
  have:=qbF (a:=a) (b:=b.erase x) hd'.2 fun y hy=>(List.mem_erase_of_ne (by rintro rfl;exact hd'.1 hy)).2 (hs y (List.mem_cons_of_mem _ hy))
  rw[List.length_erase_of_mem hx] at this
  have hpos:=List.length_pos_of_mem hx
  simp only[List.length_cons];omega
theorem DI.len {l:List PlantElement} {to:Int} {d:Dst} (h:DI l to d):d.length≤3*l.length:=by
 have h1:=qbF (b:=allP l) h.keys fun p hp=>by
  obtain ⟨v,hv⟩:=qbg.2 hp
  exact qf3 (h.key p v hv)
 have:=qf2 l
 rw[List.length_map] at h1
 omega
theorem DI.chain {l:List PlantElement} {to:Int} {d:Dst} (h:DI l to d):∀(v:Nat) (p:Place),qae d p=some (v:Int)→∃ks:List Place,ks.length=v+1∧ks.Nodup∧∀q∈ks,∃w,qae d q=some w∧w≤v
 |0,p,hp=>⟨[p],rfl,by simp,fun q hq=>by simp at hq;subst hq;exact ⟨_,hp,Int.le_refl _⟩⟩
 |v+1,p,hp=>by
  obtain ⟨_,n,_,hn⟩:=h.pos p _ hp (by omega)
  obtain ⟨ks,h1,h2,h3⟩:=h.chain v (beh l p.element n) (by rw[hn];congr 1;omega)
  refine ⟨p::ks,by simp[h1],List.nodup_cons.2 ⟨fun hm=> ?_,h2⟩,fun q hq=> ?_⟩
  ·obtain ⟨w,hw,hw2⟩:=h3 p hm
   rw[hp] at hw;cases hw;omega
  ·rcases List.mem_cons.1 hq with rfl|hq
   ·exact ⟨_,hp,Int.le_refl _⟩
   ·obtain ⟨w,hw,hw2⟩:=h3 q hq;exact ⟨w,hw,by omega⟩
theorem DI.nonneg {l:List PlantElement} {to:Int} {d:Dst} (h:DI l to d) {p:Place} {v:Int} (hp:qae d p=some v):0≤v:=by
 by_cases h0:v=0
 ·omega
 ·have:=(h.pos p v hp h0).1;omega
theorem DI.val {l:List PlantElement} {to:Int} {d:Dst} (h:DI l to d) {p:Place} {v:Int} (hp:qae d p=some v):v<d.length:=by
 obtain ⟨n,rfl⟩:=Int.eq_ofNat_of_zero_le (h.nonneg hp)
 obtain ⟨ks,h1,h2,h3⟩:=h.chain n p hp
 have:=qbF (b:=d.map Prod.fst) h2 fun q hq=>by
  obtain ⟨w,hw,_⟩:=h3 q hq
  exact qbg.1 ⟨w,hw⟩
 rw[List.length_map] at this
 omega
structure QI (d:Dst) (q:List Place) (c:Int):Prop where
 mem:∀p∈q,∃v,qae d p=some v∧c≤v
 top:∀p v,qae d p=some v→v≤c+1
 ord:q.Pairwise fun a b=>∀x y,qae d a=some x→qae d b=some y→x≤y
theorem QI.push {d:Dst} {q:List Place} {c:Int} (h:QI d q c) {p:Place} {v:Int} (hp:qae d p=none) (h1:c≤v) (h2:v≤c+1) (h3:∀a∈q,∀x,qae d a=some x→x≤v):QI (qao d p v) (q++[p]) c:=by
 have hle:=Dle.set (v:=v) hp
 have hnew:∀{x},qae (qao d p v) p=some x→x=v:=fun hx=>by rw[qan,if_pos rfl] at hx;cases hx;rfl
 have hold:∀a∈q,∀x,qae (qao d p v) a=some x→qae d a=some x:=fun a ha x hx=>by
  obtain ⟨y,hy,_⟩:=h.mem a ha
  have:=hle _ _ hy
  rw[hx] at this;cases this;exact hy
 refine ⟨fun r hr=> ?_,fun r w hw=> ?_, ?_⟩
 ·rcases List.mem_append.1 hr with hr|hr
  ·obtain ⟨w,hw,hc⟩:=h.mem r hr;exact ⟨w,hle _ _ hw,hc⟩
  ·simp at hr;subst hr;exact ⟨v,by rw[qan,if_pos rfl],h1⟩
 ·rw[qan] at hw
  split at hw
  ·cases hw;exact h2
  ·exact h.top r w hw
 ·rw[List.pairwise_append]
  refine ⟨h.ord.imp_of_mem fun {a b} ha hb hR x y hx hy=>hR x y (hold a ha x hx) (hold b hb y hy),by simp,fun a ha b hb x y hx hy=> ?_⟩
  simp at hb
  subst hb
  rw[hnew hy]
  exact h3 a ha x (hold a ha x hx)
def Dn (l:List PlantElement) (d:Dst) (p:Place) (v:Int):Prop:=∀m∈thr l (nbr l p.element p.in_) p.in_,∃w,qae d (Place.mk (nbr l p.element p.in_) m)=some w∧w≤v+1
def DN (l:List PlantElement) (d:Dst) (q:List Place):Prop:=∀p v,qae d p=some v→p∈q∨Dn l d p v
def Cl (l:List PlantElement) (d:Dst):Prop:=∀p v,qae d p=some v→Dn l d p v
theorem qr5 (N:Nat) {l:List PlantElement} {to:Int} {e:List Int} (he:e=eI l to) (hd:e.Nodup):∀(k n i:Nat) (d:Dst) (q:List Place),k<n→i+k=e.length→DI l to d→QI d q 0→(∀p v,qae d p=some v→v=0∧p∈q)→(∀m∈e.drop i,qae d (Place.mk to m)=none)→d.length=q.length→d.length+k≤1000→
  ∃d' q',qju N to e e.length n d q i=some (d',q')∧DI l to d'∧QI d' q' 0∧DN l d' q'∧d'.length=q'.length∧Dle d d'∧∀m∈e.drop i,qae d' (Place.mk to m)=some 0
 |k,0,i,d,q,hn,_,_,_,_,_,_,_=>by omega
 |0,n+1,i,d,q,hn,hi,hD,hQ,hZ,hm,hl,hb=>by
  obtain rfl:i=e.length:=by omega
  rw[qju,if_neg (dneg (by omega)),List.drop_length]
  exact ⟨d,q,rfl,hD,hQ,fun p v hp=> .inl (hZ p v hp).2,hl,Dle.refl d,by simp⟩
 |k+1,n+1,i,d,q,hn,hi,hD,hQ,hZ,hm,hl,hb=>by
  have hlt:i<e.length:=by omega
  have ha:=qak hlt
  have he3:=qbd l to
  rw[qju,if_pos (dpos (by omega)),qac ha]
  simp only[qaa,qad]
  rw[qap (by simp;omega),qaa,w64s (by rw[he] at hlt;omega)]
  rw[qaF ha] at hm⊢
  have hnone:=hm _ List.mem_cons_self
  have hD':=hD.add (v:=0) hnone (by rw[←he];exact List.getElem_mem hlt) (fun _=>rfl) (fun hh=>absurd rfl hh)
  have hle:=Dle.set (v:=0) hnone
  have hnot:e[i]∉e.drop (i+1):=by
   intro hm
   obtain ⟨j,hj⟩:=List.getElem?_of_mem hm
   rw[List.getElem?_drop] at hj
   obtain ⟨hjl,hj⟩:=List.getElem?_eq_some_iff.1 hj
   exact List.pairwise_iff_getElem.1 hd i (i+1+j) hlt hjl (by omega) hj.symm
  obtain ⟨d',q',g1,g2,g3,g7,g4,g5,g6⟩:=qr5 N he hd k n (i+1) (qao d (Place.mk to e[i]) 0) (q++[Place.mk to e[i]]) (by omega) (by omega) hD' (hQ.push hnone (by omega) (by omega) fun a ha x hx=>by rw[(hZ a x hx).1];omega) (fun p v hp=>by
   rw[qan] at hp
   split at hp
   ·rename_i hh;cases hp;subst hh;exact ⟨rfl,List.mem_append_right _ (by simp)⟩
   ·exact ⟨(hZ p v hp).1,List.mem_append_left _ (hZ p v hp).2⟩) (fun m hmm=>by
   rw[qan,if_neg (fun hh=>hnot (by have:=congrArg Place.in_ hh;simp at this;rw[this];exact hmm))]
   exact hm m (List.mem_cons_of_mem _ hmm)) (by rw[qa3 hnone];simp[hl]) (by rw[qa3 hnone];simp;omega)
  refine ⟨d',q',g1,g2,g3,g7,g4,hle.trans g5,fun m hmm=> ?_⟩
  rcases List.mem_cons.1 hmm with rfl|hmm
  ·exact g5 _ _ (by rw[qan,if_pos rfl])
  ·exact g6 m hmm
theorem qqn (N:Nat) {l:List PlantElement} {to:Int} (hP:PlOk l) {p:Place} {v:Int} (hpk:p.in_∈eI l p.element) (hk0:0≤nbr l p.element p.in_) {t:List Int} (ht:t=thr l (nbr l p.element p.in_) p.in_):∀(k n i:Nat) (d:Dst) (q:List Place),k<n→i+k=t.length→DI l to d→QI d q v→qae d p=some v→0≤v→v≤1000→d.length+k≤1000→q.length≤1000+i→
  ∃d' q',qhd N p (nbr l p.element p.in_) t t.length n d q i=some (d',q')∧DI l to d'∧QI d' q' v∧(∀r w,qae d' r=some w→qae d r=some w∨r∈q')∧(∀r∈q,r∈q')∧d'.length+q.length=d.length+q'.length∧Dle d d'∧(∀m∈t.drop i,∃w,qae d' (Place.mk (nbr l p.element p.in_) m)=some w)∧d'.length≤d.length+k
 |k,0,i,d,q,hn,_,_,_,_,_,_,_,_=>by omega
 |0,n+1,i,d,q,hn,hi,hD,hQ,hv,hv0,hv1,hb,hq=>by
  obtain rfl:i=t.length:=by omega
  rw[qhd,if_neg (dneg (by omega)),List.drop_length]
  exact ⟨d,q,rfl,hD,hQ,fun _ _ h=> .inl h,fun _ h=>h,by omega,Dle.refl d,by simp,by omega⟩
 |k+1,n+1,i,d,q,hn,hi,hD,hQ,hv,hv0,hv1,hb,hq=>by
  have hlt:i<t.length:=by omega
  have ha:=qak hlt
  have ht3:=qcC l (nbr l p.element p.in_) p.in_
  rw[qhd,if_pos (dpos (by omega))]
  unfold qrx
  rw[qac ha,qaF ha]
  simp only[qaa,qad]
  have hmt:t[i]∈thr l (nbr l p.element p.in_) p.in_:=by rw[←ht];exact List.getElem_mem hlt
  cases hg:qae d (Place.mk (nbr l p.element p.in_) t[i]) with
  |some w=>
   simp only[Option.isSome_some,Bool.not_true,Bool.false_eq_true,if_false,qaa]
   rw[w64s (by rw[ht] at hlt;omega)]
   obtain ⟨d',q',g1,g2,g3,g8,g9,g4,g5,g6,g7⟩:=qqn N hP hpk hk0 ht k n (i+1) d q (by omega) (by omega) hD hQ hv hv0 hv1 (by omega) (by omega)
   refine ⟨d',q',g1,g2,g3,g8,g9,g4,g5,fun m hm=> ?_,by omega⟩
   rcases List.mem_cons.1 hm with rfl|hm
   ·exact ⟨w,g5 _ _ hg⟩
   ·exact g6 m hm
  |none=>
   simp only[Option.isSome_none,Bool.not_false,if_true,hv,Option.getD_some]
   rw[w64 (by omega) (by omega),qap (by simp;rw[ht] at hlt;omega),qaa,qaa]
   simp only[]
   rw[w64s (by rw[ht] at hlt;omega)]
   obtain ⟨m1,m2⟩:=qdZ hmt
   have hsym:=hP.thr_sym hmt
   have hbeh:beh l (nbr l p.element p.in_) p.in_=p:=by
    unfold beh
    rw[hP.nbr_sym hpk hk0]
   have hD':=hD.add (v:=v+1) hg m2 (fun hh=>by omega) (fun _=>⟨by omega,p.in_,hsym.1,by rw[hbeh,hv];congr 1;omega⟩)
   have hle:=Dle.set (v:=v+1) hg
   obtain ⟨d',q',g1,g2,g3,g8,g9,g4,g5,g6,g7⟩:=qqn N hP hpk hk0 ht k n (i+1) (qao d (Place.mk (nbr l p.element p.in_) t[i]) (v+1)) (q++[Place.mk (nbr l p.element p.in_) t[i]]) (by omega) (by omega) hD' (hQ.push hg (by omega) (by omega) fun a ha x hx=>hQ.top a x hx) (hle _ _ hv) hv0 hv1 (by rw[qa3 hg];simp;omega) (by simp;omega)
   refine ⟨d',q',g1,g2,g3,fun r w hr=> ?_,fun r hr=>g9 r (List.mem_append_left _ hr), ?_,hle.trans g5,fun m hm=> ?_, ?_⟩
   ·rcases g8 r w hr with h|h
    ·rw[qan] at h
     split at h
     ·rename_i hh;subst hh;exact .inr (g9 _ (List.mem_append_right _ (by simp)))
     ·exact .inl h
    ·exact .inr h
   ·rw[qa3 hg] at g4;simp at g4;omega
   ·rcases List.mem_cons.1 hm with rfl|hm
    ·exact ⟨v+1,g5 _ _ (by rw[qan,if_pos rfl])⟩
    ·exact g6 m hm
   ·rw[qa3 hg] at g7;simp at g7;omega
theorem qr6 (N:Nat) (hN:1000≤N) {l:List PlantElement} {to:Int} (hP:PlOk l):∀(k n:Nat) (d:Dst) (q:List Place) (c:Int),k<n→q.length+3*l.length≤k+d.length→DI l to d→QI d q c→DN l d q→q.length≤d.length→
  ∃d',qnw N l n d q=some d'∧DI l to d'∧Dle d d'∧Cl l d'
 |k,0,d,q,c,hn,_,_,_,_,_=>by omega
 |k,n+1,d,q,c,hn,hk,hD,hQ,hN2,hq=>by
  have hdl:=hD.len
  have hll:=hP.len
  rw[qnw]
  cases q with
  |nil=>
   rw[if_neg (dneg (by simp))]
   exact ⟨d,rfl,hD,Dle.refl d,fun p v hp=>by
    rcases hN2 p v hp with h|h
    ·cases h
    ·exact h⟩
  |cons p q=>
   rw[if_pos (dpos (by simp))]
   have hg:getI (p::q) 0=some p:=rfl
   have hcut:cutI (p::q) 1 ((p::q).length:Int)=some q:=qbt (xs:=p::q) (i:=1) (by simp)
   obtain ⟨v,hvp,hcv⟩:=hQ.mem p List.mem_cons_self
   have hpk:=hD.key p v hvp
   have hv0:=hD.nonneg hvp
   have hv1:=hD.val hvp
   rw[hg,qaa,qaa,hcut,qaa,qgI N (by omega) (by omega),qaa,qi9 N (by omega),qaa]
   simp only[List.length_cons] at hk hq
   have hord:=List.pairwise_cons.1 hQ.ord
   have hQ':QI d q v:=⟨fun r hr=>by
    obtain ⟨w,hw,_⟩:=hQ.mem r (List.mem_cons_of_mem _ hr)
    exact ⟨w,hw,hord.1 r hr v w hvp hw⟩,fun r w hw=>by have:=hQ.top r w hw;omega,hord.2⟩
   have ht3:=qcC l (nbr l p.element p.in_) p.in_
   have key:∃d' q',qhd N p (nbr l p.element p.in_) (thr l (nbr l p.element p.in_) p.in_) (thr l (nbr l p.element p.in_) p.in_).length N d q 0=some (d',q')∧DI l to d'∧QI d' q' v∧(∀r w,qae d' r=some w→qae d r=some w∨r∈q')∧(∀r∈q,r∈q')∧d'.length+q.length=d.length+q'.length∧Dle d d'∧Dn l d' p v:=by
    by_cases hk0:0≤nbr l p.element p.in_
    ·obtain ⟨d',q',g1,g2,g3,g8,g9,g4,g5,g6,g7⟩:=qqn N hP hpk hk0 rfl (thr l (nbr l p.element p.in_) p.in_).length N 0 d q (by omega) (by omega) hD hQ' hvp hv0 (by omega) (by omega) (by omega)
     exact ⟨d',q',g1,g2,g3,g8,g9,g4,g5,fun m hm=>by
      obtain ⟨w,hw⟩:=g6 m (by simpa using hm)
      exact ⟨w,hw,g3.top _ _ hw⟩⟩
    ·have hnil:thr l (nbr l p.element p.in_) p.in_=[]:=by
      unfold thr eI
      rw[if_neg hk0]
      rfl
     rw[hnil]
     have:qhd N p (nbr l p.element p.in_) [] (([]:List Int).length:Int) N d q 0=some (d,q):=by
      obtain ⟨M,rfl⟩:∃M,N=M+1:=⟨N - 1,by omega⟩
      rw[qhd,if_neg (by simp)]
     exact ⟨d,q,this,hD,hQ',fun _ _ h=> .inl h,fun _ h=>h,by omega,Dle.refl d,fun m hm=>by rw[hnil] at hm;simp at hm⟩
   obtain ⟨d',q',g1,g2,g3,g8,g9,g4,g5,g6⟩:=key
   rw[g1,qaa]
   have hdl':=g2.len
   cases k with
   |zero=>omega
   |succ k=>
    obtain ⟨d2,h1,h2,h3,h4⟩:=qr6 N hN hP k n d' q' v (by omega) (by omega) g2 g3 (fun r w hr=>by
     rcases g8 r w hr with h|h
     ·rcases hN2 r w h with h'|h'
      ·rcases List.mem_cons.1 h' with rfl|h'
       ·rw[hvp] at h;cases h;exact .inr g6
       ·exact .inl (g9 r h')
      ·exact .inr fun m hm=>by
        obtain ⟨x,hx,hx2⟩:=h' m hm
        exact ⟨x,g5 _ _ hx,hx2⟩
     ·exact .inl h) (by omega)
    exact ⟨d2,h1,h2,g5.trans h3,h4⟩
theorem DI.nil (l:List PlantElement) (to:Int):DI l to []:=⟨by simp[qae],by simp[qae],by simp[qae],by simp⟩
theorem qqo (N:Nat) (hN:1000≤N) {l:List PlantElement} {to:Int} (hP:PlOk l):∃d,zbB N l to=some d∧DI l to d∧(∀m∈eI l to,qae d (Place.mk to m)=some 0)∧Cl l d:=by
 unfold zbB
 have he:=qbd l to
 have hll:=hP.len
 rw[qew,qaa]
 obtain ⟨d,q,h1,h2,h3,h7,h4,h5,h6⟩:=qr5 N rfl (hP.nodup to) (eI l to).length N 0 [] [] (by omega) (by omega) (DI.nil l to) ⟨by simp,by simp[qae],by simp⟩ (by simp[qae]) (by simp[qae]) rfl (by simp;omega)
 have h1:qju N to (eI l to) (eI l to).length N [] [] 0=some (d,q):=h1
 rw[h1,qaa]
 have hdl:=h2.len
 obtain ⟨d',g1,g2,g3,g4⟩:=qr6 N hN hP (q.length+3*l.length) N d q 0 (by omega) (by omega) h2 h3 h7 (by omega)
 rw[g1,qaa]
 refine ⟨d',rfl,g2,fun m hm=>g3 _ _ (h6 m (by simpa using hm)),g4⟩
end Go.W
end
section
set_option linter.unusedVariables false
set_option linter.unusedSimpArgs false
set_option maxRecDepth 100000
namespace Go.W
open Go.AM
end Go.W
end
section
set_option linter.unusedVariables false
set_option linter.unusedSimpArgs false
namespace Go.W
open Go.AM
def trk (l:List PlantElement) (i:Int):Prop:=0≤i∧∃x,l[i.toNat]? =some x∧x.kind=1
instance (l:List PlantElement) (i:Int):Decidable (trk l i):=by
 unfold trk
 cases h:l[i.toNat]? with
 |none=>exact isFalse (by rintro ⟨_,x,hx,_⟩;cases hx)
 |some y=>exact if h2:0≤i∧y.kind=1 then isTrue ⟨h2.1,y,rfl,h2.2⟩ else isFalse (by rintro ⟨a,x,hx,b⟩;cases hx;exact h2 ⟨a,b⟩)
theorem qja (N:Nat) (l:List PlantElement) (i:Int):zcG N l i=some (decide (trk l i)):=by
 unfold zcG qo7
 by_cases h0:0≤i
 ·rw[if_pos (lpos h0)]
  by_cases h1:i<l.length
  ·rw[if_pos (dpos h1)]
   have hlt:i.toNat<l.length:=by omega
   have hg:getI l i=some l[i.toNat]:=by simp[getI,h0,hlt]
   rw[hg,qaa,qad,qaa]
   congr 1
   by_cases hk:l[i.toNat].kind=1
   ·rw[decide_eq_true (show trk l i from ⟨h0,_,qak hlt,hk⟩)];simpa using hk
   ·rw[decide_eq_false (show ¬trk l i from by rintro ⟨_,x,hx,hk'⟩;rw[qak hlt] at hx;cases hx;exact hk hk')];simpa using hk
  ·rw[if_neg (dneg h1),qaa,decide_eq_false (show ¬trk l i from by rintro ⟨_,x,hx,_⟩;have:=(List.getElem?_eq_some_iff.1 hx).1;omega)]
 ·rw[if_neg (lneg h0),qaa,decide_eq_false (show ¬trk l i from fun h=>h0 h.1)]
theorem qnd (N:Nat) (l:List PlantElement) (i:Int):zcZ N l i=some (decide (trk l i)):=by
 have h:=qja N l i
 unfold zcG qo7 at h
 unfold zcZ qrV
 exact h
theorem qcW (N:Nat) {l:List Int} (hN:l.length<N) (hl:l.length≤1000000) (x:Int):zaG N l x=some (l.contains x):=by
 unfold zaG zaL
 have h:=qar (l:=l) (fun _ y=>x==y) (fun i _=>(i:Int)) (fun m i=>qit N l x l.length m i) (fun m=>by
  show qit N l x l.length (m+1) _=_
  rw[qit,if_neg (dneg (by omega))]) (fun m i y hy=>by
  show qit N l x l.length (m+1) _=_
  have hlt:=(List.getElem?_eq_some_iff.1 hy).1
  rw[qit,if_pos (dpos (by omega)),qac hy,qaa,w64s (by omega)]) l.length N 0 hN (by omega)
 simp only[Int.natCast_zero,List.drop_zero] at h
 rw[h,qaa]
 have key:(∃u,res (fun _ y=>x==y) (fun i _=>(i:Int)) 0 l= .inl u)↔l.contains x=false:=by
  have:res (fun _ y=>x==y) (fun i (_:Int)=>(i:Int)) 0 l= .inl ()↔_:=qbH
  constructor
  ·rintro ⟨u,hu⟩
   have h2:=this.1 hu
   rw[Bool.eq_false_iff]
   intro hc
   have hm:x∈l:=by simpa using hc
   obtain ⟨j,hj⟩:=List.getElem?_of_mem hm
   have:=h2 j x hj
   simp at this
  ·intro hc
   refine ⟨(),this.2 fun j y hj=> ?_⟩
   have hm:x∉l:=by simpa using hc
   simp only[beq_eq_false_iff_ne,ne_eq]
   rintro rfl
   exact hm (List.mem_of_getElem? hj)
 rcases qct (fun _ y=>x==y) l 0 with ⟨h1,h2⟩|⟨h1,h2⟩
 ·rw[h1]
  have:=key.1 ⟨(),h1⟩
  rw[this]
  rfl
 ·rw[h1]
  have:l.contains x=true:=by
   cases hc:l.contains x with
   |true=>rfl
   |false=>obtain ⟨u,hu⟩:=key.2 hc;rw[h1] at hu;cases hu
  rw[this]
  simp only[qaa,qad]
  rw[decide_eq_true h2]
theorem qmU (N:Nat) {l:List Int} (hN:l.length<N) (hl:l.length≤1000000) (x:Int):zdO N l x=some (l.contains x):=by
 have h:=qlZ (l:=l) (x:=x) (fun n i=>qiD N l x n i) (fun n=>by
  show qiD N l x (n+1) _=_
  rw[qiD,if_neg (dneg (by omega))]) (fun n i y hy=>by
  show qiD N l x (n+1) _=_
  have hlt:=(List.getElem?_eq_some_iff.1 hy).1
  rw[qiD,if_pos (dpos (by omega)),qac hy,qaa,qad,w64s (by omega)]) hN
 unfold zdO
 rw[h,qaa]
 cases l.contains x<;>rfl
def elems (r:List Visit):List Int:=r.map Visit.element
theorem qbU (N:Nat) {r:List Visit} (hN:r.length<N) (hl:r.length≤9223372036854775807) (x:Int):zcR N r x=some ((elems r).contains x):=by
 have h:=qar (l:=r) (fun _ y=>y.element==x) (fun _ _=>true) (fun n i=>qix N r x n i) (fun n=>by
  show qix N r x (n+1) _=_
  rw[qix,if_neg (dneg (by omega))]) (fun n i y hy=>by
  show qix N r x (n+1) _=_
  have hlt:=(List.getElem?_eq_some_iff.1 hy).1
  rw[qix,if_pos (dpos (by omega)),qac hy,qaa,qad,w64s (by omega)]) r.length N 0 hN (by omega)
 simp only[Int.natCast_zero,List.drop_zero] at h
 unfold zcR
 rw[h,qaa,qjd (fun y:Visit=>y.element==x)]
 have e:(r.any fun y=>y.element==x)=(elems r).contains x:=by
  unfold elems
  rw[←qjQ,List.any_map]
  rfl
 rw[e]
 cases (elems r).contains x<;>rfl
theorem qf1 (N:Nat) {r:List Visit} (hl:r.length≤9223372036854775807):∀(k n i:Nat) (x3:List (Int×Bool)),k<n→i+k=r.length→(∀a,(qae x3 a).getD false=(elems (r.take i)).contains a)→(elems (r.take i)).Nodup→
  (qhp N r r.length n x3 i=some (.inl ())∧(elems r).Nodup)∨(qhp N r r.length n x3 i=some (.inr true)∧¬(elems r).Nodup)
 |k,0,i,x3,hn,_,_,_=>by omega
 |0,n+1,i,x3,hn,hi,h1,h2=>by
  obtain rfl:i=r.length:=by omega
  rw[qhp,if_neg (dneg (by omega))]
  rw[List.take_length] at h2
  exact .inl ⟨rfl,h2⟩
 |k+1,n+1,i,x3,hn,hi,h1,h2=>by
  have hlt:i<r.length:=by omega
  have ha:=qak hlt
  rw[qhp,if_pos (dpos (by omega)),qac ha,qaa,qad,h1]
  have htk:elems (r.take (i+1))=elems (r.take i)++[r[i].element]:=by unfold elems;rw[qaW ha,List.map_append];rfl
  by_cases hc:(elems (r.take i)).contains r[i].element=true
  ·rw[if_pos hc]
   refine .inr ⟨rfl,fun hd=> ?_⟩
   have hs:(elems (r.take (i+1))).Nodup:=hd.sublist ((List.take_sublist (i+1) r).map _)
   rw[htk,List.nodup_append] at hs
   exact hs.2.2 _ (by simpa using hc) _ (by simp) rfl
  ·rw[if_neg hc,qad,w64s (by omega)]
   refine qf1 N hl k n (i+1) _ (by omega) (by omega) (fun a=> ?_) ?_
   ·rw[qan,htk]
    by_cases hh:r[i].element=a
    ·rw[if_pos hh];simp[hh]
    ·rw[if_neg hh,h1]
     have hh':¬a=r[i].element:=fun q=>hh q.symm
     simp[hh']
   ·rw[htk,List.nodup_append]
    refine ⟨h2,by simp,fun x hx y hy=> ?_⟩
    simp at hy
    subst hy
    rintro rfl
    exact hc (by simpa using hx)
theorem qkE (N:Nat) {r:List Visit} (hN:r.length<N) (hl:r.length≤9223372036854775807):∃b,zcH N r=some b∧(b=false↔(elems r).Nodup):=by
 unfold zcH
 have h:=qf1 N hl r.length N 0 [] hN (by omega) (fun a=>by simp[qae,elems]) (by simp[elems])
 rcases h with ⟨h1,h2⟩|⟨h1,h2⟩
 ·have h1:qhp N r r.length N [] 0=some (.inl ()):=h1
  rw[h1,qaa]
  exact ⟨false,rfl,by simp[h2]⟩
 ·have h1:qhp N r r.length N [] 0=some (.inr true):=h1
  rw[h1,qaa]
  exact ⟨true,rfl,by simp[h2]⟩
structure WayP (l:List PlantElement) (r:List Visit):Prop where
 two:2≤r.length
 st:∀v,r[0]? =some v→trk l v.element∧v.in_= -1∧v.out∈eI l v.element
 en:∀v,r[r.length - 1]? =some v→trk l v.element∧v.out= -1
 step:∀(i:Nat) v w,r[i]? =some v→r[i+1]? =some w→w.in_=v.out∧0≤w.element∧w.element=nbr l v.element v.out
 mid:∀(i:Nat) v,0<i→i+1<r.length→r[i]? =some v→v.out∈thr l v.element v.in_
theorem WayP.ins {l:List PlantElement} {r:List Visit} (h:WayP l r) {i:Nat} {v:Visit} (hi:0<i) (hv:r[i]? =some v):v.in_∈eI l v.element:=by
 obtain ⟨j,rfl⟩:∃j,i=j+1:=⟨i - 1,by omega⟩
 have hlt:=(List.getElem?_eq_some_iff.1 hv).1
 have hj:=qak (xs:=r) (i:=j) (by omega)
 obtain ⟨a,b,c⟩:=h.step j _ v hj hv
 rw[c,a]
 exact (qdS (by rw[←c];exact b)).1
theorem WayP.outs {l:List PlantElement} {r:List Visit} (h:WayP l r) {i:Nat} {v:Visit} (hi:i+1<r.length) (hv:r[i]? =some v):v.out∈eI l v.element:=by
 cases i with
 |zero=>exact (h.st v hv).2.2
 |succ i=>exact (qdZ (h.mid (i+1) v (by omega) hi hv)).2
theorem qaM {a:Bool} {x:Option Bool} {p q:Prop} (ha:a=false↔p) (hx:∃b,x=some b∧(b=false↔q)):∃b,(if a=true then some true else x)=some b∧(b=false↔p∧q):=by
 cases a with
 |true=>exact ⟨true,rfl,by simp at ha;simp[ha]⟩
 |false=>
  obtain ⟨b,h1,h2⟩:=hx
  refine ⟨b,by simpa using h1, ?_⟩
  rw[h2]
  simp at ha
  simp[ha]
theorem qd8 {p:Prop} [Decidable p]:(!decide p)=false↔p:=by simp
theorem qmp {l:List Int} {x:Int}:(!l.contains x)=false↔x∈l:=by simp
theorem qhC {a b:Int}:(a !=b)=false↔a=b:=by simp
theorem qr7 {a b:Int}:decide (a<b)=false↔b≤a:=by simp
theorem qrd (N:Nat) {l:List PlantElement} {r:List Visit} (hN:r.length+l.length+10≤N) (hl:l.length≤1000000) (hr:r.length≤9223372036854775807):∃b,zdD N l r=some b∧(b=true↔WayP l r):=by
 unfold zdD
 rw[qad]
 by_cases h2:r.length<2
 ·have h:qll N l r (IntKind.wrap .i64 ((r.length:Int) - 1))=some true:=by
   unfold qll
   rw[if_pos (dpos (by rw[w64 (by omega) (by omega)];omega))]
  rw[h,qaa,if_pos rfl]
  exact ⟨false,rfl,by simp;intro hw;have:=hw.two;omega⟩
 have hw:IntKind.wrap .i64 ((r.length:Int) - 1)=((r.length - 1:Nat):Int):=by rw[w64 (by omega) (by omega)];omega
 rw[hw]
 have h0:=qak (xs:=r) (i:=0) (by omega)
 have hz:=qak (xs:=r) (i:=r.length - 1) (by omega)
 generalize hv0:r[0]'(by omega)=v at h0
 generalize hvz:r[r.length - 1]'(by omega)=w at hz
 have g0:getI r 0=some v:=qac h0
 have gz:getI r ((r.length - 1:Nat):Int)=some w:=qac hz
 have e1:=qbd l v.element
 have e2:=qbd l w.element
 have c0:∃b,qll N l r ((r.length - 1:Nat):Int)=some b∧(b=false↔trk l v.element∧trk l w.element∧v.in_= -1∧w.out= -1):=by
  unfold qll
  rw[if_neg (dneg (by omega))]
  simp only[g0,gz,qaa,qja]
  exact qaM qd8 (qaM qd8 (qaM qhC ⟨_,rfl,qhC⟩))
 have c1:∃b,qpk N l r ((r.length - 1:Nat):Int)=some b∧(b=false↔v.out∈eI l v.element∧w.in_∈eI l w.element):=by
  unfold qpk
  simp only[g0,gz,qaa,qew]
  rw[qcW N (by omega) (by omega),qcW N (by omega) (by omega)]
  simp only[qaa]
  exact qaM qmp ⟨_,rfl,qmp⟩
 obtain ⟨b0,p0,q0⟩:=c0
 obtain ⟨b1,p1,q1⟩:=c1
 rw[p0,qaa]
 have st':∀{x},r[0]? =some x→x=v:=fun hx=>by rw[h0] at hx;cases hx;rfl
 have en':∀{x},r[r.length - 1]? =some x→x=w:=fun hx=>by rw[hz] at hx;cases hx;rfl
 cases b0 with
 |true=>
  rw[if_pos rfl]
  refine ⟨false,rfl, ?_⟩
  simp only[Bool.false_eq_true,false_iff]
  intro hw
  have a:=hw.st v h0
  have b:=hw.en w hz
  have:=q0.2 ⟨a.1,b.1,a.2.1,b.2⟩
  cases this
 |false=>
  rw[if_neg (by simp),p1,qaa]
  have q0:=q0.1 rfl
  cases b1 with
  |true=>
   rw[if_pos rfl]
   refine ⟨false,rfl, ?_⟩
   simp only[Bool.false_eq_true,false_iff]
   intro hw
   have:=q1.2 ⟨(hw.st v h0).2.2,hw.ins (by omega) hz⟩
   cases this
  |false=>
   rw[if_neg (by simp)]
   have q1:=q1.1 rfl
   have hcut:cutI r 1 (r.length:Int)=some (r.drop 1):=qbt (i:=1) (by omega)
   rw[hcut,qaa]
   have hlen:(r.drop 1).length=r.length - 1:=List.length_drop
   let bad:Nat→Visit→Prop:=fun i y=>¬((y.in_=(r.getD i (Visit.mk 0 0 0)).out∧0≤y.element∧nbr l (r.getD i (Visit.mk 0 0 0)).element (r.getD i (Visit.mk 0 0 0)).out=y.element)∧(i+2<r.length→y.out∈thr l y.element y.in_))
   have hloop:=qar (l:=r.drop 1) (fun i y=> @decide (bad i y) (Classical.propDecidable _)) (fun _ _=>false) (fun m i=>qiA N l r ((r.length - 1:Nat):Int) (r.drop 1) (r.drop 1).length m i) (fun m=>by
    show qiA N l r _ (r.drop 1) (r.drop 1).length (m+1) _=_
    rw[qiA,if_neg (dneg (by omega))]) (fun m i y hy=>by
    show qiA N l r _ (r.drop 1) (r.drop 1).length (m+1) _=_
    have hlt:=(List.getElem?_eq_some_iff.1 hy).1
    have hi:=qak (xs:=r) (i:=i) (by omega)
    rw[qiA,if_pos (dpos (by omega)),qac hy,qaa,qac hi,qaa]
    have hgd:r.getD i (Visit.mk 0 0 0)=r[i]'(by omega):=by simp[List.getD,hi]
    have d3:∃b,qpl N l y (r[i]'(by omega))=some b∧(b=false↔y.in_=(r.getD i (Visit.mk 0 0 0)).out∧0≤y.element∧nbr l (r.getD i (Visit.mk 0 0 0)).element (r.getD i (Visit.mk 0 0 0)).out=y.element):=by
     unfold qpl
     rw[hgd,qgI N (by omega) (by omega),qaa]
     exact qaM qhC (qaM qr7 ⟨_,rfl,qhC⟩)
    have d4:∃b,qpm N l ((r.length - 1:Nat):Int) i y=some b∧(b=false↔(i+2<r.length→y.out∈thr l y.element y.in_)):=by
     unfold qpm
     rw[w64s (by omega)]
     by_cases hh:i+2<r.length
     ·rw[if_pos (dpos (by omega)),qi9 N (by omega),qaa,qcW N (by have:=qcC l y.element y.in_;omega) (by have:=qcC l y.element y.in_;omega),qaa]
      exact ⟨_,rfl,by rw[qmp];simp[hh]⟩
     ·rw[if_neg (dneg (by omega))]
      exact ⟨false,rfl,by simp[hh]⟩
    obtain ⟨b3,r3,s3⟩:=d3
    obtain ⟨b4,r4,s4⟩:=d4
    rw[r3,qaa]
    cases b3 with
    |true=>
     have hb:bad i y:=fun hh=>by have:=s3.2 hh.1;cases this
     rw[if_pos rfl, @decide_eq_true _ (Classical.propDecidable _) hb,if_pos rfl]
    |false=>
     rw[if_neg (by simp),r4,qaa]
     cases b4 with
     |true=>
      have hb:bad i y:=fun hh=>by have:=s4.2 hh.2;cases this
      rw[if_pos rfl, @decide_eq_true _ (Classical.propDecidable _) hb,if_pos rfl]
     |false=>
      have hb:¬bad i y:=fun hh=>hh ⟨s3.1 rfl,s4.1 rfl⟩
      rw[if_neg (by simp), @decide_eq_false _ (Classical.propDecidable _) hb,if_neg (by simp),w64s (by omega)]) (r.drop 1).length N 0 (by omega) (by omega)
   simp only[Int.natCast_zero,List.drop_zero] at hloop
   rw[hloop,qaa]
   have hiff:WayP l r↔∀(j:Nat) (y:Visit),(r.drop 1)[j]? =some y→¬bad j y:=by
    constructor
    ·intro hw j y hj hb
     rw[List.getElem?_drop,Nat.add_comm] at hj
     have hlt:=(List.getElem?_eq_some_iff.1 hj).1
     have hi:=qak (xs:=r) (i:=j) (by omega)
     have hgd:r.getD j (Visit.mk 0 0 0)=r[j]'(by omega):=by simp[List.getD,hi]
     obtain ⟨a,b,c⟩:=hw.step j _ y hi hj
     refine hb ⟨by rw[hgd];exact ⟨a,b,c.symm⟩,fun hh=>hw.mid (j+1) y (by omega) (by omega) hj⟩
    ·intro hh
     refine ⟨by omega,fun x hx=> ?_,fun x hx=> ?_,fun i x y hx hy=> ?_,fun i x hi hi2 hx=> ?_⟩
     ·rw[st' hx];exact ⟨q0.1,q0.2.2.1,q1.1⟩
     ·rw[en' hx];exact ⟨q0.2.1,q0.2.2.2⟩
     ·have:=Classical.not_not.1 (hh i y (by rw[List.getElem?_drop,Nat.add_comm];exact hy))
      have hgd:r.getD i (Visit.mk 0 0 0)=x:=by simp[List.getD,hx]
      rw[hgd] at this
      exact ⟨this.1.1,this.1.2.1,this.1.2.2.symm⟩
     ·obtain ⟨j,rfl⟩:∃j,i=j+1:=⟨i - 1,by omega⟩
      have:=Classical.not_not.1 (hh j x (by rw[List.getElem?_drop,Nat.add_comm];exact hx))
      exact this.2 (by omega)
   have hres:=qbH (p:=fun i y=> @decide (bad i y) (Classical.propDecidable _)) (out:=fun _ _=>false) (l:=r.drop 1) (i:=0)
   cases hr2:res (fun i y=> @decide (bad i y) (Classical.propDecidable _)) (fun _ _=>false) 0 (r.drop 1) with
   |inl u=>
    refine ⟨true,rfl, ?_⟩
    simp only[true_iff]
    refine hiff.2 fun j y hj=> ?_
    have:=(hres.1 hr2) j y hj
    rw[Nat.zero_add] at this
    exact @of_decide_eq_false _ (Classical.propDecidable _) this
   |inr b=>
    have hbf:b=false:=by
     have key:∀(e:List Visit) (i:Nat) (b:Bool),res (fun i y=> @decide (bad i y) (Classical.propDecidable _)) (fun _ _=>false) i e= .inr b→b=false:=by
      intro e
      induction e with
      |nil=>intro i b h;cases h
      |cons y e ih=>
       intro i b h
       rw[res] at h
       split at h
       ·cases h;rfl
       ·exact ih _ _ h
     exact key _ _ _ hr2
    subst hbf
    refine ⟨false,rfl, ?_⟩
    simp only[Bool.false_eq_true,false_iff]
    intro hw
    have:=hres.2 fun j y hj=>by
     rw[Nat.zero_add]
     exact @decide_eq_false _ (Classical.propDecidable _) (hiff.1 hw j y hj)
    rw[this] at hr2;cases hr2
end Go.W
end
section
set_option linter.unusedVariables false
set_option linter.unusedSimpArgs false
namespace Go.W
open Go.AM
def RtP (l:List PlantElement) (r:List Visit):Prop:=vErr l=0∧WayP l r∧(elems r).Nodup
theorem qi8 (N:Nat) {l:List PlantElement} {r:List Visit} (hN:r.length+l.length+200≤N) (hl:l.length≤1000000) (hr:r.length≤9223372036854775807):∃b,zcF N l r=some b∧(b=true↔RtP l r):=by
 unfold zcF qrK RtP
 rw[qe6 N (by omega),qaa]
 by_cases h0:vErr l=0
 ·rw[if_pos (by simpa using h0)]
  obtain ⟨b,h1,h2⟩:=qrd N (l:=l) (r:=r) (by omega) hl hr
  obtain ⟨c,h3,h4⟩:=qkE N (r:=r) (by omega) hr
  rw[h1,qaa]
  cases b with
  |true=>
   rw[if_pos rfl,h3]
   simp only[qaa,qad]
   refine ⟨!c,rfl, ?_⟩
   simp only[Bool.not_eq_true',h4]
   exact ⟨fun h=>⟨h0,h2.1 rfl,h⟩,fun h=>h.2.2⟩
  |false=>
   rw[if_neg (by simp),qaa]
   refine ⟨false,rfl, ?_⟩
   simp only[Bool.false_eq_true,false_iff]
   intro h
   have:=h2.2 h.2.1
   cases this
 ·rw[if_neg (by simpa using h0),qaa]
  exact ⟨false,rfl,by simp[h0]⟩
theorem qmV (N:Nat) {l:List PlantElement} {r:List Visit} (hN:r.length+l.length+200≤N) (hl:l.length≤1000000) (hr:r.length≤9223372036854775807) (hnm:l.length≤96→∀x∈l,x.name.length<N∧x.name.length≤9223372036854775807):∃b,zcY N l r=some b∧(b=true↔RtP l r):=by
 unfold zcY
 rw[qad]
 by_cases h0:vErr l=0
 case neg=>
  have h:qiy N l r (IntKind.wrap .i64 ((r.length:Int) - 1))=some true:=by
   unfold qiy
   rw[qdx N (by omega) hnm,qaa,if_pos (by simpa using h0)]
  rw[h,qaa,if_pos rfl]
  exact ⟨false,rfl,by simp[RtP,h0]⟩
 by_cases h2:r.length<2
 ·have h:qiy N l r (IntKind.wrap .i64 ((r.length:Int) - 1))=some true:=by
   unfold qiy
   rw[qdx N (by omega) hnm,qaa,if_neg (by simpa using h0),if_pos (dpos (by rw[w64 (by omega) (by omega)];omega))]
  rw[h,qaa,if_pos rfl]
  refine ⟨false,rfl, ?_⟩
  simp only[Bool.false_eq_true,false_iff]
  intro hw
  have:=hw.2.1.two
  omega
 have hw:IntKind.wrap .i64 ((r.length:Int) - 1)=((r.length - 1:Nat):Int):=by rw[w64 (by omega) (by omega)];omega
 rw[hw]
 have h0':=qak (xs:=r) (i:=0) (by omega)
 have hz:=qak (xs:=r) (i:=r.length - 1) (by omega)
 generalize hv0:r[0]'(by omega)=v at h0'
 generalize hvz:r[r.length - 1]'(by omega)=w at hz
 have g0:getI r 0=some v:=qac h0'
 have gz:getI r ((r.length - 1:Nat):Int)=some w:=qac hz
 have st':∀{x},r[0]? =some x→x=v:=fun hx=>by rw[h0'] at hx;cases hx;rfl
 have en':∀{x},r[r.length - 1]? =some x→x=w:=fun hx=>by rw[hz] at hx;cases hx;rfl
 have c0:∃b,qiy N l r ((r.length - 1:Nat):Int)=some b∧(b=false↔trk l v.element∧trk l w.element∧v.in_= -1∧w.out= -1):=by
  unfold qiy
  rw[qdx N (by omega) hnm,qaa,if_neg (by simpa using h0),if_neg (dneg (by omega))]
  simp only[g0,gz,qaa,qnd]
  exact qaM qd8 (qaM qd8 (qaM qhC ⟨_,rfl,qhC⟩))
 obtain ⟨b0,p0,q0⟩:=c0
 rw[p0,qaa]
 cases b0 with
 |true=>
  rw[if_pos rfl]
  refine ⟨false,rfl, ?_⟩
  simp only[Bool.false_eq_true,false_iff]
  intro hh
  have a:=hh.2.1.st v h0'
  have b:=hh.2.1.en w hz
  have:=q0.2 ⟨a.1,b.1,a.2.1,b.2⟩
  cases this
 |false=>
  rw[if_neg (by simp)]
  have q0:=q0.1 rfl
  let nx:Nat→Visit:=fun i=>r.getD (i+1) (Visit.mk 0 0 0)
  let good:Nat→Visit→Prop:=fun i y=>(0≤y.element∧y.element<l.length∧y.element∉elems (r.take i))∧(i+1<r.length→y.out∈eI l y.element∧(nx i).in_=y.out∧(nx i).element=nbr l y.element y.out)∧(0<i→i+1<r.length→y.out∈thr l y.element y.in_)
  have hloop:=qar (l:=r) (fun i y=> @decide (¬good i y) (Classical.propDecidable _)) (fun _ _=>false) (fun m i=>qiz N l r ((r.length - 1:Nat):Int) m i) (fun m=>by
   show qiz N l r _ (m+1) _=_
   rw[qiz,if_neg (lneg (by omega))]) (fun m i y hy=>by
   show qiz N l r _ (m+1) _=_
   have hlt:=(List.getElem?_eq_some_iff.1 hy).1
   rw[qiz,if_pos (lpos (by omega))]
   have hte:=qcC l y.element y.in_
   have hee:=qbd l y.element
   have d2:∃b,qpf N l r i=some b∧(b=false↔0≤y.element∧y.element<l.length∧y.element∉elems (r.take i)):=by
    unfold qpf
    simp only[qac hy,qaa]
    rw[qcf (by omega),qaa,qbU N (by rw[List.length_take];omega) (by rw[List.length_take];omega),qaa]
    refine qaM qr7 (qaM (p:=y.element<l.length) (by simp) ⟨_,rfl,by simp⟩)
   have d3:∃b,qpg N l r ((r.length - 1:Nat):Int) i=some b∧(b=false↔(i+1<r.length→y.out∈eI l y.element∧(nx i).in_=y.out∧(nx i).element=nbr l y.element y.out)):=by
    unfold qpg
    by_cases hh:i+1<r.length
    ·have hx:=qak hh
     have hgd:nx i=r[i+1]:=by show r.getD (i+1) (Visit.mk 0 0 0)=_;simp[List.getD,hx]
     rw[if_pos (dpos (by omega)),w64s (by omega)]
     simp only[qac hy,qac hx,qaa,qbm]
     rw[qmU N (by omega) (by omega),qc1 N (by omega) (by omega)]
     simp only[qaa]
     obtain ⟨b,k1,k2⟩:=qaM (a:= !(eI l y.element).contains y.out) qmp (qaM (a:=r[i+1].in_ !=y.out) qhC (x:=some (r[i+1].element !=nbr l y.element y.out)) ⟨_,rfl,qhC⟩)
     exact ⟨b,k1,by rw[k2,hgd];simp[hh]⟩
    ·rw[if_neg (dneg (by omega))]
     exact ⟨false,rfl,by simp[hh]⟩
   have d4:∃b,qph N l r ((r.length - 1:Nat):Int) i=some b∧(b=false↔(0<i→i+1<r.length→y.out∈thr l y.element y.in_)):=by
    unfold qph
    by_cases hi:0<i
    ·rw[if_pos (dpos (by omega))]
     by_cases hh:i+1<r.length
     ·rw[if_pos (dpos (by omega))]
      simp only[qac hy,qaa]
      rw[qjg N (by omega),qaa,qmU N (by omega) (by omega),qaa]
      exact ⟨_,rfl,by rw[qmp];simp[hi,hh]⟩
     ·rw[if_neg (dneg (by omega))]
      exact ⟨false,rfl,by simp[hh]⟩
    ·rw[if_neg (dneg (by omega))]
     exact ⟨false,rfl,by simp[hi]⟩
   obtain ⟨b2,r2,s2⟩:=d2
   obtain ⟨b3,r3,s3⟩:=d3
   obtain ⟨b4,r4,s4⟩:=d4
   rw[r2,qaa]
   cases b2 with
   |true=>
    have hb:¬good i y:=fun hh=>by have:=s2.2 hh.1;cases this
    rw[if_pos rfl, @decide_eq_true _ (Classical.propDecidable _) hb,if_pos rfl]
   |false=>
    rw[if_neg (by simp),r3,qaa]
    cases b3 with
    |true=>
     have hb:¬good i y:=fun hh=>by have:=s3.2 hh.2.1;cases this
     rw[if_pos rfl, @decide_eq_true _ (Classical.propDecidable _) hb,if_pos rfl]
    |false=>
     rw[if_neg (by simp),r4,qaa]
     cases b4 with
     |true=>
      have hb:¬good i y:=fun hh=>by have:=s4.2 hh.2.2;cases this
      rw[if_pos rfl, @decide_eq_true _ (Classical.propDecidable _) hb,if_pos rfl]
     |false=>
      have hb:¬¬good i y:=fun hh=>hh ⟨s2.1 rfl,s3.1 rfl,s4.1 rfl⟩
      rw[if_neg (by simp), @decide_eq_false _ (Classical.propDecidable _) hb,if_neg (by simp),qad,w64s (by omega)]) r.length N 0 (by omega) (by omega)
  simp only[Int.natCast_zero,List.drop_zero] at hloop
  rw[hloop,qaa]
  have hiff:RtP l r↔∀(j:Nat) (y:Visit),r[j]? =some y→good j y:=by
   constructor
   ·rintro ⟨_,hw,hd⟩ j y hj
    have hlt:=(List.getElem?_eq_some_iff.1 hj).1
    refine ⟨?_,fun hh=> ?_,fun h1 h2=>hw.mid j y h1 h2 hj⟩
    ·have hin:0≤y.element∧y.element<l.length:=by
      cases j with
      |zero=>
       obtain ⟨a,x,hx,_⟩:=(hw.st y hj).1
       have:=(List.getElem?_eq_some_iff.1 hx).1
       omega
      |succ j=>
       have:=qaS (hw.ins (by omega) hj)
       exact ⟨this.1,this.2.1⟩
     refine ⟨hin.1,hin.2,fun hm=> ?_⟩
     unfold elems at hm hd
     obtain ⟨z,hz,hze⟩:=List.mem_map.1 hm
     obtain ⟨i,hi⟩:=List.getElem?_of_mem hz
     rw[List.getElem?_take] at hi
     split at hi
     ·rename_i hij
      obtain ⟨hil,hi⟩:=List.getElem?_eq_some_iff.1 hi
      obtain ⟨_,hj⟩:=List.getElem?_eq_some_iff.1 hj
      have:=List.pairwise_iff_getElem.1 hd i j (by simpa using hil) (by simpa using hlt) hij
      rw[List.getElem_map,List.getElem_map,hi,hj] at this
      exact this hze
     ·cases hi
    ·have hx:=qak hh
     have hgd:nx j=r[j+1]:=by show r.getD (j+1) (Visit.mk 0 0 0)=_;simp[List.getD,hx]
     rw[hgd]
     obtain ⟨a,b,c⟩:=hw.step j y _ hj hx
     exact ⟨hw.outs hh hj,a,c⟩
   ·intro hh
    refine ⟨h0,⟨by omega,fun x hx=> ?_,fun x hx=> ?_,fun i x y hx hy=> ?_,fun i x hi hi2 hx=>(hh i x hx).2.2 hi hi2⟩, ?_⟩
    ·have e:=st' hx
     have:=(hh 0 x hx).2.1 (by omega)
     rw[e] at this⊢
     exact ⟨q0.1,q0.2.2.1,this.1⟩
    ·rw[en' hx];exact ⟨q0.2.1,q0.2.2.2⟩
    ·have hlt:=(List.getElem?_eq_some_iff.1 hy).1
     have:=(hh i x hx).2.1 hlt
     have hgd:nx i=y:=by show r.getD (i+1) (Visit.mk 0 0 0)=_;simp[List.getD,hy]
     rw[hgd] at this
     exact ⟨this.2.1,(hh (i+1) y hy).1.1,this.2.2⟩
    ·unfold elems
     refine List.pairwise_iff_getElem.2 fun i j hi hj hij=> ?_
     rw[List.getElem_map,List.getElem_map]
     intro he
     have hjr:j<r.length:=by simpa using hj
     have hir:i<r.length:=by simpa using hi
     refine (hh j r[j] (qak hjr)).1.2.2 ?_
     rw[←he]
     unfold elems
     refine List.mem_map.2 ⟨r[i],List.mem_of_getElem? (i:=i) ?_,rfl⟩
     rw[List.getElem?_take,if_pos hij,qak hir]
  have hres:=qbH (p:=fun i y=> @decide (¬good i y) (Classical.propDecidable _)) (out:=fun _ _=>false) (l:=r) (i:=0)
  cases hr2:res (fun i y=> @decide (¬good i y) (Classical.propDecidable _)) (fun _ _=>false) 0 r with
  |inl u=>
   refine ⟨true,rfl, ?_⟩
   simp only[true_iff]
   refine hiff.2 fun j y hj=> ?_
   have:=(hres.1 hr2) j y hj
   rw[Nat.zero_add] at this
   exact Classical.not_not.1 (@of_decide_eq_false _ (Classical.propDecidable _) this)
  |inr b=>
   have hbf:b=false:=by
    have key:∀(e:List Visit) (i:Nat) (b:Bool),res (fun i y=> @decide (¬good i y) (Classical.propDecidable _)) (fun _ _=>false) i e= .inr b→b=false:=by
     intro e
     induction e with
     |nil=>intro i b h;cases h
     |cons y e ih=>
      intro i b h
      rw[res] at h
      split at h
      ·cases h;rfl
      ·exact ih _ _ h
    exact key _ _ _ hr2
   subst hbf
   refine ⟨false,rfl, ?_⟩
   simp only[Bool.false_eq_true,false_iff]
   intro hw
   have:=hres.2 fun j y hj=>by
    rw[Nat.zero_add]
    exact @decide_eq_false _ (Classical.propDecidable _) (fun hh=>hh (hiff.1 hw j y hj))
   rw[this] at hr2;cases hr2
end Go.W
end
section
set_option linter.unusedVariables false
set_option linter.unusedSimpArgs false
namespace Go.W
open Go.AM
def cmpR (a b:Int):Int:=if a<b then -1 else if b<a then 1 else 0
theorem qr4 (N:Nat) (a b:Int):zaX N a b=some (cmpR a b):=by
 unfold zaX zbI cmpR
 simp only[qad,bne_self_eq_false,qaa,Bool.false_eq_true,if_false]
 by_cases h:a<b
 ·rw[if_pos (dpos h),if_pos h]
 ·rw[if_neg (dneg h),if_neg h]
  by_cases h2:b<a
  ·rw[if_pos (dpos h2),if_pos h2]
  ·rw[if_neg (dneg h2),if_neg h2]
theorem qsL (N:Nat) (hN:4≤N) (a b c:Int):zcK N [a,b,c]=some (if a≠0 then a else if b≠0 then b else c):=by
 obtain ⟨M,rfl⟩:∃M,N=M+4:=⟨N - 4,by omega⟩
 unfold zcK
 have hl:(([a,b,c]:List Int).length:Int)=3:=rfl
 have g0:getI [a,b,c] 0=some a:=rfl
 have g1:getI [a,b,c] 1=some b:=rfl
 have g2:getI [a,b,c] 2=some c:=rfl
 have w0:IntKind.wrap .i64 (0+1)=1:=by rw[w64]<;>omega
 have w1:IntKind.wrap .i64 (1+1)=2:=by rw[w64]<;>omega
 have w2:IntKind.wrap .i64 (2+1)=3:=by rw[w64]<;>omega
 have d0:decide ((0:Int)<3)=true:=rfl
 have d1:decide ((1:Int)<3)=true:=rfl
 have d2:decide ((2:Int)<3)=true:=rfl
 have d3:decide ((3:Int)<3)=false:=rfl
 rw[hl,qjC,d0,if_pos rfl,g0,qaa]
 by_cases ha:a=0
 ·subst ha
  rw[if_neg (by simp),w0,qjC,d1,if_pos rfl,g1,qaa]
  by_cases hb:b=0
  ·subst hb
   rw[if_neg (by simp),w1,qjC,d2,if_pos rfl,g2,qaa]
   by_cases hc:c=0
   ·subst hc
    rw[if_neg (by simp),w2,qjC,d3,if_neg (by simp)]
    rfl
   ·rw[if_pos (by simpa using hc)];rfl
  ·rw[if_pos (by simpa using hb)];simp[qaa,hb]
 ·rw[if_pos (by simpa using ha)];simp[qaa,ha]
def qdQ (v1 e1 n1 v2 e2 n2:Int):Prop:=v1<v2∨(v1=v2∧(e1<e2∨(e1=e2∧n1<n2)))
instance (v1 e1 n1 v2 e2 n2:Int):Decidable (qdQ v1 e1 n1 v2 e2 n2):=by unfold qdQ;infer_instance
theorem qiM {a b:Int} (h:a<b):cmpR a b= -1:=if_pos h
theorem qiL {a b:Int} (h:b<a):cmpR a b=1:=by unfold cmpR;rw[if_neg (by omega),if_pos h]
theorem qiK (a:Int):cmpR a a=0:=by unfold cmpR;rw[if_neg (by omega),if_neg (by omega)]
theorem ql8 (v1 e1 n1 v2 e2 n2:Int):(if cmpR v1 v2≠0 then cmpR v1 v2 else if cmpR e1 e2≠0 then cmpR e1 e2 else cmpR n1 n2)<0↔qdQ v1 e1 n1 v2 e2 n2:=by
 unfold qdQ
 rcases Int.lt_trichotomy v1 v2 with h|h|h
 ·rw[qiM h];simp[h]
 ·subst h
  rw[qiK]
  simp only[ne_eq,not_true_eq_false,if_false,Int.lt_irrefl,false_or,true_and]
  rcases Int.lt_trichotomy e1 e2 with h|h|h
  ·rw[qiM h];simp[h]
  ·subst h
   rw[qiK]
   simp only[ne_eq,not_true_eq_false,if_false,Int.lt_irrefl,false_or,true_and]
   rcases Int.lt_trichotomy n1 n2 with h|h|h
   ·rw[qiM h];simp[h]
   ·subst h;rw[qiK];simp
   ·rw[qiL h];simp;omega
  ·rw[qiL h];simp;omega
 ·rw[qiL h];simp;omega
structure NxI (l:List PlantElement) (d:Dst) (e:Int) (q:List Int) (out:Int) (best:Place) (found:Bool):Prop where
 no:found=false→∀m∈q,qae d (beh l e m)=none
 yes:found=true→out∈q∧best=beh l e out∧∃v,qae d best=some v∧∀m∈q,∀w,qae d (beh l e m)=some w→¬qdQ w (nbr l e m) m v (nbr l e out) out
theorem qh7 (N:Nat) {l:List PlantElement} (hN:l.length+10≤N) (hl:l.length≤1000000) {d:Dst} {e:Int} {o:List Int} (ho:o.length≤1000):∀(k n i:Nat) (out:Int) (best:Place) (found:Bool),k<n→i+k=o.length→NxI l d e (o.take i) out best found→
  ∃out' best' found',qjF N l d e o o.length n out best found i=some (out',best',found')∧NxI l d e o out' best' found'
 |k,0,i,out,best,found,hn,_,_=>by omega
 |0,n+1,i,out,best,found,hn,hi,hI=>by
  obtain rfl:i=o.length:=by omega
  rw[qjF,if_neg (dneg (by omega))]
  rw[List.take_length] at hI
  exact ⟨_,_,_,rfl,hI⟩
 |k+1,n+1,i,out,best,found,hn,hi,hI=>by
  have hlt:i<o.length:=by omega
  have ha:=qak hlt
  rw[qjF,if_pos (dpos (by omega))]
  have htk:o.take (i+1)=o.take i++[o[i]]:=qaW ha
  have key:∃out' best' found',qpd N l d e out best found o i=some (out',best',found')∧NxI l d e (o.take (i+1)) out' best' found':=by
   unfold qpd
   rw[qac ha,qaa,qgI N (by omega) hl,qaa,qad,qad]
   have hb:Place.mk (nbr l e o[i]) o[i]=beh l e o[i]:=rfl
   rw[hb]
   cases hg:qae d (beh l e o[i]) with
   |none=>
    refine ⟨out,best,found,by simp,⟨fun hf m hm=> ?_,fun hf=> ?_⟩⟩
    ·rw[htk] at hm
     rcases List.mem_append.1 hm with hm|hm
     ·exact hI.no hf m hm
     ·simp at hm;subst hm;exact hg
    ·obtain ⟨a,b,v,c,dd⟩:=hI.yes hf
     refine ⟨by rw[htk];exact List.mem_append_left _ a,b,v,c,fun m hm w hw=> ?_⟩
     rw[htk] at hm
     rcases List.mem_append.1 hm with hm|hm
     ·exact dd m hm w hw
     ·simp at hm;subst hm;rw[hg] at hw;cases hw
   |some w=>
    simp only[Option.isSome_some,Bool.not_true,Bool.false_eq_true,if_false,Option.getD_some]
    unfold qrQ
    have taken:(found=true→∀v,qae d best=some v→qdQ w (nbr l e o[i]) o[i] v best.element out)→NxI l d e (o.take (i+1)) o[i] (beh l e o[i]) true:=by
     intro hlex
     refine ⟨fun hf=>(by cases hf),fun _=>⟨by rw[htk];exact List.mem_append_right _ (List.mem_singleton.2 rfl),rfl,w,hg,fun m hm w' hw'=> ?_⟩⟩
     rw[htk] at hm
     rcases List.mem_append.1 hm with hm|hm
     ·cases found with
      |false=>have:=hI.no rfl m hm;rw[hw'] at this;cases this
      |true=>
       obtain ⟨a,b,v,c,dd⟩:=hI.yes rfl
       have h1:=hlex rfl v c
       have h2:=dd m hm w' hw'
       rw[b] at h1
       have hbe:(beh l e out).element=nbr l e out:=rfl
       rw[hbe] at h1
       unfold qdQ at*
       omega
     ·simp at hm;subst hm;rw[hg] at hw';cases hw'
      unfold qdQ;omega
    cases found with
    |false=>
     simp only[Bool.not_false,if_true,qaa]
     exact ⟨_,_,_,rfl,taken (fun h=>by cases h)⟩
    |true=>
     obtain ⟨a,b,v,c,dd⟩:=hI.yes rfl
     rw[if_neg (by simp),c]
     simp only[qad,Option.getD_some,qr4,qaa]
     rw[qsL N (by omega),qaa,qaa]
     have hbe:(beh l e o[i]).element=nbr l e o[i]:=rfl
     by_cases hlex:qdQ w (nbr l e o[i]) o[i] v best.element out
     ·rw[decide_eq_true ((ql8 w (beh l e o[i]).element o[i] v best.element out).2 (by rw[hbe];exact hlex)),if_pos rfl]
      exact ⟨_,_,_,rfl,taken fun _ v' hv'=>by rw[c] at hv';cases hv';exact hlex⟩
     ·rw[decide_eq_false (fun hh=>hlex (by rw[←hbe];exact (ql8 w (beh l e o[i]).element o[i] v best.element out).1 hh)),if_neg (by simp)]
      refine ⟨out,best,true,rfl,⟨fun hf=>(by cases hf),fun _=>⟨by rw[htk];exact List.mem_append_left _ a,b,v,c,fun m hm w' hw'=> ?_⟩⟩⟩
      rw[htk] at hm
      rcases List.mem_append.1 hm with hm|hm
      ·exact dd m hm w' hw'
      ·simp at hm;subst hm;rw[hg] at hw';cases hw'
       rw[b] at hlex
       exact hlex
  obtain ⟨out',best',found',g1,g2⟩:=key
  rw[g1,qaa]
  simp only[]
  rw[w64s (by omega)]
  exact qh7 N hN hl ho k n (i+1) _ _ _ (by omega) (by omega) g2
theorem qn4 (N:Nat) {l:List PlantElement} (hN:l.length+1010≤N) (hl:l.length≤1000000) (d:Dst) (e:Int) {o:List Int} (ho:o.length≤1000):∃out best found,zcU N l d e o=some (out,best,found)∧NxI l d e o out best found:=by
 unfold zcU
 obtain ⟨out,best,found,h1,h2⟩:=qh7 N (l:=l) (d:=d) (e:=e) (by omega) hl ho o.length N 0 0 (Place.mk 0 0) false (by omega) (by omega) ⟨fun _ m hm=>by simp at hm,fun h=>by cases h⟩
 have h1:qjF N l d e o o.length N 0 (Place.mk 0 0) false 0=some (out,best,found):=h1
 rw[h1,qaa]
 exact ⟨_,_,_,rfl,h2⟩
def qa7 (l:List PlantElement) (e n:Int):List Int:=if n<0 then eI l e else thr l e n
theorem qib (l:List PlantElement) (e n:Int):(qa7 l e n).length≤3:=by
 unfold qa7
 split
 ·exact qbd l e
 ·exact qcC l e n
def Bst (l:List PlantElement) (g:Int→Int→Option Int) (e:Int) (o:List Int) (out:Int):Prop:=out∈o∧∃v,g (nbr l e out) out=some v∧∀m∈o,∀w,g (nbr l e m) m=some w→¬qdQ w (nbr l e m) m v (nbr l e out) out
theorem Bst.uniq {l:List PlantElement} {g:Int→Int→Option Int} {e:Int} {o:List Int} {a b:Int} (h:Bst l g e o a) (k:Bst l g e o b):a=b:=by
 obtain ⟨h1,v,h2,h3⟩:=h
 obtain ⟨k1,w,k2,k3⟩:=k
 have p:=h3 b k1 w k2
 have q:=k3 a h1 v h2
 unfold qdQ at p q
 omega
structure Pth (l:List PlantElement) (g:Int→Int→Option Int) (fr:Int) (r:List Visit):Prop where
 best:∀(i:Nat) v,i+1<r.length→r[i]? =some v→Bst l g v.element (qa7 l v.element v.in_) v.out
 nz:∀(i:Nat) v,0<i→i+1<r.length→r[i]? =some v→g v.element v.in_≠some 0
 ne:1≤r.length
 st:∀v,r[0]? =some v→v.element=fr∧v.in_= -1
 step:∀(i:Nat) v w,r[i]? =some v→r[i+1]? =some w→w.in_=v.out∧0≤w.element∧w.element=nbr l v.element v.out∧v.out∈eI l v.element
 mid:∀(i:Nat) v,0<i→i+1<r.length→r[i]? =some v→v.out∈thr l v.element v.in_
theorem Pth.add {l:List PlantElement} {g:Int→Int→Option Int} {fr:Int} {r:List Visit} {v:Visit} {out:Int} (h:Pth l g fr r) (hv:r[r.length - 1]? =some v) (h0:0≤nbr l v.element out) (ho:out∈eI l v.element) (ht:1<r.length→out∈thr l v.element v.in_) (hb:Bst l g v.element (qa7 l v.element v.in_) out) (hz:1<r.length→g v.element v.in_≠some 0):
  Pth l g fr (r.set (r.length - 1) (Visit.mk v.element v.in_ out)++[Visit.mk (nbr l v.element out) out (-1)]):=by
 have hne:=h.ne
 have hlen:(r.set (r.length - 1) (Visit.mk v.element v.in_ out)).length=r.length:=List.length_set
 have get:∀(i:Nat) x,(r.set (r.length - 1) (Visit.mk v.element v.in_ out)++[Visit.mk (nbr l v.element out) out (-1)])[i]? =some x→(i+1<r.length∧r[i]? =some x)∨(i+1=r.length∧x=Visit.mk v.element v.in_ out)∨(i=r.length∧x=Visit.mk (nbr l v.element out) out (-1)):=by
  intro i x hx
  by_cases hi:i<r.length
  ·rw[List.getElem?_append_left (by omega),List.getElem?_set] at hx
   by_cases he:r.length - 1=i
   ·rw[if_pos he,if_pos (by omega)] at hx
    exact .inr (.inl ⟨by omega,by cases hx;rfl⟩)
   ·rw[if_neg he] at hx
    exact .inl ⟨by omega,hx⟩
  ·rw[List.getElem?_append_right (by omega)] at hx
   have:=(List.getElem?_eq_some_iff.1 hx).1
   simp at this
   have hi2:i=r.length:=by omega
   subst hi2
   rw[hlen] at hx
   simp at hx
   exact .inr (.inr ⟨rfl,hx.symm⟩)
 refine ⟨fun i x hi2 hx=> ?_,fun i x hi hi2 hx=> ?_,by simp,fun x hx=> ?_,fun i x y hx hy=> ?_,fun i x hi hi2 hx=> ?_⟩
 ·simp only[List.length_append,List.length_set,List.length_cons,List.length_nil] at hi2
  rcases get i x hx with ⟨a,b⟩|⟨a,rfl⟩|⟨a,_⟩
  ·exact h.best i x a b
  ·exact hb
  ·omega
 ·simp only[List.length_append,List.length_set,List.length_cons,List.length_nil] at hi2
  rcases get i x hx with ⟨a,b⟩|⟨a,rfl⟩|⟨a,_⟩
  ·exact h.nz i x hi a b
  ·exact hz (by omega)
  ·omega
 ·rcases get 0 x hx with ⟨_,a⟩|⟨a,rfl⟩|⟨a,_⟩
  ·exact h.st x a
  ·have:r.length - 1=0:=by omega
   rw[this] at hv
   have:=h.st v hv
   exact this
  ·omega
 ·rcases get i x hx with ⟨a,b⟩|⟨a,rfl⟩|⟨a,_⟩
  ·rcases get (i+1) y hy with ⟨c,dd⟩|⟨c,rfl⟩|⟨c,_⟩
   ·exact h.step i x y b dd
   ·have hv':r[i+1]? =some v:=by rw[←hv];congr 1;omega
    exact h.step i x v b hv'
   ·omega
  ·rcases get (i+1) y hy with ⟨c,_⟩|⟨c,_⟩|⟨c,rfl⟩
   ·omega
   ·omega
   ·exact ⟨rfl,h0,rfl,ho⟩
  ·rcases get (i+1) y hy with ⟨c,_⟩|⟨c,_⟩|⟨c,_⟩<;>omega
 ·simp only[List.length_append,List.length_set,List.length_cons,List.length_nil] at hi2
  rcases get i x hx with ⟨a,b⟩|⟨a,rfl⟩|⟨a,_⟩
  ·exact h.mid i x hi (by omega) b
  ·exact ht (by omega)
  ·omega
theorem Pth.same {l:List PlantElement} {g:Int→Int→Option Int} {fr:Int} {r1 r2:List Visit} (h1:Pth l g fr r1) (h2:Pth l g fr r2) (two:2≤r2.length) (hz:∀z,r2[r2.length - 1]? =some z→g z.element z.in_=some 0):
  ∀i,i<r1.length→i<r2.length∧∀v1 v2,r1[i]? =some v1→r2[i]? =some v2→v1.element=v2.element∧v1.in_=v2.in_∧(i+1<r1.length→i+1<r2.length∧v1.out=v2.out):=by
 have nxt:∀(i:Nat) v1 v2,r1[i]? =some v1→r2[i]? =some v2→v1.element=v2.element→v1.in_=v2.in_→i+1<r1.length→i+1<r2.length∧v1.out=v2.out:=by
  intro i v1 v2 a b e1 e2 hi
  have hi2:=(List.getElem?_eq_some_iff.1 b).1
  have hlt:i+1<r2.length:=by
   by_cases hh:i+1=r2.length
   ·have e:i=r2.length - 1:=by omega
    have b':=b
    rw[e] at b'
    have:=hz v2 b'
    have hne:=h1.nz i v1 (by omega) hi a
    rw[e1,e2] at hne
    exact absurd this hne
   ·omega
  refine ⟨hlt, ?_⟩
  have p:=h1.best i v1 hi a
  have q:=h2.best i v2 hlt b
  rw[e1,e2] at p
  exact p.uniq q
 intro i
 induction i with
 |zero=>
  intro hi
  refine ⟨by omega,fun v1 v2 a b=> ?_⟩
  obtain ⟨p1,p2⟩:=h1.st v1 a
  obtain ⟨q1,q2⟩:=h2.st v2 b
  have e1:v1.element=v2.element:=by rw[p1,q1]
  have e2:v1.in_=v2.in_:=by rw[p2,q2]
  exact ⟨e1,e2,fun hh=>nxt 0 v1 v2 a b e1 e2 hh⟩
 |succ i ih=>
  intro hi
  obtain ⟨g1,g2⟩:=ih (by omega)
  have a:=qak (xs:=r1) (i:=i) (by omega)
  have b:=qak (xs:=r2) (i:=i) g1
  obtain ⟨e1,e2,e3⟩:=g2 _ _ a b
  obtain ⟨e4,e5⟩:=e3 hi
  refine ⟨e4,fun v1 v2 c dd=> ?_⟩
  obtain ⟨p1,p2,p3,p4⟩:=h1.step i _ v1 a c
  obtain ⟨q1,q2,q3,q4⟩:=h2.step i _ v2 b dd
  have f1:v1.element=v2.element:=by rw[p3,q3,e1,e5]
  have f2:v1.in_=v2.in_:=by rw[p1,q1,e5]
  exact ⟨f1,f2,fun hh=>nxt (i+1) v1 v2 c dd f1 f2 hh⟩
theorem Pth.once {l:List PlantElement} {g:Int→Int→Option Int} {fr:Int} {r1 r2:List Visit} (h1:Pth l g fr r1) (h2:Pth l g fr r2) (two:2≤r2.length) (hz:∀z,r2[r2.length - 1]? =some z→g z.element z.in_=some 0) (hd:(elems r2).Nodup):(elems r1).Nodup:=by
 have s1:=h1.same h2 two hz
 have:elems r1=(elems r2).take r1.length:=by
  refine List.ext_getElem? fun i=> ?_
  unfold elems
  rw[List.getElem?_take]
  by_cases hi:i<r1.length
  ·have a:=qak (xs:=r1) (i:=i) hi
   have b:=qak (xs:=r2) (i:=i) (s1 i hi).1
   rw[if_pos hi,List.getElem?_map,List.getElem?_map,a,b]
   simp only[Option.map_some]
   rw[((s1 i hi).2 _ _ a b).1]
  ·rw[if_neg hi,List.getElem?_map,List.getElem?_eq_none (by omega)]
   rfl
 rw[this]
 exact hd.sublist (List.take_sublist _ _)
theorem qhS (N:Nat) (hN:4000≤N) {l:List PlantElement} (hP:PlOk l) {d:Dst} {fr to:Int} (hD:DI l to d):∀(k n:Nat) (r:List Visit) (o:List Int) (v:Visit),k<n→Pth l (fun i n=>qae d (Place.mk i n)) fr r→r[r.length - 1]? =some v→
  ((r.length=1∧o=eI l fr∧d.length≤k)∨(1<r.length∧o=thr l v.element v.in_∧∃w,qae d (Place.mk v.element v.in_)=some w∧w≠0∧w≤k))→r.length+k≤2000→
  (∃r',qlj N l d n r o=some (.inl r')∧Pth l (fun i n=>qae d (Place.mk i n)) fr r'∧2≤r'.length∧(∃z,r'[r'.length - 1]? =some z∧z.element=to∧z.out= -1∧qae d (Place.mk z.element z.in_)=some 0)∧r'.length≤2001∧∀m∈o,∀w,qae d (beh l v.element m)=some w→(r'.length:Int)≤r.length+1+w)∨
  (qlj N l d n r o=some (.inr 15)∧r.length=1∧∀m∈o,qae d (beh l v.element m)=none)
 |k,0,r,o,v,hn,_,_,_,_=>by omega
 |k,n+1,r,o,v,hn,hPt,hv,hinv,hlen=>by
  have hne:=hPt.ne
  have hll:=hP.len
  have hdl:=hD.len
  have hw:IntKind.wrap .i64 ((r.length:Int) - 1)=((r.length - 1:Nat):Int):=by rw[w64 (by omega) (by omega)];omega
  have ho3:o.length≤3:=by
   rcases hinv with ⟨_,rfl,_⟩|⟨_,rfl,_⟩
   ·exact qbd l fr
   ·exact qcC _ _ _
  rw[qlj,hw,qac hv]
  simp only[qaa]
  obtain ⟨out,best,found,h1,h2⟩:=qn4 N (l:=l) (by omega) (by omega) d v.element (o:=o) (by omega)
  rw[h1,qaa]
  simp only[]
  cases found with
  |false=>
   simp only[Bool.not_false,if_true]
   refine .inr ⟨trivial, ?_,h2.no rfl⟩
   rcases hinv with ⟨a,_⟩|⟨_,rfl,w,hw1,hw2,_⟩
   ·exact a
   ·obtain ⟨_,m,hm1,hm2⟩:=hD.pos _ w hw1 hw2
    have:=h2.no rfl m hm1
    rw[this] at hm2;cases hm2
  |true=>
   obtain ⟨q1,q2,v1,q3,q4⟩:=h2.yes rfl
   rw[if_neg (by simp),qad]
   have hkey:=hD.key best v1 q3
   rw[q2] at hkey
   have h0:0≤nbr l v.element out:=(qaS hkey).1
   have hv1:=hD.nonneg q3
   have hv1l:=hD.val q3
   have hout:out∈eI l v.element:=by
    rcases hinv with ⟨a,rfl,_⟩|⟨_,rfl,_⟩
    ·have:r.length - 1=0:=by omega
     rw[this] at hv
     rw[(hPt.st v hv).1];exact q1
    ·exact (qdZ q1).2
   have hPt':=hPt.add hv h0 hout (fun hh=>by
    rcases hinv with ⟨a,_⟩|⟨_,rfl,_⟩
    ·omega
    ·exact q1) (by
    have ho:o=qa7 l v.element v.in_:=by
     unfold qa7
     rcases hinv with ⟨a,b,_⟩|⟨_,b,w,hw1,_⟩
     ·have e0:r.length - 1=0:=by omega
      rw[e0] at hv
      obtain ⟨c1,c2⟩:=hPt.st v hv
      rw[c1,c2,if_pos (by omega)];exact b
     ·have hk:=hD.key _ _ hw1
      obtain ⟨_,_,x,hx,hm⟩:=qaS hk
      have:=((qaq (hP.snd x (List.mem_of_getElem? hx))).2.1 _ hm).1
      rw[if_neg (by simpa using this)];exact b
    rw[←ho]
    exact ⟨q1,v1,by rw[q2] at q3;exact q3,q4⟩) (fun hh=>by
    rcases hinv with ⟨a,_⟩|⟨_,_,w,hw1,hw2,_⟩
    ·omega
    ·rw[hw1];intro hc;cases hc;exact hw2 rfl)
   have hset:(r.set (((r.length - 1:Nat):Int)).toNat (Visit.mk v.element v.in_ out))=r.set (r.length - 1) (Visit.mk v.element v.in_ out):=by rw[Int.toNat_natCast]
   have hb1:best.element=nbr l v.element out:=by rw[q2];rfl
   have hb2:best.in_=out:=by rw[q2];rfl
   rw[hset,hb1,hb2,qap (by simp;omega),qaa,qad,q3]
   simp only[Option.getD_some]
   have hlen':(r.set (r.length - 1) (Visit.mk v.element v.in_ out)++[Visit.mk (nbr l v.element out) out (-1)]).length=r.length+1:=by simp
   have hlast:(r.set (r.length - 1) (Visit.mk v.element v.in_ out)++[Visit.mk (nbr l v.element out) out (-1)])[r.length+1 - 1]? =some (Visit.mk (nbr l v.element out) out (-1)):=by
    rw[List.getElem?_append_right (by simp)];simp
   have hmin:∀m∈o,∀w,qae d (beh l v.element m)=some w→v1≤w:=by
    intro m hm w hw
    have:=q4 m hm w hw
    unfold qdQ at this
    omega
   by_cases hz:v1=0
   ·rw[if_pos (by simpa using hz)]
    refine .inl ⟨_,rfl,hPt',by omega,⟨_,by rw[hlen'];exact hlast, ?_,rfl, ?_⟩,by omega,fun m hm w hw=> ?_⟩
    ·have:=hD.zero best (by rw[q3,hz])
     rw[hb1] at this;exact this
    ·have:best=Place.mk (nbr l v.element out) out:=q2
     rw[←this,q3,hz]
    ·have:=hmin m hm w hw
     rw[hlen'];omega
   ·rw[if_neg (by simpa using hz),qi9 N (by omega),qaa]
    have hk1:v1+1≤k:=by
     rcases hinv with ⟨_,_,a⟩|⟨_,rfl,w,hw1,hw2,hw3⟩
     ·omega
     ·obtain ⟨_,m,hm1,hm2⟩:=hD.pos _ w hw1 hw2
      have:=hmin m hm1 _ hm2
      omega
    cases k with
    |zero=>omega
    |succ k=>
     have hbest:best=Place.mk (nbr l v.element out) out:=q2
     have ih:=qhS N hN hP hD k n (r.set (r.length - 1) (Visit.mk v.element v.in_ out)++[Visit.mk (nbr l v.element out) out (-1)]) (thr l (nbr l v.element out) out) (Visit.mk (nbr l v.element out) out (-1)) (by omega) hPt' (by rw[hlen'];exact hlast)
      (.inr ⟨by omega,rfl,v1,by rw[←hbest];exact q3,hz,by omega⟩) (by omega)
     rcases ih with ⟨r',g1,g2,g3,g4,g5,g6⟩|⟨g1,g2,_⟩
     ·refine .inl ⟨r',g1,g2,g3,g4,g5,fun m hm w hw=> ?_⟩
      obtain ⟨_,m0,hm1,hm2⟩:=hD.pos best v1 q3 hz
      rw[hb1,hb2] at hm1
      rw[hb1] at hm2
      have:=g6 m0 hm1 _ hm2
      have:=hmin m hm w hw
      omega
     ·omega
theorem qnL (N:Nat) (hN:4000≤N) {l:List PlantElement} (hP:PlOk l) (fr to:Int):
  (zcT N l fr to=some ([],2)∧(¬trk l fr∨¬trk l to∨fr=to))∨(trk l fr∧trk l to∧fr≠to∧∃d,DI l to d∧(∀m∈eI l to,qae d (Place.mk to m)=some 0)∧Cl l d∧
   ((zcT N l fr to=some ([],15)∧∀m∈eI l fr,qae d (beh l fr m)=none)∨(zcT N l fr to=some ([],17)∧∃r,Pth l (fun i n=>qae d (Place.mk i n)) fr r∧2≤r.length∧(∀z,r[r.length - 1]? =some z→qae d (Place.mk z.element z.in_)=some 0∧z.out= -1)∧¬(elems r).Nodup)∨∃r,zcT N l fr to=some (r,0)∧(Pth l (fun i n=>qae d (Place.mk i n)) fr r∧∀z,r[r.length - 1]? =some z→qae d (Place.mk z.element z.in_)=some 0∧z.out= -1)∧RtP l r∧r.length≤2001∧(∀v,r[0]? =some v→v.element=fr)∧(∀v,r[r.length - 1]? =some v→v.element=to)∧∀m∈eI l fr,∀w,qae d (beh l fr m)=some w→(r.length:Int)≤2+w)):=by
 unfold zcT
 rw[hP.p N (by omega),qaa,if_neg (by simp)]
 have h0:∃b,qpc N l fr to=some b∧(b=false↔trk l fr∧trk l to∧fr≠to):=by
  unfold qpc
  simp only[qja,qaa]
  exact qaM qd8 (qaM qd8 ⟨_,rfl,by simp⟩)
 obtain ⟨b,h1,h2⟩:=h0
 rw[h1,qaa]
 cases b with
 |true=>
  rw[if_pos rfl]
  refine .inl ⟨rfl, ?_⟩
  by_cases a:trk l fr
  ·by_cases c:trk l to
   ·right;right
    by_cases e:fr=to
    ·exact e
    ·have:=h2.2 ⟨a,c,e⟩;cases this
   ·exact .inr (.inl c)
  ·exact .inl a
 |false=>
  rw[if_neg (by simp)]
  obtain ⟨t1,t2,t3⟩:=h2.1 rfl
  obtain ⟨d,g1,g2,g3,g4⟩:=qqo N (by omega) (to:=to) hP
  rw[g1,qaa,qew,qaa]
  have hdl:=g2.len
  have hll:=hP.len
  refine .inr ⟨t1,t2,t3,d,g2,g3,g4, ?_⟩
  have hl:=qhS N hN hP (fr:=fr) g2 d.length N [Visit.mk fr (-1) 0] (eI l fr) (Visit.mk fr (-1) 0) (by omega)
   ⟨fun i v hi=>by simp at hi,fun i v hi hi2=>by simp at hi2,by simp,fun v hv=>by simp at hv;subst hv;exact ⟨rfl,rfl⟩,fun i v w hv hw=>by simp at hw,fun i v hi hi2 hv=>by simp at hi2⟩ (by simp) (.inl ⟨by simp,rfl,by omega⟩) (by simp;omega)
  rcases hl with ⟨r',q1,q2,q3,⟨z,q4,q5,q6,q10⟩,q7,q8⟩|⟨q1,_,q9⟩
  ·rw[q1,qaa]
   simp only[]
   obtain ⟨c,c1,c2⟩:=qkE N (r:=r') (by omega) (by omega)
   rw[c1,qaa]
   cases c with
   |true=>
    right;left;rw[if_pos rfl]
    refine ⟨rfl,r',q2,q3,fun y hy=> ?_,fun hd=>by have:=c2.2 hd;cases this⟩
    rw[q4] at hy;cases hy;exact ⟨q10,q6⟩
   |false=>
    right;right
    rw[if_neg (by simp)]
    have hfirst:=qak (xs:=r') (i:=0) (by omega)
    have hz':∀v,r'[r'.length - 1]? =some v→v=z:=fun v hv=>by rw[q4] at hv;cases hv;rfl
    refine ⟨r',rfl,⟨q2,fun y hy=>by rw[q4] at hy;cases hy;exact ⟨q10,q6⟩⟩,⟨hP.err,⟨q3,fun v hv=> ?_,fun v hv=> ?_,fun i v w hv hw=> ?_,q2.mid⟩,c2.1 rfl⟩,q7,fun v hv=>(q2.st v hv).1,fun v hv=>by rw[hz' v hv];exact q5,fun m hm w hw=>by have:=q8 m hm w hw;simp at this;omega⟩
    ·obtain ⟨a,b⟩:=q2.st v hv
     have:=q2.step 0 v _ hv (qak (xs:=r') (i:=1) (by omega))
     exact ⟨by rw[a];exact t1,b,this.2.2.2⟩
    ·rw[hz' v hv,q5];exact ⟨t2,q6⟩
    ·obtain ⟨a,b,c,dd⟩:=q2.step i v w hv hw
     exact ⟨a,b,c⟩
  ·rw[q1,qaa]
   exact .inl ⟨rfl,q9⟩
theorem qqv (N:Nat) (hN:4000≤N) {l:List PlantElement} (hP:PlOk l) (fr to:Int):
  (zcT N l fr to=some ([],2)∧(¬trk l fr∨¬trk l to∨fr=to))∨(trk l fr∧trk l to∧fr≠to∧
   (zcT N l fr to=some ([],15)∨zcT N l fr to=some ([],17)∨∃r,zcT N l fr to=some (r,0)∧RtP l r∧r.length≤2001∧(∀v,r[0]? =some v→v.element=fr)∧∀v,r[r.length - 1]? =some v→v.element=to)):=by
 rcases qnL N hN hP fr to with h|⟨a,b,c,d,_,_,_,h⟩
 ·exact .inl h
 ·refine .inr ⟨a,b,c, ?_⟩
  rcases h with ⟨h,_⟩|⟨h,_⟩|⟨r,h1,_,h2,h3,h4,h5,_⟩
  ·exact .inl h
  ·exact .inr (.inl h)
  ·exact .inr (.inr ⟨r,h1,h2,h3,h4,h5⟩)
end Go.W
end
section
set_option linter.unusedVariables false
set_option linter.unusedSimpArgs false
namespace Go.W
open Go.AM
def trks (l:List PlantElement):Nat→List PlantElement→List Int
 |_,[]=>[]
 |i,x::xs=>if x.kind=1 then (i:Int)::trks l (i+1) xs else trks l (i+1) xs
theorem qg1 (l:List PlantElement):∀(q:List PlantElement) (i:Nat),(trks l i q).length≤q.length
 |[],i=>by simp[trks]
 |x::q,i=>by
  rw[trks]
  have:=qg1 l q (i+1)
  split<;>simp<;>omega
theorem qg2 {l:List PlantElement} {a:Int}:∀{q:List PlantElement} {i:Nat},a∈trks l i q→∃(j:Nat) (x:PlantElement),a=((i+j:Nat):Int)∧q[j]? =some x∧x.kind=1
 |[],i,h=>by simp[trks] at h
 |x::q,i,h=>by
  rw[trks] at h
  split at h
  ·rename_i hk
   rcases List.mem_cons.1 h with rfl|h
   ·exact ⟨0,x,by simp,rfl,hk⟩
   ·obtain ⟨j,y,h1,h2,h3⟩:=qg2 h
    exact ⟨j+1,y,by rw[h1];omega,by simpa using h2,h3⟩
  ·obtain ⟨j,y,h1,h2,h3⟩:=qg2 h
   exact ⟨j+1,y,by rw[h1];omega,by simpa using h2,h3⟩
theorem qc3 (N:Nat) {l:List PlantElement} (hl:l.length≤1000000):∀(k n i:Nat) (q:List Int),k<n→i+k=l.length→q.length≤i→qlf N l n q i=some (q++trks l i (l.drop i))
 |k,0,i,q,hn,_,_=>by omega
 |0,n+1,i,q,hn,hi,hq=>by
  obtain rfl:i=l.length:=by omega
  rw[qlf,if_neg (dneg (by omega)),List.drop_length,trks,List.append_nil]
 |k+1,n+1,i,q,hn,hi,hq=>by
  have hlt:i<l.length:=by omega
  have ha:=qak hlt
  rw[qlf,if_pos (dpos (by omega))]
  unfold qrz
  rw[qac ha,qaa,qaF ha,trks]
  by_cases hk:l[i].kind=1
  ·rw[if_pos (by simpa using hk),if_pos hk,qap (by simp;omega),qaa,qaa,qad,w64s (by omega),qc3 N hl k n (i+1) _ (by omega) (by omega) (by simp;omega)]
   simp
  ·rw[if_neg (by simpa using hk),if_neg hk,qaa,qad,w64s (by omega),qc3 N hl k n (i+1) _ (by omega) (by omega) (by omega)]
theorem qip (N:Nat) {l:List PlantElement} (hl:l.length≤1000000) (hN:l.length<N):zbH N l=some (trks l 0 l):=by
 unfold zbH
 have h:=qc3 N hl l.length N 0 [] hN (by omega) (by simp)
 simp only[Int.natCast_zero,List.drop_zero,List.nil_append] at h
 rw[h,qaa]
end Go.W
end
section
set_option linter.unusedVariables false
set_option linter.unusedSimpArgs false
namespace Go.W
open Go.AM
theorem qlK {x:PlantElement} (h:qaf x≠[]):2≤(qaf x).length:=by
 unfold qaf at*
 split
 ·simp
 ·split
  ·simp
  ·rename_i h1 h2
   rw[if_neg h1,if_neg h2] at h;exact absurd rfl h
theorem qrr {l:List PlantElement} (hP:PlOk l) {i n:Int} (h:n∈eI l i):0<(thr l i n).length:=by
 obtain ⟨h0,h1,x,hx,hn⟩:=qaS h
 obtain ⟨j,rfl⟩:=Int.eq_ofNat_of_zero_le h0
 rw[Int.toNat_natCast] at hx
 have h2:=qlK (qaq (hP.snd x (List.mem_of_getElem? hx))).2.2.1
 unfold thr thrE
 rw[qfx hx,if_pos (by simpa using hn)]
 split
 ·rw[List.length_tail];omega
 ·rw[List.length_take];omega
structure WkI (l:List PlantElement) (w:List Visit) (v:Visit):Prop where
 ne:1≤w.length
 last:w[w.length - 1]? =some v
 st:∀v,w[0]? =some v→trk l v.element∧v.in_= -1∧v.out∈eI l v.element
 out:v.out∈eI l v.element
 step:∀(i:Nat) v w',w[i]? =some v→w[i+1]? =some w'→w'.in_=v.out∧0≤w'.element∧w'.element=nbr l v.element v.out
 mid:∀(i:Nat) v,0<i→w[i]? =some v→v.out∈thr l v.element v.in_
theorem qfr {α:Type} {w:List α} {y:α} {i:Nat} {x:α} (h:(w++[y])[i]? =some x):(i<w.length∧w[i]? =some x)∨(i=w.length∧x=y):=by
 by_cases hi:i<w.length
 ·rw[List.getElem?_append_left hi] at h;exact .inl ⟨hi,h⟩
 ·have:=(List.getElem?_eq_some_iff.1 h).1
  simp at this
  have:i=w.length:=by omega
  subst this
  simp at h
  exact .inr ⟨rfl,h.symm⟩
theorem WkI.step' {l:List PlantElement} {w:List Visit} {v y:Visit} (h:WkI l w v) (h1:y.in_=v.out) (h0:0≤nbr l v.element v.out) (h2:y.element=nbr l v.element v.out):∀(i:Nat) a b,(w++[y])[i]? =some a→(w++[y])[i+1]? =some b→b.in_=a.out∧0≤b.element∧b.element=nbr l a.element a.out:=by
 intro i a b ha hb
 rcases qfr hb with ⟨p,q⟩|⟨p,rfl⟩
 ·rcases qfr ha with ⟨r,s⟩|⟨r,_⟩
  ·exact h.step i a b s q
  ·omega
 ·rcases qfr ha with ⟨r,s⟩|⟨r,_⟩
  ·have:=h.last
   rw[show w.length - 1=i by omega,s] at this
   cases this
   exact ⟨h1,by rw[h2];exact h0,h2⟩
  ·omega
theorem WkI.st' {l:List PlantElement} {w:List Visit} {v y:Visit} (h:WkI l w v):∀a,(w++[y])[0]? =some a→trk l a.element∧a.in_= -1∧a.out∈eI l a.element:=by
 intro a ha
 rcases qfr ha with ⟨_,q⟩|⟨p,_⟩
 ·exact h.st a q
 ·have:=h.ne;omega
theorem WkI.add {l:List PlantElement} {w:List Visit} {v:Visit} {o:Int} (h:WkI l w v) (h0:0≤nbr l v.element v.out) (ho:o∈thr l (nbr l v.element v.out) v.out):WkI l (w++[Visit.mk (nbr l v.element v.out) v.out o]) (Visit.mk (nbr l v.element v.out) v.out o) where
 ne:=by simp
 last:=by simp
 st:=h.st'
 out:=(qdZ ho).2
 step:=h.step' rfl h0 rfl
 mid:=fun i a hi ha=>by
  rcases qfr ha with ⟨_,q⟩|⟨_,rfl⟩
  ·exact h.mid i a hi q
  ·exact ho
theorem WkI.fin {l:List PlantElement} {w:List Visit} {v:Visit} (h:WkI l w v) (h0:0≤nbr l v.element v.out) (ht:trk l (nbr l v.element v.out)):WayP l (w++[Visit.mk (nbr l v.element v.out) v.out (-1)]) where
 two:=by have:=h.ne;simp;omega
 st:=h.st'
 en:=fun a ha=>by simp at ha;subst ha;exact ⟨ht,rfl⟩
 step:=h.step' rfl h0 rfl
 mid:=fun i a hi hi2 ha=>by
  rcases qfr ha with ⟨_,q⟩|⟨p,_⟩
  ·exact h.mid i a hi q
  ·simp at hi2;omega
theorem qs8 {l:List PlantElement} {i n:Int} (h:0≤nbr l i n):nbr l i n<l.length:=by
 rcases qer l i n with ⟨a,_⟩|⟨j,x,a,b,_⟩
 ·omega
 ·have:=(List.getElem?_eq_some_iff.1 b).1
  omega
theorem qxq (N:Nat) (hN:4000≤N) {l:List PlantElement} (hP:PlOk l) {c:Int} {s:Maker} (hs:Mk c s) (hc:c≤1000000) {e n:Int} (h0:0≤e) (h1:e<l.length) {o:List Int} (ho:0<o.length):∃b s',qo5 N s l e o=some (s',b)∧Mk (c+1) s'∧(b=true→trk l e):=by
 have hll:=hP.len
 obtain ⟨j,rfl⟩:=Int.eq_ofNat_of_zero_le h0
 have hj:=qak (xs:=l) (i:=j) (by omega)
 have g0:getI o 0=some o[0]:=qac (qak (xs:=o) (i:=0) ho)
 unfold qo5
 rw[qac hj,qaa]
 by_cases hk:l[j].kind=1
 ·have ht:trk l (j:Int):=⟨by omega,_,hj,hk⟩
  rw[if_pos (by simpa using hk)]
  obtain ⟨r,s',p1,p2,p3,p4⟩:=qaU N (s:=s) (c:=c) 2 (by omega) (by omega) hs (by omega)
  rw[p1,qaa]
  by_cases hr:r=0
  ·rw[if_pos (by simpa using hr)];exact ⟨_,_,rfl,p4,fun _=>ht⟩
  ·rw[if_neg (by simpa using hr),g0,qaa,qaa,qc1 N (by omega) (by omega),qaa]
   exact ⟨_,_,rfl,p4,fun _=>ht⟩
 ·rw[if_neg (by simpa using hk)]
  exact ⟨_,_,rfl,hs.le (by omega),fun h=>by cases h⟩
theorem qir (N:Nat) (hN:4000≤N) {l:List PlantElement} (hP:PlOk l):∀(k n i:Nat) (c:Int) (s:Maker) (v:Visit) (w:List Visit),k<n→i+k=12→Mk c s→c+2*k≤1000000→WkI l w v→w.length=i+1→
  ∃s' w',(qhl N l n s v w i=some (.inl (s',w'))∨qhl N l n s v w i=some (.inr (s',w')))∧Mk (c+2*k) s'∧1≤w'.length∧w'.length≤13∧(WayP l w'∨∀v,w'[w'.length - 1]? =some v→v.out≠ -1)
 |k,0,i,c,s,v,w,hn,_,_,_,_,_=>by omega
 |k,n+1,i,c,s,v,w,hn,hi,hs,hc,hI,hl=>by
  have hll:=hP.len
  have stop:∀v',w[w.length - 1]? =some v'→v'.out≠ -1:=fun v' hv'=>by
   rw[hI.last] at hv';cases hv'
   obtain ⟨_,_,x,hx,hn⟩:=qaS hI.out
   have:=(qaq (hP.snd x (List.mem_of_getElem? hx))).2.1 _ hn
   omega
  cases k with
  |zero=>
   rw[qhl,if_neg (dneg (by omega))]
   exact ⟨s,w, .inl rfl,hs.le (by omega),by omega,by omega, .inr stop⟩
  |succ k=>
   rw[qhl,if_pos (dpos (by omega)),qc1 N (by omega) (by omega),qaa]
   by_cases h0:nbr l v.element v.out<0
   ·rw[if_pos (dpos h0)]
    exact ⟨s,w, .inl rfl,hs.le (by omega),by omega,by omega, .inr stop⟩
   ·rw[if_neg (dneg h0),qjg N (by omega),qaa]
    have h0':0≤nbr l v.element v.out:=by omega
    have hpos:=qrr hP (qdS h0').1
    have h3:=qcC l (nbr l v.element v.out) v.out
    obtain ⟨b,s1,q1,q2,q3⟩:=qxq N hN hP hs (by omega) h0' (qs8 h0') (n:=v.out) hpos
    rw[q1,qaa]
    simp only[]
    cases b with
    |true=>
     rw[if_pos rfl,qap (by simp;omega),qaa]
     exact ⟨_,_, .inr rfl,q2.le (by omega),by simp,by simp;omega, .inl (hI.fin h0' (q3 rfl))⟩
    |false=>
     rw[if_neg (by simp)]
     obtain ⟨r,s2,p1,p2,p3,p4⟩:=qaU N (s:=s1) (c:=c+1) ((thr l (nbr l v.element v.out) v.out).length:Int) (by omega) (by omega) q2 (by omega)
     obtain ⟨r,rfl⟩:=Int.eq_ofNat_of_zero_le p2
     have hr:=qak (xs:=thr l (nbr l v.element v.out) v.out) (i:=r) (by omega)
     rw[p1,qaa]
     simp only[]
     rw[qac hr,qaa,qaa,qap (by simp;omega),qaa,qad,w64s (by omega)]
     have hI':=hI.add h0' (List.mem_of_getElem? hr)
     obtain ⟨s',w',g1,g2,g3,g4,g5⟩:=qir N hN hP k n (i+1) (c+1+1) s2 _ _ (by omega) (by omega) p4 (by omega) hI' (by simp;omega)
     exact ⟨s',w',g1,g2.le (by omega),g3,g4,g5⟩
theorem qns (N:Nat) (hN:4000≤N) {l:List PlantElement} (hP:MadeP l) {c:Int} {s:Maker} (hs:Mk c s) (hc:c≤900000):
  ∃w s',zbW N s l=some (w,s')∧Mk (c+30) s'∧1≤w.length∧w.length≤13∧(WayP l w∨∀v,w[w.length - 1]? =some v→v.out≠ -1):=by
 have hll:=hP.ok.len
 unfold zbW
 rw[qip N (by omega) (by omega),qaa]
 have hlen:=qg1 l l 0
 have hpos:0<(trks l 0 l).length:=by
  obtain ⟨x,hx,hk⟩:=hP.fst
  cases l with
  |nil=>simp at hx
  |cons y l=>
   simp at hx;subst hx
   rw[trks,if_pos hk];simp
 have htrk:∀a∈trks l 0 l,trk l a:=by
  intro a ha
  obtain ⟨j,x,h1,h2,h3⟩:=qg2 ha
  rw[Nat.zero_add] at h1
  subst h1
  exact ⟨by omega,x,by simpa using h2,h3⟩
 obtain ⟨r,s1,p1,p2,p3,p4⟩:=qaU N (s:=s) (c:=c) ((trks l 0 l).length:Int) (by omega) (by omega) hs (by omega)
 obtain ⟨r,rfl⟩:=Int.eq_ofNat_of_zero_le p2
 have hr:=qak (xs:=trks l 0 l) (i:=r) (by omega)
 have ht:=htrk _ (List.mem_of_getElem? hr)
 rw[p1,qaa]
 simp only[]
 rw[qac hr,qaa,qaa,qbm,qaa]
 generalize (trks l 0 l)[r]'(by omega)=e at*
 have hpos2:0<(eI l e).length:=by
  obtain ⟨a,x,b,cc⟩:=ht
  unfold eI
  rw[if_pos a,b]
  simp[qaf,cc]
 have h3:=qbd l e
 obtain ⟨q,s2,q1,q2,q3,q4⟩:=qaU N (s:=s1) (c:=c+1) ((eI l e).length:Int) (by omega) (by omega) p4 (by omega)
 obtain ⟨q,rfl⟩:=Int.eq_ofNat_of_zero_le q2
 have hq:=qak (xs:=eI l e) (i:=q) (by omega)
 rw[q1,qaa]
 simp only[]
 rw[qac hq,qaa,qaa]
 have hmem:=List.mem_of_getElem? hq
 generalize (eI l e)[q]'(by omega)=o at*
 have hI:WkI l [Visit.mk e (-1) o] (Visit.mk e (-1) o):=⟨by simp,by simp,fun v hv=>by simp at hv;subst hv;exact ⟨ht,rfl,hmem⟩,hmem,fun i v w hv hw=>by simp at hw,fun i v hi hv=>by
  have:=(List.getElem?_eq_some_iff.1 hv).1
  simp at this;omega⟩
 obtain ⟨s',w',g1,g2,g3,g4,g5⟩:=qir N hN hP.ok 12 N 0 (c+1+1) s2 _ _ (by omega) (by omega) q4 (by omega) hI rfl
 refine ⟨w',s', ?_,g2.le (by omega),g3,g4,g5⟩
 rcases g1 with g1|g1
 ·have g1:qhl N l N s2 (Visit.mk e (-1) o) [Visit.mk e (-1) o] 0=some (.inl (s',w')):=g1
  rw[g1];rfl
 ·have g1:qhl N l N s2 (Visit.mk e (-1) o) [Visit.mk e (-1) o] 0=some (.inr (s',w')):=g1
  rw[g1];rfl
theorem qru (N:Nat) (hN:4000≤N) {l:List PlantElement} (hP:PlOk l) {w:List Visit} (hw:w.length≤3000):∃b,zcF N l w=some b∧zcY N l w=some b∧(b=true↔RtP l w):=by
 have hll:=hP.len
 obtain ⟨b1,p1,p2⟩:=qi8 N (l:=l) (r:=w) (by omega) (by omega) (by omega)
 obtain ⟨b2,r1,r2⟩:=qmV N (l:=l) (r:=w) (by omega) (by omega) (by omega) fun _ x hx=>by
  have h1:=(qaq (hP.snd x hx)).2.2.2
  unfold pnOk at h1
  simp only[Bool.and_eq_true,decide_eq_true_eq] at h1
  omega
 have:b1=b2:=Bool.eq_iff_iff.2 (p2.trans r2.symm)
 exact ⟨b1,p1,by rw[this];exact r1,p2⟩
end Go.W
end
section
set_option linter.unusedVariables false
set_option linter.unusedSimpArgs false
namespace Go.W
open Go.AM
abbrev SDst:=List (Step×Int)
def gS (d:SDst) (i n:Int):Option Int:=qae d (Step.mk i n)
theorem qci (d:SDst) (i n v i' n':Int):gS (qao d (Step.mk i n) v) i' n'=if i=i'∧n=n' then some v else gS d i' n':=by
 unfold gS
 rw[qan]
 by_cases h:i=i'∧n=n'
 ·obtain ⟨rfl,rfl⟩:=h;simp
 ·rw[if_neg h,if_neg (fun hh=>h (by cases hh;exact ⟨rfl,rfl⟩))]
theorem qeZ {α β:Type} [DecidableEq α]:∀{m:List (α×β)} {k:α} {v w:β},qae m k=some w→(qao m k v).map Prod.fst=m.map Prod.fst
 |[],k,v,w,h=>by simp[qae] at h
 |p::m,k,v,w,h=>by
  simp only[qae] at h
  split at h
  ·rename_i hk
   rw[qao,if_pos hk];simp
  ·rename_i hk
   rw[qao,if_neg hk];simp[qeZ h]
structure RI (l:List PlantElement) (to:Int) (d:SDst):Prop where
 key:∀i n v,gS d i n=some v→n∈eI l i
 toz:∀n v,gS d to n=some v→v=0
 pos:∀i n v,i≠to→gS d i n=some v→0<v∧∃m∈thr l i n,∃w,gS d (nbr l i m) m=some w∧w<v
 val:∀i n v,gS d i n=some v→v<d.length
 keys:(d.map Prod.fst).Nodup
theorem RI.nonneg {l:List PlantElement} {to:Int} {d:SDst} (h:RI l to d) {i n v:Int} (hg:gS d i n=some v):0≤v:=by
 by_cases hi:i=to
 ·subst hi;have:=h.toz n v hg;omega
 ·have:=(h.pos i n v hi hg).1;omega
theorem RI.len {l:List PlantElement} {to:Int} {d:SDst} (h:RI l to d):d.length≤3*l.length:=by
 have hm:((d.map Prod.fst).map fun s=>Place.mk s.element s.in_).Nodup:=by
  have hk:=h.keys
  generalize d.map Prod.fst=q at hk
  rw[List.nodup_iff_pairwise_ne,List.pairwise_map]
  exact (List.nodup_iff_pairwise_ne.1 hk).imp fun {a b} hab hh=>hab (by
   cases a;cases b
   simp at hh⊢
   exact hh)
 have h1:=qbF (b:=allP l) hm fun p hp=>by
  obtain ⟨s,hs,rfl⟩:=List.mem_map.1 hp
  obtain ⟨v,hv⟩:=qbg.2 hs
  exact qf3 (h.key s.element s.in_ v hv)
 have:=qf2 l
 rw[List.length_map,List.length_map] at h1
 omega
structure NxR (l:List PlantElement) (d:SDst) (e:Int) (q:List Int) (best:Int) (ok:Bool):Prop where
 no:ok=false→∀m∈q,gS d (nbr l e m) m=none
 yes:ok=true→(∃m∈q,gS d (nbr l e m) m=some best)∧∀m∈q,∀w,gS d (nbr l e m) m=some w→best≤w
theorem qfJ (N:Nat) {l:List PlantElement} (hN:l.length+10≤N) (hl:l.length≤1000000) {d:SDst} {v:Visit} {o:List Int} (ho:o.length≤1000):∀(k n i:Nat) (best:Int) (ok:Bool),k<n→i+k=o.length→NxR l d v.element (o.take i) best ok→
  ∃best' ok',qjL N l d v o n best ok i=some (best',ok')∧NxR l d v.element o best' ok'
 |k,0,i,best,ok,hn,_,_=>by omega
 |0,n+1,i,best,ok,hn,hi,hI=>by
  obtain rfl:i=o.length:=by omega
  rw[qjL,if_neg (dneg (by omega))]
  rw[List.take_length] at hI
  exact ⟨_,_,rfl,hI⟩
 |k+1,n+1,i,best,ok,hn,hi,hI=>by
  have hlt:i<o.length:=by omega
  have ha:=qak hlt
  have htk:=qaW ha
  rw[qjL,if_pos (dpos (by omega))]
  have key:∃best' ok',qpt N l d v best ok o i=some (best',ok')∧NxR l d v.element (o.take (i+1)) best' ok':=by
   unfold qpt
   simp only[qac ha,qaa]
   rw[qc1 N (by omega) hl,qaa,qad,qad]
   have hgd:qae d (Step.mk (nbr l v.element o[i]) o[i])=gS d (nbr l v.element o[i]) o[i]:=rfl
   rw[hgd]
   cases hg:gS d (nbr l v.element o[i]) o[i] with
   |none=>
    have h2:qnB N best ok ((none:Option Int).getD 0) (none:Option Int).isSome=some false:=rfl
    rw[h2,qaa,if_neg (by simp)]
    refine ⟨best,ok,rfl,⟨fun hf m hm=> ?_,fun hf=>⟨?_,fun m hm w hw=> ?_⟩⟩⟩
    ·rw[htk] at hm
     rcases List.mem_append.1 hm with hm|hm
     ·exact hI.no hf m hm
     ·simp at hm;subst hm;exact hg
    ·obtain ⟨⟨m,a,b⟩,_⟩:=hI.yes hf
     exact ⟨m,by rw[htk];exact List.mem_append_left _ a,b⟩
    ·rw[htk] at hm
     rcases List.mem_append.1 hm with hm|hm
     ·exact (hI.yes hf).2 m hm w hw
     ·simp at hm;subst hm;rw[hg] at hw;cases hw
   |some w=>
    have h2:qnB N best ok ((some w:Option Int).getD 0) (some w:Option Int).isSome=some (!ok||decide (w<best)):=by
     unfold qnB
     cases ok<;>simp
    rw[h2,qaa]
    by_cases hc:(!ok||decide (w<best))=true
    ·rw[if_pos hc]
     refine ⟨w,true,rfl,⟨fun hf=>(by cases hf),fun _=>⟨⟨o[i],by rw[htk];exact List.mem_append_right _ (by simp),hg⟩,fun m hm w' hw'=> ?_⟩⟩⟩
     rw[htk] at hm
     rcases List.mem_append.1 hm with hm|hm
     ·cases ok with
      |false=>have:=hI.no rfl m hm;rw[hw'] at this;cases this
      |true=>
       have:=(hI.yes rfl).2 m hm w' hw'
       simp at hc;omega
     ·simp at hm;subst hm;rw[hg] at hw';cases hw';omega
    ·rw[if_neg hc]
     cases ok with
     |false=>simp at hc
     |true=>
      simp at hc
      obtain ⟨⟨m,a,b⟩,h3⟩:=hI.yes rfl
      refine ⟨best,true,rfl,⟨fun hf=>(by cases hf),fun _=>⟨⟨m,by rw[htk];exact List.mem_append_left _ a,b⟩,fun m hm w' hw'=> ?_⟩⟩⟩
      rw[htk] at hm
      rcases List.mem_append.1 hm with hm|hm
      ·exact h3 m hm w' hw'
      ·simp at hm;subst hm;rw[hg] at hw';cases hw';omega
  obtain ⟨best',ok',g1,g2⟩:=key
  rw[g1,qaa,qad,w64s (by omega)]
  exact qfJ N hN hl ho k n (i+1) _ _ (by omega) (by omega) g2
theorem qku (N:Nat) (hN:4≤N) (l:List PlantElement) (v:Visit):zdK N l v=some (qa7 l v.element v.in_):=by
 unfold zdK qa7
 by_cases h:v.in_<0
 ·rw[if_pos (dpos h),if_pos h,qbm,qaa]
 ·rw[if_neg (dneg h),if_neg h,qjg N hN,qaa]
theorem qkt (N:Nat) {l:List PlantElement} (hN:l.length+10≤N) (hl:l.length≤1000000) (d:SDst) (v:Visit):∃best ok,zdJ N l d v=some (best,ok)∧NxR l d v.element (qa7 l v.element v.in_) best ok:=by
 unfold zdJ
 have h3:=qib l v.element v.in_
 rw[qku N (by omega),qaa]
 obtain ⟨best,ok,h1,h2⟩:=qfJ N (l:=l) (d:=d) (v:=v) hN hl (o:=qa7 l v.element v.in_) (by omega) (qa7 l v.element v.in_).length N 0 0 false (by omega) (by omega) ⟨fun _ m hm=>by simp at hm,fun h=>by cases h⟩
 have h1:qjL N l d v (qa7 l v.element v.in_) N 0 false 0=some (best,ok):=h1
 rw[h1,qaa]
 exact ⟨_,_,rfl,h2⟩
def mS (l:List PlantElement) (d:SDst):Nat:=((allP l).map fun p=>((gS d p.element p.in_).getD 300).toNat).sum
theorem qp3 {α:Type} {f g:α→Nat}:∀{q:List α},(∀x∈q,g x≤f x)→(∃x∈q,g x<f x)→(q.map g).sum<(q.map f).sum
 |[],_,h=>by obtain ⟨x,hx,_⟩:=h;cases hx
 |y::q,h1,h2=>by
  simp only[List.map_cons,List.sum_cons]
  have hy:=h1 y List.mem_cons_self
  have hq:∀(q:List α),(∀x∈q,g x≤f x)→(q.map g).sum≤(q.map f).sum:=by
   intro q
   induction q with
   |nil=>intro _;simp
   |cons z q ih=>
    intro h
    simp only[List.map_cons,List.sum_cons]
    have:=h z List.mem_cons_self
    have:=ih fun x hx=>h x (List.mem_cons_of_mem _ hx)
    omega
  obtain ⟨x,hx,hlt⟩:=h2
  rcases List.mem_cons.1 hx with rfl|hx
  ·have:=hq q fun x hx=>h1 x (List.mem_cons_of_mem _ hx);omega
  ·have:=qp3 (q:=q) (fun x hx=>h1 x (List.mem_cons_of_mem _ hx)) ⟨x,hx,hlt⟩;omega
theorem qwK {l:List PlantElement} {to:Int} {d:SDst} (h:RI l to d) (hl:l.length≤96):mS l d≤90000:=by
 have key:∀(q:List Place),(q.map fun p=>((gS d p.element p.in_).getD 300).toNat).sum≤300*q.length:=by
  intro q
  induction q with
  |nil=>simp
  |cons p q ih=>
   simp only[List.map_cons,List.sum_cons,List.length_cons]
   have:((gS d p.element p.in_).getD 300).toNat≤300:=by
    cases hg:gS d p.element p.in_ with
    |none=>decide
    |some v=>
     have:=h.val _ _ _ hg
     have:=h.len
     simp;omega
   omega
 have h1:=key (allP l)
 have h2:=qf2 l
 unfold mS
 omega
theorem RI.set {l:List PlantElement} {to:Int} {d:SDst} (h:RI l to d) (hl:l.length≤96) {i n b:Int} (hi:i≠to) (hn:n∈eI l i) (hb:∃m∈thr l i n,gS d (nbr l i m) m=some b) (hc:∀v,gS d i n=some v→b+1<v):
  RI l to (qao d (Step.mk i n) (b+1))∧mS l (qao d (Step.mk i n) (b+1))<mS l d:=by
 obtain ⟨m,hm,hmb⟩:=hb
 have hb0:=h.nonneg hmb
 have hbv:=h.val _ _ _ hmb
 have hdl:=h.len
 have hne:nbr l i m≠i:=(qdS (l:=l) (i:=i) (n:=m) (by
  have:=h.key _ _ _ hmb
  exact (qaS this).1)).2
 have hlen:b+1<((qao d (Step.mk i n) (b+1)).length:Int)∧(d.length:Int)≤((qao d (Step.mk i n) (b+1)).length:Int)∧((qao d (Step.mk i n) (b+1)).map Prod.fst).Nodup:=by
  cases hg:qae d (Step.mk i n) with
  |none=>
   rw[qa3 hg,List.map_append,List.nodup_append]
   refine ⟨by simp;omega,by simp;omega,h.keys,by simp,fun x hx y hy=> ?_⟩
   simp at hy;subst hy
   rintro rfl
   obtain ⟨w,hw⟩:=qbg.2 hx
   rw[hw] at hg;cases hg
  |some w=>
   have e:=qeZ (v:=b+1) hg
   have e2:(qao d (Step.mk i n) (b+1)).length=d.length:=by have:=congrArg List.length e;simpa using this
   have:=h.val i n w hg
   have:=hc w hg
   exact ⟨by rw[e2];omega,by rw[e2];omega,by rw[e];exact h.keys⟩
 have hkeep:∀i' m' w v,gS d i' m'=some w→w<v→∃w',gS (qao d (Step.mk i n) (b+1)) i' m'=some w'∧w'<v:=by
  intro i' m' w v hw hv
  rw[qci]
  by_cases hh:i=i'∧n=m'
  ·rw[if_pos hh]
   obtain ⟨rfl,rfl⟩:=hh
   have:=hc w hw
   exact ⟨_,rfl,by omega⟩
  ·rw[if_neg hh];exact ⟨w,hw,hv⟩
 refine ⟨⟨fun i' n' v hg=> ?_,fun n' v hg=> ?_,fun i' n' v hi' hg=> ?_,fun i' n' v hg=> ?_,hlen.2.2⟩, ?_⟩
 ·rw[qci] at hg
  split at hg
  ·rename_i hh;obtain ⟨rfl,rfl⟩:=hh;exact hn
  ·exact h.key _ _ _ hg
 ·rw[qci] at hg
  split at hg
  ·rename_i hh;exact absurd hh.1 hi
  ·exact h.toz _ _ hg
 ·rw[qci] at hg
  split at hg
  ·rename_i hh;obtain ⟨rfl,rfl⟩:=hh
   cases hg
   obtain ⟨w',q1,q2⟩:=hkeep _ _ b (b+1) hmb (by omega)
   exact ⟨by omega,m,hm,w',q1,q2⟩
  ·obtain ⟨a,m',b',w,c,e⟩:=h.pos i' n' v hi' hg
   obtain ⟨w',q1,q2⟩:=hkeep _ _ w v c e
   exact ⟨a,m',b',w',q1,q2⟩
 ·rw[qci] at hg
  split at hg
  ·cases hg;exact hlen.1
  ·have:=h.val _ _ _ hg;omega
 ·unfold mS
  refine qp3 (fun p _=> ?_) ⟨Place.mk i n,qf3 hn, ?_⟩
  ·rw[qci]
   split
   ·rename_i hh
    obtain ⟨rfl,rfl⟩:=hh
    cases hg:gS d p.element p.in_ with
    |none=>simp;omega
    |some v=>have:=hc v hg;simp;omega
   ·exact Nat.le_refl _
  ·rw[qci,if_pos ⟨rfl,rfl⟩]
   show (b+1).toNat<((gS d i n).getD 300).toNat
   cases hg:gS d i n with
   |none=>simp;omega
   |some v=>have:=hc v hg;simp;omega
def St1 (l:List PlantElement) (to:Int) (d:SDst) (i n:Int):Prop:=i≠to→∀m∈thr l i n,∀w,gS d (nbr l i m) m=some w→∃x,gS d i n=some x∧x≤w+1
def PassR (l:List PlantElement) (to:Int) (d:SDst) (c:Bool) (S:SDst→Prop) (d':SDst) (c':Bool):Prop:=
 RI l to d'∧(∀n,gS d' to n=gS d to n)∧((d'=d∧c'=c∧S d)∨(c'=true∧mS l d'<mS l d))
theorem PassR.trans {l:List PlantElement} {to:Int} {d d1 d2:SDst} {c c1 c2:Bool} {S S2:SDst→Prop} (h:PassR l to d c S d1 c1) (k:PassR l to d1 c1 S2 d2 c2):PassR l to d c (fun d=>S d∧S2 d) d2 c2:=by
 obtain ⟨a,z,b⟩:=h
 obtain ⟨e,y,f⟩:=k
 refine ⟨e,fun n=>(y n).trans (z n), ?_⟩
 rcases b with ⟨rfl,rfl,b⟩|⟨rfl,b⟩
 ·rcases f with ⟨rfl,rfl,f⟩|⟨rfl,f⟩
  ·exact .inl ⟨rfl,rfl,b,f⟩
  ·exact .inr ⟨rfl,f⟩
 ·rcases f with ⟨rfl,rfl,f⟩|⟨rfl,f⟩
  ·exact .inr ⟨rfl,b⟩
  ·exact .inr ⟨rfl,by omega⟩
theorem PassR.imp {l:List PlantElement} {to:Int} {d d1:SDst} {c c1:Bool} {S S2:SDst→Prop} (h:PassR l to d c S d1 c1) (k:S d→S2 d):PassR l to d c S2 d1 c1:=by
 obtain ⟨a,z,b⟩:=h
 refine ⟨a,z, ?_⟩
 rcases b with ⟨p,q,b⟩|b
 ·exact .inl ⟨p,q,k b⟩
 ·exact .inr b
theorem qsW (N:Nat) (hN:4000≤N) {l:List PlantElement} (hl:l.length≤96) {to:Int} {d:SDst} (h:RI l to d) (c:Bool) (i:Nat) {e:List Int} (he:e=eI l (i:Int)) (hs:∀n∈e,0≤n) {k:Nat} (hk:k<e.length):
  ∃d' c',qoW N l to d c i e k=some (d',c')∧PassR l to d c (fun d=>St1 l to d i (e[k]'hk)) d' c':=by
 unfold qoW
 by_cases hi:(i:Int)=to
 ·rw[if_pos (by simpa using hi)]
  exact ⟨d,c,rfl,h,fun _=>rfl, .inl ⟨rfl,rfl,fun hh=>absurd hi hh⟩⟩
 ·rw[if_neg (by simpa using hi)]
  have ha:=qak hk
  simp only[qac ha,qaa]
  obtain ⟨b,ok,h1,h2⟩:=qkt N (l:=l) (by omega) (by omega) d (Visit.mk i e[k] 0)
  rw[h1,qaa,qad,qad]
  simp only[] at h2⊢
  have hmem:=List.mem_of_getElem? ha
  have ho:qa7 l i e[k]=thr l i e[k]:=by
   unfold qa7
   rw[if_neg (by have:=hs _ hmem;omega)]
  rw[ho] at h2
  have hgd:qae d (Step.mk (i:Int) e[k])=gS d i e[k]:=rfl
  rw[hgd]
  cases ok with
  |false=>
   have h5:qny N b false ((gS d i e[k]).getD 0) (gS d i e[k]).isSome=some false:=rfl
   rw[h5,qaa,if_neg (by simp)]
   exact ⟨d,c,rfl,h,fun _=>rfl, .inl ⟨rfl,rfl,fun _ m hm w hw=>by rw[h2.no rfl m hm] at hw;cases hw⟩⟩
  |true=>
   obtain ⟨hb,hmin⟩:=h2.yes rfl
   have hbv:0≤b∧b<300:=by
    obtain ⟨m,_,hm⟩:=hb
    have:=h.nonneg hm
    have:=h.val _ _ _ hm
    have:=h.len
    omega
   have hw:IntKind.wrap .i64 (b+1)=b+1:=w64 (by omega) (by omega)
   have h5:qny N b true ((gS d i e[k]).getD 0) (gS d i e[k]).isSome=some (!(gS d i e[k]).isSome||decide (b+1<(gS d i e[k]).getD 0)):=by
    unfold qny
    rw[hw]
    cases (gS d i e[k]).isSome<;>simp
   rw[h5,qaa,hw,qad]
   by_cases hc:(!(gS d i e[k]).isSome||decide (b+1<(gS d i e[k]).getD 0))=true
   ·rw[if_pos hc]
    obtain ⟨g1,g2⟩:=h.set hl hi (by rw[←he];exact hmem) hb (fun v hv=>by rw[hv] at hc;simpa using hc)
    exact ⟨_,_,rfl,g1,fun n=>by rw[qci,if_neg (fun hh=>hi hh.1)], .inr ⟨rfl,g2⟩⟩
   ·rw[if_neg hc]
    refine ⟨d,c,rfl,h,fun _=>rfl, .inl ⟨rfl,rfl,fun _ m hm w hw=> ?_⟩⟩
    cases hg:gS d i e[k] with
    |none=>rw[hg] at hc;simp at hc
    |some x=>
     rw[hg] at hc
     simp at hc
     have:=hmin m hm w hw
     exact ⟨x,rfl,by omega⟩
theorem qpW (N:Nat) (hN:4000≤N) {l:List PlantElement} (hl:l.length≤96) {to:Int} (i:Nat) {e:List Int} (he:e=eI l (i:Int)) (hs:∀n∈e,0≤n):∀(k n j:Nat) (d:SDst) (c:Bool),k<n→j+k=e.length→RI l to d→
  ∃d' c',qjz N l to i e n d c j=some (d',c')∧PassR l to d c (fun d=>∀m∈e.drop j,St1 l to d i m) d' c'
 |k,0,j,d,c,hn,_,_=>by omega
 |0,n+1,j,d,c,hn,hj,h=>by
  obtain rfl:j=e.length:=by omega
  rw[qjz,if_neg (dneg (by omega)),List.drop_length]
  exact ⟨d,c,rfl,h,fun _=>rfl, .inl ⟨rfl,rfl,by simp⟩⟩
 |k+1,n+1,j,d,c,hn,hj,h=>by
  have hlt:j<e.length:=by omega
  have h3:e.length≤3:=by rw[he];exact qbd l i
  rw[qjz,if_pos (dpos (by omega))]
  obtain ⟨d1,c1,g1,g2⟩:=qsW N hN hl h c i he hs hlt
  rw[g1,qaa,qad,w64s (by omega)]
  obtain ⟨d2,c2,g3,g4⟩:=qpW N hN hl i he hs k n (j+1) d1 c1 (by omega) (by omega) g2.1
  refine ⟨d2,c2,g3,(g2.trans g4).imp fun hh m hm=> ?_⟩
  rw[qaF (qak hlt)] at hm
  rcases List.mem_cons.1 hm with rfl|hm
  ·exact hh.1
  ·exact hh.2 m hm
theorem qpV (N:Nat) (hN:4000≤N) {l:List PlantElement} (hP:PlOk l) {to:Int}:∀(k n i:Nat) (d:SDst) (c:Bool),k<n→i+k=l.length→RI l to d→
  ∃d' c',qjy N l to n d c i=some (d',c')∧PassR l to d c (fun d=>∀j:Nat,i≤j→∀m∈eI l (j:Int),St1 l to d j m) d' c'
 |k,0,i,d,c,hn,_,_=>by omega
 |0,n+1,i,d,c,hn,hi,h=>by
  obtain rfl:i=l.length:=by omega
  rw[qjy,if_neg (dneg (by omega))]
  exact ⟨d,c,rfl,h,fun _=>rfl, .inl ⟨rfl,rfl,fun j hj m hm=>by have:=(qaS hm).2.1;omega⟩⟩
 |k+1,n+1,i,d,c,hn,hi,h=>by
  have hll:=hP.len
  rw[qjy,if_pos (dpos (by omega)),qbm,qaa]
  have h3:=qbd l (i:Int)
  obtain ⟨d1,c1,g1,g2⟩:=qpW N hN hll (to:=to) i rfl (fun n hn=>by
   obtain ⟨_,_,x,hx,hm⟩:=qaS hn
   exact ((qaq (hP.snd x (List.mem_of_getElem? hx))).2.1 _ hm).1) (eI l (i:Int)).length N 0 d c (by omega) (by omega) h
  have g1:qjz N l to i (eI l (i:Int)) N d c 0=some (d1,c1):=g1
  rw[g1,qaa,qad,w64s (by omega)]
  obtain ⟨d2,c2,g3,g4⟩:=qpV N hN hP k n (i+1) d1 c1 (by omega) (by omega) g2.1
  refine ⟨d2,c2,g3,(g2.trans g4).imp fun hh j hj m hm=> ?_⟩
  by_cases hji:j=i
  ·subst hji;exact hh.1 m (by simpa using hm)
  ·exact hh.2 j (by omega) m hm
theorem qpU (N:Nat) (hN:4000≤N) {l:List PlantElement} (hP:PlOk l) {to:Int}:∀(k n:Nat) (d:SDst),k+1<n→mS l d≤k→RI l to d→
  ∃d',qlg N l to n d true=some d'∧RI l to d'∧(∀n,gS d' to n=gS d to n)∧∀i m,m∈eI l i→St1 l to d' i m
 |k,0,d,hn,_,_=>by omega
 |k,n+1,d,hn,hk,h=>by
  have hll:=hP.len
  rw[qlg,if_pos rfl]
  obtain ⟨d1,c1,g1,g2,g3,g4⟩:=qpV N hN hP (to:=to) l.length N 0 d false (by omega) (by omega) h
  have g1:qjy N l to N d false 0=some (d1,c1):=g1
  rw[g1,qaa]
  simp only[]
  rcases g4 with ⟨rfl,rfl,g4⟩|⟨rfl,g4⟩
  ·obtain ⟨n,rfl⟩:∃n',n=n'+1:=⟨n - 1,by omega⟩
   rw[qlg,if_neg (by simp)]
   refine ⟨d1,rfl,h,fun _=>rfl,fun i m hm=> ?_⟩
   obtain ⟨j,rfl⟩:=Int.eq_ofNat_of_zero_le (qaS hm).1
   exact g4 j (by omega) m hm
  ·cases k with
   |zero=>omega
   |succ k=>
    obtain ⟨d2,q1,q2,q3,q4⟩:=qpU N hN hP k n d1 (by omega) (by omega) g2
    exact ⟨d2,q1,q2,fun n=>(q3 n).trans (g3 n),q4⟩
theorem qpT (N:Nat) {l:List PlantElement} {to:Int} {e:List Int} (he:e=eI l to):∀(k n i:Nat) (d:SDst),k<n→i+k=e.length→RI l to d→(∀i n v,gS d i n=some v→v=0∧i=to)→(∀m∈e.take i,gS d to m=some 0)→
  ∃d',qjx N to e n d i=some d'∧RI l to d'∧∀m∈e,gS d' to m=some 0
 |k,0,i,d,hn,_,_,_,_=>by omega
 |0,n+1,i,d,hn,hi,h,hz,ht=>by
  obtain rfl:i=e.length:=by omega
  rw[qjx,if_neg (dneg (by omega))]
  rw[List.take_length] at ht
  exact ⟨d,rfl,h,ht⟩
 |k+1,n+1,i,d,hn,hi,h,hz,ht=>by
  have hlt:i<e.length:=by omega
  have ha:=qak hlt
  have h3:e.length≤3:=by rw[he];exact qbd l to
  rw[qjx,if_pos (dpos (by omega))]
  simp only[qac ha,qaa,qad]
  rw[w64s (by omega)]
  have hmem:e[i]∈eI l to:=by rw[←he];exact List.mem_of_getElem? ha
  have hz':∀i' n' v,gS (qao d (Step.mk to e[i]) 0) i' n'=some v→v=0∧i'=to:=fun i' n' v hg=>by
   rw[qci] at hg
   split at hg
   ·rename_i hh;cases hg;exact ⟨rfl,hh.1.symm⟩
   ·exact hz _ _ _ hg
  have hlen:0<(qao d (Step.mk to e[i]) 0).length∧((qao d (Step.mk to e[i]) 0).map Prod.fst).Nodup:=by
   cases hg:qae d (Step.mk to e[i]) with
   |none=>
    rw[qa3 hg,List.map_append,List.nodup_append]
    refine ⟨by simp,h.keys,by simp,fun x hx y hy=> ?_⟩
    simp at hy;subst hy
    rintro rfl
    obtain ⟨w,hw⟩:=qbg.2 hx
    rw[hw] at hg;cases hg
   |some w=>
    have e1:=qeZ (v:=0) hg
    have e2:(qao d (Step.mk to e[i]) 0).length=d.length:=by have:=congrArg List.length e1;simpa using this
    have:=h.val to _ w hg
    have:=(hz _ _ _ hg).1
    exact ⟨by omega,by rw[e1];exact h.keys⟩
  refine qpT N he k n (i+1) _ (by omega) (by omega) ⟨fun i' n' v hg=> ?_,fun n' v hg=>(hz' _ _ _ hg).1,fun i' n' v hi' hg=>absurd (hz' _ _ _ hg).2 hi',fun i' n' v hg=>by have:=(hz' _ _ _ hg).1;omega,hlen.2⟩ hz' fun m hm=> ?_
  ·rw[qci] at hg
   split at hg
   ·rename_i hh;obtain ⟨rfl,rfl⟩:=hh;exact hmem
   ·exact h.key _ _ _ hg
  ·rw[qaW ha] at hm
   rw[qci]
   split
   ·rfl
   ·rcases List.mem_append.1 hm with hm|hm
    ·exact ht m hm
    ·simp at hm;subst hm
     rename_i hh
     exact absurd ⟨rfl,rfl⟩ hh
structure RD (l:List PlantElement) (to:Int) (d:SDst):Prop where
 ri:RI l to d
 zero:∀m∈eI l to,gS d to m=some 0
 st:∀i m,m∈eI l i→St1 l to d i m
theorem qou (N:Nat) (hN:100000≤N) {l:List PlantElement} (hP:PlOk l) (to:Int):∃d,zbP N l to=some d∧RD l to d:=by
 unfold zbP
 rw[qbm,qaa]
 have h3:=qbd l to
 obtain ⟨d,h1,h2,h4⟩:=qpT N (l:=l) (to:=to) rfl (eI l to).length N 0 [] (by omega) (by omega) ⟨by simp[gS,qae],by simp[gS,qae],by simp[gS,qae],by simp[gS,qae],by simp⟩ (by simp[gS,qae]) (by simp)
 have h1:qjx N to (eI l to) N [] 0=some d:=h1
 rw[h1,qaa]
 have hm:=qwK h2 hP.len
 obtain ⟨d',g1,g2,g3,g4⟩:=qpU N (by omega) hP 90000 N d (by omega) hm h2
 rw[g1,qaa]
 exact ⟨d',rfl,g2,fun m hm=>by rw[g3];exact h4 m hm,g4⟩
theorem RD.next {l:List PlantElement} {to:Int} {d:SDst} (h:RD l to d) {i n v:Int} (hi:i≠to) (hg:gS d i n=some v):∃m∈thr l i n,gS d (nbr l i m) m=some (v - 1):=by
 obtain ⟨a,m,hm,w,hw,hlt⟩:=h.ri.pos i n v hi hg
 obtain ⟨x,hx,hx2⟩:=h.st i n (h.ri.key _ _ _ hg) hi m hm w hw
 rw[hg] at hx;cases hx
 exact ⟨m,hm,by rw[hw];congr 1;omega⟩
end Go.W
end
section
set_option linter.unusedVariables false
set_option linter.unusedSimpArgs false
namespace Go.W
open Go.AM
structure PkI (l:List PlantElement) (d:SDst) (v:Int) (b:Int) (q:List Int) (out e:Int):Prop where
 no:e<0→∀m∈q,gS d (nbr l v m) m≠some b
 yes:0≤e→out∈q∧e=nbr l v out∧gS d e out=some b∧∀m∈q,gS d (nbr l v m) m=some b→e<nbr l v m∨(e=nbr l v m∧out≤m)
theorem qfK (N:Nat) {l:List PlantElement} (hN:l.length+10≤N) (hl:l.length≤1000000) {to:Int} {d:SDst} (hd:RI l to d) {b:Int} {o:List Int} (ho:o.length≤1000) {ve vi:Int}:∀(k n i:Nat) (out e:Int),k<n→i+k=o.length→PkI l d ve b (o.take i) out e→
  ∃out' e',qjK N l d b o n (Visit.mk ve vi out) e i=some (Visit.mk ve vi out',e')∧PkI l d ve b o out' e'
 |k,0,i,out,e,hn,_,_=>by omega
 |0,n+1,i,out,e,hn,hi,hI=>by
  obtain rfl:i=o.length:=by omega
  rw[qjK,if_neg (dneg (by omega))]
  rw[List.take_length] at hI
  exact ⟨_,_,rfl,hI⟩
 |k+1,n+1,i,out,e,hn,hi,hI=>by
  have hlt:i<o.length:=by omega
  have ha:=qak hlt
  have htk:=qaW ha
  rw[qjK,if_pos (dpos (by omega))]
  have key:∃out' e',qpr N l d (Visit.mk ve vi out) b o e i=some (Visit.mk ve vi out',e')∧PkI l d ve b (o.take (i+1)) out' e':=by
   unfold qpr
   simp only[qac ha,qaa]
   rw[qc1 N (by omega) hl,qaa,qad,qad]
   have hgd:qae d (Step.mk (nbr l ve o[i]) o[i])=gS d (nbr l ve o[i]) o[i]:=rfl
   rw[hgd]
   have keep:(gS d (nbr l ve o[i]) o[i]=some b→0≤e∧(e<nbr l ve o[i]∨(e=nbr l ve o[i]∧out≤o[i])))→PkI l d ve b (o.take (i+1)) out e:=by
    intro hk
    refine ⟨fun he m hm=> ?_,fun he=> ?_⟩
    ·rw[htk] at hm
     rcases List.mem_append.1 hm with hm|hm
     ·exact hI.no he m hm
     ·simp at hm;subst hm
      intro hh
      have:=(hk hh).1;omega
    ·obtain ⟨p,q,r,s⟩:=hI.yes he
     refine ⟨by rw[htk];exact List.mem_append_left _ p,q,r,fun m hm hmb=> ?_⟩
     rw[htk] at hm
     rcases List.mem_append.1 hm with hm|hm
     ·exact s m hm hmb
     ·simp at hm;subst hm;exact (hk hmb).2
   have take':gS d (nbr l ve o[i]) o[i]=some b→(0≤e→nbr l ve o[i]<e∨(nbr l ve o[i]=e∧o[i]<out))→PkI l d ve b (o.take (i+1)) o[i] (nbr l ve o[i]):=by
    intro hg hk
    have h0:=(qaS (hd.key _ _ _ hg)).1
    refine ⟨fun he=>by omega,fun _=>⟨by rw[htk];exact List.mem_append_right _ (by simp),rfl,hg,fun m hm hmb=> ?_⟩⟩
    rw[htk] at hm
    rcases List.mem_append.1 hm with hm|hm
    ·by_cases he:e<0
     ·exact absurd hmb (hI.no he m hm)
     ·have:=hk (by omega)
      obtain ⟨p,q,r,s⟩:=hI.yes (by omega)
      have:=s m hm hmb
      omega
    ·simp at hm;subst hm;omega
   cases hg:gS d (nbr l ve o[i]) o[i] with
   |none=>
    have h4:qps N (Visit.mk ve vi out) b o e i (nbr l ve o[i]) ((none:Option Int).getD 0) (none:Option Int).isSome=some false:=rfl
    rw[h4,qaa,if_neg (by simp)]
    exact ⟨out,e,rfl,keep fun hh=>by rw[hg] at hh;cases hh⟩
   |some w=>
    unfold qps
    simp only[Option.isSome_some,Option.getD_some,if_true,qac ha,qaa]
    by_cases hw:w=b
    ·subst hw
     rw[if_pos (by simp)]
     by_cases he:e<0
     ·rw[if_pos (dpos he),qaa,if_pos rfl]
      exact ⟨_,_,rfl,take' hg fun hh=>by omega⟩
     ·rw[if_neg (dneg he)]
      by_cases h1:nbr l ve o[i]<e
      ·rw[if_pos (dpos h1),qaa,if_pos rfl]
       exact ⟨_,_,rfl,take' hg fun hh=> .inl h1⟩
      ·rw[if_neg (dneg h1)]
       by_cases h2:nbr l ve o[i]=e
       ·rw[if_pos (by simpa using h2),qaa]
        by_cases h3:o[i]<out
        ·rw[if_pos (dpos h3)]
         exact ⟨_,_,rfl,take' hg fun hh=> .inr ⟨h2,h3⟩⟩
        ·rw[if_neg (dneg h3)]
         exact ⟨_,_,rfl,keep fun hh=>⟨by omega, .inr ⟨h2.symm,by omega⟩⟩⟩
       ·rw[if_neg (by simpa using h2),qaa,if_neg (by simp)]
        exact ⟨_,_,rfl,keep fun hh=>⟨by omega, .inl (by omega)⟩⟩
    ·rw[if_neg (by simpa using hw),qaa,if_neg (by simp)]
     exact ⟨_,_,rfl,keep fun hh=>by rw[hg] at hh;cases hh;exact absurd rfl hw⟩
  obtain ⟨out',e',g1,g2⟩:=key
  rw[g1,qaa,qad,w64s (by omega)]
  exact qfK N hN hl hd ho k n (i+1) _ _ (by omega) (by omega) g2
theorem qoD {α:Type} (r:List α) (a b:α):(r++[a]).set r.length b=r++[b]:=by
 induction r with
 |nil=>rfl
 |cons x r ih=>simp[ih]
theorem qfI (N:Nat) (hN:100000≤N) {l:List PlantElement} (hP:PlOk l) {d:SDst} {fr to:Int} (hD:RD l to d):∀(k n:Nat) (r:List Visit) (v:Visit),k<n→
  Pth l (gS d) fr (r++[Visit.mk v.element v.in_ (-1)])→(elems r).Nodup→(r≠[]→gS d v.element v.in_=some (k:Int))→(∀m∈qa7 l v.element v.in_,∀w,gS d (nbr l v.element m) m=some w→(k:Int) - 1≤w)→r.length+k≤1000→(qa7 l v.element v.in_=eI l v.element∨qa7 l v.element v.in_=thr l v.element v.in_∧r≠[])→(r=[]→qa7 l v.element v.in_=eI l v.element)→
  ((∃m∈qa7 l v.element v.in_,gS d (nbr l v.element m) m=some ((k:Int) - 1))∨(k=0∧v.element=to))→
  (qjJ N l d n v ((k:Int) - 1) r=some (.inr 17)∧∃r0,Pth l (gS d) fr r0∧¬(elems r0).Nodup)∨∃r' v',qjJ N l d n v ((k:Int) - 1) r=some (.inl (v',r'))∧Pth l (gS d) fr (r'++[Visit.mk v'.element v'.in_ (-1)])∧(elems r').Nodup∧r'.length=r.length+k∧v'.element=to∧(r'≠[]→gS d v'.element v'.in_=some 0)
 |k,0,r,v,hn,_,_,_,_,_,_,_,_=>by omega
 |0,n+1,r,v,hn,hp,hd,hv,hmn,hl,ho,ho2,hg=>by
  rw[qjJ,if_neg (lneg (by omega))]
  refine .inr ⟨r,v,rfl,hp,hd,rfl, ?_,hv⟩
  rcases hg with ⟨m,hm,hg⟩|⟨_,hg⟩
  ·have:=hD.ri.nonneg hg;omega
  ·exact hg
 |k+1,n+1,r,v,hn,hp,hd,hv,hmn,hl,ho,ho2,hg=>by
  have hll:=hP.len
  have h3:=qib l v.element v.in_
  rw[qjJ,if_pos (lpos (by omega)),qku N (by omega),qaa]
  obtain ⟨out,e,g1,g2⟩:=qfK N (l:=l) (by omega) (by omega) hD.ri (b:=((k+1:Nat):Int) - 1) (o:=qa7 l v.element v.in_) (by omega) (ve:=v.element) (vi:=v.in_) (qa7 l v.element v.in_).length N 0 (-1) (-1) (by omega) (by omega) ⟨fun _ m hm=>by simp at hm,fun h=>by omega⟩
  have g1:qjK N l d (((k+1:Nat):Int) - 1) (qa7 l v.element v.in_) N (Visit.mk v.element v.in_ (-1)) (-1) 0=some (Visit.mk v.element v.in_ out,e):=g1
  simp only[]
  rw[g1,qaa]
  simp only[]
  rw[qbU N (by omega) (by omega),qaa]
  by_cases hc:(elems r).contains v.element=true
  ·rw[if_pos hc]
   refine .inl ⟨rfl,_,hp,fun hh=> ?_⟩
   unfold elems at hh hc
   rw[List.map_append,List.nodup_append] at hh
   exact hh.2.2 v.element (by simpa using hc) v.element (by simp) rfl
  ·rw[if_neg hc,qap (by simp;omega),qaa,qad,w64 (by omega) (by omega)]
   have hg:∃m∈qa7 l v.element v.in_,gS d (nbr l v.element m) m=some (((k+1:Nat):Int) - 1):=by
    rcases hg with hg|⟨hg,_⟩
    ·exact hg
    ·omega
   have he0:0≤e:=by
    by_cases h:e<0
    ·obtain ⟨m,hm,hm2⟩:=hg
     exact absurd hm2 (g2.no h m hm)
    ·omega
   obtain ⟨q1,q2,q3,q4⟩:=g2.yes he0
   have hin:=hD.ri.key _ _ _ q3
   have hout:out∈eI l v.element:=by
    rcases ho with h|⟨h,_⟩
    ·rw[h] at q1;exact q1
    ·rw[h] at q1;exact (qdZ q1).2
   have hlast:(r++[Visit.mk v.element v.in_ (-1)])[(r++[Visit.mk v.element v.in_ (-1)]).length - 1]? =some (Visit.mk v.element v.in_ (-1)):=by simp
   have hp':=hp.add hlast (out:=out) (by rw[q2] at he0;exact he0) hout (fun hh=>by
    have hne:r≠[]:=by rintro rfl;simp at hh
    rcases ho with h|⟨h,_⟩
    ·by_cases hi:v.in_<0
     ·exfalso
      obtain ⟨j,hj⟩:∃j,r.length=j+1:=⟨r.length - 1,by have:=List.length_pos_iff.2 hne;omega⟩
      have a1:(r++[Visit.mk v.element v.in_ (-1)])[j+1]? =some (Visit.mk v.element v.in_ (-1)):=by rw[List.getElem?_append_right (by omega)];simp[hj]
      have a0:=qak (xs:=r++[Visit.mk v.element v.in_ (-1)]) (i:=j) (by simp;omega)
      obtain ⟨b1,b2,b3,b4⟩:=hp.step j _ _ a0 a1
      obtain ⟨_,_,x,hx,hm⟩:=qaS b4
      have:=((qaq (hP.snd x (List.mem_of_getElem? hx))).2.1 _ hm).1
      simp only at b1
      omega
     ·unfold qa7 at q1
      rw[if_neg hi] at q1;exact q1
    ·rw[h] at q1;exact q1) ⟨q1,((k+1:Nat):Int) - 1,by rw[←q2];exact q3,fun m hm w hw=>by
    have h1:=hmn m hm w hw
    unfold qdQ
    by_cases hwb:w=((k+1:Nat):Int) - 1
    ·have:=q4 m hm (by rw[hw,hwb])
     rw[←q2];simp only at this⊢;omega
    ·rw[←q2];simp only at h1⊢;omega⟩ (fun hh=>by
    have hne:r≠[]:=by rintro rfl;simp at hh
    rw[show (Visit.mk v.element v.in_ (-1)).element=v.element from rfl,hv hne]
    intro hc0
    have:=Option.some.inj hc0
    omega)
   have hlen1:(r++[Visit.mk v.element v.in_ (-1)]).length - 1=r.length:=by simp
   rw[hlen1,qoD] at hp'
   simp only at hp'
   rw[←q2] at hp'
   have hin0:¬out<0:=by
    obtain ⟨_,_,x,hx,hm⟩:=qaS hin
    have:=((qaq (hP.snd x (List.mem_of_getElem? hx))).2.1 _ hm).1
    omega
   have ho':qa7 l e out=thr l e out:=by unfold qa7;rw[if_neg hin0]
   have hk1:(((k+1:Nat):Int) - 1 - 1)=(k:Int) - 1:=by omega
   rw[hk1]
   have ih:=qfI N hN hP hD k n (r++[Visit.mk v.element v.in_ out]) (Visit.mk e out 0) (by omega) hp' (by
    unfold elems at hd hc⊢
    rw[List.map_append,List.nodup_append]
    refine ⟨hd,by simp,fun x hx y hy=> ?_⟩
    simp at hy;subst hy
    rintro rfl
    exact hc (by simpa using hx)) (fun _=>by
    show gS d e out=some (k:Int)
    rw[q3];congr 1;omega) (fun m hm w hw=>by
    have hm:m∈thr l e out:=by rw[←ho'];exact hm
    by_cases he:e=to
    ·subst he
     have h1:=hD.ri.toz _ _ q3
     have h2:=hD.ri.nonneg hw
     omega
    ·obtain ⟨x,hx,hx2⟩:=hD.st e out hin he m hm w hw
     rw[q3] at hx;cases hx
     omega) (by simp;omega) (.inr ⟨ho',by simp⟩) (fun hh=>by simp at hh) (by
    by_cases he:e=to
    ·right
     subst he
     have:=hD.ri.toz _ _ q3
     exact ⟨by omega,rfl⟩
    ·left
     obtain ⟨m,hm,hm2⟩:=hD.next he q3
     refine ⟨m,by rw[ho'];exact hm, ?_⟩
     rw[hm2];exact congrArg some (by omega))
   rcases ih with ih|⟨r',v',i1,i2,i3,i4,i5,i6⟩
   ·exact .inl ih
   ·exact .inr ⟨r',v',i1,i2,i3,by rw[i4];simp;omega,i5,i6⟩
theorem qfR {l:List PlantElement} {to:Int} {d:SDst} (hD:RD l to d) {w:List Visit} (hW:WayP l w) (he:∀v,w[w.length - 1]? =some v→v.element=to):
  ∀(k i:Nat) (v:Visit),i+k=w.length - 1→1≤i→w[i]? =some v→∃x,gS d v.element v.in_=some x∧x≤k
 |0,i,v,hi,h1,hv=>by
  have hi':i=w.length - 1:=by omega
  have hel:=he v (by rw[←hi'];exact hv)
  have hin:=hW.ins (by omega) hv
  rw[hel] at hin
  exact ⟨0,by rw[hel];exact hD.zero _ hin,by omega⟩
 |k+1,i,v,hi,h1,hv=>by
  have htwo:=hW.two
  have hin:=hW.ins (by omega) hv
  by_cases hel:v.element=to
  ·rw[hel] at hin
   exact ⟨0,by rw[hel];exact hD.zero _ hin,by omega⟩
  ·have hu:=qak (xs:=w) (i:=i+1) (by omega)
   obtain ⟨x,hx,hx2⟩:=qfR hD hW he k (i+1) _ (by omega) (by omega) hu
   obtain ⟨a,b,c⟩:=hW.step i v _ hv hu
   rw[c,a] at hx
   obtain ⟨y,hy,hy2⟩:=hD.st v.element v.in_ hin hel v.out (hW.mid i v (by omega) (by omega) hv) x hx
   exact ⟨y,hy,by omega⟩
theorem qm8 (N:Nat) (hN:100000≤N) {l:List PlantElement} (hP:PlOk l) (fr to:Int):
  (zdI N l fr to=some ([],2)∧(¬trk l fr∨¬trk l to∨fr=to))∨(trk l fr∧trk l to∧fr≠to∧
   ∃d,RD l to d∧((zdI N l fr to=some ([],15)∧∀m∈eI l fr,gS d (nbr l fr m) m=none)∨(zdI N l fr to=some ([],17)∧∃r0,Pth l (gS d) fr r0∧¬(elems r0).Nodup∧∃m∈eI l fr,gS d (nbr l fr m) m≠none)∨∃r,zdI N l fr to=some (r,0)∧(Pth l (gS d) fr r∧∀z,r[r.length - 1]? =some z→gS d z.element z.in_=some 0∧z.out= -1)∧RtP l r∧r.length≤2000∧(∀v,r[0]? =some v→v.element=fr)∧(∀v,r[r.length - 1]? =some v→v.element=to)∧
    ∀w,WayP l w→(∀v,w[0]? =some v→v.element=fr)→(∀v,w[w.length - 1]? =some v→v.element=to)→r.length≤w.length)):=by
 unfold zdI
 rw[hP.r N (by omega),qaa,if_neg (by simp)]
 have h0:∃b,qpq N l fr to=some b∧(b=false↔trk l fr∧trk l to∧fr≠to):=by
  unfold qpq
  simp only[qnd,qaa]
  exact qaM qd8 (qaM qd8 ⟨_,rfl,by simp⟩)
 obtain ⟨b,h1,h2⟩:=h0
 rw[h1,qaa]
 cases b with
 |true=>
  rw[if_pos rfl]
  refine .inl ⟨rfl, ?_⟩
  by_cases a:trk l fr
  ·by_cases c:trk l to
   ·right;right
    by_cases e:fr=to
    ·exact e
    ·have:=h2.2 ⟨a,c,e⟩;cases this
   ·exact .inr (.inl c)
  ·exact .inl a
 |false=>
  rw[if_neg (by simp)]
  obtain ⟨t1,t2,t3⟩:=h2.1 rfl
  obtain ⟨d,g1,g2⟩:=qou N hN hP to
  have hll:=hP.len
  have hdl:=g2.ri.len
  obtain ⟨b,ok,q1,q2⟩:=qkt N (l:=l) (by omega) (by omega) d (Visit.mk fr (-1) 0)
  rw[g1,qaa,q1,qaa]
  simp only[] at q2⊢
  refine .inr ⟨t1,t2,t3,d,g2, ?_⟩
  have ho:qa7 l fr (-1)=eI l fr:=by unfold qa7;rw[if_pos (by omega)]
  rw[ho] at q2
  cases ok with
  |false=>exact .inl ⟨if_pos rfl,q2.no rfl⟩
  |true=>
   right
   rw[if_neg (by simp)]
   obtain ⟨hb,hmin⟩:=q2.yes rfl
   have hb0:0≤b∧b<300:=by
    obtain ⟨m,_,hm⟩:=hb
    have:=g2.ri.nonneg hm
    have:=g2.ri.val _ _ _ hm
    omega
   obtain ⟨k,hk⟩:=Int.eq_ofNat_of_zero_le (show 0≤b+1 by omega)
   have hbk:b=(k:Int) - 1:=by omega
   have hl:=qfI N hN hP g2 (fr:=fr) k N [] (Visit.mk fr (-1) 0) (by omega)
    ⟨fun i v hi=>by simp at hi,fun i v hi hi2=>by simp at hi2,by simp,fun v hv=>by simp at hv;subst hv;exact ⟨rfl,rfl⟩,fun i v w hv hw=>by simp at hw,fun i v hi hi2 hv=>by simp at hi2⟩ (by simp[elems]) (fun h=>absurd rfl h) (fun m hm w hw=>by rw[←hbk];exact hmin m (by rw[←ho];exact hm) w hw) (by simp;omega) (.inl ho) (fun _=>ho) (.inl (by rw[←hbk];simp only[];rw[ho];exact hb))
   rw[hbk]
   have hex:∃m∈eI l fr,gS d (nbr l fr m) m≠none:=by
    obtain ⟨m,hm,hm2⟩:=hb
    exact ⟨m,hm,by rw[hm2];simp⟩
   rcases hl with ⟨hl,r0,p1,p2⟩|⟨r',v',i1,i2,i3,i4,i5,i6⟩
   ·rw[hl,qaa];exact .inl ⟨rfl,r0,p1,p2,hex⟩
   ·rw[i1,qaa]
    simp only[]
    have hlen:r'.length=k:=by rw[i4];simp
    rw[qbU N (by omega) (by omega),qaa]
    by_cases hc:(elems r').contains to=true
    ·rw[if_pos hc]
     refine .inl ⟨rfl,_,i2,fun hh=> ?_,hex⟩
     unfold elems at hh hc
     rw[List.map_append,List.nodup_append] at hh
     exact hh.2.2 to (by simpa using hc) to (by simp[i5]) rfl
    ·rw[if_neg hc,qap (by simp;omega),qaa]
     right
     have he:Visit.mk v'.element v'.in_ (-1)=Visit.mk to v'.in_ (-1):=by rw[i5]
     rw[he] at i2
     have hk1:1≤k:=by omega
     have hz:∀v,(r'++[Visit.mk to v'.in_ (-1)])[(r'++[Visit.mk to v'.in_ (-1)]).length - 1]? =some v→v=Visit.mk to v'.in_ (-1):=fun v hv=>by simp at hv;exact hv.symm
     refine ⟨_,rfl,⟨i2,fun y hy=>by
      rw[hz y hy]
      refine ⟨?_,rfl⟩
      have h6:=i6 (by rintro rfl;simp at hlen;omega)
      rw[i5] at h6
      exact h6⟩,⟨hP.err,⟨by simp;omega,fun v hv=> ?_,fun v hv=> ?_,fun i v w hv hw=> ?_,i2.mid⟩, ?_⟩,by simp;omega,fun v hv=>(i2.st v hv).1,fun v hv=>by rw[hz v hv],fun w hW hf he=> ?_⟩
     ·obtain ⟨a,bb⟩:=i2.st v hv
      have:=i2.step 0 v _ hv (qak (xs:=r'++[Visit.mk to v'.in_ (-1)]) (i:=1) (by simp;omega))
      exact ⟨by rw[a];exact t1,bb,this.2.2.2⟩
     ·rw[hz v hv];exact ⟨t2,rfl⟩
     ·obtain ⟨a,bb,c,dd⟩:=i2.step i v w hv hw
      exact ⟨a,bb,c⟩
     ·unfold elems at i3 hc⊢
      rw[List.map_append,List.nodup_append]
      refine ⟨i3,by simp,fun x hx y hy=> ?_⟩
      simp at hy;subst hy
      rintro rfl
      exact hc (by simpa using hx)
     ·have htwo:=hW.two
      have w0:=qak (xs:=w) (i:=0) (by omega)
      have w1:=qak (xs:=w) (i:=1) (by omega)
      obtain ⟨x,hx,hx2⟩:=qfR g2 hW he (w.length - 2) 1 _ (by omega) (by omega) w1
      obtain ⟨p,q,rr⟩:=hW.step 0 _ _ w0 w1
      have s3:=(hW.st _ w0).2.2
      rw[hf _ w0] at s3
      rw[rr,p,hf _ w0] at hx
      have:=hmin _ s3 x hx
      simp;omega
theorem qoy (N:Nat) (hN:100000≤N) {l:List PlantElement} (hP:PlOk l) (fr to:Int):
  (zdI N l fr to=some ([],2)∧(¬trk l fr∨¬trk l to∨fr=to))∨(trk l fr∧trk l to∧fr≠to∧
   (zdI N l fr to=some ([],15)∨zdI N l fr to=some ([],17)∨∃r,zdI N l fr to=some (r,0)∧RtP l r∧r.length≤2000∧(∀v,r[0]? =some v→v.element=fr)∧(∀v,r[r.length - 1]? =some v→v.element=to)∧
    ∀w,WayP l w→(∀v,w[0]? =some v→v.element=fr)→(∀v,w[w.length - 1]? =some v→v.element=to)→r.length≤w.length)):=by
 rcases qm8 N hN hP fr to with h|⟨a,b,c,d,_,h⟩
 ·exact .inl h
 ·refine .inr ⟨a,b,c, ?_⟩
  rcases h with ⟨h,_⟩|⟨h,_⟩|⟨r,h1,_,h2⟩
  ·exact .inl h
  ·exact .inr (.inl h)
  ·exact .inr (.inr ⟨r,h1,h2⟩)
end Go.W
end
section
set_option linter.unusedVariables false
set_option linter.unusedSimpArgs false
namespace Go.W
open Go.AM
def setE (x:PlantElement) (v:Visit):List Setting:=
 if x.kind=3 then [Setting.mk v.element 3] else if x.kind=2 then (if v.in_=x.b∨v.out=x.b then [Setting.mk v.element 1] else [Setting.mk v.element 2]) else []
def setV (l:List PlantElement) (v:Visit):List Setting:=match l[v.element.toNat]? with|some x=>setE x v|none=>[]
def qaE (l:List PlantElement) (r:List Visit):List Setting:=r.flatMap (setV l)
theorem qoB (x:PlantElement) (v:Visit):(setE x v).length≤1:=by
 unfold setE
 split
 ·simp
 ·split
  ·split<;>simp
  ·simp
theorem qjj {l:List PlantElement} {v:Visit} {s:Setting} (h:s∈setV l v):s.element=v.element:=by
 unfold setV at h
 split at h
 ·unfold setE at h
  split at h
  ·simp at h;subst h;rfl
  ·split at h
   ·split at h<;>(simp at h;subst h;rfl)
   ·simp at h
 ·simp at h
theorem qgV (l:List PlantElement) (v:Visit):(setV l v).length≤1:=by
 unfold setV
 split
 ·exact qoB _ _
 ·simp
theorem qdX (l:List PlantElement):∀(r:List Visit),(qaE l r).length≤r.length
 |[]=>by simp[qaE]
 |v::r=>by
  have:=qdX l r
  have h1:=qgV l v
  unfold qaE at*
  rw[List.flatMap_cons,List.length_append,List.length_cons]
  omega
theorem qxe (N:Nat) {l:List PlantElement} {r:List Visit} {i:Nat} {v:Visit} (hv:r[i]? =some v) (h0:0≤v.element) (h1:v.element<l.length) {acc:List Setting} (ha:acc.length≤1000000):qoV N l acc r i=some (acc++setV l v):=by
 obtain ⟨j,hj⟩:=Int.eq_ofNat_of_zero_le h0
 have hjl:=qak (xs:=l) (i:=j) (by omega)
 unfold qoV setV
 have hg:getI l v.element=some (l[j]'(by omega)):=by rw[hj];exact qac hjl
 have hg2:l[v.element.toNat]? =some (l[j]'(by omega)):=by rw[hj,Int.toNat_natCast];exact hjl
 rw[qac hv,qaa,hg,qaa,qad,hg2]
 generalize l[j]'(by omega)=x at*
 simp only[]
 unfold setE
 by_cases h3:x.kind=3
 ·rw[if_pos (by simpa using h3),if_pos h3,qap (by simp;omega),qaa]
 ·rw[if_neg (by simpa using h3),if_neg h3]
  by_cases h2:x.kind=2
  ·have hs2:qle N v x=some (decide (v.in_=x.b∨v.out=x.b)):=by
    unfold qle
    rw[if_pos (by simpa using h2)]
    by_cases a:v.in_=x.b
    ·rw[if_pos (by simpa using a)];simp[a]
    ·rw[if_neg (by simpa using a),qad]
     congr 1
     exact Bool.eq_iff_iff.2 (by simp[a])
   rw[hs2,qaa,if_pos h2]
   by_cases hb:v.in_=x.b∨v.out=x.b
   ·rw[if_pos (by simpa using hb),if_pos hb,qap (by simp;omega),qaa]
   ·rw[if_neg (by simpa using hb),if_neg hb,qad,if_pos (by simpa using h2),qap (by simp;omega),qaa]
  ·have hs2:qle N v x=some false:=by
    unfold qle
    rw[if_neg (by simpa using h2)]
   rw[hs2,qaa,if_neg (by simp),qad,if_neg (by simpa using h2),if_neg h2,List.append_nil]
theorem qij (N:Nat) {l:List PlantElement} {r:List Visit} (hr:∀v∈r,0≤v.element∧v.element<l.length) (hl:r.length≤100000):∀(k n i:Nat) (acc:List Setting),k<n→i+k=r.length→acc.length≤i→qfl N l r r.length n acc i=some (acc++qaE l (r.drop i))
 |k,0,i,acc,hn,_,_=>by omega
 |0,n+1,i,acc,hn,hi,ha=>by
  obtain rfl:i=r.length:=by omega
  rw[qfl,if_neg (dneg (by omega)),List.drop_length]
  simp[qaE]
 |k+1,n+1,i,acc,hn,hi,ha=>by
  have hlt:i<r.length:=by omega
  have hv:=qak hlt
  obtain ⟨h0,h1⟩:=hr _ (List.mem_of_getElem? hv)
  have h2:=qgV l r[i]
  rw[qfl,if_pos (dpos (by omega)),qxe N hv h0 h1 (by omega),qaa,w64s (by omega),qij N hr hl k n (i+1) _ (by omega) (by omega) (by simp;omega),qaF hv]
  unfold qaE
  rw[List.flatMap_cons,List.append_assoc]
theorem WayP.ok {l:List PlantElement} {r:List Visit} (h:WayP l r):∀v∈r,0≤v.element∧v.element<l.length:=by
 intro v hv
 obtain ⟨i,hi⟩:=List.getElem?_of_mem hv
 have hlt:=(List.getElem?_eq_some_iff.1 hi).1
 have two:=h.two
 by_cases h0:i+1<r.length
 ·have:=qaS (h.outs h0 hi);exact ⟨this.1,this.2.1⟩
 ·have:=qaS (h.ins (by omega) hi);exact ⟨this.1,this.2.1⟩
instance instSet:Inhabited Setting:=⟨Setting.mk 0 0⟩
noncomputable def qbQ (q:List Setting):List Setting:= @srtL Setting instSet (fun (a b:Setting)=>cmpI a.element b.element) q
theorem qfb (N:Nat) (hN:4000≤N) {l:List PlantElement} (hP:PlOk l) {r:List Visit} (hr:RtP l r) (hl:r.length≤3000):zbG N l r=some (qbQ (qaE l r),0):=by
 obtain ⟨b,h1,_,h3⟩:=qru N hN hP (w:=r) hl
 unfold zbG
 rw[h1,qaa,h3.2 hr,if_neg (by simp)]
 have h:=qij N (l:=l) (r:=r) hr.2.1.ok (by omega) r.length N 0 [] (by omega) (by omega) (by simp)
 have h:qfl N l r r.length N [] 0=some (qaE l r):=h
 have:=qdX l r
 rw[h,qaa]
 unfold srtI
 rw[if_pos (by omega),qaa]
 rfl
theorem qcM {q:List Setting} {x:Setting}:x∈qbQ q↔x∈q:=(@qbR Setting instSet (fun (a b:Setting)=>cmpI a.element b.element) (qbJ Setting.element) q).mem_iff
theorem qfV (q:List Setting):(qbQ q).length=q.length:=(@qbR Setting instSet (fun (a b:Setting)=>cmpI a.element b.element) (qbJ Setting.element) q).length_eq
theorem qcA {q:List Setting} (h:(q.map Setting.element).Nodup):(qbQ q).Pairwise fun a b=>a.element<b.element:=by
 have h1:(qbQ q).Pairwise fun a b=>a.element≤b.element:= @qc2 Setting instSet Setting.element q
 have hp:(qbQ q).Perm q:= @qbR Setting instSet (fun (a b:Setting)=>cmpI a.element b.element) (qbJ Setting.element) q
 have h2:((qbQ q).map Setting.element).Nodup:=(hp.map Setting.element).nodup_iff.2 h
 rw[List.nodup_iff_pairwise_ne,List.pairwise_map] at h2
 exact (h1.and h2).imp fun ⟨a,b⟩=>by omega
theorem qcJ:∀{a b:List Setting},a.Pairwise (fun x y=>x.element<y.element)→b.Pairwise (fun x y=>x.element<y.element)→(∀x,x∈a↔x∈b)→a=b
 |[],[],_,_,_=>rfl
 |[],y::b,_,_,h=>by have:=(h y).2 List.mem_cons_self;cases this
 |x::a,[],_,_,h=>by have:=(h x).1 List.mem_cons_self;cases this
 |x::a,y::b,h1,h2,h=>by
  rw[List.pairwise_cons] at h1 h2
  have hxy:x=y:=by
   rcases List.mem_cons.1 ((h x).1 List.mem_cons_self) with e|e
   ·exact e
   ·rcases List.mem_cons.1 ((h y).2 List.mem_cons_self) with f|f
    ·exact f.symm
    ·have:=h2.1 _ e;have:=h1.1 _ f;omega
  subst hxy
  congr 1
  refine qcJ h1.2 h2.2 fun z=>⟨fun hz=> ?_,fun hz=> ?_⟩
  ·rcases List.mem_cons.1 ((h z).1 (List.mem_cons_of_mem _ hz)) with e|e
   ·have:=h1.1 _ hz;rw[e] at this;omega
   ·exact e
  ·rcases List.mem_cons.1 ((h z).2 (List.mem_cons_of_mem _ hz)) with e|e
   ·have:=h2.1 _ hz;rw[e] at this;omega
   ·exact e
theorem qb4 (l:List PlantElement):∀(r:List Visit),((qaE l r).map Setting.element).Sublist (elems r)
 |[]=>by simp[qaE,elems]
 |v::r=>by
  have ih:=qb4 l r
  have h1:=qgV l v
  have h2:=fun s=>qjj (l:=l) (v:=v) (s:=s)
  unfold qaE elems at*
  rw[List.flatMap_cons,List.map_append,List.map_cons]
  generalize setV l v=q at*
  match q,h1 with
  |[],_=>exact (List.Sublist.cons _ ih)
  |[s],_=>
   have:=h2 s (by simp)
   simp only[List.map_cons,List.map_nil,List.cons_append,List.nil_append]
   rw[this]
   exact List.Sublist.cons_cons _ ih
end Go.W
end
