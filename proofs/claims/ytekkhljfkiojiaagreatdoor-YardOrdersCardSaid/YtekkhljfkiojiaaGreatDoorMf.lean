/- A part of the proof of YardOrders; no condition of our own. -/
import Derived.Test.YtekkhljfkiojiaaGreatDoorMe
set_option linter.defProp false
set_option linter.unusedSimpArgs false
set_option linter.unusedVariables false
open Bool renaming false->ak,true->aa
open Go renaming IntKind->aG
open Go.IntKind renaming wrap->aO
open Int renaming fdiv->sE,tdiv->l1,tmod->jB,toNat->sF
open List renaming length->aN8,map->rz
open Option renaming bind->ab,none->ae,some->J
open Sum renaming inl->bw,inr->bt
open UInt8 renaming toNat->fy
section
set_option maxRecDepth 100000
set_option maxHeartbeats 1000000
namespace Go.W
open Go.aF
noncomputable section
structure eE where
 aOg:(List UInt8)
 aOh:Int
deriving DecidableEq
structure cR where
 aOj:Int
 aOn:Int
 a:Int
 b:Int
 c:Int
deriving DecidableEq
structure ff where
 speed:Int
 iZ:Int
 j9:Int
deriving DecidableEq
structure c8 where
 aH:(List eE)
 rules:(List cR)
 table:(List ff)
 speed:Int
 iZ:Int
deriving DecidableEq
structure dd where
 l:(List Int)
 n:Int
deriving DecidableEq
structure bC where
 aOj:(List UInt8)
 aOh:Int
 iL:Int
 gv:Int
 lJ:Int
 kH:Int
 uM:Bool
 aOl:(List UInt8)
deriving DecidableEq
structure Ig where
 a0:(List UInt8)
 ec:(List UInt8)
 a2:(List UInt8)
deriving DecidableEq
structure im where
 aOe:Int
 cq:Int
deriving DecidableEq
structure b7 where
 aOg:(List UInt8)
 cq:Int
 c7:(List (List UInt8))
deriving DecidableEq
structure eb where
 aOn:Int
 cq:Int
 to:Int
 count:Int
 dO:Int
 aH:(List Int)
 hD:(List im)
 aOo:b7
 aOg:(List UInt8)
 data:(List UInt8)
deriving DecidableEq
structure c4 where
 dS:Int
 pZ:Int
 round:Int
 aOh:Int
deriving DecidableEq
structure b8 where
 aN':(List c4)
 dO:Int
deriving DecidableEq
structure dF where
 aOm:Int
 fW:(List Int)
deriving DecidableEq
structure e8 where
 e9:dF
 chain:(List Int)
deriving DecidableEq
structure eR where
 bD:(List Int)
 iP:b8
 aOc:e8
 aOs:Int
 aH:(List Int)
 h9:Int
deriving DecidableEq
structure bq where
 bD:(List bC)
 aH:(List (List Int))
 b2:(List b7)
 aOb:Bool
 bo:eR
 cE:Bool
deriving DecidableEq
structure cn where
 hX:Int
 aOt:Int
 to:Int
 front:Bool
deriving DecidableEq
structure b6 where
 aOk:Int
 reason:Int
 ib:Int
 round:Int
deriving DecidableEq
structure dM where
 aOh:Int
 iL:Int
 gv:Int
 mw:Int
 j9:Int
 required:Int
 oW:Int
deriving DecidableEq
structure hn where
 stop:Int
 bD:Int
 UN:Int
deriving DecidableEq
structure hI where
 aOg:(List UInt8)
 bD:(List bC)
 jt:dM
 P0:(List hn)
deriving DecidableEq
structure cI where
 err:Int
 vv:(List cn)
 aOc:e8
 dW:(List b6)
 aOd:hI
 cZ:Int
 aOe:Int
deriving DecidableEq
structure Step where
 c:c8
 y:bq
 e:eb
 r:cI
deriving DecidableEq
structure kX where
 b:(List UInt8)
 at_:Int
deriving DecidableEq
structure ct where
 aN':(List c4)
 aOq:(List Int)
 aH:(List (List Int))
deriving DecidableEq
structure hx where
 cq:Int
 aOe:Int
deriving DecidableEq
structure er where
 d:ct
 at_:(List hx)
 round:(List Int)
deriving DecidableEq
structure fI where
 l:(List bC)
 off:(List Int)
 total:dM
deriving DecidableEq
structure IY where
 a0:eb
 ec:eb
 a2:eb
deriving DecidableEq
structure b0 where
 c:c8
 y:bq
 e:eb
 r:cI
deriving DecidableEq
structure fa where
 cq:Int
 aOe:Int
deriving DecidableEq
def Yp(x:bq):bq:=(bq.mk [] [] x.b2 x.aOb x.bo x.cE)
def qx(x:bq):bq:=(bq.mk [] [] [] x.aOb x.bo x.cE)
def awY(x:Step):Step:=(Step.mk x.c (bq.mk [] x.y.aH x.y.b2 x.y.aOb x.y.bo x.y.cE) x.e (cI.mk x.r.err [] x.r.aOc x.r.dW x.r.aOd x.r.cZ x.r.aOe))
def zZ(x:Step):Step:=(Step.mk x.c x.y x.e (cI.mk x.r.err [] x.r.aOc x.r.dW x.r.aOd x.r.cZ x.r.aOe))
def vz(x:Step):Step:=(Step.mk x.c (bq.mk x.y.bD x.y.aH [] x.y.aOb x.y.bo x.y.cE) x.e x.r)
def He(x:Step):Step:=(Step.mk x.c x.y x.e (cI.mk x.r.err [] x.r.aOc [] x.r.aOd x.r.cZ x.r.aOe))
def Hf(x:Step):Step:=(Step.mk x.c (bq.mk x.y.bD x.y.aH [] x.y.aOb x.y.bo x.y.cE) x.e (cI.mk x.r.err [] x.r.aOc x.r.dW x.r.aOd x.r.cZ x.r.aOe))
def z1(x:bq):bq:=(bq.mk x.bD [] x.b2 x.aOb x.bo x.cE)
def l0(x:eb):eb:=(eb.mk x.aOn x.cq x.to x.count x.dO [] [] x.aOo x.aOg [])
def Ql(x:b0):b0:=(b0.mk x.c (bq.mk [] x.y.aH x.y.b2 x.y.aOb x.y.bo x.y.cE) x.e (cI.mk x.r.err [] x.r.aOc x.r.dW x.r.aOd x.r.cZ x.r.aOe))
def gq(x:b0):b0:=(b0.mk x.c x.y x.e (cI.mk x.r.err [] x.r.aOc x.r.dW x.r.aOd x.r.cZ x.r.aOe))
def xZ(x:b0):b0:=(b0.mk x.c (bq.mk x.y.bD x.y.aH [] x.y.aOb x.y.bo x.y.cE) x.e x.r)
def zY(x:b0):b0:=(b0.mk x.c x.y x.e (cI.mk x.r.err [] x.r.aOc [] x.r.aOd x.r.cZ x.r.aOe))
def Hd(x:b0):b0:=(b0.mk x.c (bq.mk x.y.bD x.y.aH [] x.y.aOb x.y.bo x.y.cE) x.e (cI.mk x.r.err [] x.r.aOc x.r.dW x.r.aOd x.r.cZ x.r.aOe))
variable (N:Nat)
def Al(a:List Int):Option dd:=J (dd.mk a 0)
def EY(a:dd)(h:Int)(b:Bool):Option Int:=if b then ab (px a.n (aN8 a.l:Int)) λd=>ab (al a.l d) λe=>ab (sU a.n (aN8 a.l:Int)) λf=>aF.lt (aO .i64 (e+(aO .i64 ((aO .i64 (f))*7919)))) λg=>J g else J h
def EZ(U:Int)(a:Int)(d:Bool):Option Int:=if d then aF.lt (aO .i64 (a+U)) λb=>J b else J a
def HO(a:dd)(U:Int):Option (Int×dd):=ab (EY a 0 (decide (0<(aN8 a.l:Int)))) λe=>ab (px e U) λb=>ab (EZ U b (decide (b<0))) λd=>J (d,(dd.mk a.l (aO .i64 (a.n+1))))
def D1(U:Int):Nat->dd->(List UInt8)->Int->Option (dd×List UInt8)|0,_,_,_=>ae|n+1,e,b,a=>if decide (a<U) then ab (HO e 10) λd=>ab (al b a) λi=>ab (al b a) λj=>ab (gW (aO .u8 ((aO .i64 (48+d.1))))) λf=>aF.lt (b.set ((a:Int).toNat) f) λg=>aF.lt (aO .i64 (a+1)) λh=>D1 U n d.2 g h else J (e,b)
def RN(d:dd)(U:Int):Option (List UInt8×dd):=ab (hy 0 U) λb=>ab (D1 U N d b 0) λa=>J (a.2,a.1)
def aK9(b:List UInt8)(a:Int):Option Bool:=ab (al b a) λd=>if decide ((fy d:Int)<48) then J aa else ab (al b a) λe=>J (decide (57<(fy e:Int)))
def aAg(b:List UInt8)(U:Int):Nat->Int->Option (Sum (Unit) (Bool))|0,_=>ae|n+1,a=>if decide (a<U) then ab (aK9 b a) λd=>if d then J (bt ak) else aF.lt (aO .i64 (a+1)) λe=>aAg b U n e else J (bw ())
def Sx(a:List UInt8)(U:Int):Option Bool:=if(aN8 a:Int) !=U then J ak else ab (aAg a U N 0) λb=>match b with|bw e=>J aa|bt d=>J d
def OO(b:Int)(e:Bool):Option Int:=if e then aF.lt (aO .i64 (b*2)) λa=>if decide (9<a) then aF.lt (aO .i64 (a-9)) λd=>J d else J a else J b
def Gk(d:List UInt8)(U:Int):Nat->Int->Int->Option Int|0,_,_=>ae|n+1,b,a=>if decide (a<U) then ab (al d a) λe=>aF.lt (aO .i64 ((aO .u8 ((fy e:Int)-48)))) λf=>ab (OO f ((jB a 2)==0)) λg=>aF.lt (aO .i64 (b+g)) λh=>aF.lt (aO .i64 (a+1)) λi=>Gk d U n h i else J b
def Ti(b:List UInt8)(U:Int):Option Int:=ab (Gk b U N 0 0) λa=>J a
def SL(a:List UInt8):Option (Int×Int):=ab (Sx N a 11) λb=>if !b then J (0,11) else ab (Ti N a 11) λd=>aF.lt (jB (aO .i64 (10-(jB d 10))) 10) λe=>J (e,0)
def RO(m:dd)(U:Int):Option (List UInt8×dd):=ab (RN N m 11) λe=>ab (cD e.1 []) λa=>ab (al a 8) λn=>ab (al a 8) λp=>ab (gW (aO .u8 ((aO .i64 (48+(jB (aO .i64 (l1 U 100)) 10)))))) λh=>aF.lt (a.set ((8:Int).toNat) h) λd=>ab (al d 9) λr=>ab (al d 9) λq=>ab (gW (aO .u8 ((aO .i64 (48+(jB (aO .i64 (l1 U 10)) 10)))))) λg=>aF.lt (d.set ((9:Int).toNat) g) λb=>ab (al b 10) λt=>ab (al b 10) λs=>ab (gW (aO .u8 ((aO .i64 (48+(jB U 10)))))) λi=>aF.lt (b.set ((10:Int).toNat) i) λf=>ab (SL N f) λl=>ab (gW (aO .u8 ((aO .i64 (48+l.1))))) λk=>ab (cD f ([k]:List UInt8)) λj=>J (j,e.2)
def HP(d:dd)(U:List Int):Option (Int×dd):=ab (HO d (aN8 U:Int)) λa=>ab (al U a.1) λb=>J (b,a.2)
def Sw(d:dd):Option (List UInt8×dd):=ab (HO d 10) λa=>ab (al ([[97],[98],[99],[100],[101],[110,111,114,116,104],[115,111,117,116,104],[112,111,114,116,49],[120,57],[97,98,99,100,101,102,103,104,105,106,107,108]]:List (List UInt8)) a.1) λe=>ab (al ([[97],[98],[99],[100],[101],[110,111,114,116,104],[115,111,117,116,104],[112,111,114,116,49],[120,57],[97,98,99,100,101,102,103,104,105,106,107,108]]:List (List UInt8)) a.1) λb=>J (b,a.2)
def Oq(d:Int)(a:Bool):Option Bool:=if a then J a else aF.lt (d==52) λb=>J b
def DU(a:bC)(b:Int):Option bC:=aF.lt (b==50) λe=>ab (Oq b e) λd=>if d then J (bC.mk a.aOj a.aOh 2 a.gv a.lJ a.kH a.uM a.aOl) else aF.lt (b==57) λf=>if f then J (bC.mk a.aOj (max a.aOh 120) 6 a.gv a.lJ a.kH a.uM a.aOl) else J a
def R9(k:dd)(U:Int):Option (bC×dd):=ab (RO N k U) λb=>ab (HP b.2 ([80,120,142,199,262,400]:List Int)) λd=>ab (HP d.2 ([50,120,400,800,2000]:List Int)) λe=>ab (HP e.2 ([0,0,0,1,3,9]:List Int)) λf=>ab (HO f.2 5) λg=>ab (Sw g.2) λh=>ab (al b.1 4) λj=>ab (DU (bC.mk b.1 d.1 4 e.1 0 f.1 (g.1==0) h.1) (fy j:Int)) λa=>ab (HO h.2 5) λi=>J ((bC.mk a.aOj a.aOh a.iL a.gv (aO .i64 (l1 (aO .i64 (a.gv*i.1)) 4)) a.kH a.uM a.aOl),i.2)
def SM(a:List UInt8):Option Int:=ab (Sx N a 12) λb=>if !b then J 11 else ab (Ti N a 11) λd=>ab (al a 11) λe=>if(jB (aO .i64 (d+(aO .i64 ((aO .u8 ((fy e:Int)-48)))))) 10) !=0 then J 9 else J 0
def aLt(b:Int)(a:Bool):Option Bool:=if a then J a else aF.lt (b==56) λd=>J d
def aLu(b:Int)(a:Bool):Option Bool:=if a then J a else aF.lt (b==52) λd=>J d
def S9(d:List UInt8):Option (Int×Int):=ab (SM N d) λb=>if b !=0 then J (0,b) else ab (al d 4) λa=>aF.lt ((fy a:Int)==55) λe=>ab (aLt (fy a:Int) e) λh=>if h then J (1,0) else aF.lt ((fy a:Int)==50) λi=>ab (aLu (fy a:Int) i) λf=>if f then J (2,0) else aF.lt ((fy a:Int)==57) λg=>if g then J (3,0) else J (0,0)
def aFk(b:List UInt8)(a:Int):Option Bool:=ab (al b a) λd=>if decide (97<=(fy d:Int)) then ab (al b a) λe=>if decide ((fy e:Int)<=122) then J (!aa) else ab (al b a) λf=>if decide (48<=(fy f:Int)) then ab (al b a) λg=>J (!(decide ((fy g:Int)<=57))) else J (!ak) else ab (al b a) λh=>if decide (48<=(fy h:Int)) then ab (al b a) λi=>J (!(decide ((fy i:Int)<=57))) else J (!ak)
def aFY(N:Nat)(b:List UInt8):Nat->Int->Option (Sum (Unit) (Bool))|0,_=>ae|n+1,a=>if decide (a<(aN8 b:Int)) then ab (aFk b a) λe=>if e then J (bt ak) else aF.lt (aO .i64 (a+1)) λd=>aFY N b n d else J (bw ())
def aKW(a:List UInt8):Option Bool:=if decide (1<=(aN8 a:Int)) then aF.lt (decide ((aN8 a:Int)<=12)) λb=>J b else J ak
def Ah(a:List UInt8):Option Bool:=ab (aFY N a N 0) λb=>match b with|bw f=>ab (aKW a) λe=>J e|bt d=>J d
def EN(f:Int)(a:Int)(b:Int):Option (Int×Int):=aF.lt (b==2) λd=>if d then J (2,a) else aF.lt (b==3) λe=>if e then J (6,120) else J (f,a)
def aLh(U:bC)(a:Int):Option Bool:=if decide (U.aOh<a) then J aa else if decide (400<U.aOh) then J aa else if decide (U.gv<50) then J aa else if decide (2000<U.gv) then J aa else if decide (U.lJ<0) then J aa else if decide (U.gv<U.lJ) then J aa else if decide (U.kH<0) then J aa else aF.lt (decide (9<U.kH)) λb=>J b
def HW(a:bC):Option Int:=ab (S9 N a.aOj) λb=>if b.2 !=0 then J b.2 else ab (EN 4 80 b.1) λd=>aF.lt (a.iL !=d.1) λg=>if g then J 1 else ab (aLh a d.2) λh=>if h then J 2 else ab (Ah N a.aOl) λe=>aF.lt (!e) λf=>if f then J 7 else J 0
def aJn(d:List bC)(b:Int):Nat->Int->Option (Sum (Unit) (Int))|0,_=>ae|n+1,a=>if decide (a<b) then ab (al d a) λe=>ab (al d b) λf=>if e.aOj==f.aOj then J (bt 8) else aF.lt (aO .i64 (a+1)) λg=>aJn d b n g else J (bw ())
def aAQ(b:List bC):Nat->Int->Option (Sum (Unit) (Int))|0,_=>ae|n+1,a=>if decide (a<(aN8 b:Int)) then ab (al b a) λe=>ab (HW N e) λd=>if d !=0 then J (bt d) else ab (aJn b a N 0) λh=>match h with|bw i=>aF.lt (aO .i64 (a+1)) λf=>aAQ b n f|bt g=>J (bt g) else J (bw ())
def Rw(a:List bC):Option Int:=if decide (96<(aN8 a:Int)) then J 3 else ab (aAQ N a N 0) λb=>match b with|bw e=>J 0|bt d=>J d
def Fm(b:List UInt8):Nat->Int->Int->Option Int|0,_,_=>ae|n+1,d,a=>if decide (a<(aN8 b:Int)) then ab (al b a) λe=>aF.lt (jB (aO .i64 (d+(aO .i64 ((jB (aO .i64 (a+1)) 65521)*(aO .i64 ((fy e:Int))))))) 65521) λf=>aF.lt (aO .i64 (a+1)) λg=>Fm b n f g else J d
def SN(b:List UInt8):Option Int:=ab (Fm b N 0 0) λa=>J a
def aDC(b:bC):Nat->(List UInt8)->Int->Option (List UInt8)|0,_,_=>ae|n+1,d,a=>if decide (a<12) then ab (al b.aOj a) λe=>ab (al b.aOj (aO .i64 (a+1))) λg=>ab (gW (aO .u8 ((aO .u8 ((aO .u8 ((aO .u8 ((fy e:Int)-48))*16))+(fy g:Int)))-48))) λh=>ab (cD d ([h]:List UInt8)) λi=>aF.lt (aO .i64 (a+2)) λf=>aDC b n i f else J d
def aLb(a:Int)(d:Bool):Option Int:=if d then aF.lt (aO .u8 (a+16)) λb=>J b else J a
def aBq(d:List bC):Nat->(List UInt8)->Int->Option (List UInt8)|0,_,_=>ae|n+1,e,b=>if decide (b<(aN8 d:Int)) then ab (al d b) λa=>ab (aDC a N e 0) λg=>aF.lt (aO .u8 (a.kH)) λf=>ab (aLb f a.uM) λm=>ab (gW (aO .u8 ((aO .i64 (l1 a.aOh 256))))) λh=>ab (gW (aO .u8 ((jB a.aOh 256)))) λi=>ab (gW (aO .u8 (a.iL))) λl=>ab (gW (aO .u8 ((aO .i64 (l1 a.gv 256))))) λk=>ab (gW (aO .u8 ((jB a.gv 256)))) λj=>ab (gW (aO .u8 ((aO .i64 (l1 a.lJ 256))))) λp=>ab (gW (aO .u8 ((jB a.lJ 256)))) λr=>ab (gW m) λt=>ab (gW (aO .u8 ((aN8 a.aOl:Int)))) λw=>ab (cD g ([h,i,l,k,j,p,r,t,w]:List UInt8)) λq=>ab (cD q a.aOl) λs=>aF.lt (aO .i64 (b+1)) λx=>aBq d n s x else J e
def jO(a:List bC):Option (List UInt8×Int):=ab (Rw N a) λb=>if b !=0 then J ([],b) else ab (gW (aO .u8 ((aN8 a:Int)))) λf=>ab (aBq N a N ([f]:List UInt8) 0) λd=>ab (SN N d) λe=>ab (gW (aO .u8 ((aO .i64 (l1 e 256))))) λh=>ab (gW (aO .u8 ((jB e 256)))) λi=>ab (cD d ([h,i]:List UInt8)) λg=>J (g,0)
def aBA:Nat->(List bC)->Int->Option (List bC)|0,_,_=>ae|n+1,d,b=>if decide (b<3) then ab (Al ([7]:List Int)) λe=>ab (R9 N e b) λa=>ab (al [[109],[110],[109]] b) λf=>ab (cD d ([(bC.mk a.1.aOj a.1.aOh a.1.iL a.1.gv a.1.lJ a.1.kH a.1.uM f)]:List bC)) λg=>aF.lt (aO .i64 (b+1)) λh=>aBA n g h else J d
def SK:Option (c8×List eb):=ab (aBA N N [] 0) λa=>ab (jO N a) λb=>J ((c8.mk ([(eE.mk [114] 5000),(eE.mk [97] 5000),(eE.mk [120] 5000)]:List eE) [] ([(ff.mk 100 100 0)]:List ff) 100 0),([(eb.mk 1 0 0 0 0 [] [] (b7.mk [] 0 []) [] b.1),(eb.mk 2 0 0 0 0 [] [] (b7.mk [116] 2 ([[109],[110]]:List (List UInt8))) [] []),(eb.mk 3 0 0 0 12 ([1]:List Int) [] (b7.mk [] 0 []) [] [])]:List eb))
def C9(b:List UInt8)(a:Int):Option Bool:=ab (al b a) λd=>if decide ((fy d:Int)<97) then ab (al b a) λe=>if decide ((fy e:Int)<48) then J aa else ab (al b a) λf=>J (decide (57<(fy f:Int))) else ab (al b a) λg=>if decide (122<(fy g:Int)) then ab (al b a) λh=>if decide ((fy h:Int)<48) then J aa else ab (al b a) λi=>J (decide (57<(fy i:Int))) else J ak
def C8(d:List UInt8)(b:Int):Nat->Int->Option (Sum (Unit) (Bool))|0,_=>ae|n+1,a=>if decide (a<b) then ab (C9 d a) λe=>if e then J (bt ak) else C8 d b n (aO .i64 (a+1)) else J (bw ())
def Da(a:List UInt8):Option Bool:=if decide (1<=(aN8 a:Int)) then aF.lt (decide ((aN8 a:Int)<=12)) λb=>J b else J ak
def nQ(a:List UInt8):Option Bool:=ab (C8 a (aN8 a:Int) N 0) λb=>match b with|bw f=>ab (Da a) λe=>J e|bt d=>J d
def Dj(a:Int):Option Bool:=if decide (a<0) then J aa else J (decide (1000000<a))
def Np(b:List Int)(d:Int):Nat->Int->Option (Sum (Unit) (Bool))|0,_=>ae|n+1,a=>if decide (a<d) then ab (al b a) λg=>ab (al b a) λe=>ab (Dj e) λf=>if f then J (bt ak) else Np b d n (aO .i64 (a+1)) else J (bw ())
def Nq(U:cR):Option Bool:=if decide (1<=U.aOj) then if decide (U.aOj<=9999) then if decide (1<=U.aOn) then aF.lt (decide (U.aOn<=9)) λa=>J a else J ak else J ak else J ak
def Hv(d:cR):Option Bool:=ab (Np ([d.a,d.b,d.c]:List Int) (aN8 ([d.a,d.b,d.c]:List Int):Int) N 0) λe=>match e with|bw h=>ab (Nq d) λg=>J g|bt f=>J f
def vB(b:cR)(U:cR):Option Bool:=aF.lt (b.aOj==U.aOj) λa=>J a
def Cw(d:List cR)(U:cR)(b:Int):Nat->Int->Option (Sum (Unit) (Int))|0,_=>ae|n+1,a=>if decide (a<b) then ab (al d a) λe=>ab (vB e U) λf=>if f then J (bt a) else Cw d U b n (aO .i64 (a+1)) else J (bw ())
def Qt(a:List cR)(U:cR):Option Int:=ab (Cw a U (aN8 a:Int) N 0) λb=>match b with|bw e=>J (-1)|bt d=>J d
def Qq(d:List cR)(U:cR):Option Bool:=ab (Qt N d U) λa=>aF.lt (decide (0<=a)) λb=>J b
def Di(f:List cR)(e:List cR)(d:Int):Nat->Int->Option (Sum (Unit) (Int))|0,_=>ae|n+1,a=>if decide (a<d) then ab (al e a) λb=>ab (Hv N b) λg=>if !g then J (bt 1) else ab (gi f 0 a) λh=>ab (Qq N h b) λi=>if i then J (bt 8) else Di f e d n (aO .i64 (a+1)) else J (bw ())
def Hu(a:List cR):Option Int:=if decide (32<(aN8 a:Int)) then J 3 else ab (Di N a a (aN8 a:Int) N 0) λb=>match b with|bw e=>J 0|bt d=>J d
def F5(a:Int)(U:Int)(d:Int):Option Bool:=if decide (U<=a) then aF.lt (decide (a<=d)) λb=>J b else J ak
def S7(d:Int)(U:Int)(b:Int):Option Bool:=ab (F5 d U b) λa=>J a
def aC9(a:ff):Option Bool:=ab (S7 a.speed 1 200) λb=>if !b then J aa else ab (S7 a.iZ 0 500) λd=>if !d then J aa else ab (S7 a.j9 0 250) λe=>J (!e)
def XL(b:List ff)(d:Int):Nat->Int->Option (Sum (Unit) (Bool))|0,_=>ae|n+1,a=>if decide (a<d) then ab (al b a) λe=>ab (aC9 e) λf=>if f then J (bt ak) else XL b d n (aO .i64 (a+1)) else J (bw ())
def afG(a:List ff):Option Bool:=ab (XL a (aN8 a:Int) N 0) λe=>match e with|bw f=>aF.lt (decide ((aN8 a:Int)<=64)) λb=>J b|bt d=>J d
def Mw(U:c8):Option Bool:=if decide ((aN8 U.aH:Int)<1) then J aa else if decide (24<(aN8 U.aH:Int)) then J aa else if decide (U.speed<1) then J aa else if decide (200<U.speed) then J aa else if decide (U.iZ<0) then J aa else J (decide (500<U.iZ))
def Mx(e:List ((List UInt8)×Bool))(a:eE):Option Bool:=ab (nQ N a.aOg) λb=>if !b then J aa else aF.lt (jv e a.aOg) λd=>if d.getD ak then J aa else if decide (a.aOh<1) then J aa else J (decide (100000<a.aOh))
def Dz(e:List eE)(f:Int):Nat->(List ((List UInt8)×Bool))->Int->Option (Sum (Unit) (Int))|0,_,_=>ae|n+1,d,a=>if decide (a<f) then ab (al e a) λb=>ab (Mx N d b) λg=>if g then J (bt 1) else aF.lt (o8 d b.aOg aa) λh=>Dz e f n h (aO .i64 (a+1)) else J (bw ())
def Hi(a:c8):Option Int:=ab (Mw a) λd=>if d then J 1 else ab (Dz N a.aH (aN8 a.aH:Int) N [] 0) λf=>match f with|bw h=>ab (Hu N a.rules) λb=>if b !=0 then J b else ab (afG N a.table) λe=>if !e then J 1 else J 0|bt g=>J g
def Ak(b:c8):Option (bq×Int):=ab (Hi N b) λa=>if a !=0 then J ((bq.mk [] [] [] ak (eR.mk [] (b8.mk [] 0) (e8.mk (dF.mk 0 []) []) 0 [] 0) ak),a) else ab (hy [] (aN8 b.aH:Int)) λd=>J ((bq.mk [] d [] ak (eR.mk [] (b8.mk [] 0) (e8.mk (dF.mk 0 []) []) 0 [] 0) ak),0)
def Hg(b:List bC):Option (List bC):=ab (cD ([]:List bC) b) λa=>J a
def qy(b:List Int):Option (List Int):=ab (cD ([]:List Int) b) λa=>J a
def QH(b:List (List UInt8)):Option (List (List UInt8)):=ab (cD ([]:List (List UInt8)) b) λa=>J a
def Rb(a:b7):Option b7:=ab (QH a.c7) λb=>J (b7.mk a.aOg a.cq b)
def QE(b:List c4):Option (List c4):=ab (cD ([]:List c4) b) λa=>J a
def Rc(a:e8):Option e8:=ab (qy a.e9.fW) λb=>ab (qy a.chain) λd=>J (e8.mk (dF.mk a.e9.aOm b) d)
def FH(d:List (List Int))(e:Int):Nat->bq->Int->(List (List Int))->Option (bq×List (List Int))|0,_,_,_=>ae|n+1,b,a,f=>if decide (a<e) then ab (al d a) λg=>ab (qy g) λh=>ab (cD f ([h]:List (List Int))) λi=>FH d e n (qx b) (aO .i64 (a+1)) i else J ((qx b),f)
def NV(d:List b7)(e:Int):Nat->bq->Int->(List b7)->Option (bq×List b7)|0,_,_,_=>ae|n+1,b,a,f=>if decide (a<e) then ab (al d a) λh=>ab (Rb h) λi=>ab (cD f ([i]:List b7)) λg=>NV d e n (qx b) (aO .i64 (a+1)) g else J ((qx b),f)
def Ss(b:bq):Option (bq×List bC×List b7):=ab (Hg b.bD) λe=>ab (FH b.aH (aN8 b.aH:Int) N (qx b) 0 []) λd=>ab (NV b.b2 (aN8 b.b2:Int) N (qx d.1) 0 []) λa=>ab (qy a.1.bo.bD) λf=>ab (qy a.1.bo.aH) λi=>ab (QE a.1.bo.iP.aN') λh=>ab (Rc a.1.bo.aOc) λg=>J ((bq.mk [] d.2 [] a.1.aOb (eR.mk f (b8.mk h a.1.bo.iP.dO) g a.1.bo.aOs i a.1.bo.h9) a.1.cE),e,a.2)
def aAi(b:Step)(U:Int):Option Bool:=if decide (0<=U) then aF.lt (decide (U<(aN8 b.c.aH:Int))) λa=>J a else J ak
def tS(b:Step)(U:Int):Option Bool:=ab (aAi b U) λa=>J a
def DD(d:List Int)(U:Int)(b:Int):Nat->Int->Option (Sum (Unit) (Int))|0,_=>ae|n+1,a=>if decide (a<b) then ab (al d a) λe=>if U==e then J (bt a) else DD d U b n (aO .i64 (a+1)) else J (bw ())
def vA(a:List Int)(U:Int):Option Int:=ab (DD a U (aN8 a:Int) N 0) λb=>match b with|bw e=>J (-1)|bt d=>J d
def sy(d:List Int)(U:Int):Option Bool:=ab (vA N d U) λa=>aF.lt (decide (0<=a)) λb=>J b
def Fy(b:Step)(U:Int)(a:eR):Option Bool:=if b.y.cE then J aa else if b.y.aOb then if U==a.aOs then J aa else ab (sy N a.aH U) λd=>J d else J ak
def HM(a:Step)(U:Int):Option Bool:=ab (Fy N a U a.y.bo) λb=>J b
def QS(b:b7)(U:Int):Option Bool:=aF.lt (b.cq==U) λa=>J a
def CI(d:List b7)(U:Int)(b:Int):Nat->Int->Option (Sum (Unit) (Int))|0,_=>ae|n+1,a=>if decide (a<b) then ab (al d a) λe=>ab (QS e U) λf=>if f then J (bt a) else CI d U b n (aO .i64 (a+1)) else J (bw ())
def Qn(a:List b7)(U:Int):Option Int:=ab (CI a U (aN8 a:Int) N 0) λb=>match b with|bw e=>J (-1)|bt d=>J d
def Qm(d:List b7)(U:Int):Option Bool:=ab (Qn N d U) λa=>aF.lt (decide (0<=a)) λb=>J b
def R2(b:Step)(U:Int):Option Bool:=ab (Qm N b.y.b2 U) λa=>J a
def aJf(a:List UInt8):Nat->Int->Int->Option (Sum (Int) (Int×Bool))|0,_,_=>ae|n+1,e,d=>ab (al a 0) λf=>if decide (d<(aO .i64 ((fy f:Int)))) then aF.lt (aO .i64 (e+15)) λb=>if decide ((aN8 a:Int)<b) then J (bt (0,ak)) else ab (al a (aO .i64 (b-1))) λg=>aF.lt (aO .i64 (b+(aO .i64 ((fy g:Int))))) λh=>aF.lt (aO .i64 (d+1)) λi=>aJf a n h i else J (bw e)
def Sc(a:List UInt8):Option (Int×Bool):=if(aN8 a:Int)==0 then J (0,ak) else ab (aJf a N 1 0) λg=>match g with|bw d=>aF.lt (aO .i64 (d+2)) λe=>aF.lt (decide ((aO .i64 (d+2))<=(aN8 a:Int))) λf=>J (e,f)|bt b=>J (b.1,b.2)
def SD(a:kX):Option (Int×kX):=ab (al a.b (aO .i64 ((aO .i64 (a.at_+1))-1))) λd=>aF.lt (aO .i64 ((fy d:Int))) λe=>J (e,(kX.mk a.b (aO .i64 (a.at_+1))))
def SE(e:kX):Option (Int×kX):=ab (SD e) λa=>ab (SD a.2) λb=>aF.lt (ih .or .i64 (aO .i64 (a.1*256)) b.1) λd=>J (d,b.2)
def aAO(e:List UInt8)(d:Int):Nat->Int->Int->Option Int|0,_,_=>ae|n+1,b,a=>if decide (a<d) then ab (al e a) λf=>aF.lt (fy f:Int) λg=>aF.lt (jB (aO .i64 (b+(aO .i64 ((jB (aO .i64 (a+1)) 65521)*(aO .i64 g))))) 65521) λh=>aAO e d n h (aO .i64 (a+1)) else J b
def Rr(a:List UInt8):Option Int:=ab (aAO a (aN8 a:Int) N 0 0) λb=>J b
def aKO(d:Bool)(a:Int):Option Bool:=if d then if decide ((sE a 16)<=9) then aF.lt (decide ((ih .and .i64 a 15)<=9)) λb=>J b else J ak else J ak
def aCC:Nat->kX->(List UInt8)->Bool->Int->Option (kX×List UInt8×Bool)|0,_,_,_,_=>ae|n+1,f,b,e,d=>if decide (d<12) then ab (SD f) λa=>ab (aKO e a.1) λg=>ab (gW (aO .u8 ((aO .i64 (48+(sE a.1 16)))))) λh=>ab (gW (aO .u8 ((aO .i64 (48+(ih .and .i64 a.1 15)))))) λi=>ab (cD b ([h,i]:List UInt8)) λj=>aF.lt (aO .i64 (d+2)) λk=>aCC n a.2 j g k else J (f,b,e)
def aKP(d:bC)(b:Bool)(a:Int):Option Bool:=if b then if decide (a<=25) then aF.lt (decide (d.kH<=9)) λe=>J e else J ak else J ak
def RS(l:kX):Option (bC×Bool×kX):=ab (aCC N l [] aa 0) λe=>ab (SE e.1) λg=>ab (SD g.2) λf=>ab (SE f.2) λi=>ab (SE i.2) λh=>ab (SD h.2) λd=>ab (aKP (bC.mk e.2.1 g.1 f.1 i.1 h.1 (jB d.1 16) (decide (16<=d.1)) []) e.2.2 d.1) λk=>ab (SD d.2) λa=>ab (gi a.2.b a.2.at_ (aO .i64 (a.2.at_+a.1))) λj=>J ((bC.mk e.2.1 g.1 f.1 i.1 h.1 (jB d.1 16) (decide (16<=d.1)) j),k,(kX.mk a.2.b (aO .i64 (a.2.at_+a.1))))
def LZ(b:List UInt8)(a:Int):Option Bool:=ab (al b a) λd=>if decide ((fy d:Int)<48) then J aa else ab (al b a) λe=>J (decide (57<(fy e:Int)))
def DI(b:List UInt8):Nat->Int->Option (Sum (Unit) (Bool))|0,_=>ae|n+1,a=>if decide (a<(aN8 b:Int)) then ab (LZ b a) λd=>if d then J (bt ak) else aF.lt (aO .i64 (a+1)) λe=>DI b n e else J (bw ())
def QX(a:List UInt8)(U:Int):Option Bool:=ab (DI a N 0) λd=>match d with|bw f=>aF.lt ((aN8 a:Int)==U) λe=>J e|bt b=>J b
def Db(b:Int)(e:Bool):Option Int:=if e then aF.lt (aO .i64 (b*2)) λa=>if decide (9<a) then aF.lt (aO .i64 (a-9)) λd=>J d else J a else J b
def Ml(b:List UInt8):Nat->Int->Int->Option Int|0,_,_=>ae|n+1,d,a=>if decide (a<(aN8 b:Int)) then ab (al b a) λe=>aF.lt (aO .i64 ((aO .u8 ((fy e:Int)-48)))) λf=>ab (Db f ((jB a 2)==0)) λg=>aF.lt (aO .i64 (d+g)) λh=>aF.lt (aO .i64 (a+1)) λi=>Ml b n h i else J d
def Hq(b:List UInt8):Option Int:=ab (Ml b N 0 0) λa=>J a
def Q3(d:List UInt8):Option Int:=ab (Hq N d) λa=>aF.lt (jB (aO .i64 (10-(jB a 10))) 10) λb=>J b
def Q2(a:List UInt8):Option Int:=ab (QX N a 12) λb=>if !b then J 11 else ab (al a 11) λd=>ab (gi a 0 11) λe=>ab (Q3 N e) λf=>if(aO .i64 ((aO .u8 ((fy d:Int)-48)))) !=f then J 9 else J 0
def C1(b:Int)(a:Bool):Option Bool:=if a then J a else aF.lt (b==56) λd=>J d
def aDb(b:Int)(a:Bool):Option Bool:=if a then J a else aF.lt (b==52) λd=>J d
def Q9(d:List UInt8):Option (Int×Int):=ab (Q2 N d) λb=>if b !=0 then J (0,b) else ab (al d 4) λa=>aF.lt ((fy a:Int)==55) λe=>ab (C1 (fy a:Int) e) λh=>if h then J (1,0) else aF.lt ((fy a:Int)==50) λi=>ab (aDb (fy a:Int) i) λf=>if f then J (2,0) else aF.lt ((fy a:Int)==57) λg=>if g then J (3,0) else J (0,0)
def Ru(a:Int):Option Int:=aF.lt (a==2) λb=>if b then J 2 else aF.lt (a==3) λd=>if d then J 6 else J 4
def aKM(a:Int):Option Bool:=if decide (a<97) then if decide (a<48) then J aa else J (decide (57<a)) else if decide (122<a) then if decide (a<48) then J aa else J (decide (57<a)) else J ak
def D4(b:List UInt8):Nat->Int->Option (Sum (Unit) (Bool))|0,_=>ae|n+1,a=>if decide (a<(aN8 b:Int)) then ab (al b a) λd=>aF.lt (fy d:Int) λe=>ab (aKM e) λf=>if f then J (bt ak) else aF.lt (aO .i64 (a+1)) λg=>D4 b n g else J (bw ())
def aKN(a:List UInt8):Option Bool:=if decide (0<(aN8 a:Int)) then aF.lt (decide ((aN8 a:Int)<=12)) λb=>J b else J ak
def RQ(a:List UInt8):Option Bool:=ab (D4 a N 0) λe=>match e with|bw f=>ab (aKN a) λb=>J b|bt d=>J d
def CP(a:Int)(b:Bool):Option Int:=if b then J 120 else J a
def Nv(U:bC)(a:Int):Option Bool:=if decide (U.aOh<a) then J aa else if decide (400<U.aOh) then J aa else if decide (U.gv<50) then J aa else aF.lt (decide (2000<U.gv)) λb=>J b
def CQ(U:bC):Option Bool:=if decide (U.lJ<0) then J aa else if decide (U.gv<U.lJ) then J aa else if decide (U.kH<0) then J aa else aF.lt (decide (9<U.kH)) λa=>J a
def Rt(a:bC):Option Int:=ab (Q9 N a.aOj) λb=>if b.2 !=0 then J b.2 else ab (CP 80 (b.1==3)) λd=>ab (Ru b.1) λe=>aF.lt (a.iL !=e) λf=>if f then J 1 else ab (Nv a d) λj=>if j then J 2 else ab (CQ a) λh=>if h then J 2 else ab (RQ N a.aOl) λi=>aF.lt (!i) λg=>if g then J 7 else J 0
def CS(d:List bC)(f:Int):Nat->(List ((List UInt8)×Bool))->Int->Option (Sum (Unit) (Int))|0,_,_=>ae|n+1,g,b=>if decide (b<f) then ab (al d b) λa=>ab (Rt N a) λe=>if e !=0 then J (bt e) else aF.lt (jv g a.aOj) λh=>if h.getD ak then J (bt 8) else aF.lt (o8 g a.aOj aa) λi=>CS d f n i (aO .i64 (b+1)) else J (bw ())
def Hx(a:List bC):Option Int:=if decide (96<(aN8 a:Int)) then J 3 else ab (CS N a (aN8 a:Int) N [] 0) λb=>match b with|bw e=>J 0|bt d=>J d
def Ni(b:Bool)(a:Bool):Option Bool:=if b then J a else J ak
def De(f:List UInt8):Nat->kX->(List bC)->Bool->Int->Option (List bC×Bool)|0,_,_,_,_=>ae|n+1,g,d,e,b=>ab (al f 0) λj=>if decide (b<(aO .i64 ((fy j:Int)))) then ab (RS N g) λa=>ab (Ni e a.2.1) λi=>ab (cD d ([a.1]:List bC)) λh=>aF.lt (aO .i64 (b+1)) λk=>De f n a.2.2 h i k else J (d,e)
def Rj(a:List UInt8):Option (List bC×Int):=ab (Sc N a) λd=>aF.lt (!d.2) λh=>if h then J ([],10) else aF.lt (decide (d.1<(aN8 a:Int))) λi=>if i then J ([],11) else ab (SE (kX.mk a (aO .i64 (d.1-2)))) λf=>ab (gi a 0 (aO .i64 (d.1-2))) λj=>ab (Rr N j) λk=>if f.1 !=k then J ([],9) else ab (De N a N (kX.mk f.2.b 1) [] aa 0) λe=>if !e.2 then J ([],11) else ab (Hx N e.1) λg=>if g !=0 then J ([],g) else J (e.1,0)
def QU(b:bC)(U:(List UInt8)):Option Bool:=aF.lt (b.aOj==U) λa=>J a
def CJ(d:List bC)(U:(List UInt8))(b:Int):Nat->Int->Option (Sum (Unit) (Int))|0,_=>ae|n+1,a=>if decide (a<b) then ab (al d a) λe=>ab (QU e U) λf=>if f then J (bt a) else CJ d U b n (aO .i64 (a+1)) else J (bw ())
def Qp(a:List bC)(U:(List UInt8)):Option Int:=ab (CJ a U (aN8 a:Int) N 0) λb=>match b with|bw e=>J (-1)|bt d=>J d
def Qo(d:List bC)(U:(List UInt8)):Option Bool:=ab (Qp N d U) λa=>aF.lt (decide (0<=a)) λb=>J b
def aA6(U:List Int)(b:List Int)(e:Int):Nat->Int->Int->Option Int|0,_,_=>ae|n+1,d,a=>if decide (a<e) then ab (al b a) λf=>ab (al U f) λg=>aF.lt (aO .i64 (d-g)) λh=>aA6 U b e n h (aO .i64 (a+1)) else J d
def Rk(d:eE)(U:List Int)(a:List Int):Option Int:=ab (aA6 U a (aN8 a:Int) N d.aOh 0) λb=>J b
def aDc(b:List eE)(U:List Int)(a:List (List Int)):Option Bool:=if(aN8 a:Int) !=(aN8 b:Int) then J aa else if decide (24<(aN8 a:Int)) then J aa else J (decide (192<(aN8 U:Int)))
def aPP(a:Int):Option Bool:=if decide (a<1) then J aa else J (decide (400<a))
def aPt(b:List Int)(d:Int):Nat->Int->Option (Sum (Unit) (Bool))|0,_=>ae|n+1,a=>if decide (a<d) then ab (al b a) λe=>ab (aPP e) λf=>if f then J (bt ak) else aPt b d n (aO .i64 (a+1)) else J (bw ())
def aPQ(U:List Int)(b:List Bool)(a:Int):Option Bool:=if decide (a<0) then J aa else if decide ((aN8 U:Int)<=a) then J aa else ab (al b a) λe=>ab (al b a) λd=>J d
def aPv(U:List Int)(f:List Int)(e:Int):Nat->(List Bool)->Int->Option (Sum (List Bool) (Bool))|0,_,_=>ae|n+1,a,d=>if decide (d<e) then ab (al f d) λb=>ab (aPQ U a b) λh=>if h then J (bt ak) else ab (al a b) λj=>ab (al a b) λi=>aF.lt (a.set ((b:Int).toNat) aa) λg=>aPv U f e n g (aO .i64 (d+1)) else J (bw a)
def aPR(b:List eE)(U:List Int)(a:Int)(d:List Int):Option Bool:=ab (al b a) λe=>if decide (e.aOh<0) then J aa else ab (al b a) λf=>if decide (100000<f.aOh) then J aa else ab (al b a) λg=>ab (Rk N g U d) λh=>J (decide (h<0))
def aPu(f:List eE)(U:List Int)(d:List (List Int))(e:Int):Nat->(List Bool)->Int->Option (Sum (Unit) (Bool))|0,_,_=>ae|n+1,g,a=>if decide (a<e) then ab (al d a) λb=>ab (aPv U b (aN8 b:Int) N g 0) λi=>match i with|bw h=>ab (aPR N f U a b) λk=>if k then J (bt ak) else aPu f U d e n h (aO .i64 (a+1))|bt j=>J (bt j) else J (bw ())
def Re(b:List eE)(U:List Int)(a:List (List Int)):Option Bool:=ab (aDc b U a) λd=>if d then J ak else ab (aPt U (aN8 U:Int) N 0) λe=>match e with|bw j=>(ab (hy ak (aN8 U:Int)) λf=>ab (aPu N b U a (aN8 a:Int) N f 0) λg=>match g with|bw k=>J aa|bt h=>J h)|bt i=>J i
def CZ(e:List (List Int))(d:Int):Nat->(List (List Int))->Int->Option (List (List Int))|0,_,_=>ae|n+1,b,a=>if decide (a<d) then ab (al e a) λf=>ab (qy f) λg=>ab (cD b (([[]]:List (List Int)).set ((0:Int).toNat) g)) λh=>CZ e d n h (aO .i64 (a+1)) else J b
def Hm(a:List (List Int)):Option (List (List Int)):=ab (CZ a (aN8 a:Int) N ([]:List (List Int)) 0) λb=>J b
def aDd(U:Int)(e:List (List Int))(b:Int):Nat->Int->Option (Sum (Unit) (Int×Int))|0,_=>ae|n+1,a=>if decide (a<b) then ab (al e a) λf=>ab (vA N f U) λd=>if decide (0<=d) then J (bt (a,d)) else aDd U e b n (aO .i64 (a+1)) else J (bw ())
def Ho(b:List (List Int))(U:Int):Option (Int×Int):=ab (aDd N U b (aN8 b:Int) N 0) λd=>match d with|bw e=>J ((-1),(-1))|bt a=>J (a.1,a.2)
def DJ(U:List Int)(b:List (List Int))(a:cn):Option Bool:=if decide (a.hX<0) then J aa else if decide ((aN8 U:Int)<=a.hX) then J aa else if decide (a.aOt<(-1)) then J aa else if decide ((aN8 b:Int)<=a.aOt) then J aa else if decide (a.to<(-1)) then J aa else J (decide ((aN8 b:Int)<=a.to))
def L0(a:cn)(b:Int):Option Bool:=if b !=a.aOt then J aa else if a.aOt==(-1) then J (a.to==(-1)) else J ak
def aC5(h:List eE)(U:List Int)(b:List (List Int))(a:cn):Option (List (List Int)×Bool):=if decide (0<=a.to) then if a.to !=a.aOt then ab (al h a.to) λe=>ab (al b a.to) λi=>ab (al b a.to) λd=>ab (Rk N e U d) λg=>ab (al U a.hX) λf=>J ((b.set ((a.to:Int).toNat) d),(decide (g<f))) else J (b,ak) else J (b,ak)
def aC6(b:List (List Int))(a:Int)(d:Int)(g:Bool):Option (List (List Int)):=if g then ab (al b a) λh=>ab (al b a) λf=>ab (AY f d (aO .i64 (d+1))) λe=>ab (al b a) λi=>if a=a then ab (al b a) λj=>J (b.set ((a:Int).toNat) e) else ae else J b
def aC8(a:cn):Option Bool:=if decide (0<=a.to) then J a.front else J ak
def aC7(b:List (List Int))(a:cn):Option (List (List Int)):=ab (aC8 a) λd=>if d then ab (al b a.to) λh=>ab (al b a.to) λi=>ae else aF.lt (decide (0<=a.to)) λf=>if f then ab (al b a.to) λk=>ab (al b a.to) λg=>ab (cD g ([a.hX]:List Int)) λe=>ab (al b a.to) λj=>if a.to=a.to then ab (al b a.to) λl=>J (b.set ((a.to:Int).toNat) e) else ae else J b
def QZ(j:List eE)(U:List Int)(a:List (List Int))(b:cn):Option (Int×List (List Int)):=ab (DJ U a b) λf=>if f then J (2,a) else ab (Ho N (rz (λ(z:List Int)=>z) a) b.hX) λd=>ab (L0 b d.1) λg=>if g then J (17,a) else ab (aC5 N j U a b) λe=>if e.2 then J (14,e.1) else ab (aC6 e.1 d.1 d.2 (decide (0<=d.1))) λh=>ab (aC7 h b) λi=>J (0,i)
def Nw(g:List eE)(U:List Int)(e:List cn)(f:Int):Nat->(List (List Int))->Int->Option (Sum (List (List Int)) (Int×Int))|0,_,_=>ae|n+1,d,a=>if decide (a<f) then ab (al e a) λh=>ab (QZ N g U d h) λb=>if b.1 !=0 then J (bt (a,b.1)) else Nw g U e f n b.2 (aO .i64 (a+1)) else J (bw d)
def Rv(e:List eE)(U:List Int)(b:List (List Int))(a:List cn):Option (List (List Int)×Int×Int):=ab (Re N e U b) λf=>if !f then J ([],0,1) else ab (Hm N b) λg=>ab (Nw N e U a (aN8 a:Int) N g 0) λh=>match h with|bw i=>aF.lt (aN8 a:Int) λj=>J ((rz (λ(z:List Int)=>z) i),j,0)|bt d=>J ([],d.1,d.2)
def aJ4(d:List bC)(e:Int):Nat->(List Int)->Int->Option (List Int)|0,_,_=>ae|n+1,b,a=>if decide (a<e) then ab (al d a) λf=>ab (cD b ([f.aOh]:List Int)) λg=>aJ4 d e n g (aO .i64 (a+1)) else J b
def HF(a:Step)(U:List cn)(f:List cn):Option (Int×Step):=ab (aJ4 a.y.bD (aN8 a.y.bD:Int) N [] 0) λd=>ab (Rv N a.c.aH d a.y.aH U) λb=>if b.2.2 !=0 then J (b.2.2,(Step.mk a.c a.y a.e (cI.mk a.r.err f a.r.aOc a.r.dW a.r.aOd a.r.cZ a.r.aOe))) else J (0,(Step.mk a.c (bq.mk a.y.bD b.1 a.y.b2 a.y.aOb a.y.bo a.y.cE) a.e (cI.mk a.r.err U a.r.aOc a.r.dW a.r.aOd a.r.cZ a.r.aOe)))
def aCS(d:List bC)(f:List Int)(g:Int)(a:List bC):Nat->Int->Option (Sum (Unit) (Int))|0,_=>ae|n+1,b=>if decide (b<g) then ab (al f b) λe=>ab (al a e) λj=>ab (al a e) λi=>ab (Qo N d i.aOj) λh=>if h then J (bt 8) else aCS d f g a n (aO .i64 (b+1)) else J (bw ())
def CU(b:List bC)(g:List (List Int))(f:Int)(e:List bC):Nat->Int->Option (Sum (Unit) (Int))|0,_=>ae|n+1,a=>if decide (a<f) then ab (al g a) λd=>ab (aCS N b d (aN8 d:Int) e N 0) λi=>match i with|bw j=>CU b g f e n (aO .i64 (a+1))|bt h=>J (bt h) else J (bw ())
def aCT(e:Int)(b:Int)(f:Int):Nat->(List cn)->Int->Option (List cn)|0,_,_=>ae|n+1,d,a=>if decide (a<f) then ab (cD d ([(cn.mk (aO .i64 (b+a)) (-1) e ak)]:List cn)) λg=>aCT e b f n g (aO .i64 (a+1)) else J d
def Aa(a:Step)(b:List bC)(d:List cn):Option (Int×Step):=ab (tS (Step.mk a.c (bq.mk b a.y.aH a.y.b2 a.y.aOb a.y.bo a.y.cE) a.e (cI.mk a.r.err d a.r.aOc a.r.dW a.r.aOd a.r.cZ a.r.aOe)) a.e.cq) λi=>aF.lt (!i) λj=>if j then J (2,(Step.mk a.c (bq.mk b a.y.aH a.y.b2 a.y.aOb a.y.bo a.y.cE) a.e (cI.mk a.r.err d a.r.aOc a.r.dW a.r.aOd a.r.cZ a.r.aOe))) else ab (HM N (Step.mk a.c (bq.mk b a.y.aH a.y.b2 a.y.aOb a.y.bo a.y.cE) a.e (cI.mk a.r.err d a.r.aOc a.r.dW a.r.aOd a.r.cZ a.r.aOe)) a.e.cq) λk=>if k then J (25,(Step.mk a.c (bq.mk b a.y.aH a.y.b2 a.y.aOb a.y.bo a.y.cE) a.e (cI.mk a.r.err d a.r.aOc a.r.dW a.r.aOd a.r.cZ a.r.aOe))) else ab (R2 N (Step.mk a.c (bq.mk b a.y.aH a.y.b2 a.y.aOb a.y.bo a.y.cE) a.e (cI.mk a.r.err d a.r.aOc a.r.dW a.r.aOd a.r.cZ a.r.aOe)) a.e.cq) λl=>if l then J (17,(Step.mk a.c (bq.mk b a.y.aH a.y.b2 a.y.aOb a.y.bo a.y.cE) a.e (cI.mk a.r.err d a.r.aOc a.r.dW a.r.aOd a.r.cZ a.r.aOe))) else ab (Rj N a.e.data) λf=>if f.2 !=0 then J (f.2,(Step.mk a.c (bq.mk b a.y.aH a.y.b2 a.y.aOb a.y.bo a.y.cE) a.e (cI.mk a.r.err d a.r.aOc a.r.dW a.r.aOd a.r.cZ a.r.aOe))) else ab (CU N f.1 a.y.aH (aN8 a.y.aH:Int) b N 0) λm=>match m with|bw s=>aF.lt (aN8 b:Int) λg=>if decide (192<(aO .i64 (g+(aN8 f.1:Int)))) then J (3,(Step.mk a.c (bq.mk b a.y.aH a.y.b2 a.y.aOb a.y.bo a.y.cE) a.e (cI.mk a.r.err d a.r.aOc a.r.dW a.r.aOd a.r.cZ a.r.aOe))) else ab (cD b f.1) λn=>ab (aCT a.e.cq g (aN8 f.1:Int) N [] 0) λp=>ab (HF N (Step.mk a.c (bq.mk n a.y.aH a.y.b2 a.y.aOb a.y.bo a.y.cE) a.e (cI.mk a.r.err [] a.r.aOc a.r.dW a.r.aOd a.r.cZ a.r.aOe)) p d) λh=>J (h.1,h.2)|bt q=>J (q,(Step.mk a.c (bq.mk b a.y.aH a.y.b2 a.y.aOb a.y.bo a.y.cE) a.e (cI.mk a.r.err d a.r.aOc a.r.dW a.r.aOd a.r.cZ a.r.aOe)))
def Dx(d:List (List UInt8))(U:List UInt8)(b:Int):Nat->Int->Option (Sum (Unit) (Int))|0,_=>ae|n+1,a=>if decide (a<b) then ab (al d a) λe=>if U==e then J (bt a) else Dx d U b n (aO .i64 (a+1)) else J (bw ())
def z6(a:List (List UInt8))(U:List UInt8):Option Int:=ab (Dx a U (aN8 a:Int) N 0) λb=>match b with|bw e=>J (-1)|bt d=>J d
def Hh(d:List (List UInt8))(U:List UInt8):Option Bool:=ab (z6 N d U) λa=>aF.lt (decide (0<=a)) λb=>J b
def Mz(d:c8)(a:b7):Option Bool:=ab (nQ N a.aOg) λb=>if !b then J aa else if decide (a.cq<0) then J aa else if decide ((aN8 d.aH:Int)<=a.cq) then J aa else if decide ((aN8 a.c7:Int)<1) then J aa else J (decide (16<(aN8 a.c7:Int)))
def MA(e:b7)(d:Int)(a:List UInt8):Option Bool:=ab (nQ N a) λb=>if !b then J aa else ab (gi e.c7 0 d) λf=>ab (Hh N f a) λg=>J g
def DC(b:b7)(d:List (List UInt8))(e:Int):Nat->Int->Option (Sum (Unit) (Bool))|0,_=>ae|n+1,a=>if decide (a<e) then ab (al d a) λf=>ab (MA N b a f) λg=>if g then J (bt ak) else DC b d e n (aO .i64 (a+1)) else J (bw ())
def Hj(e:c8)(U:b7):Option Bool:=ab (Mz N e U) λa=>if a then J ak else ab (DC N U U.c7 (aN8 U.c7:Int) N 0) λd=>match d with|bw f=>J aa|bt b=>J b
def QY(b:List UInt8)(U:b7):Option Bool:=ab (Hh N U.c7 b) λa=>J a
def Cy(d:List (List UInt8))(U:b7)(b:Int):Nat->Int->Option (Sum (Unit) (Int))|0,_=>ae|n+1,a=>if decide (a<b) then ab (al d a) λe=>ab (QY N e U) λf=>if f then J (bt a) else Cy d U b n (aO .i64 (a+1)) else J (bw ())
def Qv(a:List (List UInt8))(U:b7):Option Int:=ab (Cy N a U (aN8 a:Int) N 0) λb=>match b with|bw e=>J (-1)|bt d=>J d
def Qs(d:List (List UInt8))(U:b7):Option Bool:=ab (Qv N d U) λa=>aF.lt (decide (0<=a)) λb=>J b
def aD1(b:b7)(a:b7)(d:Bool):Option Bool:=if d then J aa else if a.aOg==b.aOg then J aa else J (a.cq==b.cq)
def aBY(b:b7)(d:List b7)(f:Int):Nat->Int->Option (Sum (Unit) (Int))|0,_=>ae|n+1,a=>if decide (a<f) then ab (al d a) λi=>ab (al d a) λe=>ab (Qs N b.c7 e) λg=>ab (aD1 b e g) λh=>if h then J (bt 8) else aBY b d f n (aO .i64 (a+1)) else J (bw ())
def R1(a:Step)(b:List b7):Option (Int×List b7×Step):=if a.y.aOb then J (25,b,(vz a)) else ab (Hj N a.c a.e.aOo) λd=>if !d then J (1,b,(vz a)) else ab (aBY N a.e.aOo b (aN8 b:Int) N 0) λi=>match i with|bw k=>if(aN8 b:Int)==8 then J (18,b,(vz a)) else ab (al a.y.aH a.e.aOo.cq) λg=>if decide (0<(aN8 g:Int)) then J (17,b,(vz a)) else ab (Rb a.e.aOo) λh=>ab (cD b ([h]:List b7)) λf=>J (0,f,(vz a))|bt j=>J (j,b,(vz a))
def Ek(e:Step)(b:List Int)(d:Int):Nat->Int->Option (Sum (Unit) (Int))|0,_=>ae|n+1,a=>if decide (a<d) then ab (al b a) λh=>ab (al b a) λf=>ab (tS e f) λg=>if !g then J (bt 2) else Ek e b d n (aO .i64 (a+1)) else J (bw ())
def Oj(a:Step):Option Bool:=if decide (a.e.dO<0) then J aa else J (decide (12<a.e.dO))
def R0(a:Step):Option Int:=ab (cD ([a.e.cq]:List Int) a.e.aH) λb=>ab (Ek a b (aN8 b:Int) N 0) λf=>match f with|bw h=>ab (Oj a) λg=>if g then J 2 else J 0|bt d=>J d
def aAh(b:Step)(h:Int)(a:Int):Option Bool:=if a==b.e.cq then J aa else ab (R2 N b a) λd=>if d then J aa else ab (gi b.e.aH 0 h) λf=>ab (sy N f a) λg=>J g
def Fg(e:Step)(d:List Int)(b:Int):Nat->Int->Option (Sum (Unit) (Int))|0,_=>ae|n+1,a=>if decide (a<b) then ab (al d a) λf=>ab (aAh N e a f) λg=>if g then J (bt 17) else Fg e d b n (aO .i64 (a+1)) else J (bw ())
def SH(a:Step):Option Int:=ab (Fg N a a.e.aH (aN8 a.e.aH:Int) N 0) λf=>match f with|bw g=>ab (R2 N a a.e.cq) λb=>if b then J 17 else J 0|bt d=>J d
def aIV(U:Int)(f:bq)(d:List b7)(b:Int):Nat->Int->Option (Sum (Unit) (Int×Int))|0,_=>ae|n+1,a=>if decide (a<b) then ab (al d a) λg=>ab (al f.bD U) λh=>ab (z6 N g.c7 h.aOl) λe=>if decide (0<=e) then J (bt (a,e)) else aIV U f d b n (aO .i64 (a+1)) else J (bw ())
def R5(a:bq)(U:Int):Option (Int×Int):=ab (aIV N U a a.b2 (aN8 a.b2:Int) N 0) λd=>match d with|bw e=>J ((-1),(-1))|bt b=>J (b.1,b.2)
def S6(b:bq)(U:Int):Option (c4×Bool):=ab (R5 N b U) λa=>ab (al b.bD U) λd=>aF.lt (decide (0<=a.1)) λe=>J ((c4.mk a.1 a.2 0 d.aOh),e)
def FU(a:Int)(U:Int)(d:Int):Option Bool:=if decide (U<=a) then aF.lt (decide (a<=d)) λb=>J b else J ak
def Ie(d:Int)(U:Int)(b:Int):Option Bool:=ab (FU d U b) λa=>J a
def NQ(a:c4):Option Bool:=ab (Ie a.dS 0 15) λb=>if !b then J aa else ab (Ie a.pZ 0 31) λd=>if !d then J aa else ab (Ie a.round 0 12) λe=>if !e then J aa else ab (Ie a.aOh 1 400) λf=>J (!f)
def NR(U:b8)(a:Int)(b:c4):Option Bool:=if decide (0<a) then ab (al U.aN' (aO .i64 (a-1))) λd=>J (decide (b.round<d.round)) else J ak
def Fk(U:b8)(d:List c4)(e:Int):Nat->Int->Option (Sum (Unit) (Int))|0,_=>ae|n+1,a=>if decide (a<e) then ab (al d a) λb=>ab (NQ b) λg=>if g then J (bt 2) else ab (NR U a b) λf=>if f then J (bt 12) else Fk U d e n (aO .i64 (a+1)) else J (bw ())
def SJ(a:b8):Option Int:=if decide (96<(aN8 a.aN':Int)) then J 3 else ab (Ie a.dO 0 12) λb=>if !b then J 2 else ab (Fk a a.aN' (aN8 a.aN':Int) N 0) λd=>match d with|bw f=>J 0|bt e=>J e
def MC(b:c4)(a:c4):Option Bool:=if b.dS !=a.dS then J aa else aF.lt (decide (a.pZ<=b.pZ)) λd=>J d
def MB(U:b8)(d:List (List Int))(a:Int)(b:Int):Option (List (List Int)):=ab (al U.aN' a) λi=>ab (al U.aN' b) λh=>ab (MC i h) λg=>if g then J d else aF.lt (decide (b<a)) λk=>if k then ab (al d a) λq=>ab (al d a) λe=>ab (al e b) λm=>ab (al e b) λp=>aF.lt (e.set ((b:Int).toNat) 2) λj=>J (d.set ((a:Int).toNat) j) else ab (al d a) λn=>ab (al d a) λf=>ab (al f b) λr=>ab (al f b) λs=>aF.lt (f.set ((b:Int).toNat) 1) λl=>J (d.set ((a:Int).toNat) l)
def DF(U:b8)(d:Int)(e:Int):Nat->(List (List Int))->Int->Option (List (List Int))|0,_,_=>ae|n+1,b,a=>if decide (a<e) then ab (MB U b d a) λf=>DF U d e n f (aO .i64 (a+1)) else J b
def DE(U:b8)(e:Int):Nat->(List (List Int))->Int->Option (List (List Int))|0,_,_=>ae|n+1,b,a=>if decide (a<e) then ab (hy 0 (aN8 U.aN':Int)) λd=>ab (al b a) λh=>ab (al b a) λi=>ab (al (b.set ((a:Int).toNat) d) a) λj=>ab (al (b.set ((a:Int).toNat) d) a) λf=>ab (DF U a (aN8 f:Int) N ((b.set ((a:Int).toNat) d).set ((a:Int).toNat) f) 0) λg=>DE U e n g (aO .i64 (a+1)) else J b
def Hk(b:b8):Option (List (List Int)):=ab (hy ([]:List Int) (aN8 b.aN':Int)) λa=>ab (DE N b (aN8 a:Int) N a 0) λd=>J d
def Gj(a:Int)(U:Int)(d:Int):Option Bool:=if decide (U<=a) then aF.lt (decide (a<=d)) λb=>J b else J ak
def H7(d:Int)(U:Int)(b:Int):Option Bool:=ab (Gj d U b) λa=>J a
def Fi(d:Int)(U:Int):Option Bool:=ab (H7 d 0 12) λa=>if a then ab (H7 U 0 12) λb=>J b else J ak
def HU(b:Int)(U:Int):Option Bool:=ab (Fi b U) λa=>J a
def HI(d:Int):Option Int:=ab (j2 .i64 d) λa=>aF.lt (aO .i64 ((aO .i64 (1*((2 ^ a:Nat):Int)))-1)) λb=>J b
def Fj:Nat->Int->Int->Option Int|0,_,_=>ae|n+1,a,b=>if a !=0 then aF.lt (aO .i64 (b+1)) λd=>aF.lt (ih .and .i64 a (aO .i64 (a-1))) λe=>Fj n e d else J b
def HV(b:Int):Option Int:=ab (Fj N b 0) λa=>J a
def aBz(d:Int)(U:Int)(b:Int):Option Bool:=ab (HU U b) λa=>if !a then J aa else J (decide (d<0))
def aDM(h:Int)(U:Int)(d:Int)(a:Int)(g:Bool):Option Int:=if g then ab (j2 .i64 U) λb=>ab (j2 .i64 U) λe=>aF.lt (sE (aO .i64 ((aO .i64 ((aO .i64 (h-a))+(aO .i64 (1*((2 ^ b:Nat):Int)))))-1)) ((2 ^ e:Nat):Int)) λf=>J f else J d
def aDN(b:Int):Nat->Int->Option (Sum (Int) (Int×Int))|0,_=>ae|n+1,a=>ab (HV N a) λe=>if decide (b<e) then aF.lt (aO .i64 (a+(ih .and .i64 a (aO .i64 (0-a))))) λd=>if decide (4096<=d) then J (bt (0,15)) else aDN b n d else J (bw a)
def vD(a:Int)(U:Int)(d:Int):Option (Int×Int):=ab (aBz a U d) λg=>if g then J (0,2) else if decide (4096<=a) then J (0,15) else ab (HI U) λb=>ab (aDM a U 0 b (decide (b<a))) λi=>ab (aDN N d N i) λh=>match h with|bw l=>ab (j2 .i64 U) λk=>ab (HI U) λj=>aF.lt (ih .or .i64 (aO .i64 (l*((2 ^ k:Nat):Int))) j) λe=>if decide (e<4096) then J (e,0) else J (0,15)|bt f=>J (f.1,f.2)
def Mf(d:Int):Nat->(List Int)->Int->Option (List Int)|0,_,_=>ae|n+1,b,a=>if decide (a<d) then ab (al b a) λf=>ab (al b a) λg=>aF.lt (b.set ((a:Int).toNat) a) λe=>Mf d n e (aO .i64 (a+1)) else J b
def aPa(U:List (List Int))(b:List Int)(e:List Int)(a:Int)(d:Int):Option (List Int):=ab (al U d) λi=>ab (al i a) λf=>if decide (0<f) then ab (al b a) λk=>ab (al b a) λg=>ab (al e d) λm=>ab (al e d) λh=>ab (al b a) λl=>ab (al b a) λn=>aF.lt (b.set ((a:Int).toNat) (max g (aO .i64 ((aO .i64 (h+f))-1)))) λj=>J j else J b
def aOZ(U:List (List Int))(d:List Int)(b:Int)(f:Int):Nat->(List Int)->Int->Option (List Int)|0,_,_=>ae|n+1,e,a=>if decide (a<f) then ab (aPa U e d b a) λg=>aOZ U d b f n g (aO .i64 (a+1)) else J e
def aOY(U:List (List Int))(d:b8)(h:List Int)(j:Int):Nat->(List Int)->(List Int)->Int->Option (Sum (List Int×List Int) (Int))|0,_,_,_=>ae|n+1,i,b,e=>if decide (e<j) then ab (al h e) λp=>ab (al h e) λa=>ab (aOZ U b a (aN8 d.aN':Int) N i 0) λf=>ab (al f a) λq=>ab (al f a) λk=>ab (al d.aN' a) λl=>ab (vD N k l.round d.dO) λg=>if g.2 !=0 then J (bt g.2) else ab (al b a) λr=>ab (al b a) λs=>aF.lt (b.set ((a:Int).toNat) g.1) λm=>aOY U d h j n f m (aO .i64 (e+1)) else J (bw (i,b))
def Rf(d:b8)(U:List (List Int)):Option (List Int×List Int×Int):=ab (hy 0 (aN8 d.aN':Int)) λe=>ab (Mf (aN8 e:Int) N e 0) λh=>ab (o1 (rz (λ(a:c4)=>a.pZ) d.aN') h) λb=>ab (hy 0 (aN8 b:Int)) λi=>ab (hy 0 (aN8 b:Int)) λg=>ab (aOY N U d b (aN8 b:Int) N i g 0) λj=>match j with|bw f=>J (f.1,f.2,0)|bt k=>J ([],[],k)
def E0:Nat->Int->Int->Option Int|0,_,_=>ae|n+1,b,a=>if decide (0<b) then aF.lt (aO .i64 (a+1)) λd=>aF.lt (sE b 2) λe=>E0 n e d else J a
def HQ(a:Int):Option (Int×Int):=ab (H7 a 0 4095) λb=>if !b then J (0,2) else ab (E0 N a 0) λd=>J (d,0)
def aA2(b:List Int)(e:Int):Nat->dF->Int->Option dF|0,_,_=>ae|n+1,d,a=>if decide (a<e) then ab (al b a) λh=>ab (al b a) λf=>ab (HQ N f) λg=>aA2 b e n (dF.mk (max d.aOm g.1) []) (aO .i64 (a+1)) else J (dF.mk d.aOm [])
def z7(b:b8):Option (dF×Int):=ab (SJ N b) λd=>if d !=0 then J ((dF.mk 0 []),d) else ab (Hk N b) λe=>ab (Rf N b (rz (λ(z:List Int)=>z) e)) λa=>if a.2.2 !=0 then J ((dF.mk 0 []),a.2.2) else ab (aA2 N a.2.1 (aN8 a.2.1:Int) N (dF.mk 0 []) 0) λf=>J ((dF.mk f.aOm a.2.1),0)
def MF(a:Bool):Option Unit:=if a then ae else J ()
def DG(b:List Int):Nat->Int->Int->Option Int|0,_,_=>ae|n+1,d,a=>if decide (a<(aN8 b:Int)) then ab (al b a) λe=>aF.lt (max d e) λf=>aF.lt (aO .i64 (a+1)) λg=>DG b n f g else J d
def QV(a:List Int):Option Int:=ab (MF (decide ((aN8 a:Int)<1))) λe=>ab (al a 0) λb=>ab (DG a N b 1) λd=>J d
def Dy:Nat->(List Int)->Int->Int->Option (List Int)|0,_,_,_=>ae|n+1,a,b,d=>if decide (b<d) then ab (al a d) λk=>ab (al a d) λf=>ab (al a b) λl=>ab (al a b) λg=>ab (al a b) λq=>ab (al a b) λr=>aF.lt (a.set ((b:Int).toNat) f) λe=>ab (al e d) λp=>ab (al e d) λm=>aF.lt (e.set ((d:Int).toNat) g) λj=>aF.lt (aO .i64 (b+1)) λi=>aF.lt (aO .i64 (d-1)) λh=>Dy n j i h else J a
def QI(a:List Int):Option (List Int):=aF.lt (aO .i64 ((aN8 a:Int)-1)) λb=>ab (Dy N a 0 b) λd=>J d
def L3(f:List Int)(e:List Int)(b:Int)(a:Int)(d:Int):Option Bool:=if decide (0<d) then ab (al e a) λi=>ab (al e a) λh=>ab (al f b) λj=>ab (al f b) λg=>J ((aO .i64 ((aO .i64 (h+d))-1))==g) else J ak
def L2(d:List (List Int))(f:List Int)(e:List Int)(g:Int):Nat->Int->Int->Option Int|0,_,_=>ae|n+1,b,a=>if decide (a<g) then ab (al d a) λh=>ab (al h b) λi=>ab (L3 f e b a i) λj=>if j then J a else L2 d f e g n b (aO .i64 (a+1)) else J b
def L1(f:List (List Int))(a:List Int)(d:List Int):Nat->Int->(List Int)->Option (List Int)|0,_,_=>ae|n+1,b,e=>ab (al a b) λj=>ab (al a b) λh=>if decide (0<h) then ab (L2 f a d (aN8 d:Int) N b 0) λg=>ab (cD e ([g]:List Int)) λi=>L1 f a d n g i else J e
def Q0(b:b8):Option (List Int×Int):=ab (SJ N b) λd=>if d !=0 then J ([],d) else ab (Hk N b) λe=>ab (Rf N b (rz (λ(z:List Int)=>z) e)) λa=>if a.2.2 !=0 then J ([],a.2.2) else if(aN8 a.2.1:Int)==0 then J ([],0) else ab (QV N a.2.1) λg=>ab (vA N a.2.1 g) λf=>ab (L1 N (rz (λ(z:List Int)=>z) e) a.1 a.2.1 N f ([f]:List Int)) λh=>ab (QI N h) λi=>J (i,0)
def Q7(d:b8):Option (e8×Int):=ab (z7 N d) λa=>if a.2 !=0 then J ((e8.mk (dF.mk 0 []) []),a.2) else ab (Q0 N d) λb=>if b.2 !=0 then J ((e8.mk (dF.mk 0 []) []),b.2) else J ((e8.mk a.1 b.1),0)
def Q4:Option Bool:=J ak
def Mr(i:dF)(f:Int)(a:Int)(j:List c4)(b:Int):Option Int:=ab (al j b) λd=>ab (al i.fW b) λe=>ab (j2 .i64 f) λg=>if(ih .and .i64 (sE e ((2 ^ g:Nat):Int)) 1)==1 then aF.lt (aO .i64 (a+d.aOh)) λh=>J h else J a
def Dt(e:dF)(d:Int)(f:List c4)(g:Int):Nat->Int->Int->Option Int|0,_,_=>ae|n+1,b,a=>if decide (a<g) then ab (Mr e d b f a) λh=>Dt e d f g n h (aO .i64 (a+1)) else J b
def Ds(d:Step)(b:b8)(f:dF)(g:Int):Nat->Int->Option (Sum (Unit) (Int))|0,_=>ae|n+1,a=>if decide (a<g) then ab (Dt f a b.aN' (aN8 b.aN':Int) N 0 0) λi=>ab (al d.e.aH a) λj=>ab (al d.c.aH j) λh=>if decide (h.aOh<i) then J (bt 14) else Ds d b f g n (aO .i64 (a+1)) else J (bw ())
def Ms(d:Int)(a:Int)(g:List c4)(f:Int):Option Int:=ab (al g f) λb=>if b.dS==d then aF.lt (aO .i64 (a+b.aOh)) λe=>J e else J a
def Dv(b:Int)(e:List c4)(f:Int):Nat->Int->Int->Option Int|0,_,_=>ae|n+1,d,a=>if decide (a<f) then ab (Ms b d e a) λg=>Dv b e f n g (aO .i64 (a+1)) else J d
def Mt(i:Step)(a:Int)(h:List Int)(g:Int):Option Int:=ab (al h g) λb=>ab (Q4) λd=>if !d then ab (al i.y.bD b) λe=>aF.lt (aO .i64 (a+e.aOh)) λf=>J f else J a
def Dw(f:Step)(d:List Int)(e:Int):Nat->Int->Int->Option Int|0,_,_=>ae|n+1,b,a=>if decide (a<e) then ab (Mt f b d a) λg=>Dw f d e n g (aO .i64 (a+1)) else J b
def Du(b:Step)(d:b8)(h:List b7)(g:Int):Nat->Int->Option (Sum (Unit) (Int))|0,_=>ae|n+1,a=>if decide (a<g) then ab (al h a) λf=>ab (Dv a d.aN' (aN8 d.aN':Int) N 0 0) λi=>ab (al b.y.aH f.cq) λe=>ab (Dw b e (aN8 e:Int) N i 0) λj=>ab (al b.c.aH f.cq) λk=>if decide (k.aOh<j) then J (bt 14) else Du b d h g n (aO .i64 (a+1)) else J (bw ())
def QG(a:Step)(U:b8)(b:dF):Option Int:=if decide ((aN8 a.e.aH:Int)<b.aOm) then J 14 else ab (Ds N a U b b.aOm N 0) λd=>match d with|bw i=>(ab (Du N a U a.y.b2 (aN8 a.y.b2:Int) N 0) λg=>match g with|bw j=>J 0|bt f=>J f)|bt h=>J h
def x3(a:Step)(U:List Int)(d:b8):Option (Int×Step):=ab (Q7 N d) λb=>if b.2 !=0 then J (b.2,a) else ab (QG N a d b.1.e9) λf=>if f !=0 then J (f,a) else ab (gi a.e.aH 0 b.1.e9.aOm) λg=>ab (qy g) λh=>ab (Rc b.1) λi=>J (0,(Step.mk a.c (bq.mk a.y.bD a.y.aH a.y.b2 aa (eR.mk U d b.1 a.e.cq h 0) ak) a.e (cI.mk a.r.err a.r.vv i a.r.dW a.r.aOd a.r.cZ a.r.aOe)))
def OG(e:Step)(b:List Int)(d:Int):Nat->Int->Option (Sum (Unit) (Int))|0,_=>ae|n+1,a=>if decide (a<d) then ab (al b a) λf=>ab (al e.y.aH f) λg=>if decide (0<(aN8 g:Int)) then J (bt 17) else OG e b d n (aO .i64 (a+1)) else J (bw ())
def aEe(g:Step)(b:List Int)(f:Int):Nat->b8->Int->(List c4)->Option (Sum (b8×List c4) (Int))|0,_,_,_=>ae|n+1,d,a,h=>if decide (a<f) then ab (al b a) λk=>ab (al b a) λi=>ab (S6 N g.y i) λe=>if !e.2 then J (bt 13) else ab (cD h ([e.1]:List c4)) λj=>aEe g b f n (b8.mk [] d.dO) (aO .i64 (a+1)) j else J (bw ((b8.mk [] d.dO),h))
def aKu(b:Step)(f:List c4)(e:Int):Option (Sum (Unit) (Int)):=ab (al f e) λj=>ab (al f e) λd=>ab (al b.y.b2 d.dS) λg=>ab (al b.y.aH g.cq) λa=>if(aN8 a:Int)==0 then J (bw ()) else ab (al a (aO .i64 ((aN8 a:Int)-1))) λh=>ab (R5 N b.y h) λi=>if decide (d.pZ<i.2) then J (bt 12) else J (bw ())
def aJh(d:Step)(b:List c4)(e:Int):Nat->Int->Option (Sum (Unit) (Int))|0,_=>ae|n+1,a=>if decide (a<e) then ab (aKu N d b a) λg=>match g with|bw h=>aJh d b e n (aO .i64 (a+1))|bt f=>J (bt f) else J (bw ())
def Sj(a:Step):Option (Int×Step):=if a.y.aOb then J (25,a) else ab (R0 N a) λf=>if f !=0 then J (f,a) else ab (SH N a) λg=>if g !=0 then J (g,a) else ab (OG a a.e.aH (aN8 a.e.aH:Int) N 0) λi=>match i with|bw q=>(ab (al a.y.aH a.e.cq) λj=>ab (qy j) λb=>ab (aEe N a b (aN8 b:Int) N (b8.mk [] a.e.dO) 0 []) λk=>match k with|bw d=>(if(aN8 b:Int)==0 then J (13,a) else ab (aJh N a d.2 (aN8 d.2:Int) N 0) λl=>match l with|bw r=>ab (x3 N a b (b8.mk d.2 d.1.dO)) λh=>J (h.1,h.2)|bt n=>J (n,a))|bt p=>J (p,a))|bt m=>J (m,a)
def Su(a:eR):Option Int:=if a.h9==0 then J a.aOs else ab (al a.aH (aO .i64 (a.h9-1))) λb=>J b
def aKG(d:Step)(U:Int)(a:im):Option Bool:=if decide (a.aOe<0) then J aa else if decide (U<=a.aOe) then J aa else ab (tS d a.cq) λb=>J (!b)
def aAT(e:Step)(U:Int)(b:List im)(d:Int):Nat->Int->Option (Sum (Unit) (Int))|0,_=>ae|n+1,a=>if decide (a<d) then ab (al b a) λf=>ab (aKG e U f) λg=>if g then J (bt 2) else aAT e U b d n (aO .i64 (a+1)) else J (bw ())
def aIL(f:List im)(g:Int):Nat->(List (Int×Int))->Int->Option (Sum ((List (Int×Int))) (Int))|0,_,_=>ae|n+1,a,d=>if decide (d<g) then ab (al f d) λb=>aF.lt (jv a b.aOe) λe=>aF.lt (e.getD 0) λi=>if e.isSome then J (bt 8) else aF.lt (o8 a b.aOe b.cq) λh=>aIL f g n h (aO .i64 (d+1)) else J (bw a)
def aIM(b:Int)(d:List im)(e:Int):Nat->Int->Option (Sum (Unit) (Int))|0,_=>ae|n+1,a=>if decide (a<e) then ab (al d a) λf=>if f.cq==b then J (bt 17) else aIM b d e n (aO .i64 (a+1)) else J (bw ())
def RB(a:Step)(U:Int)(d:Int):Option ((List (Int×Int))×Int):=if decide (16<(aN8 a.e.hD:Int)) then J ([],3) else ab (aAT a U a.e.hD (aN8 a.e.hD:Int) N 0) λb=>match b with|bw l=>(ab (aIL a.e.hD (aN8 a.e.hD:Int) N [] 0) λf=>match f with|bw k=>(ab (aIM d a.e.hD (aN8 a.e.hD:Int) N 0) λg=>match g with|bw m=>J (k,0)|bt j=>J ([],j))|bt i=>J ([],i))|bt h=>J ([],h)
def FJ(b:eR)(d:Int):Nat->Int->Option (Sum (Unit) (Int))|0,_=>ae|n+1,a=>if decide (a<(aN8 b.aH:Int)) then ab (j2 .i64 a) λe=>if(ih .and .i64 (sE d ((2 ^ e:Nat):Int)) 1)==1 then ab (al b.aH a) λf=>J (bt f) else aF.lt (aO .i64 (a+1)) λg=>FJ b d n g else J (bw ())
def Sv(a:bq)(U:Int):Option Int:=ab (vA N a.bo.bD U) λb=>ab (al a.bo.aOc.e9.fW b) λd=>ab (FJ a.bo d N a.bo.h9) λh=>match h with|bw i=>ab (R5 N a U) λf=>ab (al a.b2 f.1) λg=>J g.cq|bt e=>J e
def aJC(d:List bC)(e:Int):Nat->(List Int)->Int->Option (List Int)|0,_,_=>ae|n+1,b,a=>if decide (a<e) then ab (al d a) λf=>ab (cD b ([f.aOh]:List Int)) λg=>aJC d e n g (aO .i64 (a+1)) else J b
def HT(a:Step)(U:List cn):Option (Int×Step):=ab (aJC a.y.bD (aN8 a.y.bD:Int) N [] 0) λd=>ab (Rv N a.c.aH d a.y.aH U) λb=>if b.2.2 !=0 then J (b.2.2,a) else J (0,(Step.mk a.c (bq.mk a.y.bD b.1 a.y.b2 a.y.aOb a.y.bo a.y.cE) a.e (cI.mk a.r.err U a.r.aOc a.r.dW a.r.aOd a.r.cZ a.r.aOe)))
def x4(a:Step):Option Step:=J (Step.mk a.c (bq.mk a.y.bD a.y.aH a.y.b2 ak (eR.mk [] (b8.mk [] 0) (e8.mk (dF.mk 0 []) []) 0 [] 0) ak) a.e a.r)
def aAf(a:Int)(d:Int)(b:Bool):Option Bool:=if b then J (d !=a) else J ak
def aB8(b:Bool)(a:Int)(d:Int)(e:Bool):Option (Bool×Int):=if e then J (aa,d) else J (b,a)
def aB7(p:Step)(f:Int)(e:List (Int×Int))(l:List Int)(m:Int):Nat->Bool->(List cn)->Int->Option (Bool×List cn)|0,_,_,_=>ae|n+1,g,b,a=>if decide (a<m) then ab (al l a) λd=>ab (Sv N p.y d) λi=>aF.lt (jv e a) λj=>aF.lt (j.getD 0) λk=>ab (aAf i k j.isSome) λr=>ab (aB8 g i k r) λh=>ab (cD b ([(cn.mk d f h.2 ak)]:List cn)) λq=>aB7 p f e l m n h.1 q (aO .i64 (a+1)) else J (g,b)
def aEf(a:Step)(b:Bool):Option Step:=if b then J (Step.mk a.c (bq.mk a.y.bD a.y.aH a.y.b2 a.y.aOb a.y.bo aa) a.e a.r) else aF.lt (decide (a.y.bo.aOc.e9.aOm<a.y.bo.h9)) λd=>if d then ab (x4 a) λf=>J f else J a
def Sk(a:Step)(d:List cn):Option (Int×Step):=if !a.y.aOb then J (16,(Step.mk a.c a.y a.e (cI.mk a.r.err d a.r.aOc a.r.dW a.r.aOd a.r.cZ a.r.aOe))) else if a.y.cE then J (25,(Step.mk a.c a.y a.e (cI.mk a.r.err d a.r.aOc a.r.dW a.r.aOd a.r.cZ a.r.aOe))) else ab (Su a.y.bo) λf=>ab (al a.y.aH f) λg=>ab (RB N (Step.mk a.c a.y a.e (cI.mk a.r.err d a.r.aOc a.r.dW a.r.aOd a.r.cZ a.r.aOe)) (aN8 g:Int) f) λh=>if h.2 !=0 then J (h.2,(Step.mk a.c a.y a.e (cI.mk a.r.err d a.r.aOc a.r.dW a.r.aOd a.r.cZ a.r.aOe))) else ab (aB7 N (Step.mk a.c a.y a.e (cI.mk a.r.err d a.r.aOc a.r.dW a.r.aOd a.r.cZ a.r.aOe)) f h.1 g (aN8 g:Int) N ak [] 0) λi=>ab (HT N (Step.mk a.c a.y a.e (cI.mk a.r.err d a.r.aOc a.r.dW a.r.aOd a.r.cZ a.r.aOe)) i.2) λb=>if b.1 !=0 then J (b.1,b.2) else ab (aEf (Step.mk b.2.c (bq.mk b.2.y.bD b.2.y.aH b.2.y.b2 b.2.y.aOb (eR.mk b.2.y.bo.bD b.2.y.bo.iP b.2.y.bo.aOc b.2.y.bo.aOs b.2.y.bo.aH (aO .i64 (b.2.y.bo.h9+1))) b.2.y.cE) b.2.e b.2.r) i.1) λj=>J (0,j)
def NI(d:List b7)(b:Int):Nat->ct->Int->(List Int)->Option (ct×List Int)|0,_,_,_=>ae|n+1,h,a,e=>if decide (a<b) then ab (al d a) λf=>ab (cD e ([f.cq]:List Int)) λg=>NI d b n (ct.mk [] [] []) (aO .i64 (a+1)) g else J ((ct.mk [] [] []),e)
def aKK(U:bq)(b:Int)(a:Int)(f:List Int):Option Bool:=ab (sy N f b) λd=>if d then J aa else ab (sy N U.bo.bD a) λe=>J e
def aKJ(U:bq)(d:Int)(i:List Int)(g:Int)(h:List Int)(b:List Int):Option ((List Int)×List Int):=ab (al i g) λa=>ab (aKK N U d a h) λe=>if e then ab (cD b ([a]:List Int)) λf=>J ([],f) else J ([],b)
def MQ(U:bq)(b:Int)(f:List Int)(g:Int)(e:List Int):Nat->(List Int)->Int->(List Int)->Option ((List Int)×List Int)|0,_,_,_=>ae|n+1,i,a,d=>if decide (a<g) then ab (aKJ N U b f a e d) λh=>MQ U b f g e n [] (aO .i64 (a+1)) h.2 else J ([],d)
def EE(U:bq)(g:List (List Int))(e:Int)(f:List Int):Nat->(List Int)->Int->(List Int)->Option ((List Int)×List Int)|0,_,_,_=>ae|n+1,i,a,d=>if decide (a<e) then ab (al g a) λb=>ab (MQ N U a b (aN8 b:Int) f N [] 0 d) λh=>EE U g e f n [] (aO .i64 (a+1)) h.2 else J ([],d)
def aIS(U:bq)(b:List Int)(d:Int):Nat->ct->Int->(List c4)->Option (ct×List c4)|0,_,_,_=>ae|n+1,i,a,e=>if decide (a<d) then ab (al b a) λj=>ab (al b a) λh=>ab (S6 N U h) λg=>ab (cD e ([g.1]:List c4)) λf=>aIS U b d n (ct.mk [] [] []) (aO .i64 (a+1)) f else J ((ct.mk [] [] []),e)
def aI3(a:List Int)(h:List Int)(g:Int)(f:List Int):Option (List Int):=ab (al h g) λe=>ab (vA N f e) λb=>if decide (0<=b) then ab (cD a ([b]:List Int)) λd=>J d else J a
def aIU(e:List Int)(f:Int)(d:List Int):Nat->(List Int)->Int->Option (List Int)|0,_,_=>ae|n+1,b,a=>if decide (a<f) then ab (aI3 N b e a d) λg=>aIU e f d n g (aO .i64 (a+1)) else J b
def aIT(e:List (List Int))(g:Int)(d:List Int):Nat->ct->Int->(List (List Int))->Option (ct×List (List Int))|0,_,_,_=>ae|n+1,j,a,f=>if decide (a<g) then ab (al e a) λb=>ab (aIU N b (aN8 b:Int) d N [] 0) λi=>ab (cD f ([i]:List (List Int))) λh=>aIT e g d n (ct.mk [] [] []) (aO .i64 (a+1)) h else J ((ct.mk [] [] []),f)
def RI(a:bq):Option (ct×List Int×Int):=if !a.cE then J ((ct.mk [] [] []),[],16) else ab (NI a.b2 (aN8 a.b2:Int) N (ct.mk [] [] []) 0 []) λd=>ab (EE N a a.aH (aN8 a.aH:Int) d.2 N [] 0 []) λe=>ab (ve e.2) λb=>if decide (96<(aN8 b:Int)) then J ((ct.mk [] [] []),[],3) else ab (aIS N a b (aN8 b:Int) N (ct.mk [] [] []) 0 []) λf=>ab (aIT N a.aH (aN8 a.aH:Int) b N (ct.mk [] [] []) 0 []) λg=>J ((ct.mk f.2 d.2 g.2),b,0)
def MG(d:List hx)(b:List Bool)(a:Int):Option Bool:=if decide (a<0) then J aa else if decide ((aN8 d:Int)<=a) then J aa else ab (al b a) λf=>ab (al b a) λe=>J e
def Ea(f:Int)(i:List Int)(h:Int):Nat->(List hx)->(List Bool)->Int->Int->Option (Sum (List hx×List Bool×Int) (Bool))|0,_,_,_,_=>ae|n+1,d,b,g,e=>if decide (e<h) then ab (al i e) λa=>ab (MG d b a) λk=>if k then J (bt ak) else ab (al d a) λp=>ab (al d a) λq=>aF.lt (d.set ((a:Int).toNat) (hx.mk f e)) λj=>ab (al b a) λs=>ab (al b a) λr=>aF.lt (b.set ((a:Int).toNat) aa) λl=>aF.lt (aO .i64 (g+1)) λm=>Ea f i h n j l m (aO .i64 (e+1)) else J (bw (d,b,g))
def Nh(g:List (List Int))(h:Int):Nat->(List hx)->(List Bool)->Int->Int->Option (Sum (List hx×Int) (Bool))|0,_,_,_,_=>ae|n+1,f,i,e,a=>if decide (a<h) then ab (al g a) λd=>ab (Ea a d (aN8 d:Int) N f i e 0) λk=>match k with|bw b=>Nh g h n b.1 b.2.1 b.2.2 (aO .i64 (a+1))|bt j=>J (bt j) else J (bw (f,e))
def HD(a:ct):Option (List hx×Bool):=ab (hy (hx.mk 0 0) (aN8 a.aN':Int)) λd=>ab (hy ak (aN8 a.aN':Int)) λe=>ab (Nh N a.aH (aN8 a.aH:Int) N d e 0 0) λf=>match f with|bw b=>aF.lt (b.2==(aN8 b.1:Int)) λg=>J (b.1,g)|bt h=>J ([],h)
def D6(U:ct):Option Bool:=if decide (96<(aN8 U.aN':Int)) then J aa else if decide (16<(aN8 U.aOq:Int)) then J aa else J (decide (24<(aN8 U.aH:Int)))
def Nd(U:ct)(e:Int)(a:Int):Option Bool:=if decide (a<0) then J aa else if decide ((aN8 U.aH:Int)<=a) then J aa else ab (gi U.aOq 0 e) λb=>ab (sy N b a) λd=>J d
def Nc(U:ct)(b:List Int)(d:Int):Nat->Int->Option (Sum (Unit) (Bool))|0,_=>ae|n+1,a=>if decide (a<d) then ab (al b a) λe=>ab (Nd N U a e) λf=>if f then J (bt ak) else Nc U b d n (aO .i64 (a+1)) else J (bw ())
def aCD(U:ct)(a:c4):Option Bool:=if decide (a.dS<0) then J aa else if decide ((aN8 U.aOq:Int)<=a.dS) then J aa else if decide (a.pZ<0) then J aa else if decide (32<=a.pZ) then J aa else if a.round !=0 then J aa else if decide (a.aOh<1) then J aa else J (decide (400<a.aOh))
def aBU(U:ct)(d:List c4)(b:Int):Nat->Int->Option (Sum (Unit) (Bool))|0,_=>ae|n+1,a=>if decide (a<b) then ab (al d a) λe=>ab (aCD U e) λf=>if f then J (bt ak) else aBU U d b n (aO .i64 (a+1)) else J (bw ())
def RV(a:ct):Option Bool:=ab (D6 a) λb=>if b then J ak else ab (Nc N a a.aOq (aN8 a.aOq:Int) N 0) λe=>match e with|bw i=>(ab (aBU a a.aN' (aN8 a.aN':Int) N 0) λd=>match d with|bw j=>ab (HD N a) λh=>J h.2|bt f=>J f)|bt g=>J g
def Oz(d:Int):Nat->Int->(List Int)->Option (List Int)|0,_,_=>ae|n+1,a,b=>if decide (a<d) then ab (al b a) λf=>ab (al b a) λg=>aF.lt (b.set ((a:Int).toNat) (-1)) λe=>Oz d n (aO .i64 (a+1)) e else J b
def Sg(a:ct):Option (er×List hx×List Int):=ab (hy 0 (aN8 a.aN':Int)) λb=>ab (HD N a) λd=>ab (Oz (aN8 b:Int) N 0 b) λe=>J ((er.mk a [] []),d.1,e)
def SG(a:er)(U:Int):Option Bool:=ab (al a.at_ U) λb=>ab (al a.d.aN' U) λe=>ab (al a.d.aOq e.dS) λf=>aF.lt (b.cq==f) λg=>J g
def xm(a:er)(U:Int)(b:Int):Option Bool:=ab (al a.d.aN' U) λe=>ab (al a.d.aN' b) λf=>if e.dS==f.dS then ab (al a.d.aN' U) λg=>ab (al a.d.aN' b) λh=>aF.lt (decide (g.pZ<h.pZ)) λi=>J i else J ak
def qz(d:er)(U:Int)(a:Int):Option Bool:=ab (xm d U a) λb=>J b
def Ec(a:er)(U:Int)(b:Int):Option Bool:=ab (al a.at_ U) λd=>ab (al a.at_ b) λe=>if d.cq==e.cq then ab (al a.at_ U) λf=>ab (al a.at_ b) λg=>aF.lt (decide (g.aOe<f.aOe)) λh=>J h else J ak
def RY(d:er)(U:Int)(a:Int):Option Bool:=ab (Ec d U a) λb=>J b
def Eg(a:er)(U:Int)(f:Int):Option Bool:=ab (al a.round U) λb=>if decide (0<=b) then ab (al a.round U) λd=>aF.lt (decide (d<f)) λe=>J e else J ak
def RZ(d:er)(U:Int)(b:Int):Option Bool:=ab (Eg d U b) λa=>J a
def C7(e:er)(U:Int)(d:Int):Option Bool:=if d==(-1) then ab (SG e U) λa=>aF.lt (!a) λb=>J b else J ak
def aPb(b:er)(a:Int):Option Bool:=if decide (a<0) then J aa else J (decide ((aN8 b.d.aN':Int)<=a))
def aPc(a:Int)(b:Int):Option Bool:=if a==3 then aF.lt (b==0) λd=>J d else J ak
def aPd(a:er)(U:Int)(b:Int):Option Bool:=ab (SG a U) λf=>if f then ab (qz a b U) λd=>if d then ab (RY a b U) λe=>J e else J ak else J ak
def aPe(b:er)(U:Int)(a:Int)(d:Int):Option Bool:=ab (qz b a U) λf=>if f then ab (RZ b a d) λe=>J e else J ak
def aPf(b:er)(U:Int)(a:Int)(d:Int):Option Bool:=ab (RY b U a) λf=>if f then ab (RZ b a d) λe=>J e else J ak
def Rh(b:er)(U:Int)(d:Int)(a:Int)(e:Int):Option Bool:=if d==1 then ab (C7 b U a) λf=>J f else ab (aPb b a) λg=>if g then J ak else ab (aPc d e) λi=>if i then ab (aPd b U a) λh=>J h else aF.lt (d==3) λl=>if l then ab (aPe b U a e) λj=>J j else aF.lt (d==2) λk=>if k then ab (aPf b U a e) λm=>J m else J ak
def F1(g:er)(U:Int)(b:b6)(a:List Int)(f:Bool):Option (Sum (b6×List Int) (b6×Bool)):=if f then ab (SG g U) λd=>if !d then J (bt ((b6.mk U 1 (-1) 0),aa)) else ab (gi a 1 (aN8 a:Int)) λe=>J (bw (b,e)) else J (bw (b,a))
def aJO(g:er)(U:Int)(d:Int)(b:Int)(f:Int):Nat->b6->Int->Option (Sum (b6) (b6×Bool))|0,_,_=>ae|n+1,e,a=>if decide (a<f) then ab (Rh g U b a d) λh=>if h then J (bt ((b6.mk U b a d),aa)) else aJO g U d b f n e (aO .i64 (a+1)) else J (bw e)
def O2(b:er)(U:Int)(e:Int)(i:List Int)(h:Int):Nat->b6->Int->Option (Sum (b6) (b6×Bool))|0,_,_=>ae|n+1,f,a=>if decide (a<h) then ab (al i a) λk=>ab (aJO b U e k (aN8 b.d.aN':Int) N f 0) λl=>match l with|bw j=>O2 b U e i h n j (aO .i64 (a+1))|bt g=>J (bt (g.1,g.2)) else J (bw f)
def S4(f:er)(U:Int)(b:Int):Option (b6×Bool):=ab (F1 f U (b6.mk 0 0 0 0) ([2,3]:List Int) (b==0)) λg=>match g with|bw a=>(ab (O2 N f U b a.2 (aN8 a.2:Int) N a.1 0) λh=>match h with|bw i=>J ((b6.mk 0 0 0 0),ak)|bt e=>J (e.1,e.2))|bt d=>J (d.1,d.2)
def aKQ(h:er)(a:List b6)(g:Int)(b:Int)(k:List hx)(e:List Int):Option (List b6):=ab (al e b) λl=>ab (al e b) λi=>if decide (0<=i) then J a else ab (S4 N (er.mk h.d k e) b g) λf=>if f.2 then ab (cD a ([f.1]:List b6)) λj=>J j else J a
def aJu(f:er)(e:Int)(g:Int)(i:List hx)(h:List Int):Nat->(List b6)->Int->Option (List b6)|0,_,_=>ae|n+1,b,a=>if decide (a<g) then ab (aKQ N (er.mk f.d [] []) b e a i h) λj=>aJu f e g i h n j (aO .i64 (a+1)) else J b
def aJv(e:List b6)(g:Int)(b:Nat×Nat)(h:Int):Nat->Int->(List Int)->Option (List Int)|0,_,_=>ae|n+1,d,a=>if decide (d<h) then ab (al (List.drop b.1 (List.take b.2 e)) d) λl=>ab (al e ((b.1:Int)+d)) λf=>ab (al a f.aOk) λj=>ab (al a f.aOk) λk=>aF.lt (a.set ((f.aOk:Int).toNat) g) λi=>aJv e g b h n (aO .i64 (d+1)) i else J a
def aKR(a:List b6)(d:Int)(b:Int):Option Bool:=if decide (0<d) then J ((aN8 a:Int)==b) else J ak
def Nb(U:ct)(g:er)(i:List hx):Nat->(List b6)->Int->(List Int)->Option (List b6)|0,_,_,_=>ae|n+1,f,e,h=>aF.lt (aN8 f:Int) λb=>ab (aJu N (er.mk g.d [] []) e (aN8 U.aN':Int) i h N f 0) λa=>ab (gi a b (aN8 a:Int)) λm=>ab (aJv a e (sF b,sF (aN8 a:Int)) (aN8 (List.drop (sF b) (List.take (sF (aN8 a:Int)) a)):Int) N 0 h) λk=>ab (aKR a e b) λj=>if j then J a else aF.lt (aO .i64 (e+1)) λl=>Nb U g i n a l k
def RU(f:ct):Option (List b6×Int):=ab (RV N f) λg=>if !g then J ([],1) else ab (Sg N f) λe=>ab (Nb N f (er.mk e.1.d [] []) e.2.1 N [] 0 e.2.2) λh=>ab (@G6 b6 ⟨(b6.mk 0 0 0 0)⟩ (λ(a b:b6)=>p1 a.aOk b.aOk) h) λi=>J (i,0)
def Ry(a:Step):Option Step:=J (Step.mk a.c (bq.mk a.y.bD a.y.aH a.y.b2 ak (eR.mk [] (b8.mk [] 0) (e8.mk (dF.mk 0 []) []) 0 [] 0) ak) a.e a.r)
def aBV(e:ct)(a:b6)(b:List Int):Option Bool:=if decide (a.aOk<0) then J aa else if decide ((aN8 e.aN':Int)<=a.aOk) then J aa else ab (al b a.aOk) λf=>ab (al b a.aOk) λd=>if decide (0<=d) then J aa else J (decide (a.round<0))
def aCE(e:ct)(f:List b6)(g:Int):Nat->Int->(List Int)->Option (Sum (List Int) (Bool))|0,_,_=>ae|n+1,d,b=>if decide (d<g) then ab (al f d) λa=>ab (aBV e a b) λi=>if i then J (bt ak) else ab (al b a.aOk) λj=>ab (al b a.aOk) λk=>aF.lt (b.set ((a.aOk:Int).toNat) a.round) λh=>aCE e f g n (aO .i64 (d+1)) h else J (bw b)
def aDW(e:er)(h:List b6)(i:Int)(f:List hx)(g:List Int):Nat->Int->Option (Sum (Unit) (Bool))|0,_=>ae|n+1,b=>if decide (b<i) then ab (al h b) λa=>ab (Rh (er.mk e.d f g) a.aOk a.reason a.ib a.round) λj=>if !j then J (bt ak) else aDW e h i f g n (aO .i64 (b+1)) else J (bw ())
def aKS(b:er)(a:Int)(g:Int)(e:List Int)(f:List hx):Option Bool:=ab (SG (er.mk b.d f e) a) λh=>if h then ab (qz (er.mk b.d f e) g a) λi=>if i then ab (RY (er.mk b.d f e) g a) λj=>J j else J ak else J ak
def aKT(f:er)(e:Int)(b:Int)(h:Bool)(a:List Int)(g:List hx):Option Bool:=ab (SG (er.mk f.d g a) e) λj=>if !j then J aa else if h then J aa else ab (al a b) λm=>ab (al a b) λi=>if decide (0<=i) then ab (qz (er.mk f.d g a) b e) λl=>if l then J aa else ab (RY (er.mk f.d g a) e b) λk=>J k else J ak
def aJw(e:er)(b:Int)(f:List Int)(h:Int)(g:List hx):Nat->Int->Option (Sum (Unit) (Bool))|0,_=>ae|n+1,a=>if decide (a<h) then ab (aKS (er.mk e.d [] []) b a f g) λi=>ab (aKT (er.mk e.d [] []) b a i f g) λj=>if j then J (bt ak) else aJw e b f h g n (aO .i64 (a+1)) else J (bw ())
def aDX(e:ct)(f:er)(a:List Int)(b:Int)(j:List hx):Option (Sum (Unit) (Bool)):=ab (al a b) λk=>ab (al a b) λg=>if decide (0<=g) then J (bw ()) else ab (aJw (er.mk f.d [] []) b a (aN8 e.aN':Int) j N 0) λi=>match i with|bw l=>J (bw ())|bt h=>J (bt h)
def aBW(b:ct)(e:er)(f:List Int)(g:Int)(h:List hx):Nat->Int->Option (Sum (Unit) (Bool))|0,_=>ae|n+1,a=>if decide (a<g) then ab (aDX N b (er.mk e.d [] []) f a h) λi=>match i with|bw k=>aBW b e f g h n (aO .i64 (a+1))|bt j=>J (bt j) else J (bw ())
def RW(e:ct)(U:List b6):Option Bool:=ab (Sg N e) λa=>ab (aCE e U (aN8 U:Int) N 0 a.2.2) λf=>match f with|bw b=>(ab (aDW (er.mk a.1.d [] []) U (aN8 U:Int) a.2.1 b N 0) λg=>match g with|bw l=>(ab (aBW N e (er.mk a.1.d [] []) b (aN8 b:Int) a.2.1 N 0) λk=>match k with|bw m=>J aa|bt i=>J i)|bt j=>J j)|bt h=>J h
def RT(a:ct)(U:List b6):Option (Bool×Int):=ab (RV N a) λb=>if !b then J (ak,1) else ab (RW N a U) λd=>J (d,0)
def Hp(b:b6)(U:Int):Option Bool:=aF.lt (b.aOk==U) λa=>J a
def Cx(d:List b6)(U:Int)(b:Int):Nat->Int->Option (Sum (Unit) (Int))|0,_=>ae|n+1,a=>if decide (a<b) then ab (al d a) λe=>ab (Hp e U) λf=>if f then J (bt a) else Cx d U b n (aO .i64 (a+1)) else J (bw ())
def Qu(a:List b6)(U:Int):Option Int:=ab (Cx a U (aN8 a:Int) N 0) λb=>match b with|bw e=>J (-1)|bt d=>J d
def Qr(d:List b6)(U:Int):Option Bool:=ab (Qu N d U) λa=>aF.lt (decide (0<=a)) λb=>J b
def Nf(U:List b6)(f:Bool)(b:List (List Int))(a:Int)(i:List Int)(j:Int):Option (List (List Int)):=ab (al i j) λd=>ab (Qr N U d) λe=>if !(e==f) then ab (al b a) λm=>ab (al b a) λg=>ab (cD g ([d]:List Int)) λh=>ab (al b a) λk=>if a=a then ab (al b a) λl=>J (b.set ((a:Int).toNat) h) else ae else J b
def D8(U:List b6)(b:Bool)(e:Int)(f:List Int)(g:Int):Nat->(List (List Int))->Int->Option (List (List Int))|0,_,_=>ae|n+1,d,a=>if decide (a<g) then ab (Nf N U b d e f a) λh=>D8 U b e f g n h (aO .i64 (a+1)) else J d
def D7(U:List b6)(d:Bool)(f:List (List Int))(g:Int):Nat->(List (List Int))->Int->Option (List (List Int))|0,_,_=>ae|n+1,e,a=>if decide (a<g) then ab (al f a) λb=>ab (D8 N U d a b (aN8 b:Int) N e 0) λh=>D7 U d f g n h (aO .i64 (a+1)) else J e
def RX(a:ct)(U:List b6)(d:Bool):Option (List (List Int)):=ab (hy ([]:List Int) (aN8 a.aH:Int)) λb=>ab (D7 N U d a.aH (aN8 a.aH:Int) N b 0) λe=>J e
def MD(a:Bool):Option Unit:=if a then ae else J ()
def ME(U:Int)(d:Bool):Option (List Int):=if d then if decide (0<U) then ab (hy 0 U) λa=>ab (gi a 0 (aN8 ([]:List Int):Int)) λb=>J b else ae else J []
def QT(U:Int):Option (List Int):=ab (MD (decide (U<0))) λd=>aF.lt (aO .i64 (U-(aO .i64 (0-(aN8 ([]:List Int):Int))))) λa=>ab (ME a (decide (0<a))) λb=>J b
def My(f:Int)(e:List (List Int))(b:Int):Option Int:=ab (al e b) λd=>aF.lt (aO .i64 (f+(aN8 d:Int))) λa=>if decide (a<0) then ae else J a
def DA(d:List (List Int))(b:Int):Nat->Int->Int->Option Int|0,_,_=>ae|n+1,e,a=>if decide (a<b) then ab (My e d a) λf=>DA d b n f (aO .i64 (a+1)) else J e
def DB(d:List (List Int))(e:Int):Nat->(List Int)->Int->Option (List Int)|0,_,_=>ae|n+1,b,a=>if decide (a<e) then ab (al d a) λf=>ab (cD b f) λg=>DB d e n g (aO .i64 (a+1)) else J b
def QQ(a:List (List Int)):Option (List Int):=ab (DA a (aN8 a:Int) N 0 0) λb=>ab (QT b) λe=>ab (DB a (aN8 a:Int) N e 0) λd=>J d
def Fe(a:Int):Option Bool:=if decide (a<0) then J aa else aF.lt (decide (12<a)) λb=>J b
def aIW(e:ct)(b:List Int)(f:Int):Nat->b8->Int->(List c4)->Option (b8×List c4)|0,_,_,_=>ae|n+1,d,a,g=>if decide (a<f) then ab (al b a) λk=>ab (al b a) λi=>ab (al e.aN' i) λh=>ab (cD g ([h]:List c4)) λj=>aIW e b f n (b8.mk [] d.dO) (aO .i64 (a+1)) j else J ((b8.mk [] d.dO),g)
def SF(e:ct)(U:List b6)(f:Int):Option (b8×List Int×Int):=ab (RT N e U) λb=>aF.lt (b.2 !=0) λh=>if h then J ((b8.mk [] 0),[],b.2) else ab (Fe f) λi=>if i then J ((b8.mk [] 0),[],2) else aF.lt (!b.1) λj=>if j then J ((b8.mk [] 0),[],17) else ab (RX N e U ak) λk=>ab (QQ N (rz (λ(z:List Int)=>z) k)) λd=>ab (aIW e d (aN8 d:Int) N (b8.mk [] f) 0 []) λa=>ab (SJ N (b8.mk a.2 a.1.dO)) λg=>if g !=0 then J ((b8.mk [] 0),[],g) else J ((b8.mk a.2 a.1.dO),d,0)
def Hl(b:Int)(U:(List Int)):Option Bool:=ab (sy N U b) λa=>J a
def OC(f:Step)(e:List Int)(b:Int):Nat->Int->Int->Option Int|0,_,_=>ae|n+1,d,a=>if decide (a<b) then ab (al e a) λg=>ab (al f.y.bD g) λh=>aF.lt (aO .i64 (d+h.aOh)) λi=>OC f e b n i (aO .i64 (a+1)) else J d
def Sh(b:Step)(U:List Int):Option Int:=ab (OC b U (aN8 U:Int) N 0 0) λa=>J a
def Mo(i:dF)(f:Int)(a:Int)(j:List c4)(b:Int):Option Int:=ab (al j b) λd=>ab (al i.fW b) λe=>ab (j2 .i64 f) λg=>if(ih .and .i64 (sE e ((2 ^ g:Nat):Int)) 1)==1 then aF.lt (aO .i64 (a+d.aOh)) λh=>J h else J a
def Dn(e:dF)(d:Int)(f:List c4)(g:Int):Nat->Int->Int->Option Int|0,_,_=>ae|n+1,b,a=>if decide (a<g) then ab (Mo e d b f a) λh=>Dn e d f g n h (aO .i64 (a+1)) else J b
def Dm(d:Step)(b:b8)(f:dF)(g:Int):Nat->Int->Option (Sum (Unit) (Int))|0,_=>ae|n+1,a=>if decide (a<g) then ab (Dn f a b.aN' (aN8 b.aN':Int) N 0 0) λi=>ab (al d.e.aH a) λj=>ab (al d.c.aH j) λh=>if decide (h.aOh<i) then J (bt 14) else Dm d b f g n (aO .i64 (a+1)) else J (bw ())
def Mp(d:Int)(a:Int)(g:List c4)(f:Int):Option Int:=ab (al g f) λb=>if b.dS==d then aF.lt (aO .i64 (a+b.aOh)) λe=>J e else J a
def Dq(b:Int)(e:List c4)(f:Int):Nat->Int->Int->Option Int|0,_,_=>ae|n+1,d,a=>if decide (a<f) then ab (Mp b d e a) λg=>Dq b e f n g (aO .i64 (a+1)) else J d
def Mq(j:Step)(d:(List Int))(a:Int)(i:List Int)(h:Int):Option Int:=ab (al i h) λb=>ab (Hl N b d) λe=>if !e then ab (al j.y.bD b) λf=>aF.lt (aO .i64 (a+f.aOh)) λg=>J g else J a
def Dr(g:Step)(b:(List Int))(e:List Int)(f:Int):Nat->Int->Int->Option Int|0,_,_=>ae|n+1,d,a=>if decide (a<f) then ab (Mq N g b d e a) λh=>Dr g b e f n h (aO .i64 (a+1)) else J d
def Dp(b:Step)(e:(List Int))(d:b8)(i:List b7)(h:Int):Nat->Int->Option (Sum (Unit) (Int))|0,_=>ae|n+1,a=>if decide (a<h) then ab (al i a) λg=>ab (Dq a d.aN' (aN8 d.aN':Int) N 0 0) λj=>ab (al b.y.aH g.cq) λf=>ab (Dr N b e f (aN8 f:Int) N j 0) λk=>ab (al b.c.aH g.cq) λl=>if decide (l.aOh<k) then J (bt 14) else Dp b e d i h n (aO .i64 (a+1)) else J (bw ())
def QF(a:Step)(U:b8)(b:dF)(d:(List Int)):Option Int:=if decide ((aN8 a.e.aH:Int)<b.aOm) then J 14 else ab (Dm N a U b b.aOm N 0) λf=>match f with|bw j=>(ab (Dp N a d U a.y.b2 (aN8 a.y.b2:Int) N 0) λh=>match h with|bw k=>J 0|bt g=>J g)|bt i=>J i
def x1(a:Step)(U:List Int)(d:b8)(i:(List Int)):Option (Int×Step):=ab (Q7 N d) λb=>if b.2 !=0 then J (b.2,a) else ab (QF N a d b.1.e9 i) λf=>if f !=0 then J (f,a) else ab (gi a.e.aH 0 b.1.e9.aOm) λg=>ab (qy g) λh=>ab (Rc b.1) λj=>J (0,(Step.mk a.c (bq.mk a.y.bD a.y.aH a.y.b2 aa (eR.mk U d b.1 a.e.cq h 0) ak) a.e (cI.mk a.r.err a.r.vv j a.r.dW a.r.aOd a.r.cZ a.r.aOe)))
def aJx(b:(List Int))(d:List Int)(e:Int):Nat->Int->Option (Sum (Unit) (Int))|0,_=>ae|n+1,a=>if decide (a<e) then ab (al d a) λf=>ab (Hl N f b) λg=>if !g then J (bt 17) else aJx b d e n (aO .i64 (a+1)) else J (bw ())
def MP(g:Step)(e:(List Int))(b:List Int)(f:Int):Nat->Int->Option (Sum (Unit) (Int))|0,_=>ae|n+1,a=>if decide (a<f) then ab (al b a) λk=>ab (al b a) λh=>ab (al g.y.aH h) λd=>ab (aJx N e d (aN8 d:Int) N 0) λj=>match j with|bw l=>MP g e b f n (aO .i64 (a+1))|bt i=>J (bt i) else J (bw ())
def aIN(b:Step)(g:List Int)(h:Int):Nat->(List cn)->Int->Option (List cn)|0,_,_=>ae|n+1,d,a=>if decide (a<h) then ab (al g a) λf=>ab (Ho N b.y.aH f) λj=>ab (cD d ([(cn.mk f j.1 b.e.cq ak)]:List cn)) λi=>aIN b g h n i (aO .i64 (a+1)) else J d
def HE(a:Step)(U:List Int)(h:b8)(d:List cn):Option (Int×Step):=ab (cD ([a.e.cq]:List Int) a.e.aH) λf=>ab (MP N (zZ a) U f (aN8 f:Int) N 0) λi=>match i with|bw n=>ab (Sh N (Step.mk a.c a.y a.e (cI.mk a.r.err d a.r.aOc a.r.dW a.r.aOd a.r.cZ a.r.aOe)) U) λk=>ab (al a.c.aH a.e.cq) λj=>if decide (j.aOh<k) then J (14,(Step.mk a.c a.y a.e (cI.mk a.r.err d a.r.aOc a.r.dW a.r.aOd a.r.cZ a.r.aOe))) else ab (x1 N (Step.mk a.c a.y a.e (cI.mk a.r.err d a.r.aOc a.r.dW a.r.aOd a.r.cZ a.r.aOe)) U h U) λb=>if b.1 !=0 then J (b.1,b.2) else ab (aIN N b.2 U (aN8 U:Int) N [] 0) λl=>ab (HT N b.2 l) λg=>J (g.1,g.2)|bt m=>J (m,(Step.mk a.c a.y a.e (cI.mk a.r.err d a.r.aOc a.r.dW a.r.aOd a.r.cZ a.r.aOe)))
def aKF(b:List Int)(a:b6)(d:Bool):Option b6:=if d then ab (al b a.ib) λf=>ab (al b a.ib) λe=>J (b6.mk a.aOk a.reason e a.round) else J a
def aJo(b:List Int)(g:List b6)(h:Int):Nat->Step->Int->(List b6)->Option (Step×List b6)|0,_,_,_=>ae|n+1,f,d,e=>if decide (d<h) then ab (al g d) λa=>ab (al b a.aOk) λl=>ab (al b a.aOk) λi=>ab (aKF b (b6.mk i a.reason a.ib a.round) (decide (0<=a.ib))) λk=>ab (cD e ([k]:List b6)) λj=>aJo b g h n (He f) (aO .i64 (d+1)) j else J ((He f),e)
def aIF(b:List Int)(d:List Int)(g:Int):Nat->(List Int)->Int->Option (List Int)|0,_,_=>ae|n+1,e,a=>if decide (a<g) then ab (al d a) λk=>ab (al d a) λf=>ab (al b f) λj=>ab (al b f) λh=>ab (cD e ([h]:List Int)) λi=>aIF b d g n i (aO .i64 (a+1)) else J e
def Rz(a:Step)(b:List cn)(d:List b6):Option (Int×Step):=if !a.y.cE then J (16,(Step.mk a.c a.y a.e (cI.mk a.r.err b a.r.aOc d a.r.aOd a.r.cZ a.r.aOe))) else ab (R0 N (Step.mk a.c a.y a.e (cI.mk a.r.err b a.r.aOc d a.r.aOd a.r.cZ a.r.aOe))) λj=>if j !=0 then J (j,(Step.mk a.c a.y a.e (cI.mk a.r.err b a.r.aOc d a.r.aOd a.r.cZ a.r.aOe))) else ab (SH N (Step.mk a.c a.y a.e (cI.mk a.r.err b a.r.aOc d a.r.aOd a.r.cZ a.r.aOe))) λk=>if k !=0 then J (k,(Step.mk a.c a.y a.e (cI.mk a.r.err b a.r.aOc d a.r.aOd a.r.cZ a.r.aOe))) else ab (RI N a.y) λg=>if g.2.2 !=0 then J (g.2.2,(Step.mk a.c a.y a.e (cI.mk a.r.err b a.r.aOc d a.r.aOd a.r.cZ a.r.aOe))) else ab (RU N g.1) λh=>if h.2 !=0 then J (h.2,(Step.mk a.c a.y a.e (cI.mk a.r.err b a.r.aOc d a.r.aOd a.r.cZ a.r.aOe))) else if(aN8 h.1:Int)==0 then ab (Ry (Step.mk a.c a.y a.e (cI.mk a.r.err b a.r.aOc d a.r.aOd a.r.cZ a.r.aOe))) λm=>J (0,m) else ab (SF N g.1 h.1 a.e.dO) λi=>if i.2.2 !=0 then J (i.2.2,(Step.mk a.c a.y a.e (cI.mk a.r.err b a.r.aOc d a.r.aOd a.r.cZ a.r.aOe))) else ab (aJo g.2.1 h.1 (aN8 h.1:Int) N (He a) 0 d) λf=>ab (aIF g.2.1 i.2.1 (aN8 i.2.1:Int) N [] 0) λn=>ab (HE N (Step.mk f.1.c f.1.y f.1.e (cI.mk f.1.r.err [] f.1.r.aOc f.2 f.1.r.aOd f.1.r.cZ f.1.r.aOe)) n i.1 b) λl=>J (l.1,l.2)
def aC'(b:List (List Int))(U:Int)(a:Int):Option Bool:=if decide (U<0) then J aa else if decide ((aN8 b:Int)<=U) then J aa else if decide (a<0) then J aa else if decide ((aN8 b:Int)<=a) then J aa else J (U==a)
def aDa(a:Int)(b:List Int):Option Bool:=if decide (a<0) then J aa else J (decide ((aN8 b:Int)<a))
def aAX(U:Int)(d:Int)(e:List Int)(f:Int):Nat->(List cn)->Int->Option (List cn)|0,_,_=>ae|n+1,b,a=>if decide (a<f) then ab (al e a) λg=>ab (cD b ([(cn.mk g U d ak)]:List cn)) λh=>aAX U d e f n h (aO .i64 (a+1)) else J b
def Q8(f:List (List Int))(U:Int)(d:Int)(e:Int):Option (List cn×Int):=ab (aC' f U d) λg=>if g then J ([],2) else ab (al f U) λa=>ab (aDa e a) λh=>if h then J ([],13) else ab (gi a (aO .i64 ((aN8 a:Int)-e)) (aN8 a:Int)) λb=>ab (aAX U d b (aN8 b:Int) N [] 0) λi=>J (i,0)
def Fz(a:Step)(h:Int)(i:Int)(b:List cn):Option Bool:=ab (tS (Step.mk a.c a.y a.e (cI.mk a.r.err b a.r.aOc a.r.dW a.r.aOd a.r.cZ a.r.aOe)) h) λd=>if !d then J aa else ab (tS (Step.mk a.c a.y a.e (cI.mk a.r.err b a.r.aOc a.r.dW a.r.aOd a.r.cZ a.r.aOe)) i) λf=>aF.lt (!f) λg=>J g
def FA(a:Step)(b:Int)(d:Int)(f:List cn):Option Bool:=if b==d then J aa else ab (R2 N (Step.mk a.c a.y a.e (cI.mk a.r.err f a.r.aOc a.r.dW a.r.aOd a.r.cZ a.r.aOe)) b) λg=>if g then J aa else ab (R2 N (Step.mk a.c a.y a.e (cI.mk a.r.err f a.r.aOc a.r.dW a.r.aOd a.r.cZ a.r.aOe)) d) λh=>J h
def Si(a:Step)(b:List cn):Option (Int×Step):=if a.y.aOb then J (25,(Step.mk a.c a.y a.e (cI.mk a.r.err b a.r.aOc a.r.dW a.r.aOd a.r.cZ a.r.aOe))) else ab (Fz (zZ a) a.e.cq a.e.to b) λg=>if g then J (2,(Step.mk a.c a.y a.e (cI.mk a.r.err b a.r.aOc a.r.dW a.r.aOd a.r.cZ a.r.aOe))) else ab (FA N (zZ a) a.e.cq a.e.to b) λi=>if i then J (17,(Step.mk a.c a.y a.e (cI.mk a.r.err b a.r.aOc a.r.dW a.r.aOd a.r.cZ a.r.aOe))) else aF.lt (decide (a.e.count<1)) λh=>if h then J (13,(Step.mk a.c a.y a.e (cI.mk a.r.err b a.r.aOc a.r.dW a.r.aOd a.r.cZ a.r.aOe))) else ab (Q8 N a.y.aH a.e.cq a.e.to a.e.count) λd=>if d.2 !=0 then J (d.2,(Step.mk a.c a.y a.e (cI.mk a.r.err b a.r.aOc a.r.dW a.r.aOd a.r.cZ a.r.aOe))) else ab (HF N (zZ a) d.1 b) λf=>J (f.1,f.2)
def QR(b:Step)(d:b7):Option Bool:=aF.lt (d.aOg==b.e.aOg) λa=>J a
def Cz(e:Step)(b:List b7)(d:Int):Nat->Int->Option (Sum (Unit) (Int))|0,_=>ae|n+1,a=>if decide (a<d) then ab (al b a) λh=>ab (al b a) λf=>ab (QR (Hf e) f) λg=>if g then J (bt a) else Cz e b d n (aO .i64 (a+1)) else J (bw ())
def Qw(e:Step)(a:List b7):Option Int:=ab (Cz (Hf e) a (aN8 a:Int) N 0) λb=>match b with|bw f=>J (-1)|bt d=>J d
def CO(g:List bC)(h:Int):Nat->Int->Int->Int->Int->Option (Int×Int×Int)|0,_,_,_,_=>ae|n+1,d,e,f,b=>if decide (b<h) then ab (al g b) λa=>aF.lt (aO .i64 (d+a.aOh)) λi=>aF.lt (aO .i64 (e+a.gv)) λj=>aF.lt (aO .i64 (f+a.iL)) λk=>CO g h n i j k (aO .i64 (b+1)) else J (d,e,f)
def Rs(b:List bC):Option (Int×Int×Int×Int):=ab (Hx N b) λd=>if d !=0 then J (0,0,0,d) else ab (CO b (aN8 b:Int) N 0 0 0 0) λa=>J (a.1,a.2.1,a.2.2,0)
def pM(b:c8)(U:b7)(f:List bC):Option Int:=ab (Hi N b) λa=>if a !=0 then J a else ab (Hj N b U) λd=>if !d then J 1 else ab (Rs N f) λe=>J e.2.2.2
def CW(f:b7)(b:List bC)(e:Int):Nat->(List Int)->Int->Option (Sum (List Int) (Int×Int))|0,_,_=>ae|n+1,g,a=>if decide (a<e) then ab (al b a) λh=>ab (z6 N f.c7 h.aOl) λd=>if decide (d<0) then J (bt (a,7)) else ab (cD g ([d]:List Int)) λi=>CW f b e n i (aO .i64 (a+1)) else J (bw g)
def Q1(e:b7)(U:List bC):Option (List Int×Int×Int):=ab (CW N e U (aN8 U:Int) N [] 0) λb=>match b with|bw d=>J (d,(-1),0)|bt a=>J ([],a.1,a.2)
def LY(b:List Int)(a:Int):Option Bool:=if decide (0<a) then ab (al b a) λf=>ab (al b a) λd=>ab (al b (aO .i64 (a-1))) λg=>ab (al b (aO .i64 (a-1))) λe=>J (decide (d<e)) else J ak
def DH(b:List Int)(d:Int):Nat->Int->Option (Sum (Unit) (Int×Int))|0,_=>ae|n+1,a=>if decide (a<d) then ab (LY b a) λe=>if e then J (bt (a,12)) else DH b d n (aO .i64 (a+1)) else J (bw ())
def QW(e:b7)(U:List bC):Option (List Int×Int×Int):=ab (Q1 N e U) λa=>if a.2.2 !=0 then J ([],a.2.1,a.2.2) else ab (DH a.1 (aN8 a.1:Int) N 0) λd=>match d with|bw f=>J (a.1,0,0)|bt b=>J ([],b.1,b.2)
def RP(a:Int):Option Int:=if decide (a<=5000) then J 100 else if decide (10000<a) then J 80 else aF.lt (max 80 (aO .i64 (100-(aO .i64 (l1 (aO .i64 ((aO .i64 (a-5000))+99)) 100))))) λb=>J b
def aJc(f:List bC)(d:List Int)(e:Int):Nat->dM->Int->Option (Sum (dM) (dM×Int))|0,_,_=>ae|n+1,b,a=>if decide (a<e) then ab (al d a) λg=>ab (S7 g 0 (aO .i64 ((aN8 f:Int)-1))) λh=>if !h then J (bt ((dM.mk 0 0 0 0 0 0 0),2)) else aJc f d e n b (aO .i64 (a+1)) else J (bw b)
def aJd(f:List Int)(g:Int):Nat->dM->(List Bool)->Int->Option (Sum (dM×List Bool) (dM×Int))|0,_,_,_=>ae|n+1,e,a,d=>if decide (d<g) then ab (al f d) λb=>ab (al a b) λk=>ab (al a b) λh=>if h then J (bt ((dM.mk 0 0 0 0 0 0 0),8)) else ab (al a b) λj=>ab (al a b) λl=>aF.lt (a.set ((b:Int).toNat) aa) λi=>aJd f g n e i (aO .i64 (d+1)) else J (bw (e,a))
def aKo(d:List Bool)(a:dM)(g:List bC)(b:Int):Option dM:=ab (al g b) λf=>ab (al d b) λh=>ab (al d b) λe=>if !e then J (dM.mk a.aOh a.iL a.gv (aO .i64 (a.mw+f.lJ)) a.j9 a.required a.oW) else J a
def aJe(b:List Bool)(e:List bC)(f:Int):Nat->dM->Int->Option dM|0,_,_=>ae|n+1,d,a=>if decide (a<f) then ab (aKo b d e a) λg=>aJe b e f n g (aO .i64 (a+1)) else J d
def aKp(b:Int)(a:dM)(e:Bool):Option dM:=if e then ab (sU (aO .i64 (100*a.mw)) b) λd=>J (dM.mk a.aOh a.iL a.gv a.mw (aO .i64 (d)) a.required a.oW) else J a
def Sb(d:List bC)(U:List Int):Option (dM×Int):=ab (Rs N d) λa=>if a.2.2.2 !=0 then J ((dM.mk 0 0 0 0 0 0 0),a.2.2.2) else ab (hy ak (aN8 d:Int)) λg=>ab (aJc d U (aN8 U:Int) N (dM.mk 0 0 0 0 0 0 0) 0) λh=>match h with|bw i=>(ab (aJd U (aN8 U:Int) N i g 0) λj=>match j with|bw k=>ab (aJe k.2 d (aN8 d:Int) N (dM.mk a.1 a.2.2.1 a.2.1 0 0 0 0) 0) λb=>ab (RP a.1) λm=>ab (aKp a.2.1 (dM.mk b.aOh b.iL b.gv (aO .i64 (l1 (aO .i64 (b.mw*m)) 100)) b.j9 b.required b.oW) (decide (0<a.2.1))) λl=>J (l,0)|bt e=>J (e.1,e.2))|bt f=>J (f.1,f.2)
def LX(U:Int)(d:Int)(e:Int)(b:Bool)(a:ff):Option Bool:=if decide (U<=a.speed) then if decide (d<=a.iZ) then if !b then J aa else J (decide (a.j9<e)) else J ak else J ak
def LW(U:Int)(g:Int)(d:Int)(b:Bool)(f:List ff)(h:Int):Option (Int×Bool):=ab (al f h) λa=>ab (LX U g d b a) λe=>if e then J (a.j9,aa) else J (d,b)
def Dd(U:Int)(f:Int)(e:List ff)(h:Int):Nat->Int->Bool->Int->Option (Int×Bool)|0,_,_,_=>ae|n+1,g,b,a=>if decide (a<h) then ab (LW U f g b e a) λd=>Dd U f e h n d.1 d.2 (aO .i64 (a+1)) else J (g,b)
def z8(b:List ff)(U:Int)(d:Int):Option (Int×Bool):=ab (Dd U d b (aN8 b:Int) N 0 ak 0) λa=>J (a.1,a.2)
def LP(U:Int)(d:Int):Option Bool:=ab (S7 U 1 200) λa=>if !a then J aa else ab (S7 d 0 500) λb=>J (!b)
def Hs(d:List ff)(U:Int)(a:Int):Option (Int×Int):=ab (afG N d) λe=>if !e then J (0,1) else ab (LP U a) λf=>if f then J (0,2) else ab (z8 N d U a) λb=>if !b.2 then J (0,15) else J (b.1,0)
def Sa(g:List bC)(U:List Int)(d:List ff)(e:Int)(f:Int):Option (dM×Int):=ab (Sb N g U) λa=>if a.2 !=0 then J ((dM.mk 0 0 0 0 0 0 0),a.2) else ab (Hs N d e f) λb=>if b.2 !=0 then J ((dM.mk 0 0 0 0 0 0 0),b.2) else J ((dM.mk a.1.aOh a.1.iL a.1.gv a.1.mw a.1.j9 b.1 (max 0 (aO .i64 ((aO .i64 (l1 (aO .i64 ((aO .i64 (b.1*a.1.gv))+99)) 100))-a.1.mw)))),0)
def QJ(a:bC):Option Int:=J a.aOh
def CA(U:Int)(b:List bC)(e:Int):Nat->Int->Int->Option (Sum (Unit) (Int))|0,_,_=>ae|n+1,h,a=>if decide (a<e) then ab (al b a) λf=>ab (QJ f) λg=>aF.lt (aO .i64 (h+g)) λd=>if decide (U<d) then J (bt a) else CA U b e n d (aO .i64 (a+1)) else J (bw ())
def Qx(a:fI)(U:Int):Option Int:=ab (CA U a.l (aN8 a.l:Int) N 0 0) λb=>match b with|bw e=>J (-1)|bt d=>J d
def QK(a:bC):Option Int:=J a.iL
def CB(U:Int)(b:List bC)(e:Int):Nat->Int->Int->Option (Sum (Unit) (Int))|0,_,_=>ae|n+1,h,a=>if decide (a<e) then ab (al b a) λf=>ab (QK f) λg=>aF.lt (aO .i64 (h+g)) λd=>if decide (U<d) then J (bt a) else CB U b e n d (aO .i64 (a+1)) else J (bw ())
def Qy(a:fI)(U:Int):Option Int:=ab (CB U a.l (aN8 a.l:Int) N 0 0) λb=>match b with|bw e=>J (-1)|bt d=>J d
def QL(a:bC):Option Int:=J a.gv
def CC(U:Int)(b:List bC)(e:Int):Nat->Int->Int->Option (Sum (Unit) (Int))|0,_,_=>ae|n+1,h,a=>if decide (a<e) then ab (al b a) λf=>ab (QL f) λg=>aF.lt (aO .i64 (h+g)) λd=>if decide (U<d) then J (bt a) else CC U b e n d (aO .i64 (a+1)) else J (bw ())
def Qz(a:fI)(U:Int):Option Int:=ab (CC U a.l (aN8 a.l:Int) N 0 0) λb=>match b with|bw e=>J (-1)|bt d=>J d
def vF(b:fI)(U:Bool):Option Int:=if U then aF.lt (aN8 b.l:Int) λa=>J a else J (-1)
def aEg(g:Int)(d:cR)(h:Int)(f:Int)(e:Int):Option Bool:=if decide ((aO .i64 ((aO .i64 (g-h))-1))<d.c) then if f==d.a then if e==d.b then J aa else if f==d.b then J (e==d.a) else J ak else if f==d.b then J (e==d.a) else J ak else J ak
def FB(b:Int)(d:fI)(f:cR)(e:Int):Nat->Int->Option (Sum (Unit) (Bool))|0,_=>ae|n+1,a=>if decide (a<e) then ab (al d.l a) λg=>ab (al d.l b) λh=>ab (aEg b f a g.kH h.kH) λi=>if i then J (bt aa) else FB b d f e n (aO .i64 (a+1)) else J (bw ())
def Sl(e:fI)(U:cR)(a:Int):Option Bool:=ab (FB a e U a N 0) λb=>match b with|bw f=>J ak|bt d=>J d
def QM(e:Int)(b:fI)(d:cR):Option Bool:=ab (Sl N b d e) λa=>J a
def CD(U:fI×cR)(d:List bC)(b:Int):Nat->Int->Option (Sum (Unit) (Int))|0,_=>ae|n+1,a=>if decide (a<b) then ab (al d a) λf=>ab (QM N a U.1 U.2) λe=>if e then J (bt a) else CD U d b n (aO .i64 (a+1)) else J (bw ())
def QA(a:fI)(U:fI×cR):Option Int:=ab (CD N (U.1,U.2) a.l (aN8 a.l:Int) N 0) λb=>match b with|bw e=>J (-1)|bt d=>J d
def Mu(g:Int)(d:cR)(f:bC):Option Bool:=if f.kH==d.a then aF.lt (decide (g<d.b)) λe=>J e else J ak
def QN(d:Int)(U:bC)(b:cR):Option Bool:=ab (Mu d b U) λa=>J a
def CE(U:cR)(d:List bC)(b:Int):Nat->Int->Option (Sum (Unit) (Int))|0,_=>ae|n+1,a=>if decide (a<b) then ab (al d a) λe=>ab (QN a e U) λf=>if f then J (bt a) else CE U d b n (aO .i64 (a+1)) else J (bw ())
def QB(a:fI)(U:cR):Option Int:=ab (CE U a.l (aN8 a.l:Int) N 0) λb=>match b with|bw e=>J (-1)|bt d=>J d
def aLg(a:fI)(b:Int):Option Bool:=ab (al a.l b) λd=>if decide (0<d.lJ) then ab (sy N a.off b) λe=>J (!e) else J ak
def aLf(b:fI)(a:Int)(d:Int):Option Int:=ab (aLg N b d) λe=>if e then aF.lt (aO .i64 (a+1)) λf=>J f else J a
def aBy(a:fI):Nat->Int->Int->Option Int|0,_,_=>ae|n+1,d,b=>if decide (b<(aN8 a.l:Int)) then ab (aLf N a d b) λf=>aF.lt (aO .i64 (b+1)) λe=>aBy a n f e else J d
def x8(d:fI)(U:cR):Option Bool:=aF.lt (min U.a (aN8 d.l:Int)) λe=>aF.lt (aO .i64 ((aN8 d.l:Int)-e)) λf=>ab (aBy N d N 0 f) λh=>aF.lt (decide (h<(min U.b e))) λg=>J g
def QO(U:bC)(d:cR):Option Bool:=aF.lt (decide ((aO .i64 (d.a*U.iL))<U.gv)) λb=>J b
def CF(U:cR)(d:List bC)(b:Int):Nat->Int->Option (Sum (Unit) (Int))|0,_=>ae|n+1,a=>if decide (a<b) then ab (al d a) λe=>ab (QO e U) λf=>if f then J (bt a) else CF U d b n (aO .i64 (a+1)) else J (bw ())
def QC(a:fI)(U:cR):Option Int:=ab (CF U a.l (aN8 a.l:Int) N 0) λb=>match b with|bw e=>J (-1)|bt d=>J d
def DP(b:List bC)(e:Int):Nat->Int->Int->Option Int|0,_,_=>ae|n+1,d,a=>if decide (a<e) then ab (al b a) λf=>aF.lt (aO .i64 (d+f.gv)) λg=>DP b e n g (aO .i64 (a+1)) else J d
def R3(b:fI)(U:Int):Option Int:=ab (gi b.l (aO .i64 (U+1)) (aN8 b.l:Int)) λa=>ab (DP a (aN8 a:Int) N 0 0) λd=>J d
def Mv(i:Int)(d:cR)(h:fI)(g:bC):Option Bool:=if decide (g.gv<=d.a) then ab (R3 N h i) λe=>aF.lt (decide (d.b<e)) λf=>J f else J ak
def QP(e:Int)(U:bC)(b:cR)(d:fI):Option Bool:=ab (Mv N e b d U) λa=>J a
def Dl(U:cR×fI)(d:List bC)(b:Int):Nat->Int->Option (Sum (Unit) (Int))|0,_=>ae|n+1,a=>if decide (a<b) then ab (al d a) λe=>ab (QP N a e U.1 U.2) λf=>if f then J (bt a) else Dl U d b n (aO .i64 (a+1)) else J (bw ())
def QD(a:fI)(U:cR×fI):Option Int:=ab (Dl N (U.1,U.2) a.l (aN8 a.l:Int) N 0) λb=>match b with|bw e=>J (-1)|bt d=>J d
def OH(b:fI)(d:cR):Option Int:=if decide (0<(aN8 b.l:Int)) then ab (vF b (decide (b.total.j9<d.a))) λe=>J e else ab (vF b ak) λf=>J f
def Sm(b:fI)(U:cR):Option Int:=aF.lt (U.aOn==1) λd=>if d then ab (Qx N b U.a) λe=>J e else aF.lt (U.aOn==2) λf=>if f then ab (Qy N b U.a) λg=>J g else aF.lt (U.aOn==3) λi=>if i then ab (Qz N b U.a) λj=>J j else aF.lt (U.aOn==4) λk=>if k then ab (OH b U) λh=>J h else aF.lt (U.aOn==5) λs=>if s then ab (QA N b (b,U)) λr=>J r else aF.lt (U.aOn==6) λl=>if l then ab (QB N b U) λm=>J m else aF.lt (U.aOn==7) λq=>if q then ab (x8 N b U) λp=>ab (vF b p) λn=>J n else aF.lt (U.aOn==8) λt=>if t then ab (QC N b U) λw=>J w else ab (QD N b (U,b)) λx=>J x
def Dh(b:fI)(f:List cR)(g:Int):Nat->Int->Option (Sum (Unit) (Int×Int×Int))|0,_=>ae|n+1,a=>if decide (a<g) then ab (al f a) λd=>ab (Sm N b d) λe=>if decide (0<=e) then J (bt (d.aOj,e,0)) else Dh b f g n (aO .i64 (a+1)) else J (bw ())
def Ht(d:List cR)(U:List bC)(f:List Int):Option (Int×Int×Int):=ab (Hu N d) λe=>if e !=0 then J (0,0,e) else ab (Sb N U f) λa=>if a.2 !=0 then J (0,0,a.2) else ab (Dh N (fI.mk U f a.1) d (aN8 d:Int) N 0) λg=>match g with|bw h=>J (0,(-1),0)|bt b=>J (b.1,b.2.1,b.2.2)
def Ej(U:Int)(a:Int):Option Bool:=if decide (a<0) then J aa else J (decide (U<=a))
def Ei(U:Int)(d:List Int)(b:Int):Nat->Int->Option (Sum (Unit) (Int))|0,_=>ae|n+1,a=>if decide (a<b) then ab (al d a) λe=>ab (Ej U e) λf=>if f then J (bt 2) else Ei U d b n (aO .i64 (a+1)) else J (bw ())
def Ab(a:List Int)(U:Int):Option Int:=if decide (96<(aN8 a:Int)) then J 3 else ab (Ei U a (aN8 a:Int) N 0) λb=>match b with|bw e=>J 0|bt d=>J d
def aKs(e:List Int)(d:Int)(a:Int):Option Bool:=if a==0 then J aa else ab (al e (aO .i64 (a-1))) λb=>J (b !=d)
def OA(i:List Int)(e:Int)(a:hn)(b:List Int)(j:List Int)(f:Int):Option (hn×List Int):=ab (al j f) λd=>if d !=e then ab (cD b ([d]:List Int)) λg=>J (a,g) else ab (aKs i e f) λh=>if h then J ((hn.mk a.stop (aO .i64 (a.bD+1)) (aO .i64 (a.UN+1))),b) else J ((hn.mk a.stop (aO .i64 (a.bD+1)) a.UN),b)
def Fx(e:List Int)(d:Int)(h:List Int)(i:Int):Nat->hn->(List Int)->Int->Option (hn×List Int)|0,_,_,_=>ae|n+1,f,b,a=>if decide (a<i) then ab (OA e d f b h a) λg=>Fx e d h i n g.1 g.2 (aO .i64 (a+1)) else J (f,b)
def aKt(a:List hn)(b:hn)(e:Bool):Option (List hn):=if e then ab (cD a ([b]:List hn)) λd=>J d else J a
def Fw(f:Int):Nat->(List hn)->(List Int)->Int->Option (List hn)|0,_,_,_=>ae|n+1,e,b,a=>if decide (a<f) then ab (Fx b a b (aN8 b:Int) N (hn.mk a 0 0) [] 0) λd=>ab (aKt e d.1 (decide (0<d.1.bD))) λg=>Fw f n g d.2 (aO .i64 (a+1)) else J e
def HL(b:List Int)(U:Int):Option (List hn):=ab (Fw N U N [] b 0) λa=>J a
def Fv(U:Int):Option Bool:=if decide (U<0) then J aa else J (decide (16<U))
def sz(b:List Int)(U:Int):Option (List hn×Int):=ab (Fv U) λd=>if d then J ([],2) else ab (Ab N b U) λa=>if a !=0 then J ([],a) else ab (HL N b U) λe=>J (e,0)
def aAY(e:b7)(d:List Int)(f:Int):Nat->(List Int)->Int->Option (List Int)|0,_,_=>ae|n+1,b,a=>if decide (a<f) then ab (al d a) λk=>ab (al d a) λg=>ab (al b a) λj=>ab (al b a) λi=>aF.lt (b.set ((a:Int).toNat) (aO .i64 ((aO .i64 ((aN8 e.c7:Int)-1))-g))) λh=>aAY e d f n h (aO .i64 (a+1)) else J b
def Hn(e:c8)(U:b7)(a:List bC):Option (hI×Int×Int×Int):=ab (pM N e U a) λh=>if h !=0 then J ((hI.mk [] [] (dM.mk 0 0 0 0 0 0 0) []),0,0,h) else if(aN8 a:Int)==0 then J ((hI.mk [] [] (dM.mk 0 0 0 0 0 0 0) []),0,0,13) else ab (QW N U a) λb=>if b.2.2 !=0 then J ((hI.mk [] [] (dM.mk 0 0 0 0 0 0 0) []),0,b.2.1,b.2.2) else ab (Sa N a [] e.table e.speed e.iZ) λf=>if f.2 !=0 then J ((hI.mk [] [] (dM.mk 0 0 0 0 0 0 0) []),0,0,f.2) else ab (Ht N e.rules a []) λd=>if d.2.2 !=0 then J ((hI.mk [] [] (dM.mk 0 0 0 0 0 0 0) []),0,0,d.2.2) else if d.1 !=0 then J ((hI.mk [] [] (dM.mk 0 0 0 0 0 0 0) []),d.1,d.2.1,20) else if f.1.oW !=0 then aF.lt (aN8 a:Int) λi=>J ((hI.mk [] [] (dM.mk 0 0 0 0 0 0 0) []),0,i,20) else ab (hy 0 (aN8 a:Int)) λj=>ab (aAY U b.1 (aN8 b.1:Int) N j 0) λl=>ab (sz N l (aN8 U.c7:Int)) λg=>if g.2 !=0 then J ((hI.mk [] [] (dM.mk 0 0 0 0 0 0 0) []),0,0,g.2) else ab (Hg a) λk=>J ((hI.mk U.aOg k f.1 g.1),0,0,0)
def Er(d:List bC)(e:Int):Nat->(List Int)->Int->Option (List Int)|0,_,_=>ae|n+1,b,a=>if decide (a<e) then ab (al d a) λf=>ab (cD b ([f.aOh]:List Int)) λg=>Er d e n g (aO .i64 (a+1)) else J b
def RA(a:Step)(U:List cn)(f:List cn):Option (Int×Step):=ab (Er a.y.bD (aN8 a.y.bD:Int) N [] 0) λd=>ab (Rv N a.c.aH d a.y.aH U) λb=>if b.2.2 !=0 then J (b.2.2,(Step.mk a.c a.y a.e (cI.mk a.r.err f a.r.aOc a.r.dW a.r.aOd a.r.cZ a.r.aOe))) else J (0,(Step.mk a.c (bq.mk a.y.bD b.1 a.y.b2 a.y.aOb a.y.bo a.y.cE) a.e (cI.mk a.r.err U a.r.aOc a.r.dW a.r.aOd a.r.cZ a.r.aOe)))
def Nz(i:Step)(e:b7)(g:List Int)(h:Int):Nat->(List bC)->(List cn)->Int->Option (List bC×List cn)|0,_,_,_=>ae|n+1,b,d,a=>if decide (a<h) then ab (al g a) λf=>ab (al i.y.bD f) λk=>ab (cD b ([k]:List bC)) λl=>ab (cD d ([(cn.mk f e.cq (-1) ak)]:List cn)) λj=>Nz i e g h n l j (aO .i64 (a+1)) else J (b,d)
def Rx(a:Step)(b:List b7)(g:List cn):Option (Int×Step):=if a.y.aOb then J (25,(Step.mk a.c (bq.mk a.y.bD a.y.aH b a.y.aOb a.y.bo a.y.cE) a.e (cI.mk a.r.err g a.r.aOc a.r.dW a.r.aOd a.r.cZ a.r.aOe))) else ab (Qw N (Hf a) b) λd=>if decide (d<0) then J (7,(Step.mk a.c (bq.mk a.y.bD a.y.aH b a.y.aOb a.y.bo a.y.cE) a.e (cI.mk a.r.err g a.r.aOc a.r.dW a.r.aOd a.r.cZ a.r.aOe))) else ab (al b d) λm=>ab (al b d) λh=>ab (al a.y.aH h.cq) λi=>ab (Nz (Hf a) h i (aN8 i:Int) N [] [] 0) λj=>ab (Hn N a.c h j.1) λf=>if f.2.2.2 !=0 then J (f.2.2.2,(Step.mk a.c (bq.mk a.y.bD a.y.aH b a.y.aOb a.y.bo a.y.cE) a.e (cI.mk a.r.err g a.r.aOc a.r.dW a.r.aOd f.2.1 f.2.2.1))) else ab (AY b d (aO .i64 (d+1))) λl=>ab (RA N (Step.mk a.c (bq.mk a.y.bD a.y.aH l a.y.aOb a.y.bo a.y.cE) a.e (cI.mk a.r.err [] a.r.aOc a.r.dW f.1 a.r.cZ a.r.aOe)) j.2 g) λk=>J (k.1,k.2)
def S5(a:Step)(g:List bC)(f:List b7)(d:List cn)(h:List b6):Option (Int×Step):=aF.lt (a.e.aOn==1) λp=>if p then ab (Aa N (Step.mk a.c (bq.mk [] a.y.aH f a.y.aOb a.y.bo a.y.cE) a.e (cI.mk a.r.err [] a.r.aOc h a.r.aOd a.r.cZ a.r.aOe)) g d) λi=>J (i.1,i.2) else aF.lt (a.e.aOn==2) λq=>if q then ab (R1 N (Step.mk a.c (bq.mk g a.y.aH [] a.y.aOb a.y.bo a.y.cE) a.e (cI.mk a.r.err d a.r.aOc h a.r.aOd a.r.cZ a.r.aOe)) f) λb=>J (b.1,(Step.mk b.2.2.c (bq.mk b.2.2.y.bD b.2.2.y.aH b.2.1 b.2.2.y.aOb b.2.2.y.bo b.2.2.y.cE) b.2.2.e b.2.2.r)) else aF.lt (a.e.aOn==3) λt=>if t then ab (Sj N (Step.mk a.c (bq.mk g a.y.aH f a.y.aOb a.y.bo a.y.cE) a.e (cI.mk a.r.err d a.r.aOc h a.r.aOd a.r.cZ a.r.aOe))) λl=>J (l.1,l.2) else aF.lt (a.e.aOn==4) λw=>if w then ab (Sk N (Step.mk a.c (bq.mk g a.y.aH f a.y.aOb a.y.bo a.y.cE) a.e (cI.mk a.r.err [] a.r.aOc h a.r.aOd a.r.cZ a.r.aOe)) d) λk=>J (k.1,k.2) else aF.lt (a.e.aOn==5) λs=>if s then ab (Rz N (Step.mk a.c (bq.mk g a.y.aH f a.y.aOb a.y.bo a.y.cE) a.e (cI.mk a.r.err [] a.r.aOc [] a.r.aOd a.r.cZ a.r.aOe)) d h) λj=>J (j.1,j.2) else aF.lt (a.e.aOn==6) λz=>if z then ab (Si N (Step.mk a.c (bq.mk g a.y.aH f a.y.aOb a.y.bo a.y.cE) a.e (cI.mk a.r.err [] a.r.aOc h a.r.aOd a.r.cZ a.r.aOe)) d) λn=>J (n.1,n.2) else aF.lt (a.e.aOn==7) λx=>if x then ab (Rx N (Step.mk a.c (bq.mk g a.y.aH [] a.y.aOb a.y.bo a.y.cE) a.e (cI.mk a.r.err [] a.r.aOc h a.r.aOd a.r.cZ a.r.aOe)) f d) λm=>J (m.1,m.2) else J (1,(Step.mk a.c (bq.mk g a.y.aH f a.y.aOb a.y.bo a.y.cE) a.e (cI.mk a.r.err d a.r.aOc h a.r.aOd a.r.cZ a.r.aOe)))
def rl(f:c8)(U:bq)(e:eb):Option (bq×cI):=ab (Ss N U) λa=>ab (S5 N (Step.mk f (bq.mk [] a.1.aH [] a.1.aOb a.1.bo a.1.cE) e (cI.mk 0 [] (e8.mk (dF.mk 0 []) []) [] (hI.mk [] [] (dM.mk 0 0 0 0 0 0 0) []) 0 0)) a.2.1 a.2.2 [] []) λb=>if b.1 !=0 then ab (Ss N U) λd=>J ((bq.mk d.2.1 d.1.aH d.2.2 d.1.aOb d.1.bo d.1.cE),(cI.mk b.1 [] (e8.mk (dF.mk 0 []) []) [] (hI.mk [] [] (dM.mk 0 0 0 0 0 0 0) []) b.2.r.cZ b.2.r.aOe)) else J (b.2.y,b.2.r)
def zG(U:bq):Option Bool:=if !U.aOb then J aa else J U.cE
def xn(U:bq)(g:List Int)(e:Int):Nat->(List Int)->(List Int)->Int->(List Int)->(List Int)->Option ((List Int)×(List Int)×List Int×List Int)|0,_,_,_,_,_=>ae|n+1,k,l,b,f,a=>if decide (b<e) then ab (al g b) λd=>ab (cD f ([d]:List Int)) λh=>ab (Sv N U d) λi=>ab (cD a ([i]:List Int)) λj=>xn U g e n [] [] (aO .i64 (b+1)) h j else J ([],[],f,a)
def vG(a:bq):Option (Int×List Int×List Int×Int):=ab (zG a) λf=>if f then J (0,[],[],16) else ab (Su a.bo) λb=>ab (al a.aH b) λd=>ab (xn N a d (aN8 d:Int) N [] [] 0 [] []) λe=>J (b,e.2.2.1,e.2.2.2,0)
def O7(b:List Int)(U:List Int):Nat->Int->Option (Sum (Unit) (Bool))|0,_=>ae|n+1,a=>if decide (a<(aN8 b:Int)) then ab (al b a) λd=>ab (al U a) λe=>if d !=e then J (bt ak) else aF.lt (aO .i64 (a+1)) λf=>O7 b U n f else J (bw ())
def rm(a:List Int)(U:List Int):Option Bool:=if(aN8 a:Int) !=(aN8 U:Int) then J ak else ab (O7 a U N 0) λb=>match b with|bw e=>J aa|bt d=>J d
def aFj(b:List b6)(U:List b6):Nat->Int->Option (Sum (Unit) (Bool))|0,_=>ae|n+1,a=>if decide (a<(aN8 b:Int)) then ab (al b a) λd=>ab (al U a) λe=>if !(decide (d=e)) then J (bt ak) else aF.lt (aO .i64 (a+1)) λf=>aFj b U n f else J (bw ())
def Q5(a:List b6)(U:List b6):Option Bool:=if(aN8 a:Int) !=(aN8 U:Int) then J ak else ab (aFj a U N 0) λb=>match b with|bw e=>J aa|bt d=>J d
def NP(b:List (List Int))(U:List (List Int)):Nat->Int->Option (Sum (Unit) (Bool))|0,_=>ae|n+1,a=>if decide (a<(aN8 b:Int)) then ab (al b a) λd=>ab (al U a) λe=>ab (rm N d e) λf=>if !f then J (bt ak) else aF.lt (aO .i64 (a+1)) λg=>NP b U n g else J (bw ())
def vE(a:List (List Int))(U:List (List Int)):Option Bool:=if(aN8 a:Int) !=(aN8 U:Int) then J ak else ab (NP N a U N 0) λb=>match b with|bw e=>J aa|bt d=>J d
def O8(U:c8)(a:List eb):Nat->bq->cI->Int->Option (Sum (bq×cI) (Bool))|0,_,_,_=>ae|n+1,e,g,b=>if decide (b<(aN8 a:Int)) then ab (al a b) λi=>ab (al a b) λf=>ab (rl N U e f) λd=>if d.2.err !=0 then J (bt ak) else aF.lt (aO .i64 (b+1)) λh=>O8 U a n d.1 d.2 h else J (bw (e,g))
def F6(d:cI)(e:Int)(f:List Int)(b:List Int)(a:Int):Option Bool:=ab (rm N d.aOc.e9.fW ([0,1,0]:List Int)) λg=>if !g then J aa else if a !=0 then J aa else if e !=0 then J aa else ab (rm N f ([0,1,2]:List Int)) λi=>if !i then J aa else ab (rm N b ([2,1,2]:List Int)) λh=>J (!h)
def F7(b:cI)(a:bq)(e:ct)(d:List Int)(f:Int):Option Bool:=if !a.cE then J aa else if f !=0 then J aa else if(aN8 e.aN':Int) !=3 then J aa else ab (rm N d ([0,1,2]:List Int)) λg=>if !g then J aa else ab (Q5 N b.dW ([(b6.mk 1 3 2 0),(b6.mk 2 2 1 1)]:List b6)) λh=>J (!h)
def aMx(a:bq):Option Bool:=if !a.aOb then ab (vE N a.aH ([([]:List Int),([]:List Int),([0,2,1]:List Int)]:List (List Int))) λb=>J b else J ak
def S8:Option Bool:=ab (SK N) λa=>ab (Ak N a.1) λg=>if g.2 !=0 then J ak else ab (O8 N a.1 a.2 N g.1 (cI.mk 0 [] (e8.mk (dF.mk 0 []) []) [] (hI.mk [] [] (dM.mk 0 0 0 0 0 0 0) []) 0 0) 0) λh=>match h with|bw b=>ab (vG N b.1) λd=>ab (F6 N b.2 d.1 d.2.1 d.2.2.1 d.2.2.2) λi=>if i then J ak else ab (rl N a.1 b.1 (eb.mk 4 0 0 0 0 [] ([(im.mk 1 2)]:List im) (b7.mk [] 0 []) [] [])) λe=>ab (RI N e.1) λf=>ab (rl N a.1 e.1 (eb.mk 5 0 0 0 12 ([1]:List Int) [] (b7.mk [] 0 []) [] [])) λj=>ab (F7 N j.2 e.1 f.1 f.2.1 f.2.2) λk=>if k then J ak else ab (rl N a.1 b.1 (eb.mk 4 0 0 0 0 [] [] (b7.mk [] 0 []) [] [])) λm=>ab (rl N a.1 m.1 (eb.mk 4 0 0 0 0 [] [] (b7.mk [] 0 []) [] [])) λn=>ab (aMx N n.1) λl=>J l|bt p=>J p
def Ac(a:Int):Option (List UInt8):=ab (gW 112) λb=>ab (gW (aO .u8 ((aO .i64 (48+(jB (aO .i64 (l1 a 10)) 10)))))) λd=>ab (gW (aO .u8 ((aO .i64 (48+(jB a 10)))))) λe=>aF.lt ([b,d,e]:List UInt8) λf=>J f
def MX:Nat->dd->(List ff)->Int->Option (dd×List ff)|0,_,_,_=>ae|n+1,g,e,f=>if decide (0<f) then ab (HP g ([60,80,100,120,200]:List Int)) λa=>ab (HP a.2 ([0,50,100,250,500]:List Int)) λb=>ab (HP b.2 ([0,10,30,50,65,100]:List Int)) λd=>ab (cD e ([(ff.mk a.1 b.1 d.1)]:List ff)) λh=>aF.lt (aO .i64 (f-1)) λi=>MX n d.2 h i else J (g,e)
def HC(d:dd):Option (List ff×dd):=ab (HO d 5) λa=>ab (MX N a.2 [] a.1) λb=>J (b.2,b.1)
def DR(d:dd)(a:cR)(e:Int):Option (dd×cR):=aF.lt (e==1) λw=>if w then ab (HP d ([0,262,700,1500,10000]:List Int)) λf=>J (f.2,(cR.mk a.aOj a.aOn f.1 a.b a.c)) else aF.lt (e==2) λx=>if x then ab (HP d ([3,8,16,40]:List Int)) λh=>J (h.2,(cR.mk a.aOj a.aOn h.1 a.b a.c)) else aF.lt (e==3) λA=>if A then ab (HP d ([400,1600,4000,20000]:List Int)) λi=>J (i.2,(cR.mk a.aOj a.aOn i.1 a.b a.c)) else aF.lt (e==4) λz=>if z then ab (HP d ([0,30,50,80]:List Int)) λg=>J (g.2,(cR.mk a.aOj a.aOn g.1 a.b a.c)) else aF.lt (e==5) λy=>if y then ab (HP d ([1,3,9]:List Int)) λn=>ab (HP n.2 ([0,1,3]:List Int)) λm=>ab (HO m.2 4) λj=>J (j.2,(cR.mk a.aOj a.aOn n.1 m.1 j.1)) else aF.lt (e==6) λB=>if B then ab (HP d ([0,1,3]:List Int)) λl=>ab (HO l.2 4) λk=>J (k.2,(cR.mk a.aOj a.aOn l.1 k.1 a.c)) else aF.lt (e==7) λC=>if C then ab (HO d 5) λp=>ab (HO p.2 4) λr=>J (r.2,(cR.mk a.aOj a.aOn p.1 r.1 a.c)) else aF.lt (e==8) λE=>if E then ab (HP d ([50,200,500]:List Int)) λt=>J (t.2,(cR.mk a.aOj a.aOn t.1 a.b a.c)) else ab (HP d ([100,400]:List Int)) λq=>ab (HP q.2 ([0,800,3000]:List Int)) λs=>J (s.2,(cR.mk a.aOj a.aOn q.1 s.1 a.c))
def R6(d:dd)(U:Int):Option (cR×dd):=ab (HO d 9) λa=>ab (DR a.2 (cR.mk U (aO .i64 (1+a.1)) 0 0 0) (aO .i64 (1+a.1))) λb=>J (b.2,b.1)
def EL:Nat->dd->(List cR)->Int->Option (dd×List cR)|0,_,_,_=>ae|n+1,f,a,e=>if decide (0<e) then ab (HO f 9) λb=>ab (R6 b.2 (aO .i64 ((aO .i64 ((aO .i64 (10*(aN8 a:Int)))+1))+b.1))) λd=>ab (cD a ([d.1]:List cR)) λg=>aF.lt (aO .i64 (e-1)) λh=>EL n d.2 g h else J (f,a)
def HB(d:dd)(U:Int):Option (List cR×dd):=ab (HO d (aO .i64 (U+1))) λa=>ab (EL N a.2 [] a.1) λb=>J (b.2,b.1)
def CN:Nat->dd->c8->Int->(List eE)->Option (dd×c8×List eE)|0,_,_,_,_=>ae|n+1,f,a,d,b=>if decide (0<d) then ab (Ac (aN8 b:Int)) λi=>ab (HP f ([500,1500,3000,8000,100000]:List Int)) λe=>ab (cD b ([(eE.mk i e.1)]:List eE)) λg=>aF.lt (aO .i64 (d-1)) λh=>CN n e.2 (c8.mk [] a.rules [] a.speed a.iZ) h g else J (f,(c8.mk [] a.rules [] a.speed a.iZ),b)
def Nr(b:dd)(U:Bool):Option (dd×Bool):=if !U then J (b,aa) else ab (HO b 3) λa=>J (a.2,(a.1==0))
def Ns(f:dd)(a:c8)(g:Bool)(e:List eE)(d:List ff):Option (dd×c8×List eE×List ff):=if g then ab (HB N f 3) λb=>J (b.2,(c8.mk [] b.1 [] a.speed a.iZ),e,d) else J (f,(c8.mk [] a.rules [] a.speed a.iZ),e,d)
def Rp(l:dd)(U:Bool):Option (c8×dd):=ab (HP l ([60,80,100]:List Int)) λd=>ab (HP d.2 ([0,50,100]:List Int)) λe=>ab (HP e.2 ([0,0,10,40]:List Int)) λf=>ab (HO f.2 5) λg=>aF.lt (aO .i64 (4+g.1)) λj=>ab (CN N g.2 (c8.mk [] [] [] d.1 e.1) j []) λb=>ab (HC N b.1) λi=>ab (cD ([(ff.mk 200 500 f.1)]:List ff) i.1) λk=>ab (Nr i.2 U) λh=>ab (Ns N h.1 (c8.mk [] b.2.1.rules [] b.2.1.speed b.2.1.iZ) h.2 b.2.2 k) λa=>J ((c8.mk a.2.2.1 a.2.1.rules a.2.2.2 a.2.1.speed a.2.1.iZ),a.1)
def GF(U:cR):Option Bool:=if decide (U.aOj<1) then J aa else if decide (9999<U.aOj) then J aa else if decide (U.aOn<1) then J aa else J (decide (9<U.aOn))
def aDp(U:cR):Option Bool:=if decide (0<=U.a) then if decide (U.a<=1000000) then if decide (0<=U.b) then if decide (U.b<=1000000) then if decide (0<=U.c) then aF.lt (decide (U.c<=1000000)) λd=>J d else J ak else J ak else J ak else J ak else J ak
def H0(a:cR):Option Bool:=ab (GF a) λb=>if b then J ak else ab (aDp a) λd=>J d
def Gt(d:List cR)(a:Int):Nat->Int->Option (Sum (Unit) (Int))|0,_=>ae|n+1,b=>if decide (b<a) then ab (al d b) λe=>ab (al d a) λf=>if e.aOj==f.aOj then J (bt 8) else aF.lt (aO .i64 (b+1)) λg=>Gt d a n g else J (bw ())
def PC(b:List cR):Nat->Int->Option (Sum (Unit) (Int))|0,_=>ae|n+1,a=>if decide (a<(aN8 b:Int)) then ab (al b a) λd=>ab (H0 d) λe=>if !e then J (bt 1) else ab (Gt b a N 0) λh=>match h with|bw i=>aF.lt (aO .i64 (a+1)) λf=>PC b n f|bt g=>J (bt g) else J (bw ())
def HZ(a:List cR):Option Int:=if decide (32<(aN8 a:Int)) then J 3 else ab (PC N a N 0) λb=>match b with|bw e=>J 0|bt d=>J d
def Nk(b:List ff)(a:Int):Option Bool:=ab (al b a) λd=>if decide (d.speed<1) then J aa else ab (al b a) λe=>if decide (200<e.speed) then J aa else ab (al b a) λf=>if decide (f.iZ<0) then J aa else ab (al b a) λg=>if decide (500<g.iZ) then J aa else ab (al b a) λh=>if decide (h.j9<0) then J aa else ab (al b a) λi=>J (decide (250<i.j9))
def Df(b:List ff):Nat->Int->Option (Sum (Unit) (Bool))|0,_=>ae|n+1,a=>if decide (a<(aN8 b:Int)) then ab (Nk b a) λe=>if e then J (bt ak) else aF.lt (aO .i64 (a+1)) λd=>Df b n d else J (bw ())
def Rm(a:List ff):Option Bool:=if decide (64<(aN8 a:Int)) then J ak else ab (Df a N 0) λb=>match b with|bw e=>J aa|bt d=>J d
def Mg(U:c8):Option Bool:=if decide (1<=(aN8 U.aH:Int)) then if decide ((aN8 U.aH:Int)<=24) then if decide (1<=U.speed) then if decide (U.speed<=200) then if decide (0<=U.iZ) then aF.lt (decide (U.iZ<=500)) λa=>J a else J ak else J ak else J ak else J ak else J ak
def Mh(U:c8)(a:Bool)(b:Int):Option Bool:=if a then J (decide (b<(aN8 U.aH:Int))) else J ak
def C4(U:c8)(a:Int):Option Bool:=ab (al U.aH a) λb=>ab (Ah N b.aOg) λe=>if e then ab (al U.aH a) λf=>if decide (1<=f.aOh) then ab (al U.aH a) λg=>aF.lt (decide (g.aOh<=100000)) λd=>J d else J ak else J ak
def Mi(U:c8)(b:Bool)(d:Int)(a:Int):Option Bool:=if b then ab (al U.aH a) λe=>ab (al U.aH d) λg=>aF.lt (!(e.aOg==g.aOg)) λf=>J f else J ak
def C5(U:c8)(b:Int):Nat->Bool->Int->Option Bool|0,_,_=>ae|n+1,d,a=>if decide (a<b) then ab (Mi U d b a) λe=>aF.lt (aO .i64 (a+1)) λf=>C5 U b n e f else J d
def C3(U:c8):Nat->Bool->Int->Option Bool|0,_,_=>ae|n+1,b,a=>ab (Mh U b a) λd=>if d then ab (C4 N U a) λe=>ab (C5 U a N e 0) λg=>aF.lt (aO .i64 (a+1)) λf=>C3 U n g f else J b
def Rg(a:c8):Option Int:=ab (Mg a) λd=>ab (C3 N a N d 0) λe=>if !e then J 1 else ab (HZ N a.rules) λb=>if b !=0 then J b else ab (Rm N a.table) λf=>if !f then J 1 else J 0
def aAK(U:c8):Nat->bq->Int->(List (List Int))->Option (bq×List (List Int))|0,_,_,_=>ae|n+1,a,b,d=>if decide (b<(aN8 U.aH:Int)) then ab (cD d ([([]:List Int)]:List (List Int))) λe=>aF.lt (aO .i64 (b+1)) λf=>aAK U n (z1 a) f e else J ((z1 a),d)
def Ic(d:c8):Option (bq×Int):=ab (Rg N d) λb=>if b !=0 then J ((bq.mk [] [] [] ak (eR.mk [] (b8.mk [] 0) (e8.mk (dF.mk 0 []) []) 0 [] 0) ak),b) else ab (aAK d N (bq.mk [] [] [] ak (eR.mk [] (b8.mk [] 0) (e8.mk (dF.mk 0 []) []) 0 [] 0) ak) 0 []) λa=>J ((bq.mk a.1.bD a.2 a.1.b2 a.1.aOb a.1.bo a.1.cE),0)
def aKm(U:bq)(d:Int)(f:Bool)(e:Int):Option Bool:=if f then J aa else ab (al U.b2 e) λa=>aF.lt (a.cq==d) λb=>J b
def aJb(U:bq)(b:Int):Nat->Bool->Int->Option Bool|0,_,_=>ae|n+1,d,a=>if decide (a<(aN8 U.b2:Int)) then ab (aKm U b d a) λe=>aF.lt (aO .i64 (a+1)) λf=>aJb U b n e f else J d
def aKn(U:bq)(a:Int)(b:Bool):Option Bool:=if !b then ab (al U.aH a) λd=>J ((aN8 d:Int)==0) else J ak
def aKV(U:bq)(b:List Int)(d:List Int)(a:Int):Option (List Int×List Int):=ab (aJb U a N ak 0) λe=>ab (aKn U a e) λh=>if h then ab (cD b ([a]:List Int)) λf=>J (f,d) else if !e then ab (cD d ([a]:List Int)) λg=>J (b,g) else J (b,d)
def aD3(U:bq):Nat->(List Int)->(List Int)->Int->Option (List Int×List Int)|0,_,_,_=>ae|n+1,b,d,a=>if decide (a<(aN8 U.aH:Int)) then ab (aKV N U b d a) λe=>aF.lt (aO .i64 (a+1)) λf=>aD3 U n e.1 e.2 f else J (b,d)
def R7(d:bq):Option (List Int):=ab (aD3 N d N [] [] 0) λa=>ab (cD a.1 a.2) λb=>J b
def R8(h:dd)(U:List UInt8):Option (List UInt8×dd):=if U==[] then ab (HO h 256) λd=>ab (gW (aO .u8 (d.1))) λi=>aF.lt ([i]:List UInt8) λj=>J (j,d.2) else ab (HO h (aN8 U:Int)) λa=>ab (HO a.2 4) λb=>aF.lt (b.1==0) λn=>if n then ab (gi U 0 a.1) λp=>ab (gi U (aO .i64 (a.1+1)) (aN8 U:Int)) λl=>ab (cD p l) λm=>J (m,b.2) else aF.lt (b.1==1) λk=>if k then ab (gi U 0 a.1) λx=>ab (HO b.2 256) λe=>ab (gW (aO .u8 (e.1))) λq=>ab (cD x ([q]:List UInt8)) λr=>ab (gi U a.1 (aN8 U:Int)) λw=>ab (cD r w) λt=>J (t,e.2) else aF.lt (b.1==2) λs=>if s then ab (gi U 0 a.1) λy=>ab (HO b.2 10) λf=>ab (gW (aO .u8 ((aO .i64 (48+f.1))))) λB=>ab (cD y ([B]:List UInt8)) λC=>ab (gi U (aO .i64 (a.1+1)) (aN8 U:Int)) λz=>ab (cD C z) λA=>J (A,f.2) else ab (gi U 0 a.1) λF=>ab (HO b.2 256) λg=>ab (gW (aO .u8 (g.1))) λE=>ab (cD F ([E]:List UInt8)) λI=>ab (gi U (aO .i64 (a.1+1)) (aN8 U:Int)) λK=>ab (cD I K) λH=>J (H,g.2)
def Q6(d:dd)(U:List UInt8):Option (List UInt8×dd):=ab (R8 d U) λa=>ab (cD a.1 []) λb=>J (b,a.2)
def aC2(i:dd)(a:b7)(f:Int)(e:List (List UInt8)):Option (dd×b7×List (List UInt8)):=ab (HO i 2) λb=>if b.1==0 then ab (HO b.2 2) λd=>ab (al p2 (jB (aO .i64 (f+d.1)) 4)) λh=>ab (cD e ([h]:List (List UInt8))) λg=>J (d.2,(b7.mk a.aOg a.cq []),g) else J (b.2,(b7.mk a.aOg a.cq []),e)
def aC1:Nat->dd->b7->Int->(List (List UInt8))->Option (dd×b7×List (List UInt8))|0,_,_,_,_=>ae|n+1,f,a,d,e=>if decide (d<4) then ab (aC2 f (b7.mk a.aOg a.cq []) d e) λb=>aF.lt (aO .i64 (d+1)) λg=>aC1 n b.1 (b7.mk b.2.1.aOg b.2.1.cq []) g b.2.2 else J (f,(b7.mk a.aOg a.cq []),e)
def aC3(d:dd)(e:c8)(a:b7)(f:Bool):Option (dd×b7):=if f then ab (HP d ([(-1),(aN8 e.aH:Int)]:List Int)) λb=>J (b.2,(b7.mk a.aOg b.1 [])) else J (d,(b7.mk a.aOg a.cq []))
def RM(h:dd)(U:c8):Option (b7×dd):=ab (HO h 4) λb=>ab (al ([[120,49],[120,50],[120,51],[120,52]]:List (List UInt8)) b.1) λi=>ab (al ([[120,49],[120,50],[120,51],[120,52]]:List (List UInt8)) b.1) λg=>ab (HO b.2 (aN8 U.aH:Int)) λe=>ab (aC1 N e.2 (b7.mk g e.1 []) 0 []) λa=>ab (HO a.1 9) λf=>ab (aC3 f.2 U (b7.mk a.2.1.aOg a.2.1.cq []) (f.1==0)) λd=>J ((b7.mk d.2.aOg d.2.cq a.2.2),d.1)
def SC(a:bq):Option Int:=if a.bo.h9==0 then J a.bo.aOs else ab (al a.bo.aH (aO .i64 (a.bo.h9-1))) λb=>J b
def Oe(d:Int)(b:List Int):Nat->Int->Option (Sum (Unit) (Int))|0,_=>ae|n+1,a=>if decide (a<(aN8 b:Int)) then ab (j2 .i64 (aO .u64 a)) λe=>if(ih .and .i64 (sE d ((2 ^ e:Nat):Int)) 1)==1 then ab (al b a) λf=>J (bt f) else aF.lt (aO .i64 (a+1)) λg=>Oe d b n g else J (bw ())
def x7(h:List b7)(U:c4)(b:Int)(d:Int)(e:List Int):Option Int:=ab (Oe b e N d) λa=>match a with|bw i=>ab (al h U.dS) λf=>J f.cq|bt g=>J g
def aKr(U:List Int)(i:bq)(d:List Int)(a:eR)(j:Int)(b:Int):Option (List Int):=ab (al a.bD b) λe=>ab (al U j) λf=>if e==f then ab (al a.iP.aN' b) λg=>ab (al a.aOc.e9.fW b) λh=>ab (x7 N i.b2 g h a.h9 a.aH) λk=>ab (cD d ([k]:List Int)) λl=>J l else J d
def aJg(U:List Int)(d:bq)(a:eR)(f:Int):Nat->(List Int)->Int->Option (List Int)|0,_,_=>ae|n+1,e,b=>if decide (b<(aN8 a.bD:Int)) then ab (aKr N U d e a f b) λh=>aF.lt (aO .i64 (b+1)) λg=>aJg U d a f n h g else J e
def aB4(U:List Int)(b:bq)(e:eR):Nat->(List Int)->Int->Option (List Int)|0,_,_=>ae|n+1,d,a=>if decide (a<(aN8 U:Int)) then ab (aJg N U b e a N d 0) λg=>aF.lt (aO .i64 (a+1)) λf=>aB4 U b e n g f else J d
def Sf(a:bq)(U:List Int):Option (List Int):=ab (aB4 N U a a.bo N [] 0) λb=>J b
def aEt(U:bq):Option Bool:=if !U.aOb then J aa else J U.cE
def Aj(a:bq):Option (Int×List Int×List Int×Int):=ab (aEt a) λe=>if e then J (0,[],[],16) else ab (SC a) λb=>ab (al a.aH b) λf=>ab (cD ([]:List Int) f) λd=>ab (Sf N a d) λg=>J (b,d,g,0)
def MR(b:dd)(e:bq):Option (dd×Bool):=if e.cE then ab (HO b 6) λa=>aF.lt (decide (0<a.1)) λd=>J (a.2,d) else J (b,ak)
def EG(b:dd)(d:bq):Option (dd×Bool):=if d.aOb then ab (HO b 5) λa=>aF.lt (decide (0<a.1)) λe=>J (a.2,e) else J (b,ak)
def EF(f:dd)(e:bq)(a:eb):Option (dd×eb):=ab (MR f e) λd=>if d.2 then J (d.1,(eb.mk 5 a.cq a.to a.count a.dO [] [] a.aOo a.aOg [])) else ab (EG d.1 e) λb=>if b.2 then J (b.1,(eb.mk 4 a.cq a.to a.count a.dO [] [] a.aOo a.aOg [])) else J (b.1,(l0 a))
def EI(b:dd)(d:List Int):Option (dd×Bool):=if decide (0<(aN8 d:Int)) then ab (HO b 4) λa=>J (a.2,(decide (0<a.1))) else J (b,ak)
def MS(e:dd)(b:List Int)(a:eb)(g:Bool):Option (dd×eb):=if g then ab (HO e (aN8 b:Int)) λd=>ab (al b d.1) λh=>ab (al b d.1) λf=>J (d.2,(eb.mk a.aOn f a.to a.count a.dO [] [] a.aOo a.aOg [])) else J (e,(l0 a))
def EJ(e:Int):Nat->dd->(List bC)->Int->Option (dd×List bC)|0,_,_,_=>ae|n+1,g,b,d=>if decide (0<d) then ab (R9 N g (aO .i64 (e+(aN8 b:Int)))) λa=>ab (HO a.2 4) λf=>ab (al p2 f.1) λj=>ab (cD b ([(bC.mk a.1.aOj a.1.aOh a.1.iL a.1.gv a.1.lJ a.1.kH a.1.uM j)]:List bC)) λh=>aF.lt (aO .i64 (d-1)) λi=>EJ e n f.2 h i else J (g,b)
def MT(b:dd)(d:List Int):Option (dd×Bool):=if decide (0<(aN8 d:Int)) then ab (HO b 4) λa=>J (a.2,(decide (0<a.1))) else J (b,ak)
def EK(b:Int)(a:Bool):Option Bool:=if a then J a else aF.lt (b==5) λd=>J d
def aKL(b:List Int)(a:eb):Option Bool:=if a.aOn==3 then J (decide (0<(aN8 b:Int))) else J ak
def aKj(b:List Int)(a:eb)(d:Bool):Option eb:=if d then ab (al b (aO .i64 ((aN8 b:Int)-1))) λh=>ab (al b (aO .i64 ((aN8 b:Int)-1))) λf=>J (eb.mk a.aOn f a.to a.count a.dO [] [] a.aOo a.aOg []) else if decide (0<(aN8 b:Int)) then ab (al b 0) λg=>ab (al b 0) λe=>J (eb.mk a.aOn e a.to a.count a.dO [] [] a.aOo a.aOg []) else J (l0 a)
def aKk(a:List Int)(b:Int)(d:List Int):Option Bool:=if decide (b<(aN8 a:Int)) then J (decide ((aN8 d:Int)<4)) else J ak
def aKl(a:List Int)(d:eb)(b:Int)(e:List Int):Option (eb×List Int):=ab (al a b) λi=>ab (al a b) λg=>if g !=d.cq then ab (al a b) λj=>ab (al a b) λf=>ab (cD e ([f]:List Int)) λh=>J ((l0 d),h) else J ((l0 d),e)
def aJz(a:List Int):Nat->eb->Int->(List Int)->Option (eb×List Int)|0,_,_,_=>ae|n+1,f,b,d=>ab (aKk a b d) λh=>if h then ab (aKl a (l0 f) b d) λe=>aF.lt (aO .i64 (b+1)) λg=>aJz a n (l0 e.1) g e.2 else J ((l0 f),d)
def aJA(e:c8)(f:List Int):Nat->dd->eb->Int->(List im)->Option (dd×eb×List im)|0,_,_,_,_=>ae|n+1,i,d,g,h=>if decide (0<g) then ab (HO i (aO .i64 ((aN8 f:Int)+1))) λa=>ab (HO a.2 (aN8 e.aH:Int)) λb=>ab (cD h ([(im.mk a.1 b.1)]:List im)) λk=>aF.lt (aO .i64 (g-1)) λj=>aJA e f n b.2 (l0 d) j k else J (i,(l0 d),h)
def EH(g:dd)(R:Int)(h:c8)(n:bq)(f:List Int)(a:eb)(i:Int)(d:List Int)(b:List im)(e:List UInt8):Option (dd×eb×List Int×List im×List UInt8):=aF.lt (i==1) λS=>if S then ab (HO g (aN8 h.aH:Int)) λE=>ab (EI E.2 f) λC=>ab (MS C.1 f (eb.mk a.aOn E.1 a.to a.count a.dO [] [] a.aOo a.aOg []) C.2) λt=>ab (HO t.1 7) λF=>ab (EJ N R N F.2 [] F.1) λI=>ab (jO N I.2) λH=>ab (HO I.1 15) λw=>if w.1==0 then ab (Q6 w.2 H.1) λK=>J (K.2,(l0 t.2),d,b,K.1) else J (w.2,(l0 t.2),d,b,H.1) else aF.lt (i==2) λT=>if T then ab (RM N g h) λp=>ab (MT p.2 f) λy=>if y.2 then ab (al f 0) λlb=>ab (al f 0) λY=>J (y.1,(eb.mk a.aOn a.cq a.to a.count a.dO [] [] (b7.mk p.1.aOg Y p.1.c7) a.aOg []),d,b,e) else J (y.1,(eb.mk a.aOn a.cq a.to a.count a.dO [] [] p.1 a.aOg []),d,b,e) else aF.lt (i==3) λX=>ab (EK i X) λU=>if U then ab (HO g (aN8 h.aH:Int)) λx=>ab (HP x.2 ([12,12,12,1,2,0]:List Int)) λz=>ab (aKL f (eb.mk a.aOn x.1 a.to a.count z.1 [] [] a.aOo a.aOg [])) λV=>ab (aKj f (eb.mk a.aOn x.1 a.to a.count z.1 [] [] a.aOo a.aOg []) V) λZ=>ab (aJz f N (l0 Z) 0 d) λm=>ab (HO z.2 8) λA=>if A.1==0 then ab (HP A.2 ([(-1),0,m.1.cq,(aN8 h.aH:Int)]:List Int)) λB=>ab (cD m.2 ([B.1]:List Int)) λO=>J (B.2,(l0 m.1),O,b,e) else J (A.2,(l0 m.1),m.2,b,e) else aF.lt (i==4) λP=>if P then ab (Aj N n) λQ=>ab (HP g ([0,0,0,1,2]:List Int)) λM=>ab (aJA h Q.2.1 N M.2 (l0 a) M.1 b) λq=>J (q.1,(l0 q.2.1),d,q.2.2,e) else aF.lt (i==6) λqw=>if qw then ab (HO g (aN8 h.aH:Int)) λL=>ab (HO L.2 (aN8 h.aH:Int)) λj=>ab (HO j.2 4) λk=>J (k.2,(eb.mk a.aOn L.1 j.1 k.1 a.dO [] [] a.aOo a.aOg []),d,b,e) else aF.lt (i==7) λr=>if r then if decide (0<(aN8 n.b2:Int)) then ab (HO g (aN8 n.b2:Int)) λl=>ab (al n.b2 l.1) λs=>J (l.2,(eb.mk a.aOn a.cq a.to a.count a.dO [] [] a.aOo s.aOg []),d,b,e) else J (g,(eb.mk a.aOn a.cq a.to a.count a.dO [] [] a.aOo [120,49] []),d,b,e) else J (g,(l0 a),d,b,e)
def RL(h:dd)(U:c8)(b:bq)(g:Int):Option (eb×dd):=ab (R7 N b) λf=>ab (HO h 7) λe=>ab (EF e.2 b (eb.mk (aO .i64 (1+e.1)) 0 0 0 0 [] [] (b7.mk [] 0 []) [] [])) λd=>ab (EH N d.1 g U b f (l0 d.2) d.2.aOn [] [] []) λa=>J ((eb.mk a.2.1.aOn a.2.1.cq a.2.1.to a.2.1.count a.2.1.dO a.2.2.1 a.2.2.2.1 a.2.1.aOo a.2.1.aOg a.2.2.2.2),a.1)
def Ge(b:List (List Int)):Nat->(List (List Int))->Int->Option (List (List Int))|0,_,_=>ae|n+1,d,a=>if decide (a<(aN8 b:Int)) then ab (al b a) λe=>ab (cD ([]:List Int) e) λf=>ab (cD d (([[]]:List (List Int)).set ((0:Int).toNat) f)) λg=>aF.lt (aO .i64 (a+1)) λh=>Ge b n g h else J d
def Td(b:List (List Int)):Option (List (List Int)):=ab (Ge b N ([]:List (List Int)) 0) λa=>J a
def Pj(U:bq):Nat->(List b7)->Int->(List (List Int))->Option (List b7×List (List Int))|0,_,_,_=>ae|n+1,d,b,e=>if decide (b<(aN8 U.b2:Int)) then ab (al U.b2 b) λa=>ab (cD ([]:List (List UInt8)) a.c7) λf=>ab (cD d ([(b7.mk a.aOg a.cq f)]:List b7)) λg=>aF.lt (aO .i64 (b+1)) λh=>Pj U n g h e else J (d,e)
def Te(a:bq):Option (bq×List bC×List b7):=ab (cD ([]:List bC) a.bD) λd=>ab (Td N a.aH) λe=>ab (Pj (Yp a) N [] 0 e) λb=>ab (cD ([]:List Int) a.bo.bD) λg=>ab (cD ([]:List Int) a.bo.aH) λh=>ab (cD ([]:List c4) a.bo.iP.aN') λf=>ab (cD ([]:List Int) a.bo.aOc.e9.fW) λj=>ab (cD ([]:List Int) a.bo.aOc.chain) λi=>J ((bq.mk [] (rz (λ(z:List Int)=>z) b.2) [] a.aOb (eR.mk g (b8.mk f a.bo.iP.dO) (e8.mk (dF.mk a.bo.aOc.e9.aOm j) i) a.bo.aOs h a.bo.h9) a.cE),d,b.1)
def GS(U:Int)(b:c8):Option Bool:=if decide (0<=U) then aF.lt (decide (U<(aN8 b.aH:Int))) λa=>J a else J ak
def x9(b:c8)(U:Int):Option Bool:=ab (GS U b) λa=>J a
def OW(b:List Int)(U:Int):Nat->Int->Option (Sum (Unit) (Bool))|0,_=>ae|n+1,a=>if decide (a<(aN8 b:Int)) then ab (al b a) λd=>if d==U then J (bt aa) else aF.lt (aO .i64 (a+1)) λe=>OW b U n e else J (bw ())
def Am(d:List Int)(U:Int):Option Bool:=ab (OW d U N 0) λa=>match a with|bw e=>J ak|bt b=>J b
def Fu(U:Int)(a:bq):Nat->Int->Option (Sum (Unit) (Bool))|0,_=>ae|n+1,b=>if decide (b<(aN8 a.b2:Int)) then ab (al a.b2 b) λd=>if d.cq==U then J (bt aa) else aF.lt (aO .i64 (b+1)) λe=>Fu U a n e else J (bw ())
def Se(d:bq)(U:Int):Option Bool:=ab (Fu U d N 0) λa=>match a with|bw e=>J ak|bt b=>J b
def OS(a:List UInt8):Nat->Int->Int->Option (Sum (Int) (Int))|0,_,_=>ae|n+1,b,e=>ab (al a 0) λf=>if decide (e<(aO .i64 ((fy f:Int)))) then if decide ((aN8 a:Int)<(aO .i64 (b+15))) then J (bt (-1)) else ab (al a (aO .i64 (b+14))) λg=>aF.lt (aO .i64 (b+(aO .i64 (15+(aO .i64 ((fy g:Int))))))) λd=>if decide ((aN8 a:Int)<d) then J (bt (-1)) else aF.lt (aO .i64 (e+1)) λh=>OS a n d h else J (bw b)
def Tj(a:List UInt8):Option Int:=if(aN8 a:Int)==0 then J (-1) else ab (OS a N 1 0) λe=>match e with|bw b=>if decide ((aN8 a:Int)<(aO .i64 (b+2))) then J (-1) else aF.lt (aO .i64 (b+2)) λf=>J f|bt d=>J d
def H8(a:List UInt8):Option Int:=ab (al a 0) λb=>ab (al a 1) λd=>aF.lt (aO .i64 ((aO .i64 ((aO .i64 ((fy b:Int)))*256))+(aO .i64 ((fy d:Int))))) λe=>J e
def aK'(b:List UInt8)(a:Int):Option Bool:=ab (al b a) λe=>if decide (9<(aO .u8 (l1 (fy e:Int) 16))) then J aa else ab (al b a) λd=>J (decide (9<(jB (fy d:Int) 16)))
def N6(b:List UInt8):Nat->(List UInt8)->Int->Option (Sum (List UInt8) (Int))|0,_,_=>ae|n+1,d,a=>if decide (a<6) then ab (aK' b a) λe=>if e then J (bt 11) else ab (al b a) λf=>ab (al b a) λi=>ab (gW (aO .u8 (48+(aO .u8 (l1 (fy f:Int) 16))))) λh=>ab (gW (aO .u8 (48+(jB (fy i:Int) 16)))) λg=>ab (cD d ([h,g]:List UInt8)) λj=>aF.lt (aO .i64 (a+1)) λk=>N6 b n j k else J (bw d)
def aLa(a:List UInt8):Option Bool:=ab (al a 13) λb=>if decide (25<(fy b:Int)) then J aa else ab (al a 13) λd=>if decide (10<=(fy d:Int)) then ab (al a 13) λe=>J (decide ((fy e:Int)<=15)) else J ak
def N5(b:List UInt8):Nat->(List bC)->Int->Int->Option (Sum (List bC) (Int))|0,_,_,_=>ae|n+1,d,f,e=>ab (al b 0) λh=>if decide (e<(aO .i64 ((fy h:Int)))) then ab (gi b f (aN8 b:Int)) λa=>ab (N6 a N [] 0) λi=>match i with|bw j=>ab (aLa a) λk=>if k then J (bt 11) else ab (al a 14) λl=>aF.lt (aO .i64 ((fy l:Int))) λg=>ab (gi a 6 (aN8 a:Int)) λq=>ab (H8 q) λp=>ab (al a 8) λt=>ab (gi a 9 (aN8 a:Int)) λr=>ab (H8 r) λA=>ab (gi a 11 (aN8 a:Int)) λB=>ab (H8 B) λy=>ab (al a 13) λs=>ab (al a 13) λw=>ab (gi a 15 (aO .i64 (15+g))) λm=>ab (cD d ([(bC.mk j p (aO .i64 ((fy t:Int))) A y (aO .i64 ((jB (fy s:Int) 16))) (decide (16<=(fy w:Int))) m)]:List bC)) λz=>aF.lt (aO .i64 (f+(aO .i64 (15+g)))) λx=>aF.lt (aO .i64 (e+1)) λE=>N5 b n z x E|bt C=>J (bt C) else J (bw d)
def gy(a:List UInt8):Option (List bC×Int):=ab (Tj N a) λb=>aF.lt (decide (b<0)) λf=>if f then J ([],10) else aF.lt (decide (b<(aN8 a:Int))) λg=>if g then J ([],11) else ab (gi a (aO .i64 (b-2)) (aN8 a:Int)) λh=>ab (H8 h) λj=>ab (gi a 0 (aO .i64 (b-2))) λk=>ab (SN N k) λl=>aF.lt (j !=l) λi=>if i then J ([],9) else ab (N5 N a N [] 1 0) λm=>match m with|bw d=>ab (Rw N d) λe=>if e !=0 then J ([],e) else J (d,0)|bt n=>J ([],n)
def GP(d:List (List Int))(U:Int)(b:Int):Nat->Int->Option (Sum (Unit) (Int×Int))|0,_=>ae|n+1,a=>ab (al d b) λe=>if decide (a<(aN8 e:Int)) then ab (al d b) λf=>ab (al f a) λg=>if g==U then J (bt (b,a)) else aF.lt (aO .i64 (a+1)) λh=>GP d U b n h else J (bw ())
def GO(b:List (List Int))(U:Int):Nat->Int->Option (Sum (Unit) (Int×Int))|0,_=>ae|n+1,a=>if decide (a<(aN8 b:Int)) then ab (GP b U a N 0) λe=>match e with|bw g=>aF.lt (aO .i64 (a+1)) λf=>GO b U n f|bt d=>J (bt (d.1,d.2)) else J (bw ())
def H3(d:List (List Int))(U:Int):Option (Int×Int):=ab (GO N d U N 0) λb=>match b with|bw e=>J ((-1),(-1))|bt a=>J (a.1,a.2)
def Ft(b:List bC):Nat->(List Int)->Int->Option (List Int)|0,_,_=>ae|n+1,d,a=>if decide (a<(aN8 b:Int)) then ab (al b a) λe=>ab (cD d ([e.aOh]:List Int)) λf=>aF.lt (aO .i64 (a+1)) λg=>Ft b n f g else J d
def Sd(b:List bC):Option (List Int):=ab (Ft b N [] 0) λa=>J a
def aEB(d:List Int)(U:List Int):Nat->Int->Int->Option Int|0,_,_=>ae|n+1,b,a=>if decide (a<(aN8 U:Int)) then ab (al U a) λe=>ab (al d e) λf=>aF.lt (aO .i64 (b+f)) λg=>aF.lt (aO .i64 (a+1)) λh=>aEB d U n g h else J b
def Ib(b:List Int)(U:List Int):Option Int:=ab (aEB b U N 0 0) λa=>J a
def GN(a:List eE)(U:List Int)(b:List (List Int)):Option Bool:=if(aN8 b:Int) !=(aN8 a:Int) then J aa else if decide (24<(aN8 a:Int)) then J aa else J (decide (192<(aN8 U:Int)))
def aI4(U:List Int)(a:Int):Option Bool:=ab (al U a) λb=>if decide (b<1) then J aa else ab (al U a) λd=>J (decide (400<d))
def aBb(U:List Int):Nat->Int->Option (Sum (Unit) (Bool))|0,_=>ae|n+1,a=>if decide (a<(aN8 U:Int)) then ab (aI4 U a) λb=>if b then J (bt ak) else aF.lt (aO .i64 (a+1)) λd=>aBb U n d else J (bw ())
def aI5(U:List Int)(b:List Bool)(a:Int):Option Bool:=if decide (a<0) then J aa else if decide ((aN8 U:Int)<=a) then J aa else ab (al b a) λe=>ab (al b a) λd=>J d
def aIY(U:List Int)(f:List (List Int))(e:Int):Nat->(List Bool)->Int->Option (Sum (List Bool) (Bool))|0,_,_=>ae|n+1,a,d=>ab (al f e) λh=>if decide (d<(aN8 h:Int)) then ab (al f e) λg=>ab (al g d) λb=>ab (aI5 U a b) λi=>if i then J (bt ak) else ab (al a b) λm=>ab (al a b) λl=>aF.lt (a.set ((b:Int).toNat) aa) λj=>aF.lt (aO .i64 (d+1)) λk=>aIY U f e n j k else J (bw a)
def aI6(b:List eE)(U:List Int)(d:List (List Int))(a:Int):Option Bool:=ab (al b a) λg=>if decide (g.aOh<0) then J aa else ab (al b a) λe=>if decide (100000<e.aOh) then J aa else ab (al d a) λf=>ab (Ib N U f) λi=>ab (al b a) λh=>J (decide (h.aOh<i))
def aIX(d:List eE)(U:List Int)(b:List (List Int)):Nat->(List Bool)->Int->Option (Sum (Unit) (Bool))|0,_,_=>ae|n+1,e,a=>if decide (a<(aN8 b:Int)) then ab (aIY U b a N e 0) λf=>match f with|bw g=>ab (aI6 N d U b a) λh=>if h then J (bt ak) else aF.lt (aO .i64 (a+1)) λi=>aIX d U b n g i|bt j=>J (bt j) else J (bw ())
def S1(b:List eE)(U:List Int)(a:List (List Int)):Option Bool:=ab (GN b U a) λd=>if d then J ak else ab (aBb U N 0) λf=>match f with|bw j=>(ab (hy ak (aN8 U:Int)) λe=>ab (aIX N b U a N e 0) λg=>match g with|bw k=>J aa|bt h=>J h)|bt i=>J i
def GK(U:List Int)(b:List (List Int))(a:cn):Option Bool:=if decide (a.hX<0) then J aa else if decide ((aN8 U:Int)<=a.hX) then J aa else if decide (a.aOt<(-1)) then J aa else if decide ((aN8 b:Int)<=a.aOt) then J aa else if decide (a.to<(-1)) then J aa else J (decide ((aN8 b:Int)<=a.to))
def PL(b:cn)(a:Int):Option Bool:=if a !=b.aOt then J aa else if decide (a<0) then J (decide (b.to<0)) else J ak
def GL(a:Int)(e:Int)(b:List (List Int))(g:Bool):Option (List (List Int)):=if g then ab (al b a) λk=>ab (al b a) λd=>ab (gi d 0 e) λi=>ab (al b a) λj=>if a=a then ab (gi d (aO .i64 (e+1)) (aN8 d:Int)) λh=>ab (cD (List.take (sF e) d) (List.drop (sF (aO .i64 (e+1))) (List.take (sF (aN8 d:Int)) d))) λf=>ab (al b a) λm=>if a=a then ab (al b a) λl=>J (b.set ((a:Int).toNat) f) else ae else ae else J b
def GM(a:cn)(b:List (List Int))(h:Bool):Option (List (List Int)):=if h then ab (al b a.to) λi=>ab (al b a.to) λe=>ab (cD ([a.hX]:List Int) e) λd=>ab (al b a.to) λj=>if a.to=a.to then ab (al b a.to) λk=>J (b.set ((a.to:Int).toNat) d) else ae else ab (al b a.to) λm=>ab (al b a.to) λg=>ab (cD g ([a.hX]:List Int)) λf=>ab (al b a.to) λl=>if a.to=a.to then ab (al b a.to) λn=>J (b.set ((a.to:Int).toNat) f) else ae
def Ag(h:List eE)(U:List Int)(d:List (List Int))(a:cn):Option (List (List Int)×Int):=ab (S1 N h U d) λi=>if !i then J ([],1) else ab (GK U d a) λj=>if j then J ([],2) else ab (H3 N d a.hX) λb=>ab (PL a b.1) λk=>if k then J ([],17) else ab (Td N d) λl=>ab (GL b.1 b.2 l (decide (0<=b.1))) λf=>if decide (a.to<0) then J ((rz (λ(z:List Int)=>z) f),0) else ab (GM a f a.front) λe=>ab (al e a.to) λp=>ab (al e a.to) λg=>ab (Ib N U g) λn=>ab (al h a.to) λm=>if decide (m.aOh<n) then J ([],14) else J ((rz (λ(z:List Int)=>z) (e.set ((a.to:Int).toNat) g)),0)
def HH(a:b0)(U:Int)(f:Int)(g:List cn):Option (Bool×List cn×b0):=ab (H3 N a.y.aH U) λb=>ab (Sd N a.y.bD) λh=>ab (Ag N a.c.aH h a.y.aH (cn.mk U b.1 f ak)) λd=>if d.2 !=0 then J (ak,g,(gq a)) else ab (cD g ([(cn.mk U b.1 f ak)]:List cn)) λi=>J (aa,i,(b0.mk a.c (bq.mk a.y.bD d.1 a.y.b2 a.y.aOb a.y.bo a.y.cE) a.e (cI.mk a.r.err [] a.r.aOc a.r.dW a.r.aOd a.r.cZ a.r.aOe)))
def Es(d:b0)(a:Int)(b:eR):Option Bool:=if d.y.cE then J aa else if d.y.aOb then if a==b.aOs then J aa else ab (Am N b.aH a) λe=>J e else J ak
def aAU(b:List bC)(d:Int)(a:Int)(f:Int)(e:List bC):Option Bool:=if decide (0<=f) then ab (al e a) λi=>ab (al e a) λg=>ab (al b d) λj=>ab (al b d) λh=>J (g.aOj==h.aOj) else J ak
def Et(g:b0)(b:List bC)(d:Int)(e:Int)(f:List bC):Nat->Int->Option (Sum (Unit) (Int))|0,_=>ae|n+1,a=>if decide (a<d) then ab (H3 N g.y.aH a) λh=>ab (aAU b e a h.1 f) λi=>if i then J (bt 8) else aF.lt (aO .i64 (a+1)) λj=>Et g b d e f n j else J (bw ())
def NE(f:b0)(a:List bC)(d:Int)(e:List bC):Nat->Int->Option (Sum (Unit) (Int))|0,_=>ae|n+1,b=>if decide (b<(aN8 a:Int)) then ab (Et N (Ql f) a d b e N 0) λh=>match h with|bw j=>aF.lt (aO .i64 (b+1)) λg=>NE f a d e n g|bt i=>J (bt i) else J (bw ())
def aJp(e:Int)(d:List bC)(f:Int):Nat->b0->Int->(List cn)->Option (Sum (b0×List cn) (b0×Int×List cn))|0,_,_,_=>ae|n+1,h,b,g=>if decide (b<(aN8 d:Int)) then ab (HH N (gq h) (aO .i64 (f+b)) e g) λa=>if !a.1 then J (bt ((gq a.2.2),14,a.2.1)) else aF.lt (aO .i64 (b+1)) λi=>aJp e d f n (gq a.2.2) i a.2.1 else J (bw ((gq h),g))
def RC(a:b0)(b:List bC)(d:List cn):Option (Int×List cn×b0):=ab (x9 a.c a.e.cq) λj=>aF.lt (!j) λk=>if k then J (2,d,(b0.mk a.c (bq.mk b a.y.aH a.y.b2 a.y.aOb a.y.bo a.y.cE) a.e (cI.mk a.r.err [] a.r.aOc a.r.dW a.r.aOd a.r.cZ a.r.aOe))) else ab (Es N (Ql a) a.e.cq a.y.bo) λl=>if l then J (25,d,(b0.mk a.c (bq.mk b a.y.aH a.y.b2 a.y.aOb a.y.bo a.y.cE) a.e (cI.mk a.r.err [] a.r.aOc a.r.dW a.r.aOd a.r.cZ a.r.aOe))) else ab (Se N (bq.mk b a.y.aH a.y.b2 a.y.aOb a.y.bo a.y.cE) a.e.cq) λm=>if m then J (17,d,(b0.mk a.c (bq.mk b a.y.aH a.y.b2 a.y.aOb a.y.bo a.y.cE) a.e (cI.mk a.r.err [] a.r.aOc a.r.dW a.r.aOd a.r.cZ a.r.aOe))) else ab (gy N a.e.data) λf=>if f.2 !=0 then J (f.2,d,(b0.mk a.c (bq.mk b a.y.aH a.y.b2 a.y.aOb a.y.bo a.y.cE) a.e (cI.mk a.r.err [] a.r.aOc a.r.dW a.r.aOd a.r.cZ a.r.aOe))) else aF.lt (aN8 b:Int) λg=>ab (NE N (Ql a) f.1 g b N 0) λn=>match n with|bw t=>(if decide (192<(aO .i64 (g+(aN8 f.1:Int)))) then J (3,d,(b0.mk a.c (bq.mk b a.y.aH a.y.b2 a.y.aOb a.y.bo a.y.cE) a.e (cI.mk a.r.err [] a.r.aOc a.r.dW a.r.aOd a.r.cZ a.r.aOe))) else ab (cD b f.1) λp=>ab (aJp N a.e.cq f.1 g N (b0.mk a.c (bq.mk p a.y.aH a.y.b2 a.y.aOb a.y.bo a.y.cE) a.e (cI.mk a.r.err [] a.r.aOc a.r.dW a.r.aOd a.r.cZ a.r.aOe)) 0 d) λq=>match q with|bw i=>J (0,i.2,(gq i.1))|bt h=>J (h.2.1,h.2.2,(gq h.1)))|bt s=>J (s,d,(b0.mk a.c (bq.mk b a.y.aH a.y.b2 a.y.aOb a.y.bo a.y.cE) a.e (cI.mk a.r.err [] a.r.aOc a.r.dW a.r.aOd a.r.cZ a.r.aOe)))
def GG(U:List UInt8)(b:b7):Nat->Int->Option (Sum (Unit) (Int))|0,_=>ae|n+1,a=>if decide (a<(aN8 b.c7:Int)) then ab (al b.c7 a) λd=>if d==U then J (bt a) else aF.lt (aO .i64 (a+1)) λe=>GG U b n e else J (bw ())
def SZ(d:b7)(U:List UInt8):Option Int:=ab (GG U d N 0) λa=>match a with|bw e=>J (-1)|bt b=>J b
def Dg(d:c8)(a:b7):Option Bool:=ab (Ah N a.aOg) λb=>if !b then J aa else if decide (a.cq<0) then J aa else if decide ((aN8 d.aH:Int)<=a.cq) then J aa else if decide ((aN8 a.c7:Int)<1) then J aa else J (decide (16<(aN8 a.c7:Int)))
def aKB(b:b7)(a:Int):Option Bool:=ab (al b.c7 a) λd=>ab (Ah N d) λe=>if !e then J aa else ab (al b.c7 a) λf=>ab (SZ N b f) λg=>J (g !=a)
def Nn(b:b7):Nat->Int->Option (Sum (Unit) (Bool))|0,_=>ae|n+1,a=>if decide (a<(aN8 b.c7:Int)) then ab (aKB N b a) λe=>if e then J (bt ak) else aF.lt (aO .i64 (a+1)) λd=>Nn b n d else J (bw ())
def Rn(e:c8)(U:b7):Option Bool:=ab (Dg N e U) λa=>if a then J ak else ab (Nn N U N 0) λb=>match b with|bw f=>J aa|bt d=>J d
def aKU(b:b7)(a:b7):Option Bool:=if a.aOg==b.aOg then J aa else J (a.cq==b.cq)
def aJy(a:b7)(d:b7):Nat->Int->Option (Sum (Unit) (Int))|0,_=>ae|n+1,b=>if decide (b<(aN8 a.c7:Int)) then ab (al a.c7 b) λe=>ab (SZ N d e) λf=>if decide (0<=f) then J (bt 8) else aF.lt (aO .i64 (b+1)) λg=>aJy a d n g else J (bw ())
def DQ(d:b7)(b:List b7):Nat->Int->Option (Sum (Unit) (Int))|0,_=>ae|n+1,a=>if decide (a<(aN8 b:Int)) then ab (al b a) λj=>ab (al b a) λe=>ab (aKU d e) λf=>if f then J (bt 8) else ab (aJy N d e N 0) λh=>match h with|bw k=>aF.lt (aO .i64 (a+1)) λg=>DQ d b n g|bt i=>J (bt i) else J (bw ())
def R4(a:b0)(b:List b7):Option (Int×List b7×b0):=if a.y.aOb then J (25,b,(xZ a)) else ab (Rn N a.c a.e.aOo) λd=>if !d then J (1,b,(xZ a)) else ab (DQ N a.e.aOo b N 0) λj=>match j with|bw k=>if(aN8 b:Int)==8 then J (18,b,(xZ a)) else ab (al a.y.aH a.e.aOo.cq) λf=>if decide (0<(aN8 f:Int)) then J (17,b,(xZ a)) else ab (cD ([]:List (List UInt8)) a.e.aOo.c7) λi=>ab (cD b ([(b7.mk a.e.aOo.aOg a.e.aOo.cq i)]:List b7)) λh=>J (0,h,(xZ a))|bt g=>J (g,b,(xZ a))
def aLx(a:b0):Option Bool:=ab (x9 a.c a.e.cq) λb=>if b then if decide (0<=a.e.dO) then aF.lt (decide (a.e.dO<=12)) λd=>J d else J ak else J ak
def aLy(a:b0)(d:Bool)(f:Int):Option Bool:=if d then ab (al a.e.aH f) λb=>ab (x9 a.c b) λg=>J g else J ak
def aJ5(b:b0):Nat->Bool->Int->Option Bool|0,_,_=>ae|n+1,d,a=>if decide (a<(aN8 b.e.aH:Int)) then ab (aLy b d a) λf=>aF.lt (aO .i64 (a+1)) λg=>aJ5 b n f g else J d
def HG(a:b0):Option Bool:=ab (aLx a) λb=>ab (aJ5 a N b 0) λd=>J d
def aLz(a:b0)(g:Bool)(b:Int):Option Bool:=if g then ab (al a.e.aH b) λd=>if d !=a.e.cq then ab (gi a.e.aH 0 b) λf=>ab (al a.e.aH b) λj=>ab (Am N f j) λk=>if !k then ab (al a.e.aH b) λl=>ab (Se N a.y l) λh=>aF.lt (!h) λi=>J i else J ak else J ak else J ak
def aJ6(b:b0):Nat->Bool->Int->Option Bool|0,_,_=>ae|n+1,d,a=>if decide (a<(aN8 b.e.aH:Int)) then ab (aLz N b d a) λf=>aF.lt (aO .i64 (a+1)) λg=>aJ6 b n f g else J d
def SI(a:b0):Option Bool:=ab (Se N a.y a.e.cq) λb=>aF.lt (!b) λd=>ab (aJ6 N a N d 0) λf=>J f
def O0(b:List b7)(U:List UInt8):Nat->Int->Option (Sum (Unit) (Int×Int))|0,_=>ae|n+1,a=>if decide (a<(aN8 b:Int)) then ab (al b a) λe=>ab (SZ N e U) λd=>if decide (0<=d) then J (bt (a,d)) else aF.lt (aO .i64 (a+1)) λf=>O0 b U n f else J (bw ())
def S3(d:List b7)(U:List UInt8):Option (Int×Int):=ab (O0 N d U N 0) λb=>match b with|bw e=>J ((-1),(-1))|bt a=>J (a.1,a.2)
def H5(b:List b7)(U:bC):Option c4:=ab (S3 N b U.aOl) λa=>J (c4.mk a.1 a.2 0 U.aOh)
def Pq(U:b8):Option Bool:=if decide (U.dO<0) then J aa else J (decide (12<U.dO))
def aLi(a:c4):Option Bool:=if decide (a.dS<0) then J aa else if decide (16<=a.dS) then J aa else if decide (a.pZ<0) then J aa else if decide (32<=a.pZ) then J aa else if decide (a.round<0) then J aa else if decide (13<=a.round) then J aa else if decide (a.aOh<1) then J aa else J (decide (400<a.aOh))
def aLj(U:b8)(a:Int)(d:c4):Option Bool:=if decide (0<a) then ab (al U.aN' (aO .i64 (a-1))) λb=>J (decide (d.round<b.round)) else J ak
def aJD(U:b8):Nat->Int->Option (Sum (Unit) (Int))|0,_=>ae|n+1,a=>if decide (a<(aN8 U.aN':Int)) then ab (al U.aN' a) λb=>ab (aLi b) λd=>if d then J (bt 2) else ab (aLj U a b) λe=>if e then J (bt 12) else aF.lt (aO .i64 (a+1)) λf=>aJD U n f else J (bw ())
def SP(a:b8):Option Int:=if decide (96<(aN8 a.aN':Int)) then J 3 else ab (Pq a) λb=>if b then J 2 else ab (aJD a N 0) λe=>match e with|bw f=>J 0|bt d=>J d
def aEq(a:c4)(b:c4):Option Bool:=if a.dS !=b.dS then J aa else aF.lt (decide (b.pZ<=a.pZ)) λd=>J d
def H4(b:b8)(U:Int)(a:Int):Option Int:=ab (al b.aN' U) λd=>ab (al b.aN' a) λe=>ab (aEq d e) λf=>if f then J 0 else aF.lt (decide (a<U)) λg=>if g then J 2 else J 1
def Sy(e:b8)(U:Int)(d:Int):Option Int:=ab (H4 e U d) λa=>aF.lt (aO .i64 (l1 a 2)) λb=>J b
def aKY(N:Nat)(U:List Int)(b:Int)(d:b8)(e:Int)(a:Int):Option Int:=ab (H4 d a b) λf=>if decide (0<f) then ab (al U a) λg=>ab (Sy d a b) λh=>aF.lt (max e (aO .i64 (g+h))) λi=>J i else J e
def aJR(U:List Int)(d:Int)(a:b8):Nat->Int->Int->Option Int|0,_,_=>ae|n+1,e,b=>if decide (b<(aN8 a.aN':Int)) then ab (aKY N U d a e b) λf=>aF.lt (aO .i64 (b+1)) λg=>aJR U d a n f g else J e
def tT(d:b8)(U:List Int)(a:Int):Option Int:=ab (aJR N U a d N 0 0) λb=>J b
def XO(a:Int)(U:Int):Option Bool:=if decide (0<=a) then if decide (a<13) then if decide (0<=U) then aF.lt (decide (U<=12)) λb=>J b else J ak else J ak else J ak
def Ta(b:Int)(U:Int):Option Bool:=ab (XO b U) λa=>J a
def FV(a:Int)(U:Int)(g:Int):Option Bool:=ab (Ta U g) λb=>if !b then J aa else if decide (a<0) then J aa else if decide (4096<=a) then J aa else ab (j2 .i64 U) λd=>ab (px a (aO .i64 (1*((2 ^ d:Nat):Int)))) λe=>ab (j2 .i64 U) λf=>J (e !=(aO .i64 ((aO .i64 (1*((2 ^ f:Nat):Int)))-1)))
def aJ0:Nat->Int->Int->Option Int|0,_,_=>ae|n+1,b,a=>if decide (0<a) then aF.lt (aO .i64 (b+(jB a 2))) λd=>aF.lt (aO .i64 (l1 a 2)) λe=>aJ0 n d e else J b
def Tk(b:Int)(U:Int)(a:Int):Option Bool:=ab (FV b U a) λe=>if e then J ak else ab (j2 .i64 U) λf=>aF.lt (sE b ((2 ^ f:Nat):Int)) λg=>ab (aJ0 N 0 g) λd=>aF.lt (decide (d<=a)) λh=>J h
def F8(d:Int)(U:Int)(b:Int):Option Bool:=ab (Ta U b) λa=>if !a then J aa else J (decide (d<0))
def aFZ(U:Int)(b:Int):Nat->Int->Option (Sum (Unit) (Int×Int))|0,_=>ae|n+1,a=>if decide (a<4096) then ab (Tk N a U b) λd=>if d then J (bt (a,0)) else aF.lt (aO .i64 (a+1)) λe=>aFZ U b n e else J (bw ())
def qA(d:Int)(U:Int)(a:Int):Option (Int×Int):=ab (F8 d U a) λe=>if e then J (0,2) else ab (aFZ N U a N d) λf=>match f with|bw g=>J (0,15)|bt b=>J (b.1,b.2)
def O9:Nat->Int->Int->Option Int|0,_,_=>ae|n+1,b,a=>if decide (0<b) then aF.lt (aO .i64 (a+1)) λd=>aF.lt (aO .i64 (l1 b 2)) λe=>O9 n e d else J a
def tU(b:Int):Option Int:=ab (O9 N b 0) λa=>J a
def Ps(U:b8)(e:dF)(b:List Int)(f:Int)(i:Int)(a:Int):Option (Sum (dF×List Int×Int) (dF×Int)):=ab (al U.aN' a) λg=>if g.pZ !=i then J (bw (e,b,f)) else ab (tT N U b a) λh=>ab (al U.aN' a) λl=>ab (qA N h l.round U.dO) λd=>if d.2 !=0 then J (bt ((dF.mk 0 []),d.2)) else ab (al b a) λn=>ab (al b a) λm=>aF.lt (b.set ((a:Int).toNat) d.1) λk=>aF.lt (max f d.1) λj=>J (bw (e,k,j))
def Pr(U:b8)(f:Int):Nat->dF->(List Int)->Int->Int->Option (Sum (dF×List Int×Int) (dF×Int))|0,_,_,_,_=>ae|n+1,e,a,g,b=>if decide (b<(aN8 a:Int)) then ab (Ps N U e a g f b) λj=>match j with|bw d=>aF.lt (aO .i64 (b+1)) λi=>Pr U f n d.1 d.2.1 d.2.2 i|bt h=>J (bt (h.1,h.2)) else J (bw (e,a,g))
def EO(U:b8):Nat->dF->(List Int)->Int->Int->Option (Sum (dF×List Int×Int) (dF×Int))|0,_,_,_,_=>ae|n+1,d,e,f,a=>if decide (a<32) then ab (Pr N U a N d e f 0) λi=>match i with|bw b=>aF.lt (aO .i64 (a+1)) λh=>EO U n b.1 b.2.1 b.2.2 h|bt g=>J (bt (g.1,g.2)) else J (bw (d,e,f))
def Af(a:b8):Option (dF×Int):=ab (SP N a) λb=>if b !=0 then J ((dF.mk 0 []),b) else ab (hy 0 (aN8 a.aN':Int)) λf=>ab (EO N a N (dF.mk 0 []) f 0 0) λg=>match g with|bw e=>ab (tU N e.2.2) λh=>J ((dF.mk h e.2.1),0)|bt d=>J (d.1,d.2)
def XN(U:List Int)(a:Int)(b:Int):Option Int:=ab (al U b) λd=>ab (al U a) λe=>if decide (e<d) then J b else J a
def afc(U:List Int):Nat->Int->Int->Option Int|0,_,_=>ae|n+1,b,a=>if decide (a<(aN8 U:Int)) then ab (XN U b a) λd=>aF.lt (aO .i64 (a+1)) λe=>afc U n d e else J b
def aKX(N:Nat)(U:List Int)(b:b8)(d:Int)(e:Int)(a:Int):Option Bool:=ab (H4 b a d) λh=>if h==0 then J aa else ab (al U a) λf=>ab (Sy b a d) λg=>J ((aO .i64 (f+g)) !=e)
def aJQ(U:List Int)(b:b8)(d:Int)(e:Int):Nat->Int->Option Int|0,_=>ae|n+1,a=>ab (aKX N U b d e a) λf=>if f then aF.lt (aO .i64 (a+1)) λg=>aJQ U b d e n g else J a
def aJP(U:List Int)(a:b8):Nat->Int->(List Int)->Int->Option (List Int)|0,_,_,_=>ae|n+1,f,d,e=>if decide (0<e) then ab (aJQ N U a f e N 0) λb=>ab (cD ([b]:List Int) d) λg=>ab (tT N a U b) λh=>aJP U a n b g h else J d
def afI(b:b8)(U:List Int):Option (List Int):=if(aN8 U:Int)==0 then J [] else ab (afc U N 0 0) λa=>ab (tT N b U a) λd=>ab (aJP N U b N a ([a]:List Int) d) λe=>J e
def HJ(b:b8):Option (List Int×Int):=ab (Af N b) λa=>if a.2 !=0 then J ([],a.2) else ab (afI N b a.1.fW) λd=>J (d,0)
def Tb(b:b8):Option (e8×Int):=ab (Af N b) λa=>if a.2 !=0 then J ((e8.mk (dF.mk 0 []) []),a.2) else ab (HJ N b) λd=>J ((e8.mk a.1 d.1),0)
def Gh(U:List Int)(b:bq):Nat->Int->Int->Option Int|0,_,_=>ae|n+1,d,a=>if decide (a<(aN8 U:Int)) then ab (al U a) λe=>ab (al b.bD e) λf=>aF.lt (aO .i64 (d+f.aOh)) λg=>aF.lt (aO .i64 (a+1)) λh=>Gh U b n g h else J d
def Tg(b:bq)(U:List Int):Option Int:=ab (Gh U b N 0 0) λa=>J a
def aK4(i:b8)(f:dF)(j:Int)(a:Int)(b:Int):Option Int:=ab (al f.fW b) λd=>ab (j2 .i64 (aO .u64 j)) λe=>if(ih .and .i64 (sE d ((2 ^ e:Nat):Int)) 1)==1 then ab (al i.aN' b) λg=>aF.lt (aO .i64 (a+g.aOh)) λh=>J h else J a
def aJX(a:b8)(d:dF)(f:Int):Nat->Int->Int->Option Int|0,_,_=>ae|n+1,e,b=>if decide (b<(aN8 a.aN':Int)) then ab (aK4 a d f e b) λg=>aF.lt (aO .i64 (b+1)) λh=>aJX a d f n g h else J e
def aBh(e:List Int)(d:c8)(f:b8)(b:dF):Nat->Int->Option (Sum (Unit) (Bool))|0,_=>ae|n+1,a=>if decide (a<b.aOm) then ab (aJX f b a N 0 0) λj=>ab (al e a) λh=>ab (al d.aH h) λi=>if decide (i.aOh<j) then J (bt ak) else aF.lt (aO .i64 (a+1)) λg=>aBh e d f b n g else J (bw ())
def aK5(a:b8)(e:Int)(b:Int)(d:Int):Option Int:=ab (al a.aN' d) λg=>if g.dS==e then ab (al a.aN' d) λf=>aF.lt (aO .i64 (b+f.aOh)) λh=>J h else J b
def aJZ(a:b8)(d:Int):Nat->Int->Int->Option Int|0,_,_=>ae|n+1,e,b=>if decide (b<(aN8 a.aN':Int)) then ab (aK5 a d e b) λf=>aF.lt (aO .i64 (b+1)) λg=>aJZ a d n f g else J e
def aJY(d:List (List Int))(e:c8)(a:bq)(f:b8):Nat->Int->Option (Sum (Unit) (Bool))|0,_=>ae|n+1,b=>if decide (b<(aN8 a.b2:Int)) then ab (al a.b2 b) λg=>ab (al d g.cq) λh=>ab (Tg N a h) λi=>ab (aJZ f b N i 0) λl=>ab (al a.b2 b) λj=>ab (al e.aH j.cq) λk=>if decide (k.aOh<l) then J (bt ak) else aF.lt (aO .i64 (b+1)) λm=>aJY d e a f n m else J (bw ())
def Th(e:c8)(U:bq)(a:b8)(b:dF)(d:List Int)(f:List (List Int)):Option Bool:=if decide ((aN8 d:Int)<b.aOm) then J ak else ab (aBh N d e a b N 0) λg=>match g with|bw k=>(ab (aJY N f e U a N 0) λh=>match h with|bw l=>J aa|bt i=>J i)|bt j=>J j
def vC(a:b0)(U:List Int)(i:b8)(b:e8):Option (List Int×List Int×List Int×b0):=ab (gi a.e.aH 0 b.e9.aOm) λd=>ab (cD ([]:List Int) d) λf=>ab (cD ([]:List Int) b.e9.fW) λg=>ab (cD ([]:List Int) b.chain) λh=>J (f,g,h,(b0.mk a.c (bq.mk a.y.bD a.y.aH a.y.b2 aa (eR.mk U i b a.e.cq [] 0) ak) a.e (cI.mk a.r.err a.r.vv (e8.mk (dF.mk b.e9.aOm []) []) a.r.dW a.r.aOd a.r.cZ a.r.aOe)))
def NT(a:b0)(f:Bool)(g:Int):Option Bool:=if f then ab (al a.e.aH g) λb=>ab (al a.y.aH b) λd=>aF.lt ((aN8 d:Int)==0) λh=>J h else J ak
def FG(b:b0):Nat->Bool->Int->Option Bool|0,_,_=>ae|n+1,d,a=>if decide (a<(aN8 b.e.aH:Int)) then ab (NT b d a) λf=>aF.lt (aO .i64 (a+1)) λg=>FG b n f g else J d
def aEj(e:b0)(b:List Int):Nat->b8->Int->(List c4)->Option (Sum (b8×List c4) (Int))|0,_,_,_=>ae|n+1,f,a,g=>if decide (a<(aN8 b:Int)) then ab (al b a) λp=>ab (al b a) λk=>ab (al e.y.bD k) λh=>ab (H5 N e.y.b2 h) λi=>ab (cD g ([i]:List c4)) λd=>ab (al d a) λm=>ab (al d a) λj=>if decide (j.dS<0) then J (bt 13) else aF.lt (aO .i64 (a+1)) λl=>aEj e b n (b8.mk [] f.dO) l d else J (bw ((b8.mk [] f.dO),g))
def aKv(e:b0)(b:Int)(f:List Int)(a:Int)(d:List c4):Option Bool:=if decide (0<a) then ab (al f (aO .i64 (a-1))) λg=>ab (al e.y.bD g) λh=>ab (H5 N e.y.b2 h) λi=>ab (al d b) λk=>ab (al d b) λj=>J (decide (j.pZ<i.pZ)) else J ak
def aB9(d:b0)(e:List Int)(b:List c4):Nat->Int->Option (Sum (Unit) (Int))|0,_=>ae|n+1,a=>if decide (a<(aN8 e:Int)) then ab (al b a) λl=>ab (al b a) λg=>ab (al d.y.b2 g.dS) λh=>ab (al d.y.aH h.cq) λf=>aF.lt (aN8 f:Int) λi=>ab (aKv N d a f i b) λj=>if j then J (bt 12) else aF.lt (aO .i64 (a+1)) λk=>aB9 d e b n k else J (bw ())
def Sq(b:b0):Option (Int×b0):=if b.y.aOb then J (25,b) else ab (HG N b) λh=>if !h then J (2,b) else ab (SI N b) λi=>ab (FG b N i 0) λj=>if !j then J (17,b) else ab (al b.y.aH b.e.cq) λk=>ab (cD ([]:List Int) k) λf=>ab (aEj N b f N (b8.mk [] b.e.dO) 0 []) λl=>match l with|bw d=>(if(aN8 f:Int)==0 then J (13,b) else ab (aB9 N b f d.2 N 0) λq=>match q with|bw s=>ab (Tb N (b8.mk d.2 d.1.dO)) λg=>if g.2 !=0 then J (g.2,b) else ab (Th N b.c b.y (b8.mk d.2 d.1.dO) g.1.e9 b.e.aH b.y.aH) λm=>if !m then J (14,b) else ab (vC b f (b8.mk d.2 d.1.dO) g.1) λa=>J (0,(b0.mk a.2.2.2.c (bq.mk a.2.2.2.y.bD a.2.2.2.y.aH a.2.2.2.y.b2 a.2.2.2.y.aOb (eR.mk a.2.2.2.y.bo.bD a.2.2.2.y.bo.iP a.2.2.2.y.bo.aOc a.2.2.2.y.bo.aOs a.1 a.2.2.2.y.bo.h9) a.2.2.2.y.cE) a.2.2.2.e (cI.mk a.2.2.2.r.err a.2.2.2.r.vv (e8.mk (dF.mk a.2.2.2.r.aOc.e9.aOm a.2.1) a.2.2.1) a.2.2.2.r.dW a.2.2.2.r.aOd a.2.2.2.r.cZ a.2.2.2.r.aOe)))|bt p=>J (p,b))|bt n=>J (n,b)
def RH(a:b0)(U:Int)(f:Int)(g:List cn):Option (Bool×List cn×b0):=ab (H3 N a.y.aH U) λb=>ab (Sd N a.y.bD) λh=>ab (Ag N a.c.aH h a.y.aH (cn.mk U b.1 f ak)) λd=>if d.2 !=0 then J (ak,g,(gq a)) else ab (cD g ([(cn.mk U b.1 f ak)]:List cn)) λi=>J (aa,i,(b0.mk a.c (bq.mk a.y.bD d.1 a.y.b2 a.y.aOb a.y.bo a.y.cE) a.e (cI.mk a.r.err [] a.r.aOc a.r.dW a.r.aOd a.r.cZ a.r.aOe)))
def RE(a:b0):Option b0:=J (b0.mk a.c (bq.mk a.y.bD a.y.aH a.y.b2 ak (eR.mk [] (b8.mk [] 0) (e8.mk (dF.mk 0 []) []) 0 [] 0) ak) a.e a.r)
def aEk(e:b0)(b:List Int)(a:im):Option Bool:=if decide (a.aOe<0) then J aa else if decide ((aN8 b:Int)<=a.aOe) then J aa else ab (x9 e.c a.cq) λd=>J (!d)
def NU(a:b0)(d:List Int):Nat->Int->Option (Sum (Unit) (Int))|0,_=>ae|n+1,b=>if decide (b<(aN8 a.e.hD:Int)) then ab (al a.e.hD b) λg=>ab (aEk (gq a) d g) λf=>if f then J (bt 2) else aF.lt (aO .i64 (b+1)) λh=>NU a d n h else J (bw ())
def aBl(d:b0)(b:Int):Nat->Int->Option (Sum (Unit) (Int))|0,_=>ae|n+1,a=>if decide (a<b) then ab (al d.e.hD a) λf=>ab (al d.e.hD b) λh=>if f.aOe==h.aOe then J (bt 8) else aF.lt (aO .i64 (a+1)) λg=>aBl d b n g else J (bw ())
def aB'(b:b0):Nat->Int->Option (Sum (Unit) (Int))|0,_=>ae|n+1,a=>if decide (a<(aN8 b.e.hD:Int)) then ab (aBl (gq b) a N 0) λd=>match d with|bw h=>aF.lt (aO .i64 (a+1)) λf=>aB' b n f|bt g=>J (bt g) else J (bw ())
def aDw(b:b0)(g:Int):Nat->(List Int)->Int->Option (Sum (List Int) (Int))|0,_,_=>ae|n+1,d,a=>if decide (a<(aN8 b.e.hD:Int)) then ab (al b.e.hD a) λh=>if h.cq==g then J (bt 17) else ab (al b.e.hD a) λf=>ab (al b.e.hD a) λi=>ab (al d f.aOe) λl=>ab (al d f.aOe) λm=>aF.lt (d.set ((f.aOe:Int).toNat) i.cq) λk=>aF.lt (aO .i64 (a+1)) λj=>aDw b g n k j else J (bw d)
def aK6(a:b0)(d:List Int)(f:List Int)(b:Int):Option b0:=if a.y.cE then J (b0.mk a.c (bq.mk a.y.bD a.y.aH a.y.b2 a.y.aOb a.y.bo aa) a.e (cI.mk a.r.err [] a.r.aOc a.r.dW a.r.aOd a.r.cZ a.r.aOe)) else ab (al f b) λi=>ab (al f b) λg=>ab (al d b) λj=>ab (al d b) λh=>J (b0.mk a.c (bq.mk a.y.bD a.y.aH a.y.b2 a.y.aOb a.y.bo (g !=h)) a.e (cI.mk a.r.err [] a.r.aOc a.r.dW a.r.aOd a.r.cZ a.r.aOe))
def aJi(e:List Int)(f:List Int)(d:List Int):Nat->b0->Int->(List cn)->Option (Sum (b0×List cn) (b0×Int×List cn))|0,_,_,_=>ae|n+1,h,a,g=>if decide (a<(aN8 e:Int)) then ab (al e a) λj=>ab (al d a) λm=>ab (al d a) λi=>ab (RH N (gq h) j i g) λb=>if !b.1 then J (bt ((gq b.2.2),14,b.2.1)) else ab (aK6 (gq b.2.2) f d a) λl=>aF.lt (aO .i64 (a+1)) λk=>aJi e f d n (gq l) k b.2.1 else J (bw ((gq h),g))
def aK7(a:b0):Option Bool:=if !a.y.cE then J (decide (a.y.bo.aOc.e9.aOm<a.y.bo.h9)) else J ak
def aK8(a:b0)(d:Bool)(b:List cn):Option b0:=if d then ab (RE (b0.mk a.c a.y a.e (cI.mk a.r.err b a.r.aOc a.r.dW a.r.aOd a.r.cZ a.r.aOe))) λf=>J f else J (b0.mk a.c a.y a.e (cI.mk a.r.err b a.r.aOc a.r.dW a.r.aOd a.r.cZ a.r.aOe))
def Sr(a:b0)(f:List cn):Option (Int×b0):=aF.lt (!a.y.aOb) λk=>if k then J (16,(b0.mk a.c a.y a.e (cI.mk a.r.err f a.r.aOc a.r.dW a.r.aOd a.r.cZ a.r.aOe))) else if a.y.cE then J (25,(b0.mk a.c a.y a.e (cI.mk a.r.err f a.r.aOc a.r.dW a.r.aOd a.r.cZ a.r.aOe))) else aF.lt (decide (16<(aN8 a.e.hD:Int))) λl=>if l then J (3,(b0.mk a.c a.y a.e (cI.mk a.r.err f a.r.aOc a.r.dW a.r.aOd a.r.cZ a.r.aOe))) else ab (SC a.y) λh=>ab (al a.y.aH h) λm=>ab (cD ([]:List Int) m) λg=>ab (Sf N a.y g) λi=>ab (cD ([]:List Int) i) λn=>ab (NU (gq a) g N 0) λp=>match p with|bw C=>(ab (aB' N (gq a) N 0) λq=>match q with|bw E=>(ab (aDw (gq a) h N n 0) λt=>match t with|bw s=>(ab (aJi N g i s N (gq a) 0 f) λw=>match w with|bw b=>ab (aK7 (b0.mk b.1.c (bq.mk b.1.y.bD b.1.y.aH b.1.y.b2 b.1.y.aOb (eR.mk b.1.y.bo.bD b.1.y.bo.iP b.1.y.bo.aOc b.1.y.bo.aOs b.1.y.bo.aH (aO .i64 (b.1.y.bo.h9+1))) b.1.y.cE) b.1.e (cI.mk b.1.r.err [] b.1.r.aOc b.1.r.dW b.1.r.aOd b.1.r.cZ b.1.r.aOe))) λx=>ab (aK8 (b0.mk b.1.c (bq.mk b.1.y.bD b.1.y.aH b.1.y.b2 b.1.y.aOb (eR.mk b.1.y.bo.bD b.1.y.bo.iP b.1.y.bo.aOc b.1.y.bo.aOs b.1.y.bo.aH (aO .i64 (b.1.y.bo.h9+1))) b.1.y.cE) b.1.e (cI.mk b.1.r.err [] b.1.r.aOc b.1.r.dW b.1.r.aOd b.1.r.cZ b.1.r.aOe)) x b.2) λz=>J (0,z)|bt d=>J (d.2.1,(b0.mk d.1.c d.1.y d.1.e (cI.mk d.1.r.err d.2.2 d.1.r.aOc d.1.r.dW d.1.r.aOd d.1.r.cZ d.1.r.aOe))))|bt A=>J (A,(b0.mk a.c a.y a.e (cI.mk a.r.err f a.r.aOc a.r.dW a.r.aOd a.r.cZ a.r.aOe))))|bt j=>J (j,(b0.mk a.c a.y a.e (cI.mk a.r.err f a.r.aOc a.r.dW a.r.aOd a.r.cZ a.r.aOe))))|bt B=>J (B,(b0.mk a.c a.y a.e (cI.mk a.r.err f a.r.aOc a.r.dW a.r.aOd a.r.cZ a.r.aOe)))
def NG(a:b0):Option Bool:=ab (x9 a.c a.e.cq) λb=>if b then if decide (0<=a.e.dO) then aF.lt (decide (a.e.dO<=12)) λd=>J d else J ak else J ak
def Ez(a:b0)(d:Bool)(f:Int):Option Bool:=if d then ab (al a.e.aH f) λb=>ab (x9 a.c b) λg=>J g else J ak
def Ey(b:b0):Nat->Bool->Int->Option Bool|0,_,_=>ae|n+1,d,a=>if decide (a<(aN8 b.e.aH:Int)) then ab (Ez b d a) λf=>aF.lt (aO .i64 (a+1)) λg=>Ey b n f g else J d
def RF(a:b0):Option Bool:=ab (NG a) λb=>ab (Ey a N b 0) λd=>J d
def FD(a:b0)(g:Bool)(b:Int):Option Bool:=if g then ab (al a.e.aH b) λd=>if d !=a.e.cq then ab (gi a.e.aH 0 b) λf=>ab (al a.e.aH b) λj=>ab (Am N f j) λk=>if !k then ab (al a.e.aH b) λl=>ab (Se N a.y l) λh=>aF.lt (!h) λi=>J i else J ak else J ak else J ak
def FC(b:b0):Nat->Bool->Int->Option Bool|0,_,_=>ae|n+1,d,a=>if decide (a<(aN8 b.e.aH:Int)) then ab (FD N b d a) λf=>aF.lt (aO .i64 (a+1)) λg=>FC b n f g else J d
def Sn(a:b0):Option Bool:=ab (Se N a.y a.e.cq) λb=>aF.lt (!b) λd=>ab (FC N a N d 0) λf=>J f
def OX(b:List Int)(U:Int):Nat->Int->Option (Sum (Unit) (Int))|0,_=>ae|n+1,a=>if decide (a<(aN8 b:Int)) then ab (al b a) λd=>if d==U then J (bt a) else aF.lt (aO .i64 (a+1)) λe=>OX b U n e else J (bw ())
def S2(d:List Int)(U:Int):Option Int:=ab (OX d U N 0) λa=>match a with|bw e=>J (-1)|bt b=>J b
def aK1(d:List b7)(e:Int)(f:Bool)(g:Int):Option Bool:=if f then J aa else ab (al d g) λa=>aF.lt (e==a.cq) λb=>J b
def aJT(a:List b7)(d:Int):Nat->Bool->Int->Option Bool|0,_,_=>ae|n+1,e,b=>if decide (b<(aN8 a:Int)) then ab (aK1 a d e b) λf=>aF.lt (aO .i64 (b+1)) λg=>aJT a d n f g else J e
def aK2(a:Int)(b:Bool):Option Bool:=if decide (0<=a) then J b else J ak
def aK0(p:List bC)(U:List (List Int))(e:List b7)(h:List Int)(b:List Int)(a:Int)(f:List c4):Option (ct×List Int×List c4):=ab (H3 N U a) λd=>ab (Am N h a) λg=>ab (aJT e d.1 N g 0) λl=>ab (aK2 d.1 l) λj=>if j then ab (cD b ([a]:List Int)) λk=>ab (al p a) λi=>ab (H5 N e i) λn=>ab (cD f ([n]:List c4)) λm=>J ((ct.mk [] [] []),k,m) else J ((ct.mk [] [] []),b,f)
def aJS(b:List bC)(U:List (List Int))(e:List b7)(f:List Int):Nat->ct->(List Int)->Int->(List c4)->Option (ct×List Int×List c4)|0,_,_,_,_=>ae|n+1,j,d,a,h=>if decide (a<(aN8 b:Int)) then ab (aK0 N b U e f d a h) λg=>aF.lt (aO .i64 (a+1)) λi=>aJS b U e f n (ct.mk [] [] []) g.2.1 i g.2.2 else J ((ct.mk [] [] []),d,h)
def aJU(a:List b7):Nat->ct->Int->(List Int)->Option (ct×List Int)|0,_,_,_=>ae|n+1,h,b,d=>if decide (b<(aN8 a:Int)) then ab (al a b) λf=>ab (cD d ([f.cq]:List Int)) λe=>aF.lt (aO .i64 (b+1)) λg=>aJU a n (ct.mk [] [] []) g e else J ((ct.mk [] [] []),d)
def aK3(U:List (List Int))(d:List Int)(e:Int)(a:List Int)(i:Int):Option (List Int):=ab (al U e) λg=>ab (al g i) λf=>ab (S2 N d f) λb=>if decide (0<=b) then ab (cD a ([b]:List Int)) λh=>J h else J a
def aJW(U:List (List Int))(d:List Int)(a:Int):Nat->(List Int)->Int->Option (List Int)|0,_,_=>ae|n+1,e,b=>ab (al U a) λf=>if decide (b<(aN8 f:Int)) then ab (aK3 N U d a e b) λg=>aF.lt (aO .i64 (b+1)) λh=>aJW U d a n g h else J e
def aJV(U:List (List Int))(b:List Int):Nat->ct->Int->(List (List Int))->Option (ct×List (List Int))|0,_,_,_=>ae|n+1,h,a,d=>if decide (a<(aN8 U:Int)) then ab (aJW N U b a N ([]:List Int) 0) λf=>ab (cD d ([f]:List (List Int))) λg=>aF.lt (aO .i64 (a+1)) λe=>aJV U b n (ct.mk [] [] []) e g else J ((ct.mk [] [] []),d)
def H6(g:List bC)(U:List (List Int))(b:List b7)(d:List Int):Option (ct×List Int):=ab (aJS N g U b d N (ct.mk [] [] []) [] 0 []) λa=>ab (aJU b N (ct.mk [] [] []) 0 []) λe=>ab (aJV N U a.2.1 N (ct.mk [] [] []) 0 []) λf=>J ((ct.mk a.2.2 e.2 f.2),a.2.1)
def aDQ(U:ct):Option Bool:=if decide (96<(aN8 U.aN':Int)) then J aa else if decide (16<(aN8 U.aOq:Int)) then J aa else J (decide (24<(aN8 U.aH:Int)))
def aLn(U:ct)(a:c4):Option Bool:=if decide (a.dS<0) then J aa else if decide ((aN8 U.aOq:Int)<=a.dS) then J aa else if decide (a.pZ<0) then J aa else if decide (32<=a.pZ) then J aa else if a.round !=0 then J aa else if decide (a.aOh<1) then J aa else J (decide (400<a.aOh))
def aDR(U:ct):Nat->Int->Option (Sum (Unit) (Bool))|0,_=>ae|n+1,a=>if decide (a<(aN8 U.aN':Int)) then ab (al U.aN' a) λb=>ab (aLn U b) λd=>if d then J (bt ak) else aF.lt (aO .i64 (a+1)) λe=>aDR U n e else J (bw ())
def aLo(U:ct)(a:Int):Option Bool:=ab (al U.aOq a) λd=>if decide (d<0) then J aa else ab (al U.aOq a) λb=>J (decide ((aN8 U.aH:Int)<=b))
def aJI(U:ct)(a:Int):Nat->Int->Option (Sum (Unit) (Bool))|0,_=>ae|n+1,b=>if decide (b<a) then ab (al U.aOq b) λd=>ab (al U.aOq a) λf=>if d==f then J (bt ak) else aF.lt (aO .i64 (b+1)) λe=>aJI U a n e else J (bw ())
def aJH(U:ct):Nat->Int->Option (Sum (Unit) (Bool))|0,_=>ae|n+1,a=>if decide (a<(aN8 U.aOq:Int)) then ab (aLo U a) λb=>if b then J (bt ak) else ab (aJI U a N 0) λd=>match d with|bw g=>aF.lt (aO .i64 (a+1)) λf=>aJH U n f|bt e=>J (bt e) else J (bw ())
def aLp(b:List Int)(a:Int):Option Bool:=if decide (a<0) then J aa else J (decide ((aN8 b:Int)<=a))
def aJK(U:ct)(e:Int):Nat->(List Int)->Int->Option (Sum (List Int) (Bool))|0,_,_=>ae|n+1,a,d=>ab (al U.aH e) λg=>if decide (d<(aN8 g:Int)) then ab (al U.aH e) λh=>ab (al h d) λb=>ab (aLp a b) λf=>if f then J (bt ak) else ab (al a b) λm=>ab (al a b) λi=>ab (al a b) λl=>ab (al a b) λp=>aF.lt (a.set ((b:Int).toNat) (aO .i64 (i+1))) λk=>aF.lt (aO .i64 (d+1)) λj=>aJK U e n k j else J (bw a)
def aJJ(U:ct):Nat->(List Int)->Int->Option (Sum (List Int) (Bool))|0,_,_=>ae|n+1,b,a=>if decide (a<(aN8 U.aH:Int)) then ab (aJK U a N b 0) λe=>match e with|bw d=>aF.lt (aO .i64 (a+1)) λf=>aJJ U n d f|bt g=>J (bt g) else J (bw b)
def aJL(b:List Int):Nat->Int->Option (Sum (Unit) (Bool))|0,_=>ae|n+1,a=>if decide (a<(aN8 b:Int)) then ab (al b a) λf=>ab (al b a) λd=>if d !=1 then J (bt ak) else aF.lt (aO .i64 (a+1)) λe=>aJL b n e else J (bw ())
def SQ(a:ct):Option Bool:=ab (aDQ a) λb=>if b then J ak else ab (aDR a N 0) λd=>match d with|bw n=>(ab (aJH N a N 0) λe=>match e with|bw p=>(ab (hy 0 (aN8 a.aN':Int)) λf=>ab (aJJ N a N f 0) λj=>match j with|bw h=>(ab (aJL h N 0) λi=>match i with|bw q=>J aa|bt l=>J l)|bt k=>J k)|bt g=>J g)|bt m=>J m
def Pu(U:ct)(d:Int):Nat->(List fa)->Int->Option (List fa)|0,_,_=>ae|n+1,b,a=>ab (al U.aH d) λf=>if decide (a<(aN8 f:Int)) then ab (al U.aH d) λg=>ab (al g a) λe=>ab (al b e) λj=>ab (al b e) λk=>aF.lt (b.set ((e:Int).toNat) (fa.mk d a)) λi=>aF.lt (aO .i64 (a+1)) λh=>Pu U d n i h else J b
def Pt(U:ct):Nat->(List fa)->Int->Option (List fa)|0,_,_=>ae|n+1,b,a=>if decide (a<(aN8 U.aH:Int)) then ab (Pu U a N b 0) λe=>aF.lt (aO .i64 (a+1)) λd=>Pt U n e d else J b
def SU(a:ct):Option (List fa):=ab (hy (fa.mk 0 0) (aN8 a.aN':Int)) λb=>ab (Pt N a N b 0) λd=>J d
def ya(b:ct)(U:List fa)(a:Int):Option Bool:=ab (al U a) λd=>ab (al b.aN' a) λe=>ab (al b.aOq e.dS) λf=>aF.lt (d.cq==f) λg=>J g
def E4(a:List fa)(U:Int)(b:Int):Option Bool:=ab (al a U) λd=>ab (al a b) λe=>if d.cq==e.cq then ab (al a U) λf=>ab (al a b) λg=>aF.lt (decide (g.aOe<f.aOe)) λh=>J h else J ak
def SA(d:List fa)(U:Int)(a:Int):Option Bool:=ab (E4 d U a) λb=>J b
def E3(U:Int)(b:Int)(a:ct):Option Bool:=ab (al a.aN' U) λd=>ab (al a.aN' b) λe=>if d.dS==e.dS then ab (al a.aN' U) λf=>ab (al a.aN' b) λg=>aF.lt (decide (f.pZ<g.pZ)) λh=>J h else J ak
def HR(d:ct)(U:Int)(a:Int):Option Bool:=ab (E3 U a d) λb=>J b
def E2(U:List fa)(a:Int)(b:Int)(d:ct):Option Bool:=ab (ya d U a) λe=>if e then ab (SA U b a) λf=>if f then ab (HR d b a) λg=>J g else J ak else J ak
def Ad(e:ct)(U:List fa)(b:Int)(d:Int):Option Bool:=ab (E2 U b d e) λa=>J a
def EP(U:List fa)(b:Int)(d:ct):Nat->b6->Int->Option (Sum (b6) (b6×Bool))|0,_,_=>ae|n+1,e,a=>if decide (a<(aN8 d.aN':Int)) then ab (Ad d U b a) λf=>if f then J (bt ((b6.mk b 3 a 0),aa)) else aF.lt (aO .i64 (a+1)) λg=>EP U b d n e g else J (bw e)
def HX(d:ct)(U:List fa)(a:Int):Option (b6×Bool):=ab (ya d U a) λe=>if !e then J ((b6.mk a 1 (-1) 0),aa) else ab (EP U a d N (b6.mk 0 0 0 0) 0) λf=>match f with|bw g=>J ((b6.mk 0 0 0 0),ak)|bt b=>J (b.1,b.2)
def aBC(U:List fa)(b:List Int)(g:Int)(h:Int)(a:Int):Option Bool:=ab (al b a) λd=>if decide (0<=d) then ab (al b a) λe=>if decide (e<h) then ab (SA U g a) λf=>J f else J ak else J ak
def EQ(U:List fa)(f:List Int)(b:Int)(d:Int)(g:ct):Nat->b6->Int->Option (Sum (b6) (b6×Bool))|0,_,_=>ae|n+1,e,a=>if decide (a<(aN8 g.aN':Int)) then ab (aBC U f b d a) λh=>if h then J (bt ((b6.mk b 2 a d),aa)) else aF.lt (aO .i64 (a+1)) λi=>EQ U f b d g n e i else J (bw e)
def aLs(b:List Int)(e:Int)(f:Int)(d:ct)(a:Int):Option Bool:=ab (al b a) λh=>if decide (0<=h) then ab (al b a) λi=>if decide (i<f) then ab (HR d a e) λg=>J g else J ak else J ak
def aDU(g:List Int)(d:Int)(e:Int)(b:ct):Nat->b6->Int->Option (Sum (b6) (b6×Bool))|0,_,_=>ae|n+1,f,a=>if decide (a<(aN8 b.aN':Int)) then ab (aLs g d e b a) λi=>if i then J (bt ((b6.mk d 3 a e),aa)) else aF.lt (aO .i64 (a+1)) λh=>aDU g d e b n f h else J (bw f)
def SS(g:ct)(U:List fa)(a:List Int)(b:Int)(d:Int):Option (b6×Bool):=ab (EQ U a b d g N (b6.mk 0 0 0 0) 0) λh=>match h with|bw i=>(ab (aDU a b d g N i 0) λj=>match j with|bw k=>J ((b6.mk 0 0 0 0),ak)|bt f=>J (f.1,f.2))|bt e=>J (e.1,e.2)
def aLk(U:ct)(g:List fa)(b:List b6)(e:List Int)(a:Int):Option (List b6×List Int):=ab (al e a) λl=>ab (al e a) λm=>aF.lt (e.set ((a:Int).toNat) (-1)) λd=>ab (HX N U g a) λf=>if f.2 then ab (al b a) λk=>ab (al b a) λj=>aF.lt (b.set ((a:Int).toNat) f.1) λi=>ab (al d a) λp=>ab (al d a) λn=>aF.lt (d.set ((a:Int).toNat) 0) λh=>J (i,h) else J (b,d)
def XM(U:ct)(e:List fa):Nat->(List b6)->(List Int)->Int->Option (List b6×List Int)|0,_,_,_=>ae|n+1,d,b,a=>if decide (a<(aN8 b:Int)) then ab (aLk N U e d b a) λf=>aF.lt (aO .i64 (a+1)) λg=>XM U e n f.1 f.2 g else J (d,b)
def aLl(U:ct)(h:List fa)(d:List b6)(b:List Int)(f:Int)(e:Bool)(a:Int):Option (List b6×List Int×Bool):=ab (al b a) λl=>ab (al b a) λi=>if decide (0<=i) then J (d,b,e) else ab (SS N U h b a f) λg=>if g.2 then ab (al d a) λn=>ab (al d a) λm=>aF.lt (d.set ((a:Int).toNat) g.1) λj=>ab (al b a) λq=>ab (al b a) λp=>aF.lt (b.set ((a:Int).toNat) f) λk=>J (j,k,aa) else J (d,b,e)
def aJF(U:ct)(h:List fa)(f:Int):Nat->(List b6)->(List Int)->Bool->Int->Option (List b6×List Int×Bool)|0,_,_,_,_=>ae|n+1,g,b,e,a=>if decide (a<(aN8 b:Int)) then ab (aLl N U h g b f e a) λd=>aF.lt (aO .i64 (a+1)) λi=>aJF U h f n d.1 d.2.1 d.2.2 i else J (g,b,e)
def aJE(U:ct)(f:List fa):Nat->(List b6)->(List Int)->Int->Bool->Option (List b6×List Int)|0,_,_,_,_=>ae|n+1,d,e,b,g=>if g then ab (aJF N U f b N d e ak 0) λa=>aF.lt (aO .i64 (b+1)) λh=>aJE U f n a.1 a.2.1 h a.2.2 else J (d,e)
def aLm(b:List b6)(d:List Int)(e:List b6)(a:Int):Option (List b6):=ab (al d a) λj=>ab (al d a) λh=>if decide (0<=h) then ab (al b a) λi=>ab (al b a) λf=>ab (cD e ([f]:List b6)) λg=>J g else J e
def aJG(d:List b6)(a:List Int):Nat->(List b6)->Int->Option (List b6)|0,_,_=>ae|n+1,e,b=>if decide (b<(aN8 a:Int)) then ab (aLm d a e b) λf=>aF.lt (aO .i64 (b+1)) λg=>aJG d a n f g else J e
def afH(a:ct):Option (List b6×Int):=ab (SQ N a) λf=>if !f then J ([],1) else ab (SU N a) λb=>ab (hy (b6.mk 0 0 0 0) (aN8 a.aN':Int)) λg=>ab (hy 0 (aN8 a.aN':Int)) λh=>ab (XM N a b N g h 0) λd=>ab (aJE N a b N d.1 d.2 1 aa) λe=>ab (aJG e.1 e.2 N [] 0) λi=>J (i,0)
def Ro(a:b0):Option b0:=J (b0.mk a.c (bq.mk a.y.bD a.y.aH a.y.b2 ak (eR.mk [] (b8.mk [] 0) (e8.mk (dF.mk 0 []) []) 0 [] 0) ak) a.e a.r)
def CT(U:List fa)(e:ct)(a:b6):Option Bool:=if a.ib==(-1) then ab (ya e U a.aOk) λb=>aF.lt (!b) λd=>J d else J ak
def aAR(b:ct)(a:Int):Option Bool:=if decide (a<0) then J aa else J (decide ((aN8 b.aN':Int)<=a))
def aKC(b:List Int)(d:b6)(a:Int):Option Bool:=ab (al b a) λe=>if decide (0<=e) then ab (al b a) λf=>aF.lt (decide (f<d.round)) λg=>J g else J ak
def aKD(U:List fa)(d:b6)(b:Int)(a:Bool):Option Bool:=if a then ab (SA U d.aOk b) λe=>J e else J ak
def aKE(U:List fa)(d:ct)(a:b6)(b:Int)(e:Bool):Option Bool:=if e then ab (HR d b a.aOk) λf=>if f then J aa else if a.round==0 then ab (Ad d U a.aOk b) λg=>J g else J ak else if a.round==0 then ab (Ad d U a.aOk b) λh=>J h else J ak
def Hy(b:ct)(U:List fa)(g:List Int)(a:b6):Option Bool:=if a.reason==1 then ab (CT U b a) λe=>J e else ab (aAR b a.ib) λf=>if f then J ak else ab (aKC g a a.ib) λd=>aF.lt (a.reason==2) λh=>if h then ab (aKD U a a.ib d) λk=>J k else aF.lt (a.reason==3) λj=>if j then ab (aKE U b a a.ib d) λi=>J i else J ak
def aAs:Nat->(List Int)->Int->Option (List Int)|0,_,_=>ae|n+1,b,a=>if decide (a<(aN8 b:Int)) then ab (al b a) λf=>ab (al b a) λg=>aF.lt (b.set ((a:Int).toNat) (-1)) λd=>aF.lt (aO .i64 (a+1)) λe=>aAs n d e else J b
def aAt(U:List b6)(b:List Int)(d:Int)(a:Int):Option Bool:=if decide (a<0) then J aa else if decide ((aN8 b:Int)<=a) then J aa else ab (al b a) λg=>ab (al b a) λe=>if decide (0<=e) then J aa else ab (al U d) λf=>J (decide (f.round<0))
def aAk(U:List b6):Nat->(List Int)->Int->Option (Sum (List Int) (Bool))|0,_,_=>ae|n+1,a,b=>if decide (b<(aN8 U:Int)) then ab (al U b) λd=>ab (aAt U a b d.aOk) λh=>if h then J (bt ak) else ab (al U b) λe=>ab (al a d.aOk) λi=>ab (al a d.aOk) λj=>aF.lt (a.set ((d.aOk:Int).toNat) e.round) λg=>aF.lt (aO .i64 (b+1)) λf=>aAk U n g f else J (bw a)
def aAu(U:List b6)(b:ct)(d:List fa)(e:List Int):Nat->Int->Option (Sum (Unit) (Bool))|0,_=>ae|n+1,a=>if decide (a<(aN8 U:Int)) then ab (al U a) λg=>ab (Hy b d e g) λh=>if !h then J (bt ak) else aF.lt (aO .i64 (a+1)) λf=>aAu U b d e n f else J (bw ())
def aLr(e:ct)(f:List fa)(d:List Int)(b:Int)(a:Int):Option Bool:=ab (al d a) λj=>ab (al d a) λg=>if decide (0<=g) then ab (SA f b a) λi=>if i then J aa else ab (HR e a b) λh=>J h else J ak
def aJN(e:ct)(f:List fa)(a:List Int)(d:Int):Nat->Int->Option (Sum (Unit) (Bool))|0,_=>ae|n+1,b=>if decide (b<(aN8 a:Int)) then ab (aLr e f a d b) λg=>if g then J (bt ak) else aF.lt (aO .i64 (b+1)) λh=>aJN e f a d n h else J (bw ())
def aLq(d:ct)(e:List fa)(b:List Int)(a:Int):Option (Sum (Unit) (Bool)):=ab (al b a) λj=>ab (al b a) λf=>if decide (0<=f) then J (bw ()) else ab (HX N d e a) λg=>if g.2 then J (bt ak) else ab (aJN d e b a N 0) λi=>match i with|bw k=>J (bw ())|bt h=>J (bt h)
def aJM(d:ct)(e:List fa)(b:List Int):Nat->Int->Option (Sum (Unit) (Bool))|0,_=>ae|n+1,a=>if decide (a<(aN8 b:Int)) then ab (aLq N d e b a) λf=>match f with|bw i=>aF.lt (aO .i64 (a+1)) λg=>aJM d e b n g|bt h=>J (bt h) else J (bw ())
def SR(a:ct)(U:List b6):Option Bool:=ab (SU N a) λb=>ab (hy 0 (aN8 a.aN':Int)) λe=>ab (aAs N e 0) λf=>ab (aAk U N f 0) λg=>match g with|bw d=>(ab (aAu U a b d N 0) λh=>match h with|bw m=>(ab (aJM N a b d N 0) λj=>match j with|bw n=>J aa|bt i=>J i)|bt k=>J k)|bt l=>J l
def N7(b:List b6)(U:Int):Nat->Int->Option (Sum (Unit) (Bool))|0,_=>ae|n+1,a=>if decide (a<(aN8 b:Int)) then ab (al b a) λd=>if d.aOk==U then J (bt aa) else aF.lt (aO .i64 (a+1)) λe=>N7 b U n e else J (bw ())
def Sz(d:List b6)(U:Int):Option Bool:=ab (N7 d U N 0) λa=>match a with|bw e=>J ak|bt b=>J b
def Gq(a:Int):Option Bool:=if decide (a<0) then J aa else aF.lt (decide (12<a)) λb=>J b
def aAI(U:List b6)(e:ct)(d:b8)(b:List Int)(g:Int)(h:Int)(f:List c4):Option (b8×List Int×List c4):=ab (al e.aH g) λj=>ab (al j h) λa=>ab (Sz N U a) λi=>if i then ab (al e.aN' a) λm=>ab (cD f ([m]:List c4)) λl=>ab (cD b ([a]:List Int)) λk=>J ((b8.mk [] d.dO),k,l) else J ((b8.mk [] d.dO),b,f)
def aEz(U:List b6)(d:ct)(a:Int):Nat->b8->(List Int)->Int->(List c4)->Option (b8×List Int×List c4)|0,_,_,_,_=>ae|n+1,g,f,b,h=>ab (al d.aH a) λi=>if decide (b<(aN8 i:Int)) then ab (aAI N U d (b8.mk [] g.dO) f a b h) λe=>aF.lt (aO .i64 (b+1)) λj=>aEz U d a n (b8.mk [] e.1.dO) e.2.1 j e.2.2 else J ((b8.mk [] g.dO),f,h)
def aAH(U:List b6)(b:ct):Nat->b8->(List Int)->Int->(List c4)->Option (b8×List Int×List c4)|0,_,_,_,_=>ae|n+1,f,e,a,g=>if decide (a<(aN8 b.aH:Int)) then ab (aEz N U b a N (b8.mk [] f.dO) e 0 g) λd=>aF.lt (aO .i64 (a+1)) λh=>aAH U b n (b8.mk [] d.1.dO) d.2.1 h d.2.2 else J ((b8.mk [] f.dO),e,g)
def H9(b:ct)(U:List b6)(d:Int):Option (b8×List Int×Int):=ab (SQ N b) λe=>aF.lt (!e) λf=>if f then J ((b8.mk [] 0),[],1) else ab (Gq d) λg=>if g then J ((b8.mk [] 0),[],2) else ab (SR N b U) λh=>aF.lt (!h) λi=>if i then J ((b8.mk [] 0),[],17) else ab (aAH N U b N (b8.mk [] d) [] 0 []) λa=>J ((b8.mk a.2.2 a.1.dO),a.2.1,0)
def Hw(a:b0)(U:Int)(f:Int)(g:List cn):Option (Bool×List cn×b0):=ab (H3 N a.y.aH U) λb=>ab (Sd N a.y.bD) λh=>ab (Ag N a.c.aH h a.y.aH (cn.mk U b.1 f ak)) λd=>if d.2 !=0 then J (ak,g,(gq a)) else ab (cD g ([(cn.mk U b.1 f ak)]:List cn)) λi=>J (aa,i,(b0.mk a.c (bq.mk a.y.bD d.1 a.y.b2 a.y.aOb a.y.bo a.y.cE) a.e (cI.mk a.r.err [] a.r.aOc a.r.dW a.r.aOd a.r.cZ a.r.aOe)))
def EC(b:List Int)(a:b6)(d:Bool):Option b6:=if d then ab (al b a.ib) λf=>ab (al b a.ib) λe=>J (b6.mk a.aOk a.reason e a.round) else J a
def EB(e:List Int)(b:List b6):Nat->b0->Int->(List b6)->Option (b0×List b6)|0,_,_,_=>ae|n+1,g,d,f=>if decide (d<(aN8 b:Int)) then ab (al b d) λl=>ab (al b d) λa=>ab (al e a.aOk) λm=>ab (al e a.aOk) λk=>ab (EC e (b6.mk k a.reason a.ib a.round) (decide (0<=a.ib))) λj=>ab (cD f ([j]:List b6)) λi=>aF.lt (aO .i64 (d+1)) λh=>EB e b n (zY g) h i else J ((zY g),f)
def ED(d:List Int)(a:List Int):Nat->(List Int)->Int->Option (List Int)|0,_,_=>ae|n+1,e,b=>if decide (b<(aN8 a:Int)) then ab (al a b) λk=>ab (al a b) λf=>ab (al d f) λj=>ab (al d f) λg=>ab (cD e ([g]:List Int)) λi=>aF.lt (aO .i64 (b+1)) λh=>ED d a n i h else J e
def aKH(h:List Int)(b:List (List Int))(a:Int)(g:List Int)(e:Int):Option (List (List Int)×List Int):=ab (al b a) λp=>ab (al b a) λd=>ab (al d e) λq=>ab (al d e) λl=>ab (Am N h l) λj=>if !j then ab (al (b.set ((a:Int).toNat) d) a) λn=>ab (al (b.set ((a:Int).toNat) d) a) λf=>ab (al f e) λm=>ab (al f e) λk=>ab (cD g ([k]:List Int)) λi=>J (((b.set ((a:Int).toNat) d).set ((a:Int).toNat) f),i) else J ((b.set ((a:Int).toNat) d),g)
def aJr(f:List Int)(a:Int):Nat->(List (List Int))->(List Int)->Int->Option (List (List Int)×List Int)|0,_,_,_=>ae|n+1,b,g,d=>ab (al b a) λj=>ab (al b a) λe=>if decide (d<(aN8 e:Int)) then ab (aKH N f (b.set ((a:Int).toNat) e) a g d) λh=>aF.lt (aO .i64 (d+1)) λi=>aJr f a n h.1 h.2 i else J ((b.set ((a:Int).toNat) e),g)
def aJq(e:List Int):Nat->(List (List Int))->Int->Option (List (List Int))|0,_,_=>ae|n+1,d,a=>if decide (a<(aN8 d:Int)) then ab (aJr N e a N d ([]:List Int) 0) λb=>ab (al b.1 a) λg=>ab (al b.1 a) λh=>aF.lt (aO .i64 (a+1)) λf=>aJq e n (b.1.set ((a:Int).toNat) b.2) f else J d
def aKI(h:b0)(a:List (List Int))(f:Bool)(g:Int):Option (List (List Int)×Bool):=if f then ab (al h.e.aH g) λb=>ab (al a b) λj=>ab (al a b) λd=>aF.lt ((aN8 d:Int)==0) λi=>J ((a.set ((b:Int).toNat) d),i) else J (a,ak)
def aJs(b:b0):Nat->(List (List Int))->Bool->Int->Option (List (List Int)×Bool)|0,_,_,_=>ae|n+1,d,f,a=>if decide (a<(aN8 b.e.aH:Int)) then ab (aKI (zY b) d f a) λg=>aF.lt (aO .i64 (a+1)) λh=>aJs b n g.1 g.2 h else J (d,f)
def aJt(a:List Int):Nat->b0->Int->(List cn)->Option (b0×List cn)|0,_,_,_=>ae|n+1,d,b,g=>if decide (b<(aN8 a:Int)) then ab (al a b) λj=>ab (al a b) λi=>ab (Hw N (gq d) i d.e.cq g) λf=>aF.lt (aO .i64 (b+1)) λh=>aJt a n (gq f.2.2) h f.2.1 else J ((gq d),g)
def RG(a:b0)(f:List cn)(h:List b6):Option (Int×b0):=aF.lt (!a.y.cE) λA=>if A then J (16,(b0.mk a.c a.y a.e (cI.mk a.r.err f a.r.aOc h a.r.aOd a.r.cZ a.r.aOe))) else ab (RF N (b0.mk a.c a.y a.e (cI.mk a.r.err f a.r.aOc h a.r.aOd a.r.cZ a.r.aOe))) λB=>aF.lt (!B) λC=>if C then J (2,(b0.mk a.c a.y a.e (cI.mk a.r.err f a.r.aOc h a.r.aOd a.r.cZ a.r.aOe))) else ab (Sn N (b0.mk a.c a.y a.e (cI.mk a.r.err f a.r.aOc h a.r.aOd a.r.cZ a.r.aOe))) λE=>aF.lt (!E) λH=>if H then J (17,(b0.mk a.c a.y a.e (cI.mk a.r.err f a.r.aOc h a.r.aOd a.r.cZ a.r.aOe))) else ab (H6 N a.y.bD a.y.aH a.y.b2 a.y.bo.bD) λi=>if decide (96<(aN8 i.2:Int)) then J (3,(b0.mk a.c a.y a.e (cI.mk a.r.err f a.r.aOc h a.r.aOd a.r.cZ a.r.aOe))) else ab (afH N i.1) λm=>if(aN8 m.1:Int)==0 then ab (Ro (b0.mk a.c a.y a.e (cI.mk a.r.err f a.r.aOc h a.r.aOd a.r.cZ a.r.aOe))) λF=>J (0,F) else ab (EB i.2 m.1 N (zY a) 0 h) λb=>ab (H9 N i.1 m.1 b.1.e.dO) λj=>ab (ED i.2 j.2.1 N [] 0) λk=>ab (Td N b.1.y.aH) λI=>ab (aJq N k N I 0) λn=>ab (al n b.1.e.cq) λK=>ab (al n b.1.e.cq) λq=>aF.lt ((aN8 q:Int)==0) λs=>ab (aJs (zY b.1) N (n.set ((b.1.e.cq:Int).toNat) q) s 0) λp=>if !p.2 then J (17,(b0.mk b.1.c b.1.y b.1.e (cI.mk b.1.r.err f b.1.r.aOc b.2 b.1.r.aOd b.1.r.cZ b.1.r.aOe))) else ab (Tg N b.1.y k) λw=>ab (al b.1.c.aH b.1.e.cq) λx=>if decide (x.aOh<w) then J (14,(b0.mk b.1.c b.1.y b.1.e (cI.mk b.1.r.err f b.1.r.aOc b.2 b.1.r.aOd b.1.r.cZ b.1.r.aOe))) else ab (Tb N j.1) λl=>if l.2 !=0 then J (l.2,(b0.mk b.1.c b.1.y b.1.e (cI.mk b.1.r.err f b.1.r.aOc b.2 b.1.r.aOd b.1.r.cZ b.1.r.aOe))) else ab (Th N b.1.c b.1.y j.1 l.1.e9 b.1.e.aH (rz (λ(z:List Int)=>z) p.1)) λt=>if !t then J (14,(b0.mk b.1.c b.1.y b.1.e (cI.mk b.1.r.err f b.1.r.aOc b.2 b.1.r.aOd b.1.r.cZ b.1.r.aOe))) else ab (aJt N k N (b0.mk b.1.c b.1.y b.1.e (cI.mk b.1.r.err [] b.1.r.aOc b.2 b.1.r.aOd b.1.r.cZ b.1.r.aOe)) 0 f) λg=>ab (vC (b0.mk g.1.c g.1.y g.1.e (cI.mk g.1.r.err g.2 g.1.r.aOc g.1.r.dW g.1.r.aOd g.1.r.cZ g.1.r.aOe)) k j.1 l.1) λd=>J (0,(b0.mk d.2.2.2.c (bq.mk d.2.2.2.y.bD d.2.2.2.y.aH d.2.2.2.y.b2 d.2.2.2.y.aOb (eR.mk d.2.2.2.y.bo.bD d.2.2.2.y.bo.iP d.2.2.2.y.bo.aOc d.2.2.2.y.bo.aOs d.1 d.2.2.2.y.bo.h9) d.2.2.2.y.cE) d.2.2.2.e (cI.mk d.2.2.2.r.err d.2.2.2.r.vv (e8.mk (dF.mk d.2.2.2.r.aOc.e9.aOm d.2.1) d.2.2.1) d.2.2.2.r.dW d.2.2.2.r.aOd d.2.2.2.r.cZ d.2.2.2.r.aOe)))
def Od(b:List (List Int))(U:Int)(a:Int):Option Bool:=if decide (U<0) then J aa else if decide ((aN8 b:Int)<=U) then J aa else if decide (a<0) then J aa else if decide ((aN8 b:Int)<=a) then J aa else J (U==a)
def aDI(d:List (List Int))(U:Int)(a:Int):Option Bool:=if decide (a<0) then J aa else ab (al d U) λb=>J (decide ((aN8 b:Int)<a))
def aBt(b:List (List Int))(U:Int)(e:Int):Nat->(List cn)->Int->Option (List cn)|0,_,_=>ae|n+1,d,a=>ab (al b U) λi=>if decide (a<(aN8 i:Int)) then ab (al b U) λj=>ab (al j a) λg=>ab (cD d ([(cn.mk g U e ak)]:List cn)) λh=>aF.lt (aO .i64 (a+1)) λf=>aBt b U e n h f else J d
def x6(a:List (List Int))(U:Int)(b:Int)(d:Int):Option (List cn×Int):=ab (Od a U b) λe=>if e then J ([],2) else ab (aDI a U d) λf=>if f then J ([],13) else ab (al a U) λg=>aF.lt (aO .i64 ((aN8 g:Int)-d)) λh=>ab (aBt a U b N [] h) λi=>J (i,0)
def Ri(a:b0)(U:Int)(f:Int)(g:List cn):Option (Bool×List cn×b0):=ab (H3 N a.y.aH U) λb=>ab (Sd N a.y.bD) λh=>ab (Ag N a.c.aH h a.y.aH (cn.mk U b.1 f ak)) λd=>if d.2 !=0 then J (ak,g,(gq a)) else ab (cD g ([(cn.mk U b.1 f ak)]:List cn)) λi=>J (aa,i,(b0.mk a.c (bq.mk a.y.bD d.1 a.y.b2 a.y.aOb a.y.bo a.y.cE) a.e (cI.mk a.r.err [] a.r.aOc a.r.dW a.r.aOd a.r.cZ a.r.aOe)))
def FF(a:b0):Option Bool:=ab (x9 a.c a.e.cq) λb=>if !b then J aa else ab (x9 a.c a.e.to) λd=>aF.lt (!d) λf=>J f
def OK(a:b0):Option Bool:=if a.e.cq==a.e.to then J aa else ab (Se N a.y a.e.cq) λb=>if b then J aa else ab (Se N a.y a.e.to) λd=>J d
def OL(a:b0):Option Bool:=if decide (a.e.count<1) then J aa else ab (al a.y.aH a.e.cq) λb=>aF.lt (decide ((aN8 b:Int)<a.e.count)) λd=>J d
def OM(d:List cn):Nat->b0->Int->(List cn)->Option (Sum (b0×List cn) (b0×Int×List cn))|0,_,_,_=>ae|n+1,f,b,g=>if decide (b<(aN8 d:Int)) then ab (al d b) λj=>ab (al d b) λh=>ab (Ri N (gq f) h.hX f.e.to g) λa=>if !a.1 then J (bt ((gq a.2.2),14,a.2.1)) else aF.lt (aO .i64 (b+1)) λi=>OM d n (gq a.2.2) i a.2.1 else J (bw ((gq f),g))
def Sp(a:b0)(b:List cn):Option (Int×List cn×b0):=if a.y.aOb then J (25,b,(gq a)) else ab (FF (gq a)) λg=>if g then J (2,b,(gq a)) else ab (OK N (gq a)) λi=>if i then J (17,b,(gq a)) else ab (OL (gq a)) λh=>if h then J (13,b,(gq a)) else ab (x6 N a.y.aH a.e.cq a.e.to a.e.count) λk=>ab (OM N k.1 N (gq a) 0 b) λj=>match j with|bw f=>J (0,f.2,(gq f.1))|bt d=>J (d.2.1,d.2.2,(gq d.1))
def S0(b:c8)(U:b7)(f:List bC):Option Int:=ab (Rg N b) λa=>if a !=0 then J a else ab (Rn N b U) λd=>if !d then J 1 else ab (Rw N f) λe=>J e
def Oc(U:List bC)(d:b7):Nat->(List Int)->Int->Option (Sum (List Int) (Int×Int))|0,_,_=>ae|n+1,e,a=>if decide (a<(aN8 U:Int)) then ab (al U a) λf=>ab (SZ N d f.aOl) λb=>if decide (b<0) then J (bt (a,7)) else ab (cD e ([b]:List Int)) λg=>aF.lt (aO .i64 (a+1)) λh=>Oc U d n g h else J (bw e)
def Ae(e:b7)(U:List bC):Option (List Int×Int×Int):=ab (Oc N U e N [] 0) λb=>match b with|bw d=>J (d,(-1),0)|bt a=>J ([],a.1,a.2)
def Fo(b:List bC):Nat->Int->Int->Int->Int->Option (Int×Int×Int)|0,_,_,_,_=>ae|n+1,d,e,f,a=>if decide (a<(aN8 b:Int)) then ab (al b a) λg=>aF.lt (aO .i64 (d+g.aOh)) λh=>ab (al b a) λi=>aF.lt (aO .i64 (e+i.gv)) λk=>ab (al b a) λl=>aF.lt (aO .i64 (f+l.iL)) λm=>aF.lt (aO .i64 (a+1)) λj=>Fo b n h k m j else J (d,e,f)
def SO(d:List bC):Option (Int×Int×Int×Int):=ab (Rw N d) λb=>if b !=0 then J (0,0,0,b) else ab (Fo d N 0 0 0 0) λa=>J (a.1,a.2.1,a.2.2,0)
def Gr(b:List Int)(U:Int):Nat->Int->Option (Sum (Unit) (Bool))|0,_=>ae|n+1,a=>if decide (a<(aN8 b:Int)) then ab (al b a) λd=>if d==U then J (bt aa) else aF.lt (aO .i64 (a+1)) λe=>Gr b U n e else J (bw ())
def Ia(d:List Int)(U:Int):Option Bool:=ab (Gr d U N 0) λa=>match a with|bw e=>J ak|bt b=>J b
def x5(a:Int):Option Int:=if decide (a<=5000) then J 100 else if decide (7000<a) then J 80 else aF.lt (aO .i64 (100-(aO .i64 (l1 (aO .i64 ((aO .i64 (a-5000))+99)) 100)))) λb=>J b
def ET(e:List bC)(U:List Int)(a:Int):Option Bool:=ab (al U a) λb=>if decide (b<0) then J aa else ab (al U a) λd=>J (decide ((aN8 e:Int)<=d))
def ES(d:List bC)(U:List Int):Nat->dM->Int->Option (Sum (dM) (dM×Int))|0,_,_=>ae|n+1,b,a=>if decide (a<(aN8 U:Int)) then ab (ET d U a) λe=>if e then J (bt ((dM.mk 0 0 0 0 0 0 0),2)) else aF.lt (aO .i64 (a+1)) λf=>ES d U n b f else J (bw b)
def Py(U:List Int):Nat->dM->Int->Option (Sum (dM) (dM×Int))|0,_,_=>ae|n+1,b,a=>if decide (a<(aN8 U:Int)) then ab (gi U 0 a) λe=>ab (al U a) λf=>ab (Ia N e f) λd=>if d then J (bt ((dM.mk 0 0 0 0 0 0 0),8)) else aF.lt (aO .i64 (a+1)) λg=>Py U n b g else J (bw b)
def aDm(f:List bC)(U:List Int)(a:dM)(b:Int):Option dM:=ab (Ia N U b) λd=>if !d then ab (al f b) λe=>J (dM.mk a.aOh a.iL a.gv (aO .i64 (a.mw+e.lJ)) a.j9 a.required a.oW) else J a
def aBD(b:List bC)(U:List Int):Nat->dM->Int->Option dM|0,_,_=>ae|n+1,d,a=>if decide (a<(aN8 b:Int)) then ab (aDm N b U d a) λf=>aF.lt (aO .i64 (a+1)) λe=>aBD b U n f e else J d
def aBE(b:Int)(a:dM)(e:Bool):Option dM:=if e then ab (sU (aO .i64 (100*a.mw)) b) λd=>J (dM.mk a.aOh a.iL a.gv a.mw (aO .i64 (d)) a.required a.oW) else J a
def HY(d:List bC)(U:List Int):Option (dM×Int):=ab (SO N d) λa=>if a.2.2.2 !=0 then J ((dM.mk 0 0 0 0 0 0 0),a.2.2.2) else ab (ES d U N (dM.mk 0 0 0 0 0 0 0) 0) λg=>match g with|bw h=>(ab (Py N U N h 0) λi=>match i with|bw l=>ab (aBD N d U N (dM.mk a.1 a.2.2.1 a.2.1 0 0 0 0) 0) λb=>ab (x5 a.1) λj=>ab (aBE a.2.1 (dM.mk b.aOh b.iL b.gv (aO .i64 (l1 (aO .i64 (b.mw*j)) 100)) b.j9 b.required b.oW) (decide (0<a.2.1))) λk=>J (k,0)|bt e=>J (e.1,e.2))|bt f=>J (f.1,f.2)
def aKZ(b:List ff)(U:Int)(h:Int)(i:Int)(f:Bool)(a:Int):Option Bool:=ab (al b a) λd=>if decide (U<=d.speed) then ab (al b a) λe=>if decide (h<=e.iZ) then if !f then J aa else ab (al b a) λg=>J (decide (g.j9<i)) else J ak else J ak
def Pg(e:List ff)(U:Int)(g:Int)(d:Int)(b:Bool)(a:Int):Option (Int×Bool):=ab (aKZ e U g d b a) λf=>if f then ab (al e a) λh=>J (h.j9,aa) else J (d,b)
def Gd(b:List ff)(U:Int)(e:Int):Nat->Int->Bool->Int->Option (Int×Bool)|0,_,_,_=>ae|n+1,f,d,a=>if decide (a<(aN8 b:Int)) then ab (Pg b U e f d a) λg=>aF.lt (aO .i64 (a+1)) λh=>Gd b U e n g.1 g.2 h else J (f,d)
def Ai(d:List ff)(U:Int)(b:Int):Option (Int×Bool):=ab (Gd d U b N 0 ak 0) λa=>J (a.1,a.2)
def aBT(U:Int)(a:Int):Option Bool:=if decide (U<1) then J aa else if decide (200<U) then J aa else if decide (a<0) then J aa else J (decide (500<a))
def RR(d:List ff)(U:Int)(b:Int):Option (Int×Int):=ab (Rm N d) λe=>if !e then J (0,1) else ab (aBT U b) λf=>if f then J (0,2) else ab (Ai N d U b) λa=>if !a.2 then J (0,15) else J (a.1,0)
def SV(g:List bC)(U:List Int)(d:List ff)(e:Int)(f:Int):Option (dM×Int):=ab (HY N g U) λa=>if a.2 !=0 then J ((dM.mk 0 0 0 0 0 0 0),a.2) else ab (RR N d e f) λb=>if b.2 !=0 then J ((dM.mk 0 0 0 0 0 0 0),b.2) else J ((dM.mk a.1.aOh a.1.iL a.1.gv a.1.mw a.1.j9 b.1 (max 0 (aO .i64 ((aO .i64 (l1 (aO .i64 ((aO .i64 (b.1*a.1.gv))+99)) 100))-a.1.mw)))),0)
def vH(a:Int)(U:bC):Option Int:=aF.lt (a==1) λb=>if b then J U.aOh else aF.lt (a==2) λd=>if d then J U.iL else J U.gv
def aKq(a:Int)(d:Int)(e:bC)(b:bC):Option Bool:=if e.kH==a then if b.kH==d then J aa else if e.kH==d then aF.lt (b.kH==a) λf=>J f else J ak else if e.kH==d then aF.lt (b.kH==a) λg=>J g else J ak
def HK(e:bC)(U:bC)(b:Int)(d:Int):Option Bool:=ab (aKq b d e U) λa=>J a
def aDH(b:Int)(d:Bool):Option Bool:=if d then J d else aF.lt (b==2) λa=>if a then J a else aF.lt (b==3) λe=>J e
def aJj(U:List bC)(b:Int)(d:cR):Nat->Int->Int->Option Int|0,_,_=>ae|n+1,e,a=>if decide (a<=b) then ab (al U a) λg=>ab (vH d.aOn g) λh=>aF.lt (aO .i64 (e+h)) λi=>aF.lt (aO .i64 (a+1)) λf=>aJj U b d n i f else J e
def aLc(U:List bC)(f:Int)(d:cR)(e:Int):Option Bool:=ab (al U e) λi=>ab (al U f) λg=>ab (HK i g d.a d.b) λh=>if h then J (decide ((aO .i64 ((aO .i64 (f-e))-1))<d.c)) else J ak
def aJk(U:List bC)(b:Int)(d:cR):Nat->Int->Option (Sum (Unit) (Bool))|0,_=>ae|n+1,a=>if decide (a<b) then ab (aLc U b d a) λf=>if f then J (bt aa) else aF.lt (aO .i64 (a+1)) λe=>aJk U b d n e else J (bw ())
def aLd(U:List bC)(d:Int)(e:cR):Option Bool:=ab (al U d) λg=>if g.kH==e.a then aF.lt (decide (d<e.b)) λf=>J f else J ak
def aJB(U:List bC):Nat->Int->Int->Option Int|0,_,_=>ae|n+1,b,a=>if decide (a<(aN8 U:Int)) then ab (al U a) λe=>aF.lt (aO .i64 (b+e.gv)) λd=>aF.lt (aO .i64 (a+1)) λf=>aJB U n d f else J b
def aLe(U:List bC)(e:Int)(d:cR)(f:Int):Option Bool:=ab (al U e) λh=>if decide (h.gv<=d.a) then aF.lt (decide (d.b<f)) λg=>J g else J ak
def E8(U:List bC)(b:Int)(e:cR)(f:Int)(d:Int):Option (Sum (Unit) (Bool)):=aF.lt (d==1) λg=>ab (aDH d g) λh=>if h then ab (aJj U b e N f 0) λj=>aF.lt (decide (e.a<j)) λi=>J (bt i) else aF.lt (d==5) λl=>if l then ab (aJk U b e N 0) λk=>match k with|bw A=>J (bw ())|bt m=>J (bt m) else aF.lt (d==6) λp=>if p then ab (aLd U b e) λn=>J (bt n) else aF.lt (d==8) λs=>if s then ab (al U b) λq=>ab (al U b) λr=>aF.lt (decide ((aO .i64 (e.a*r.iL))<q.gv)) λw=>J (bt w) else aF.lt (d==9) λx=>if x then aF.lt (aO .i64 (b+1)) λt=>ab (aJB U N f t) λz=>ab (aLe U b e z) λy=>J (bt y) else J (bw ())
def SB(a:cR)(U:List bC)(b:Int):Option Bool:=ab (E8 N U b a 0 a.aOn) λd=>match d with|bw f=>J ak|bt e=>J e
def Gz(b:cR)(d:Int)(e:dM):Option Bool:=if decide (0<d) then J (decide (e.j9<b.a)) else J ak
def GB(U:List bC)(b:List Int)(a:Int):Option Bool:=ab (al U a) λd=>if decide (0<d.lJ) then ab (Ia N b a) λe=>J (!e) else J ak
def PG(U:List bC)(d:List Int)(a:Int)(b:Int):Option Int:=ab (GB N U d b) λe=>if e then aF.lt (aO .i64 (a+1)) λf=>J f else J a
def GA(U:List bC)(d:List Int)(e:Int):Nat->Int->Int->Option Int|0,_,_=>ae|n+1,b,a=>if decide (a<e) then ab (PG N U d b a) λg=>aF.lt (aO .i64 (a+1)) λf=>GA U d e n g f else J b
def GC(U:List bC)(b:cR)(d:Int):Nat->Int->Option (Sum (Unit) (Int))|0,_=>ae|n+1,a=>if decide (a<d) then ab (SB N b U a) λf=>if f then J (bt a) else aF.lt (aO .i64 (a+1)) λe=>GC U b d n e else J (bw ())
def SY(e:cR)(U:List bC)(f:List Int):Option Int:=aF.lt (aN8 U:Int) λd=>aF.lt (e.aOn==4) λh=>if h then ab (HY N U f) λi=>ab (Gz e d i.1) λj=>if j then J d else J (-1) else aF.lt (e.aOn==7) λk=>if k then aF.lt (min e.a d) λg=>aF.lt (aO .i64 (d-g)) λl=>ab (GA N U f d N 0 l) λm=>if decide (m<(min e.b g)) then J d else J (-1) else ab (GC N U e d N 0) λn=>match n with|bw q=>J (-1)|bt p=>J p
def EU(b:List cR)(U:List bC)(e:List Int):Nat->Int->Option (Sum (Unit) (Int×Int×Int))|0,_=>ae|n+1,a=>if decide (a<(aN8 b:Int)) then ab (al b a) λf=>ab (SY N f U e) λd=>if decide (0<=d) then ab (al b a) λg=>J (bt (g.aOj,d,0)) else aF.lt (aO .i64 (a+1)) λh=>EU b U e n h else J (bw ())
def SX(f:List cR)(U:List bC)(e:List Int):Option (Int×Int×Int):=ab (HZ N f) λb=>if b !=0 then J (0,0,b) else ab (HY N U e) λd=>if d.2 !=0 then J (0,0,d.2) else ab (EU N f U e N 0) λg=>match g with|bw h=>J (0,(-1),0)|bt a=>J (a.1,a.2.1,a.2.2)
def E7(b:List Int)(U:Int)(a:Int):Option Bool:=ab (al b a) λd=>if decide (d<0) then J aa else ab (al b a) λe=>J (decide (U<=e))
def E6(b:List Int)(U:Int):Nat->Int->Option (Sum (Unit) (Bool))|0,_=>ae|n+1,a=>if decide (a<(aN8 b:Int)) then ab (E7 b U a) λd=>if d then J (bt ak) else aF.lt (aO .i64 (a+1)) λe=>E6 b U n e else J (bw ())
def HS(d:List Int)(U:Int):Option Bool:=ab (E6 d U N 0) λa=>match a with|bw e=>J aa|bt b=>J b
def aAM(a:Int)(d:Bool):Option Int:=if d then aF.lt (aO .i64 (a+1)) λb=>J b else J a
def aAL(f:List Int)(U:Int)(b:Int)(a:Int)(e:Bool)(d:Int):Option (Int×Int×Bool):=ab (al f d) λg=>aF.lt (g==U) λh=>if h then aF.lt (aO .i64 (b+1)) λi=>ab (aAM a (!e)) λj=>J (i,j,aa) else ab (al f d) λk=>aF.lt (decide (U<k)) λl=>if l then J (b,a,ak) else J (b,a,e)
def aED(d:List Int)(U:Int):Nat->Int->Int->Bool->Int->Option (Int×Int)|0,_,_,_,_=>ae|n+1,f,e,g,a=>if decide (a<(aN8 d:Int)) then ab (aAL d U f e g a) λb=>aF.lt (aO .i64 (a+1)) λh=>aED d U n b.1 b.2.1 b.2.2 h else J (f,e)
def yb(b:List Int)(U:Int):Option (Int×Int):=ab (aED b U N 0 0 ak 0) λa=>J (a.1,a.2)
def Ga(U:Int):Option Bool:=if decide (U<0) then J aa else J (decide (16<U))
def Gb(f:List Int)(d:List hn)(b:Int):Option (List hn):=ab (yb N f b) λa=>if decide (0<a.1) then ab (cD d ([(hn.mk b a.1 a.2)]:List hn)) λe=>J e else J d
def Pe(d:List Int)(U:Int):Nat->(List hn)->Int->Option (List hn)|0,_,_=>ae|n+1,b,a=>if decide (a<U) then ab (Gb N d b a) λe=>aF.lt (aO .i64 (a+1)) λf=>Pe d U n e f else J b
def Tc(a:List Int)(U:Int):Option (List hn×Int):=ab (Ga U) λb=>if b then J ([],2) else if decide (96<(aN8 a:Int)) then J ([],3) else ab (HS N a U) λd=>if !d then J ([],2) else ab (Pe N a U N [] 0) λe=>J (e,0)
def GJ(b:List Int)(a:Int):Option Bool:=if decide (0<a) then ab (al b a) λf=>ab (al b a) λd=>ab (al b (aO .i64 (a-1))) λg=>ab (al b (aO .i64 (a-1))) λe=>J (decide (d<e)) else J ak
def GI(e:b7)(b:List Int):Nat->hI->(List Int)->Int->Option (Sum (hI×List Int) (hI×Int×Int×Int))|0,_,_,_=>ae|n+1,d,f,a=>if decide (a<(aN8 b:Int)) then ab (GJ b a) λi=>if i then J (bt ((hI.mk [] [] (dM.mk 0 0 0 0 0 0 0) []),0,a,12)) else ab (al b a) λk=>ab (al b a) λh=>ab (cD f ([(aO .i64 ((aO .i64 ((aN8 e.c7:Int)-1))-h))]:List Int)) λg=>aF.lt (aO .i64 (a+1)) λj=>GI e b n d g j else J (bw (d,f))
def H2(b:c8)(U:b7)(a:List bC):Option (hI×Int×Int×Int):=ab (S0 N b U a) λh=>if h !=0 then J ((hI.mk [] [] (dM.mk 0 0 0 0 0 0 0) []),0,0,h) else if(aN8 a:Int)==0 then J ((hI.mk [] [] (dM.mk 0 0 0 0 0 0 0) []),0,0,13) else ab (Ae N U a) λd=>if d.2.2 !=0 then J ((hI.mk [] [] (dM.mk 0 0 0 0 0 0 0) []),0,d.2.1,d.2.2) else ab (GI U d.1 N (hI.mk [] [] (dM.mk 0 0 0 0 0 0 0) []) [] 0) λl=>match l with|bw i=>ab (SV N a [] b.table b.speed b.iZ) λe=>if e.2 !=0 then J ((hI.mk [] [] (dM.mk 0 0 0 0 0 0 0) []),0,0,e.2) else ab (SX N b.rules a []) λg=>if g.1 !=0 then J ((hI.mk [] [] (dM.mk 0 0 0 0 0 0 0) []),g.1,g.2.1,20) else if e.1.oW !=0 then aF.lt (aN8 a:Int) λk=>J ((hI.mk [] [] (dM.mk 0 0 0 0 0 0 0) []),0,k,20) else ab (cD ([]:List bC) a) λj=>ab (Tc N i.2 (aN8 U.c7:Int)) λm=>J ((hI.mk U.aOg j e.1 m.1),0,0,0)|bt f=>J (f.1,f.2.1,f.2.2.1,f.2.2.2)
def Ra(a:b0)(U:Int)(f:Int)(g:List cn):Option (Bool×List cn×b0):=ab (H3 N a.y.aH U) λb=>ab (Sd N a.y.bD) λh=>ab (Ag N a.c.aH h a.y.aH (cn.mk U b.1 f ak)) λd=>if d.2 !=0 then J (ak,g,(gq a)) else ab (cD g ([(cn.mk U b.1 f ak)]:List cn)) λi=>J (aa,i,(b0.mk a.c (bq.mk a.y.bD d.1 a.y.b2 a.y.aOb a.y.bo a.y.cE) a.e (cI.mk a.r.err [] a.r.aOc a.r.dW a.r.aOd a.r.cZ a.r.aOe)))
def aAV(e:b0)(b:List Int):Nat->(List bC)->Int->Option (List bC)|0,_,_=>ae|n+1,d,a=>if decide (a<(aN8 b:Int)) then ab (al b a) λj=>ab (al b a) λi=>ab (al e.y.bD i) λg=>ab (cD d ([g]:List bC)) λh=>aF.lt (aO .i64 (a+1)) λf=>aAV e b n h f else J d
def aAW(b:List Int):Nat->b0->Int->(List cn)->Option (b0×List cn)|0,_,_,_=>ae|n+1,f,a,d=>if decide (a<(aN8 b:Int)) then ab (al b a) λi=>ab (al b a) λg=>ab (Ra N (gq f) g (-1) d) λe=>aF.lt (aO .i64 (a+1)) λh=>aAW b n (gq e.2.2) h e.2.1 else J ((gq f),d)
def Eu:Nat->b0->Int->(List b7)->(List cn)->Option (Sum (b0×List b7×List cn) (b0×Int×List cn))|0,_,_,_,_=>ae|n+1,b,d,f,h=>if decide (d<(aN8 f:Int)) then ab (al f d) λt=>ab (al f d) λi=>if !(i.aOg==b.e.aOg) then aF.lt (aO .i64 (d+1)) λm=>Eu n (Hd b) m f h else ab (al b.y.aH i.cq) λp=>ab (cD ([]:List Int) p) λj=>ab (aAV (Hd b) j N [] 0) λq=>ab (H2 N b.c i q) λg=>if g.2.2.2 !=0 then J (bt ((b0.mk b.c (bq.mk b.y.bD b.y.aH f b.y.aOb b.y.bo b.y.cE) b.e (cI.mk b.r.err [] b.r.aOc b.r.dW b.r.aOd g.2.1 g.2.2.1)),g.2.2.2,h)) else ab (aAW N j N (b0.mk b.c (bq.mk b.y.bD b.y.aH f b.y.aOb b.y.bo b.y.cE) b.e (cI.mk b.r.err [] b.r.aOc b.r.dW g.1 b.r.cZ b.r.aOe)) 0 h) λa=>ab (LJ a.1.y.b2 d d) λs=>ab (gi a.1.y.b2 (aO .i64 (d+1)) (aN8 a.1.y.b2:Int)) λk=>ab (cD s k) λl=>if k.isEmpty then J (bt ((b0.mk a.1.c (bq.mk a.1.y.bD a.1.y.aH l a.1.y.aOb a.1.y.bo a.1.y.cE) a.1.e (cI.mk a.1.r.err [] a.1.r.aOc a.1.r.dW a.1.r.aOd a.1.r.cZ a.1.r.aOe)),0,a.2)) else J (bt ((b0.mk a.1.c (bq.mk a.1.y.bD a.1.y.aH l a.1.y.aOb a.1.y.bo a.1.y.cE) a.1.e (cI.mk a.1.r.err [] a.1.r.aOc a.1.r.dW a.1.r.aOd a.1.r.cZ a.1.r.aOe)),0,a.2)) else J (bw ((Hd b),f,h))
def RD(b:b0)(g:List b7)(f:List cn):Option (Int×List cn×b0):=if b.y.aOb then J (25,f,(b0.mk b.c (bq.mk b.y.bD b.y.aH g b.y.aOb b.y.bo b.y.cE) b.e (cI.mk b.r.err [] b.r.aOc b.r.dW b.r.aOd b.r.cZ b.r.aOe))) else ab (Eu N N (Hd b) 0 g f) λh=>match h with|bw a=>J (7,a.2.2,(b0.mk a.1.c (bq.mk a.1.y.bD a.1.y.aH a.2.1 a.1.y.aOb a.1.y.bo a.1.y.cE) a.1.e (cI.mk a.1.r.err [] a.1.r.aOc a.1.r.dW a.1.r.aOd a.1.r.cZ a.1.r.aOe)))|bt d=>J (d.2.1,d.2.2,(gq d.1))
def Pl(a:b0)(s:Int)(l:Int)(h:List bC)(i:List b7)(j:List cn)(k:List b6):Option (b0×Int):=aF.lt (l==1) λq=>if q then ab (RC N (b0.mk a.c (bq.mk [] a.y.aH i a.y.aOb a.y.bo a.y.cE) a.e (cI.mk a.r.err [] a.r.aOc k a.r.aOd a.r.cZ a.r.aOe)) h j) λb=>J ((b0.mk b.2.2.c b.2.2.y b.2.2.e (cI.mk b.2.2.r.err b.2.1 b.2.2.r.aOc b.2.2.r.dW b.2.2.r.aOd b.2.2.r.cZ b.2.2.r.aOe)),b.1) else aF.lt (l==2) λt=>if t then ab (R4 N (b0.mk a.c (bq.mk h a.y.aH [] a.y.aOb a.y.bo a.y.cE) a.e (cI.mk a.r.err j a.r.aOc k a.r.aOd a.r.cZ a.r.aOe)) i) λg=>J ((b0.mk g.2.2.c (bq.mk g.2.2.y.bD g.2.2.y.aH g.2.1 g.2.2.y.aOb g.2.2.y.bo g.2.2.y.cE) g.2.2.e g.2.2.r),g.1) else aF.lt (l==3) λz=>if z then ab (Sq N (b0.mk a.c (bq.mk h a.y.aH i a.y.aOb a.y.bo a.y.cE) a.e (cI.mk a.r.err j a.r.aOc k a.r.aOd a.r.cZ a.r.aOe))) λn=>J (n.2,n.1) else aF.lt (l==4) λx=>if x then ab (Sr N (b0.mk a.c (bq.mk h a.y.aH i a.y.aOb a.y.bo a.y.cE) a.e (cI.mk a.r.err [] a.r.aOc k a.r.aOd a.r.cZ a.r.aOe)) j) λm=>J (m.2,m.1) else aF.lt (l==5) λw=>if w then ab (RG N (b0.mk a.c (bq.mk h a.y.aH i a.y.aOb a.y.bo a.y.cE) a.e (cI.mk a.r.err [] a.r.aOc [] a.r.aOd a.r.cZ a.r.aOe)) j k) λp=>J (p.2,p.1) else aF.lt (l==6) λB=>if B then ab (Sp N (b0.mk a.c (bq.mk h a.y.aH i a.y.aOb a.y.bo a.y.cE) a.e (cI.mk a.r.err [] a.r.aOc k a.r.aOd a.r.cZ a.r.aOe)) j) λd=>J ((b0.mk d.2.2.c d.2.2.y d.2.2.e (cI.mk d.2.2.r.err d.2.1 d.2.2.r.aOc d.2.2.r.dW d.2.2.r.aOd d.2.2.r.cZ d.2.2.r.aOe)),d.1) else aF.lt (l==7) λA=>if A then ab (RD N (b0.mk a.c (bq.mk h a.y.aH [] a.y.aOb a.y.bo a.y.cE) a.e (cI.mk a.r.err [] a.r.aOc k a.r.aOd a.r.cZ a.r.aOe)) i j) λf=>J ((b0.mk f.2.2.c f.2.2.y f.2.2.e (cI.mk f.2.2.r.err f.2.1 f.2.2.r.aOc f.2.2.r.dW f.2.2.r.aOd f.2.2.r.cZ f.2.2.r.aOe)),f.1) else J ((b0.mk a.c (bq.mk h a.y.aH i a.y.aOb a.y.bo a.y.cE) a.e (cI.mk a.r.err j a.r.aOc k a.r.aOd a.r.cZ a.r.aOe)),s)
def Tf(f:c8)(U:bq)(e:eb):Option (bq×cI):=ab (Te N U) λa=>ab (Pl N (b0.mk f (bq.mk [] a.1.aH [] a.1.aOb a.1.bo a.1.cE) e (cI.mk 0 [] (e8.mk (dF.mk 0 []) []) [] (hI.mk [] [] (dM.mk 0 0 0 0 0 0 0) []) 0 0)) 1 e.aOn a.2.1 a.2.2 [] []) λd=>if d.2 !=0 then ab (Te N U) λb=>J ((bq.mk b.2.1 b.1.aH b.2.2 b.1.aOb b.1.bo b.1.cE),(cI.mk d.2 [] (e8.mk (dF.mk 0 []) []) [] (hI.mk [] [] (dM.mk 0 0 0 0 0 0 0) []) d.1.r.cZ d.1.r.aOe)) else J (d.1.y,d.1.r)
def aCN(b:Int)(a:Int):Option Bool:=if decide (a<3) then J (decide (3<b)) else J ak
def aAN(h:Int)(a:c8):Nat->dd->bq->(List eb)->Int->Option (dd×bq×List eb)|0,_,_,_,_=>ae|n+1,i,b,e,d=>ab (aCN h d) λj=>if j then ab (RL N i a b (aN8 b.bD:Int)) λf=>ab (al [(eb.mk 2 0 0 0 0 [] [] (b7.mk [120,49] (aO .i64 ((aN8 a.aH:Int)-1)) ([[98],[97]]:List (List UInt8))) [] []),(eb.mk 2 0 0 0 0 [] [] (b7.mk [120,50] (aO .i64 ((aN8 a.aH:Int)-2)) ([[99],[100]]:List (List UInt8))) [] []),f.1] d) λg=>ab (Tf N a b g) λk=>ab (cD e ([g]:List eb)) λl=>aF.lt (aO .i64 (d+1)) λm=>aAN h a n f.2 k.1 l m else J (i,b,e)
def aCO(b:c8):Nat->dd->bq->(List eb)->Int->Option (dd×List eb)|0,_,_,_,_=>ae|n+1,g,a,e,f=>if decide (0<f) then ab (RL N g b a (aN8 a.bD:Int)) λd=>ab (Tf N b a d.1) λj=>ab (cD e ([d.1]:List eb)) λi=>aF.lt (aO .i64 (f-1)) λh=>aCO b n d.2 j.1 i h else J (g,e)
def Rq(g:dd)(U:c8)(d:Int):Option (List eb×dd):=ab (Ic N U) λb=>if b.2 !=0 then J ([],g) else ab (aAN N d U N g b.1 [] 0) λa=>ab (HO a.1 (aO .i64 (d+1))) λe=>ab (aCO N U N e.2 a.2.1 a.2.2 e.1) λf=>J (f.2,f.1)
def aPS(a:List eb)(f:bq)(b:Int)(d:Bool)(e:Int):Option Bool:=if d then J aa else ab (al f.b2 e) λh=>ab (al a b) λj=>ab (al a b) λg=>aF.lt (h.aOg==g.aOg) λi=>J i
def aPq(e:List eb)(b:bq)(f:Int):Nat->Bool->Int->Option Bool|0,_,_=>ae|n+1,d,a=>if decide (a<(aN8 b.b2:Int)) then ab (aPS e b f d a) λh=>aF.lt (aO .i64 (a+1)) λg=>aPq e b f n h g else J d
def aPT(b:List eb)(d:Int)(a:cI)(e:Bool):Option Bool:=ab (al b d) λg=>ab (al b d) λf=>if f.aOn==7 then if a.err==12 then J aa else if e then J (a.err==7) else J ak else J ak
def aPU(a:bq)(b:Int):Option Bool:=if decide (b<(aN8 a.b2:Int)) then J (!a.aOb) else J ak
def aPs(a:bq)(e:Int)(b:List Int):Nat->Int->Int->Option (Sum (Unit) (Bool))|0,_,_=>ae|n+1,g,d=>if decide (d<(aN8 b:Int)) then ab (al a.b2 e) λj=>ab (al b d) λh=>ab (al a.bD h) λi=>ab (SZ N j i.aOl) λf=>if decide (f<g) then J (bt ak) else aF.lt (aO .i64 (d+1)) λk=>aPs a e b n f k else J (bw ())
def aPr(a:bq):Nat->Int->Option (Sum (Unit) (Bool))|0,_=>ae|n+1,b=>ab (aPU a b) λd=>if d then ab (al a.b2 b) λe=>ab (al a.aH e.cq) λf=>ab (aPs N a b f N 0 0) λg=>match g with|bw j=>aF.lt (aO .i64 (b+1)) λi=>aPr a n i|bt h=>J (bt h) else J (bw ())
def Nj(f:c8)(a:List eb):Nat->bq->Int->Option (Sum (Unit) (Bool))|0,_,_=>ae|n+1,e,b=>if decide (b<(aN8 a:Int)) then ab (al a b) λm=>ab (al a b) λg=>ab (rl N f e g) λd=>ab (aPq a e b N ak 0) λh=>ab (aPT a b d.2 h) λi=>if i then J (bt ak) else ab (aPr N d.1 N 0) λj=>match j with|bw p=>aF.lt (aO .i64 (b+1)) λk=>Nj f a n d.1 k|bt l=>J (bt l) else J (bw ())
def Rl(i:List Int):Option Bool:=ab (Al i) λd=>ab (Rp N d aa) λa=>ab (Rq N a.2 a.1 30) λe=>ab (Ak N a.1) λb=>if b.2 !=0 then J ak else ab (Nj N a.1 e.1 N b.1 0) λh=>match h with|bw j=>ab (S8 N) λg=>J g|bt f=>J f
end
end Go.W
end