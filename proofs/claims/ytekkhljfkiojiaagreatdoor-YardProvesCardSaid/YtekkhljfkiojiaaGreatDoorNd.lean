import Derived.Test.YtekkhljfkiojiaaGreatDoorNc
set_option linter.defProp false
set_option linter.unusedSimpArgs false
set_option linter.unusedVariables false
open Bool renaming false->ak,true->aa
open Go renaming IntKind->aG
open Go.IntKind renaming wrap->aO
open Int renaming fdiv->sE,tdiv->l1,tmod->jB,toNat->sF
open List renaming map->rz
open Option renaming bind->ab,none->ae,some->J
open Sum renaming inl->bw,inr->bt
open UInt8 renaming toNat->fy
section
set_option maxRecDepth 100000
set_option maxHeartbeats 1000000
namespace Go.W
open Go.aF
noncomputable section
structure eE where
 name:(List UInt8)
 length:Int
deriving DecidableEq
structure cR where
 number:Int
 kind:Int
 a:Int
 b:Int
 c:Int
deriving DecidableEq
structure ff where
 speed:Int
 iZ:Int
 j9:Int
deriving DecidableEq
structure c8 where
 aH:(List eE)
 rules:(List cR)
 table:(List ff)
 speed:Int
 iZ:Int
deriving DecidableEq
structure dd where
 l:(List Int)
 n:Int
deriving DecidableEq
structure bC where
 number:(List UInt8)
 length:Int
 iL:Int
 gv:Int
 lJ:Int
 kH:Int
 uM:Bool
 dest:(List UInt8)
deriving DecidableEq
structure Ig where
 a0:(List UInt8)
 ec:(List UInt8)
 a2:(List UInt8)
deriving DecidableEq
structure im where
 place:Int
 cq:Int
deriving DecidableEq
structure b7 where
 name:(List UInt8)
 cq:Int
 c7:(List (List UInt8))
deriving DecidableEq
structure eb where
 kind:Int
 cq:Int
 to:Int
 count:Int
 dO:Int
 aH:(List Int)
 hD:(List im)
 order:b7
 name:(List UInt8)
 data:(List UInt8)
deriving DecidableEq
structure c4 where
 dS:Int
 block:Int
 round:Int
 length:Int
deriving DecidableEq
structure b8 where
 items:(List c4)
 dO:Int
deriving DecidableEq
structure dF where
 steps:Int
 fW:(List Int)
deriving DecidableEq
structure e8 where
 e9:dF
 chain:(List Int)
deriving DecidableEq
structure eR where
 bD:(List Int)
 iP:b8
 proof:e8
 lead:Int
 aH:(List Int)
 h9:Int
deriving DecidableEq
structure bq where
 bD:(List bC)
 aH:(List (List Int))
 b2:(List b7)
 busy:Bool
 bo:eR
 cE:Bool
deriving DecidableEq
structure cn where
 hX:Int
 from_:Int
 to:Int
 front:Bool
deriving DecidableEq
structure b6 where
 item:Int
 reason:Int
 ib:Int
 round:Int
deriving DecidableEq
structure dM where
 length:Int
 iL:Int
 gv:Int
 mw:Int
 j9:Int
 required:Int
 oW:Int
deriving DecidableEq
structure hn where
 stop:Int
 bD:Int
 UN:Int
deriving DecidableEq
structure hI where
 name:(List UInt8)
 bD:(List bC)
 jt:dM
 P0:(List hn)
deriving DecidableEq
structure cI where
 err:Int
 vv:(List cn)
 proof:e8
 dW:(List b6)
 final:hI
 cZ:Int
 place:Int
deriving DecidableEq
structure Step where
 c:c8
 y:bq
 e:eb
 r:cI
deriving DecidableEq
structure kX where
 b:(List UInt8)
 at_:Int
deriving DecidableEq
structure ct where
 items:(List c4)
 homes:(List Int)
 aH:(List (List Int))
deriving DecidableEq
structure hx where
 cq:Int
 place:Int
deriving DecidableEq
structure er where
 d:ct
 at_:(List hx)
 round:(List Int)
deriving DecidableEq
structure fI where
 l:(List bC)
 off:(List Int)
 total:dM
deriving DecidableEq
structure IY where
 a0:eb
 ec:eb
 a2:eb
deriving DecidableEq
structure b0 where
 c:c8
 y:bq
 e:eb
 r:cI
deriving DecidableEq
structure fa where
 cq:Int
 place:Int
deriving DecidableEq
def Yp (x:bq):bq:=(bq.mk [] [] x.b2 x.busy x.bo x.cE)
def qx (x:bq):bq:=(bq.mk [] [] [] x.busy x.bo x.cE)
def awY (x:Step):Step:=(Step.mk x.c (bq.mk [] x.y.aH x.y.b2 x.y.busy x.y.bo x.y.cE) x.e (cI.mk x.r.err [] x.r.proof x.r.dW x.r.final x.r.cZ x.r.place))
def zZ (x:Step):Step:=(Step.mk x.c x.y x.e (cI.mk x.r.err [] x.r.proof x.r.dW x.r.final x.r.cZ x.r.place))
def vz (x:Step):Step:=(Step.mk x.c (bq.mk x.y.bD x.y.aH [] x.y.busy x.y.bo x.y.cE) x.e x.r)
def He (x:Step):Step:=(Step.mk x.c x.y x.e (cI.mk x.r.err [] x.r.proof [] x.r.final x.r.cZ x.r.place))
def Hf (x:Step):Step:=(Step.mk x.c (bq.mk x.y.bD x.y.aH [] x.y.busy x.y.bo x.y.cE) x.e (cI.mk x.r.err [] x.r.proof x.r.dW x.r.final x.r.cZ x.r.place))
def z1 (x:bq):bq:=(bq.mk x.bD [] x.b2 x.busy x.bo x.cE)
def l0 (x:eb):eb:=(eb.mk x.kind x.cq x.to x.count x.dO [] [] x.order x.name [])
def Ql (x:b0):b0:=(b0.mk x.c (bq.mk [] x.y.aH x.y.b2 x.y.busy x.y.bo x.y.cE) x.e (cI.mk x.r.err [] x.r.proof x.r.dW x.r.final x.r.cZ x.r.place))
def gq (x:b0):b0:=(b0.mk x.c x.y x.e (cI.mk x.r.err [] x.r.proof x.r.dW x.r.final x.r.cZ x.r.place))
def xZ (x:b0):b0:=(b0.mk x.c (bq.mk x.y.bD x.y.aH [] x.y.busy x.y.bo x.y.cE) x.e x.r)
def zY (x:b0):b0:=(b0.mk x.c x.y x.e (cI.mk x.r.err [] x.r.proof [] x.r.final x.r.cZ x.r.place))
def Hd (x:b0):b0:=(b0.mk x.c (bq.mk x.y.bD x.y.aH [] x.y.busy x.y.bo x.y.cE) x.e (cI.mk x.r.err [] x.r.proof x.r.dW x.r.final x.r.cZ x.r.place))
variable (N:Nat)
def Am (a:List Int):Option dd:=J (dd.mk a 0)
def aDA (a:dd) (g:Int) (b:Bool):Option Int:=if b then ab (px a.n (a.l.length:Int)) λc=>ab (al a.l c) λd=>ab (sU a.n (a.l.length:Int)) λe=>aF.lt (aO .i64 (d+(aO .i64 ((aO .i64 (e))*7919)))) λf=>J f else J g
def aDB (U:Int) (a:Int) (c:Bool):Option Int:=if c then aF.lt (aO .i64 (a+U)) λb=>J b else J a
def HP (a:dd) (U:Int):Option (Int×dd):=ab (aDA a 0 (decide (0<(a.l.length:Int)))) λd=>ab (px d U) λb=>ab (aDB U b (decide (b<0))) λc=>J (c,(dd.mk a.l (aO .i64 (a.n+1))))
def D2 (U:Int):Nat->dd->(List UInt8)->Int->Option (dd×List UInt8)|0,_,_,_=>ae|n+1,d,b,a=>if decide (a<U) then ab (HP d 10) λc=>ab (al b a) λh=>ab (al b a) λi=>ab (gW (aO .u8 ((aO .i64 (48+c.1))))) λe=>aF.lt (b.set ((a:Int).toNat) e) λf=>aF.lt (aO .i64 (a+1)) λg=>D2 U n c.2 f g else J (d,b)
def RO (c:dd) (U:Int):Option (List UInt8×dd):=ab (hy 0 U) λb=>ab (D2 U N c b 0) λa=>J (a.2,a.1)
def aDC (b:List UInt8) (a:Int):Option Bool:=ab (al b a) λc=>if decide ((fy c:Int)<48) then J aa else ab (al b a) λd=>J (decide (57<(fy d:Int)))
def aBq (b:List UInt8) (U:Int):Nat->Int->Option (Sum (Unit) (Bool))|0,_=>ae|n+1,a=>if decide (a<U) then ab (aDC b a) λc=>if c then J (bt ak) else aF.lt (aO .i64 (a+1)) λd=>aBq b U n d else J (bw ())
def jO (a:List UInt8) (U:Int):Option Bool:=if (a.length:Int) !=U then J ak else ab (aBq a U N 0) λb=>match b with|bw d=>J aa|bt c=>J c
def aEC (b:Int) (d:Bool):Option Int:=if d then aF.lt (aO .i64 (b*2)) λa=>if decide (9<a) then aF.lt (aO .i64 (a - 9)) λc=>J c else J a else J b
def aAK (c:List UInt8) (U:Int):Nat->Int->Int->Option Int|0,_,_=>ae|n+1,b,a=>if decide (a<U) then ab (al c a) λd=>aF.lt (aO .i64 ((aO .u8 ((fy d:Int) - 48)))) λe=>ab (aEC e ((jB a 2)==0)) λf=>aF.lt (aO .i64 (b+f)) λg=>aF.lt (aO .i64 (a+1)) λh=>aAK c U n g h else J b
def Ic (b:List UInt8) (U:Int):Option Int:=ab (aAK b U N 0 0) λa=>J a
def HW (a:List UInt8):Option (Int×Int):=ab (jO N a 11) λb=>if !b then J (0,11) else ab (Ic N a 11) λc=>aF.lt (jB (aO .i64 (10 - (jB c 10))) 10) λd=>J (d,0)
def RP (l:dd) (U:Int):Option (List UInt8×dd):=ab (RO N l 11) λd=>ab (cD d.1 []) λa=>ab (al a 8) λm=>ab (al a 8) λn=>ab (gW (aO .u8 ((aO .i64 (48+(jB (aO .i64 (l1 U 100)) 10)))))) λg=>aF.lt (a.set ((8:Int).toNat) g) λc=>ab (al c 9) λp=>ab (al c 9) λo=>ab (gW (aO .u8 ((aO .i64 (48+(jB (aO .i64 (l1 U 10)) 10)))))) λf=>aF.lt (c.set ((9:Int).toNat) f) λb=>ab (al b 10) λr=>ab (al b 10) λq=>ab (gW (aO .u8 ((aO .i64 (48+(jB U 10)))))) λh=>aF.lt (b.set ((10:Int).toNat) h) λe=>ab (HW N e) λk=>ab (gW (aO .u8 ((aO .i64 (48+k.1))))) λj=>ab (cD e ([j]:List UInt8)) λi=>J (i,d.2)
def HQ (c:dd) (U:List Int):Option (Int×dd):=ab (HP c (U.length:Int)) λa=>ab (al U a.1) λb=>J (b,a.2)
def HO (c:dd):Option (List UInt8×dd):=ab (HP c 10) λa=>ab (al ([[97],[98],[99],[100],[101],[110,111,114,116,104],[115,111,117,116,104],[112,111,114,116,49],[120,57],[97,98,99,100,101,102,103,104,105,106,107,108]]:List (List UInt8)) a.1) λd=>ab (al ([[97],[98],[99],[100],[101],[110,111,114,116,104],[115,111,117,116,104],[112,111,114,116,49],[120,57],[97,98,99,100,101,102,103,104,105,106,107,108]]:List (List UInt8)) a.1) λb=>J (b,a.2)
def aD8 (c:Int) (a:Bool):Option Bool:=if a then J a else aF.lt (c==52) λb=>J b
def aD7 (a:bC) (b:Int):Option bC:=aF.lt (b==50) λd=>ab (aD8 b d) λc=>if c then J (bC.mk a.number a.length 2 a.gv a.lJ a.kH a.uM a.dest) else aF.lt (b==57) λe=>if e then J (bC.mk a.number (max a.length 120) 6 a.gv a.lJ a.kH a.uM a.dest) else J a
def Sa (j:dd) (U:Int):Option (bC×dd):=ab (RP N j U) λb=>ab (HQ b.2 ([80,120,142,199,262,400]:List Int)) λc=>ab (HQ c.2 ([50,120,400,800,2000]:List Int)) λd=>ab (HQ d.2 ([0,0,0,1,3,9]:List Int)) λe=>ab (HP e.2 5) λf=>ab (HO f.2) λg=>ab (al b.1 4) λi=>ab (aD7 (bC.mk b.1 c.1 4 d.1 0 e.1 (f.1==0) g.1) (fy i:Int)) λa=>ab (HP g.2 5) λh=>J ((bC.mk a.number a.length a.iL a.gv (aO .i64 (l1 (aO .i64 (a.gv*h.1)) 4)) a.kH a.uM a.dest),h.2)
def SP (a:List UInt8):Option Int:=ab (jO N a 12) λb=>if !b then J 11 else ab (Ic N a 11) λc=>ab (al a 11) λd=>if (jB (aO .i64 (c+(aO .i64 ((aO .u8 ((fy d:Int) - 48)))))) 10) !=0 then J 9 else J 0
def XO (b:Int) (a:Bool):Option Bool:=if a then J a else aF.lt (b==56) λc=>J c
def afd (b:Int) (a:Bool):Option Bool:=if a then J a else aF.lt (b==52) λc=>J c
def Ta (c:List UInt8):Option (Int×Int):=ab (SP N c) λb=>if b !=0 then J (0,b) else ab (al c 4) λa=>aF.lt ((fy a:Int)==55) λd=>ab (XO (fy a:Int) d) λg=>if g then J (1,0) else aF.lt ((fy a:Int)==50) λh=>ab (afd (fy a:Int) h) λe=>if e then J (2,0) else aF.lt ((fy a:Int)==57) λf=>if f then J (3,0) else J (0,0)
def Pb (b:List UInt8) (a:Int):Option Bool:=ab (al b a) λc=>if decide (97<=(fy c:Int)) then ab (al b a) λd=>if decide ((fy d:Int)<=122) then J (!aa) else ab (al b a) λe=>if decide (48<=(fy e:Int)) then ab (al b a) λf=>J (!(decide ((fy f:Int)<=57))) else J (!ak) else ab (al b a) λg=>if decide (48<=(fy g:Int)) then ab (al b a) λh=>J (!(decide ((fy h:Int)<=57))) else J (!ak)
def Pa (N:Nat) (b:List UInt8):Nat->Int->Option (Sum (Unit) (Bool))|0,_=>ae|n+1,a=>if decide (a<(b.length:Int)) then ab (Pb b a) λd=>if d then J (bt ak) else aF.lt (aO .i64 (a+1)) λc=>Pa N b n c else J (bw ())
def aEr (a:List UInt8):Option Bool:=if decide (1<=(a.length:Int)) then aF.lt (decide ((a.length:Int)<=12)) λb=>J b else J ak
def Tb (a:List UInt8):Option Bool:=ab (Pa N a N 0) λb=>match b with|bw e=>ab (aEr a) λd=>J d|bt c=>J c
def aDQ (e:Int) (a:Int) (b:Int):Option (Int×Int):=aF.lt (b==2) λc=>if c then J (2,a) else aF.lt (b==3) λd=>if d then J (6,120) else J (e,a)
def aDR (U:bC) (a:Int):Option Bool:=if decide (U.length<a) then J aa else if decide (400<U.length) then J aa else if decide (U.gv<50) then J aa else if decide (2000<U.gv) then J aa else if decide (U.lJ<0) then J aa else if decide (U.gv<U.lJ) then J aa else if decide (U.kH<0) then J aa else aF.lt (decide (9<U.kH)) λb=>J b
def SQ (a:bC):Option Int:=ab (Ta N a.number) λb=>if b.2 !=0 then J b.2 else ab (aDQ 4 80 b.1) λc=>aF.lt (a.iL !=c.1) λf=>if f then J 1 else ab (aDR a c.2) λg=>if g then J 2 else ab (Tb N a.dest) λd=>aF.lt (!d) λe=>if e then J 7 else J 0
def aAR (c:List bC) (b:Int):Nat->Int->Option (Sum (Unit) (Int))|0,_=>ae|n+1,a=>if decide (a<b) then ab (al c a) λd=>ab (al c b) λe=>if d.number==e.number then J (bt 8) else aF.lt (aO .i64 (a+1)) λf=>aAR c b n f else J (bw ())
def CT (b:List bC):Nat->Int->Option (Sum (Unit) (Int))|0,_=>ae|n+1,a=>if decide (a<(b.length:Int)) then ab (al b a) λd=>ab (SQ N d) λc=>if c !=0 then J (bt c) else ab (aAR b a N 0) λg=>match g with|bw h=>aF.lt (aO .i64 (a+1)) λe=>CT b n e|bt f=>J (bt f) else J (bw ())
def Hy (a:List bC):Option Int:=if decide (96<(a.length:Int)) then J 3 else ab (CT N a N 0) λb=>match b with|bw d=>J 0|bt c=>J c
def EO (b:List UInt8):Nat->Int->Int->Option Int|0,_,_=>ae|n+1,c,a=>if decide (a<(b.length:Int)) then ab (al b a) λd=>aF.lt (jB (aO .i64 (c+(aO .i64 ((jB (aO .i64 (a+1)) 65521)*(aO .i64 ((fy d:Int))))))) 65521) λe=>aF.lt (aO .i64 (a+1)) λf=>EO b n e f else J c
def Af (b:List UInt8):Option Int:=ab (EO b N 0 0) λa=>J a
def aBs (b:bC):Nat->(List UInt8)->Int->Option (List UInt8)|0,_,_=>ae|n+1,c,a=>if decide (a<12) then ab (al b.number a) λd=>ab (al b.number (aO .i64 (a+1))) λf=>ab (gW (aO .u8 ((aO .u8 ((aO .u8 ((aO .u8 ((fy d:Int) - 48))*16))+(fy f:Int))) - 48))) λg=>ab (cD c ([g]:List UInt8)) λh=>aF.lt (aO .i64 (a+2)) λe=>aBs b n h e else J c
def aDF (a:Int) (c:Bool):Option Int:=if c then aF.lt (aO .u8 (a+16)) λb=>J b else J a
def N7 (c:List bC):Nat->(List UInt8)->Int->Option (List UInt8)|0,_,_=>ae|n+1,d,b=>if decide (b<(c.length:Int)) then ab (al c b) λa=>ab (aBs a N d 0) λf=>aF.lt (aO .u8 (a.kH)) λe=>ab (aDF e a.uM) λl=>ab (gW (aO .u8 ((aO .i64 (l1 a.length 256))))) λg=>ab (gW (aO .u8 ((jB a.length 256)))) λh=>ab (gW (aO .u8 (a.iL))) λk=>ab (gW (aO .u8 ((aO .i64 (l1 a.gv 256))))) λj=>ab (gW (aO .u8 ((jB a.gv 256)))) λi=>ab (gW (aO .u8 ((aO .i64 (l1 a.lJ 256))))) λm=>ab (gW (aO .u8 ((jB a.lJ 256)))) λp=>ab (gW l) λr=>ab (gW (aO .u8 ((a.dest.length:Int)))) λs=>ab (cD f ([g,h,k,j,i,m,p,r,s]:List UInt8)) λo=>ab (cD o a.dest) λq=>aF.lt (aO .i64 (b+1)) λt=>N7 c n q t else J d
def Sz (a:List bC):Option (List UInt8×Int):=ab (Hy N a) λb=>if b !=0 then J ([],b) else ab (gW (aO .u8 ((a.length:Int)))) λe=>ab (N7 N a N ([e]:List UInt8) 0) λc=>ab (Af N c) λd=>ab (gW (aO .u8 ((aO .i64 (l1 d 256))))) λg=>ab (gW (aO .u8 ((jB d 256)))) λh=>ab (cD c ([g,h]:List UInt8)) λf=>J (f,0)
def Fo:Nat->(List bC)->Int->Option (List bC)|0,_,_=>ae|n+1,c,b=>if decide (b<3) then ab (Am ([7]:List Int)) λd=>ab (Sa N d b) λa=>ab (al [[109],[110],[109]] b) λe=>ab (cD c ([(bC.mk a.1.number a.1.length a.1.iL a.1.gv a.1.lJ a.1.kH a.1.uM e)]:List bC)) λf=>aF.lt (aO .i64 (b+1)) λg=>Fo n f g else J c
def SO:Option (c8×List eb):=ab (Fo N N [] 0) λa=>ab (Sz N a) λb=>J ((c8.mk ([(eE.mk [114] 5000),(eE.mk [97] 5000),(eE.mk [120] 5000)]:List eE) [] ([(ff.mk 100 100 0)]:List ff) 100 0),([(eb.mk 1 0 0 0 0 [] [] (b7.mk [] 0 []) [] b.1),(eb.mk 2 0 0 0 0 [] [] (b7.mk [116] 2 ([[109],[110]]:List (List UInt8))) [] []),(eb.mk 3 0 0 0 12 ([1]:List Int) [] (b7.mk [] 0 []) [] [])]:List eb))
def Db (b:List UInt8) (a:Int):Option Bool:=ab (al b a) λc=>if decide ((fy c:Int)<97) then ab (al b a) λd=>if decide ((fy d:Int)<48) then J aa else ab (al b a) λe=>J (decide (57<(fy e:Int))) else ab (al b a) λf=>if decide (122<(fy f:Int)) then ab (al b a) λg=>if decide ((fy g:Int)<48) then J aa else ab (al b a) λh=>J (decide (57<(fy h:Int))) else J ak
def Ml (c:List UInt8) (b:Int):Nat->Int->Option (Sum (Unit) (Bool))|0,_=>ae|n+1,a=>if decide (a<b) then ab (Db c a) λd=>if d then J (bt ak) else Ml c b n (aO .i64 (a+1)) else J (bw ())
def Mm (a:List UInt8):Option Bool:=if decide (1<=(a.length:Int)) then aF.lt (decide ((a.length:Int)<=12)) λb=>J b else J ak
def Hq (a:List UInt8):Option Bool:=ab (Ml a (a.length:Int) N 0) λb=>match b with|bw e=>ab (Mm a) λd=>J d|bt c=>J c
def aCL (a:Int):Option Bool:=if decide (a<0) then J aa else J (decide (1000000<a))
def Dk (b:List Int) (c:Int):Nat->Int->Option (Sum (Unit) (Bool))|0,_=>ae|n+1,a=>if decide (a<c) then ab (al b a) λf=>ab (al b a) λd=>ab (aCL d) λe=>if e then J (bt ak) else Dk b c n (aO .i64 (a+1)) else J (bw ())
def aCM (U:cR):Option Bool:=if decide (1<=U.number) then if decide (U.number<=9999) then if decide (1<=U.kind) then aF.lt (decide (U.kind<=9)) λa=>J a else J ak else J ak else J ak
def Ro (d:cR):Option Bool:=ab (Dk ([d.a,d.b,d.c]:List Int) (([d.a,d.b,d.c]:List Int).length:Int) N 0) λe=>match e with|bw h=>ab (aCM d) λg=>J g|bt f=>J f
def vB (b:cR) (U:cR):Option Bool:=aF.lt (b.number==U.number) λa=>J a
def Cw (c:List cR) (U:cR) (b:Int):Nat->Int->Option (Sum (Unit) (Int))|0,_=>ae|n+1,a=>if decide (a<b) then ab (al c a) λd=>ab (vB d U) λe=>if e then J (bt a) else Cw c U b n (aO .i64 (a+1)) else J (bw ())
def Qt (a:List cR) (U:cR):Option Int:=ab (Cw a U (a.length:Int) N 0) λb=>match b with|bw d=>J (-1)|bt c=>J c
def Qq (c:List cR) (U:cR):Option Bool:=ab (Qt N c U) λa=>aF.lt (decide (0<=a)) λb=>J b
def Np (e:List cR) (d:List cR) (c:Int):Nat->Int->Option (Sum (Unit) (Int))|0,_=>ae|n+1,a=>if decide (a<c) then ab (al d a) λb=>ab (Ro N b) λf=>if !f then J (bt 1) else ab (gi e 0 a) λg=>ab (Qq N g b) λh=>if h then J (bt 8) else Np e d c n (aO .i64 (a+1)) else J (bw ())
def Hv (a:List cR):Option Int:=if decide (32<(a.length:Int)) then J 3 else ab (Np N a a (a.length:Int) N 0) λb=>match b with|bw d=>J 0|bt c=>J c
def aEq (a:Int) (U:Int) (c:Int):Option Bool:=if decide (U<=a) then aF.lt (decide (a<=c)) λb=>J b else J ak
def H4 (c:Int) (U:Int) (b:Int):Option Bool:=ab (aEq c U b) λa=>J a
def aC9 (a:ff):Option Bool:=ab (H4 a.speed 1 200) λb=>if !b then J aa else ab (H4 a.iZ 0 500) λc=>if !c then J aa else ab (H4 a.j9 0 250) λd=>J (!d)
def XL (b:List ff) (c:Int):Nat->Int->Option (Sum (Unit) (Bool))|0,_=>ae|n+1,a=>if decide (a<c) then ab (al b a) λd=>ab (aC9 d) λe=>if e then J (bt ak) else XL b c n (aO .i64 (a+1)) else J (bw ())
def afG (a:List ff):Option Bool:=ab (XL a (a.length:Int) N 0) λd=>match d with|bw e=>aF.lt (decide ((a.length:Int)<=64)) λb=>J b|bt c=>J c
def Mw (U:c8):Option Bool:=if decide ((U.aH.length:Int)<1) then J aa else if decide (24<(U.aH.length:Int)) then J aa else if decide (U.speed<1) then J aa else if decide (200<U.speed) then J aa else if decide (U.iZ<0) then J aa else J (decide (500<U.iZ))
def Mx (d:List ((List UInt8)×Bool)) (a:eE):Option Bool:=ab (Hq N a.name) λb=>if !b then J aa else aF.lt (jv d a.name) λc=>if c.getD ak then J aa else if decide (a.length<1) then J aa else J (decide (100000<a.length))
def Dz (d:List eE) (e:Int):Nat->(List ((List UInt8)×Bool))->Int->Option (Sum (Unit) (Int))|0,_,_=>ae|n+1,c,a=>if decide (a<e) then ab (al d a) λb=>ab (Mx N c b) λf=>if f then J (bt 1) else aF.lt (o8 c b.name aa) λg=>Dz d e n g (aO .i64 (a+1)) else J (bw ())
def Hi (a:c8):Option Int:=ab (Mw a) λc=>if c then J 1 else ab (Dz N a.aH (a.aH.length:Int) N [] 0) λe=>match e with|bw g=>ab (Hv N a.rules) λb=>if b !=0 then J b else ab (afG N a.table) λd=>if !d then J 1 else J 0|bt f=>J f
def Ia (b:c8):Option (bq×Int):=ab (Hi N b) λa=>if a !=0 then J ((bq.mk [] [] [] ak (eR.mk [] (b8.mk [] 0) (e8.mk (dF.mk 0 []) []) 0 [] 0) ak),a) else ab (hy [] (b.aH.length:Int)) λc=>J ((bq.mk [] c [] ak (eR.mk [] (b8.mk [] 0) (e8.mk (dF.mk 0 []) []) 0 [] 0) ak),0)
def Hg (b:List bC):Option (List bC):=ab (cD ([]:List bC) b) λa=>J a
def qy (b:List Int):Option (List Int):=ab (cD ([]:List Int) b) λa=>J a
def QH (b:List (List UInt8)):Option (List (List UInt8)):=ab (cD ([]:List (List UInt8)) b) λa=>J a
def Rb (a:b7):Option b7:=ab (QH a.c7) λb=>J (b7.mk a.name a.cq b)
def QE (b:List c4):Option (List c4):=ab (cD ([]:List c4) b) λa=>J a
def Rc (a:e8):Option e8:=ab (qy a.e9.fW) λb=>ab (qy a.chain) λc=>J (e8.mk (dF.mk a.e9.steps b) c)
def NW (c:List (List Int)) (d:Int):Nat->bq->Int->(List (List Int))->Option (bq×List (List Int))|0,_,_,_=>ae|n+1,b,a,e=>if decide (a<d) then ab (al c a) λf=>ab (qy f) λg=>ab (cD e ([g]:List (List Int))) λh=>NW c d n (qx b) (aO .i64 (a+1)) h else J ((qx b),e)
def NX (c:List b7) (d:Int):Nat->bq->Int->(List b7)->Option (bq×List b7)|0,_,_,_=>ae|n+1,b,a,e=>if decide (a<d) then ab (al c a) λg=>ab (Rb g) λh=>ab (cD e ([h]:List b7)) λf=>NX c d n (qx b) (aO .i64 (a+1)) f else J ((qx b),e)
def Su (b:bq):Option (bq×List bC×List b7):=ab (Hg b.bD) λd=>ab (NW b.aH (b.aH.length:Int) N (qx b) 0 []) λc=>ab (NX b.b2 (b.b2.length:Int) N (qx c.1) 0 []) λa=>ab (qy a.1.bo.bD) λe=>ab (qy a.1.bo.aH) λh=>ab (QE a.1.bo.iP.items) λg=>ab (Rc a.1.bo.proof) λf=>J ((bq.mk [] c.2 [] a.1.busy (eR.mk e (b8.mk g a.1.bo.iP.dO) f a.1.bo.lead h a.1.bo.h9) a.1.cE),d,a.2)
def NN (b:Step) (U:Int):Option Bool:=if decide (0<=U) then aF.lt (decide (U<(b.c.aH.length:Int))) λa=>J a else J ak
def SI (b:Step) (U:Int):Option Bool:=ab (NN b U) λa=>J a
def DD (c:List Int) (U:Int) (b:Int):Nat->Int->Option (Sum (Unit) (Int))|0,_=>ae|n+1,a=>if decide (a<b) then ab (al c a) λd=>if U==d then J (bt a) else DD c U b n (aO .i64 (a+1)) else J (bw ())
def vA (a:List Int) (U:Int):Option Int:=ab (DD a U (a.length:Int) N 0) λb=>match b with|bw d=>J (-1)|bt c=>J c
def sy (c:List Int) (U:Int):Option Bool:=ab (vA N c U) λa=>aF.lt (decide (0<=a)) λb=>J b
def OB (b:Step) (U:Int) (a:eR):Option Bool:=if b.y.cE then J aa else if b.y.busy then if U==a.lead then J aa else ab (sy N a.aH U) λc=>J c else J ak
def x4 (a:Step) (U:Int):Option Bool:=ab (OB N a U a.y.bo) λb=>J b
def QS (b:b7) (U:Int):Option Bool:=aF.lt (b.cq==U) λa=>J a
def CI (c:List b7) (U:Int) (b:Int):Nat->Int->Option (Sum (Unit) (Int))|0,_=>ae|n+1,a=>if decide (a<b) then ab (al c a) λd=>ab (QS d U) λe=>if e then J (bt a) else CI c U b n (aO .i64 (a+1)) else J (bw ())
def Qn (a:List b7) (U:Int):Option Int:=ab (CI a U (a.length:Int) N 0) λb=>match b with|bw d=>J (-1)|bt c=>J c
def Qm (c:List b7) (U:Int):Option Bool:=ab (Qn N c U) λa=>aF.lt (decide (0<=a)) λb=>J b
def HF (b:Step) (U:Int):Option Bool:=ab (Qm N b.y.b2 U) λa=>J a
def Fp (a:List UInt8):Nat->Int->Int->Option (Sum (Int) (Int×Bool))|0,_,_=>ae|n+1,d,c=>ab (al a 0) λe=>if decide (c<(aO .i64 ((fy e:Int)))) then aF.lt (aO .i64 (d+15)) λb=>if decide ((a.length:Int)<b) then J (bt (0,ak)) else ab (al a (aO .i64 (b - 1))) λf=>aF.lt (aO .i64 (b+(aO .i64 ((fy f:Int))))) λg=>aF.lt (aO .i64 (c+1)) λh=>Fp a n g h else J (bw d)
def HJ (a:List UInt8):Option (Int×Bool):=if (a.length:Int)==0 then J (0,ak) else ab (Fp a N 1 0) λf=>match f with|bw c=>aF.lt (aO .i64 (c+2)) λd=>aF.lt (decide ((aO .i64 (c+2))<=(a.length:Int))) λe=>J (d,e)|bt b=>J (b.1,b.2)
def SF (a:kX):Option (Int×kX):=ab (al a.b (aO .i64 ((aO .i64 (a.at_+1)) - 1))) λc=>aF.lt (aO .i64 ((fy c:Int))) λd=>J (d,(kX.mk a.b (aO .i64 (a.at_+1))))
def SG (d:kX):Option (Int×kX):=ab (SF d) λa=>ab (SF a.2) λb=>aF.lt (ih .or .i64 (aO .i64 (a.1*256)) b.1) λc=>J (c,b.2)
def CO (d:List UInt8) (c:Int):Nat->Int->Int->Option Int|0,_,_=>ae|n+1,b,a=>if decide (a<c) then ab (al d a) λe=>aF.lt (fy e:Int) λf=>aF.lt (jB (aO .i64 (b+(aO .i64 ((jB (aO .i64 (a+1)) 65521)*(aO .i64 f))))) 65521) λg=>CO d c n g (aO .i64 (a+1)) else J b
def Rs (a:List UInt8):Option Int:=ab (CO a (a.length:Int) N 0 0) λb=>J b
def M9 (c:Bool) (a:Int):Option Bool:=if c then if decide ((sE a 16)<=9) then aF.lt (decide ((ih .and .i64 a 15)<=9)) λb=>J b else J ak else J ak
def D5:Nat->kX->(List UInt8)->Bool->Int->Option (kX×List UInt8×Bool)|0,_,_,_,_=>ae|n+1,e,b,d,c=>if decide (c<12) then ab (SF e) λa=>ab (M9 d a.1) λf=>ab (gW (aO .u8 ((aO .i64 (48+(sE a.1 16)))))) λg=>ab (gW (aO .u8 ((aO .i64 (48+(ih .and .i64 a.1 15)))))) λh=>ab (cD b ([g,h]:List UInt8)) λi=>aF.lt (aO .i64 (c+2)) λj=>D5 n a.2 i f j else J (e,b,d)
def Na (c:bC) (b:Bool) (a:Int):Option Bool:=if b then if decide (a<=25) then aF.lt (decide (c.kH<=9)) λd=>J d else J ak else J ak
def RT (k:kX):Option (bC×Bool×kX):=ab (D5 N k [] aa 0) λd=>ab (SG d.1) λf=>ab (SF f.2) λe=>ab (SG e.2) λh=>ab (SG h.2) λg=>ab (SF g.2) λc=>ab (Na (bC.mk d.2.1 f.1 e.1 h.1 g.1 (jB c.1 16) (decide (16<=c.1)) []) d.2.2 c.1) λj=>ab (SF c.2) λa=>ab (gi a.2.b a.2.at_ (aO .i64 (a.2.at_+a.1))) λi=>J ((bC.mk d.2.1 f.1 e.1 h.1 g.1 (jB c.1 16) (decide (16<=c.1)) i),j,(kX.mk a.2.b (aO .i64 (a.2.at_+a.1))))
def LZ (b:List UInt8) (a:Int):Option Bool:=ab (al b a) λc=>if decide ((fy c:Int)<48) then J aa else ab (al b a) λd=>J (decide (57<(fy d:Int)))
def DI (b:List UInt8):Nat->Int->Option (Sum (Unit) (Bool))|0,_=>ae|n+1,a=>if decide (a<(b.length:Int)) then ab (LZ b a) λc=>if c then J (bt ak) else aF.lt (aO .i64 (a+1)) λd=>DI b n d else J (bw ())
def QX (a:List UInt8) (U:Int):Option Bool:=ab (DI a N 0) λc=>match c with|bw e=>aF.lt ((a.length:Int)==U) λd=>J d|bt b=>J b
def aCF (b:Int) (d:Bool):Option Int:=if d then aF.lt (aO .i64 (b*2)) λa=>if decide (9<a) then aF.lt (aO .i64 (a - 9)) λc=>J c else J a else J b
def aA5 (b:List UInt8):Nat->Int->Int->Option Int|0,_,_=>ae|n+1,c,a=>if decide (a<(b.length:Int)) then ab (al b a) λd=>aF.lt (aO .i64 ((aO .u8 ((fy d:Int) - 48)))) λe=>ab (aCF e ((jB a 2)==0)) λf=>aF.lt (aO .i64 (c+f)) λg=>aF.lt (aO .i64 (a+1)) λh=>aA5 b n g h else J c
def Ri (b:List UInt8):Option Int:=ab (aA5 b N 0 0) λa=>J a
def Q3 (c:List UInt8):Option Int:=ab (Ri N c) λa=>aF.lt (jB (aO .i64 (10 - (jB a 10))) 10) λb=>J b
def Q2 (a:List UInt8):Option Int:=ab (QX N a 12) λb=>if !b then J 11 else ab (al a 11) λc=>ab (gi a 0 11) λd=>ab (Q3 N d) λe=>if (aO .i64 ((aO .u8 ((fy c:Int) - 48)))) !=e then J 9 else J 0
def C1 (b:Int) (a:Bool):Option Bool:=if a then J a else aF.lt (b==56) λc=>J c
def aDb (b:Int) (a:Bool):Option Bool:=if a then J a else aF.lt (b==52) λc=>J c
def Q9 (c:List UInt8):Option (Int×Int):=ab (Q2 N c) λb=>if b !=0 then J (0,b) else ab (al c 4) λa=>aF.lt ((fy a:Int)==55) λd=>ab (C1 (fy a:Int) d) λg=>if g then J (1,0) else aF.lt ((fy a:Int)==50) λh=>ab (aDb (fy a:Int) h) λe=>if e then J (2,0) else aF.lt ((fy a:Int)==57) λf=>if f then J (3,0) else J (0,0)
def Hx (a:Int):Option Int:=aF.lt (a==2) λb=>if b then J 2 else aF.lt (a==3) λc=>if c then J 6 else J 4
def aCA (a:Int):Option Bool:=if decide (a<97) then if decide (a<48) then J aa else J (decide (57<a)) else if decide (122<a) then if decide (a<48) then J aa else J (decide (57<a)) else J ak
def aBT (b:List UInt8):Nat->Int->Option (Sum (Unit) (Bool))|0,_=>ae|n+1,a=>if decide (a<(b.length:Int)) then ab (al b a) λc=>aF.lt (fy c:Int) λd=>ab (aCA d) λe=>if e then J (bt ak) else aF.lt (aO .i64 (a+1)) λf=>aBT b n f else J (bw ())
def aCB (a:List UInt8):Option Bool:=if decide (0<(a.length:Int)) then aF.lt (decide ((a.length:Int)<=12)) λb=>J b else J ak
def RR (a:List UInt8):Option Bool:=ab (aBT a N 0) λd=>match d with|bw e=>ab (aCB a) λb=>J b|bt c=>J c
def CR (a:Int) (b:Bool):Option Int:=if b then J 120 else J a
def aCQ (U:bC) (a:Int):Option Bool:=if decide (U.length<a) then J aa else if decide (400<U.length) then J aa else if decide (U.gv<50) then J aa else aF.lt (decide (2000<U.gv)) λb=>J b
def aCR (U:bC):Option Bool:=if decide (U.lJ<0) then J aa else if decide (U.gv<U.lJ) then J aa else if decide (U.kH<0) then J aa else aF.lt (decide (9<U.kH)) λa=>J a
def Ru (a:bC):Option Int:=ab (Q9 N a.number) λb=>if b.2 !=0 then J b.2 else ab (CR 80 (b.1==3)) λc=>ab (Hx b.1) λd=>aF.lt (a.iL !=d) λe=>if e then J 1 else ab (aCQ a c) λi=>if i then J 2 else ab (aCR a) λg=>if g then J 2 else ab (RR N a.dest) λh=>aF.lt (!h) λf=>if f then J 7 else J 0
def Nw (c:List bC) (e:Int):Nat->(List ((List UInt8)×Bool))->Int->Option (Sum (Unit) (Int))|0,_,_=>ae|n+1,f,b=>if decide (b<e) then ab (al c b) λa=>ab (Ru N a) λd=>if d !=0 then J (bt d) else aF.lt (jv f a.number) λg=>if g.getD ak then J (bt 8) else aF.lt (o8 f a.number aa) λh=>Nw c e n h (aO .i64 (b+1)) else J (bw ())
def Rv (a:List bC):Option Int:=if decide (96<(a.length:Int)) then J 3 else ab (Nw N a (a.length:Int) N [] 0) λb=>match b with|bw d=>J 0|bt c=>J c
def aCH (b:Bool) (a:Bool):Option Bool:=if b then J a else J ak
def aA6 (e:List UInt8):Nat->kX->(List bC)->Bool->Int->Option (List bC×Bool)|0,_,_,_,_=>ae|n+1,f,c,d,b=>ab (al e 0) λi=>if decide (b<(aO .i64 ((fy i:Int)))) then ab (RT N f) λa=>ab (aCH d a.2.1) λh=>ab (cD c ([a.1]:List bC)) λg=>aF.lt (aO .i64 (b+1)) λj=>aA6 e n a.2.2 g h j else J (c,d)
def Rk (a:List UInt8):Option (List bC×Int):=ab (HJ N a) λc=>aF.lt (!c.2) λg=>if g then J ([],10) else aF.lt (decide (c.1<(a.length:Int))) λh=>if h then J ([],11) else ab (SG (kX.mk a (aO .i64 (c.1 - 2)))) λe=>ab (gi a 0 (aO .i64 (c.1 - 2))) λi=>ab (Rs N i) λj=>if e.1 !=j then J ([],9) else ab (aA6 N a N (kX.mk e.2.b 1) [] aa 0) λd=>if !d.2 then J ([],11) else ab (Rv N d.1) λf=>if f !=0 then J ([],f) else J (d.1,0)
def QU (b:bC) (U:(List UInt8)):Option Bool:=aF.lt (b.number==U) λa=>J a
def CJ (c:List bC) (U:(List UInt8)) (b:Int):Nat->Int->Option (Sum (Unit) (Int))|0,_=>ae|n+1,a=>if decide (a<b) then ab (al c a) λd=>ab (QU d U) λe=>if e then J (bt a) else CJ c U b n (aO .i64 (a+1)) else J (bw ())
def Qp (a:List bC) (U:(List UInt8)):Option Int:=ab (CJ a U (a.length:Int) N 0) λb=>match b with|bw d=>J (-1)|bt c=>J c
def Qo (c:List bC) (U:(List UInt8)):Option Bool:=ab (Qp N c U) λa=>aF.lt (decide (0<=a)) λb=>J b
def Nj (U:List Int) (b:List Int) (d:Int):Nat->Int->Int->Option Int|0,_,_=>ae|n+1,c,a=>if decide (a<d) then ab (al b a) λe=>ab (al U e) λf=>aF.lt (aO .i64 (c - f)) λg=>Nj U b d n g (aO .i64 (a+1)) else J c
def Rl (c:eE) (U:List Int) (a:List Int):Option Int:=ab (Nj U a (a.length:Int) N c.length 0) λb=>J b
def aDd (b:List eE) (U:List Int) (a:List (List Int)):Option Bool:=if (a.length:Int) !=(b.length:Int) then J aa else if decide (24<(a.length:Int)) then J aa else J (decide (192<(U.length:Int)))
def aDe (a:Int):Option Bool:=if decide (a<1) then J aa else J (decide (400<a))
def aAZ (b:List Int) (c:Int):Nat->Int->Option (Sum (Unit) (Bool))|0,_=>ae|n+1,a=>if decide (a<c) then ab (al b a) λd=>ab (aDe d) λe=>if e then J (bt ak) else aAZ b c n (aO .i64 (a+1)) else J (bw ())
def aDf (U:List Int) (b:List Bool) (a:Int):Option Bool:=if decide (a<0) then J aa else if decide ((U.length:Int)<=a) then J aa else ab (al b a) λd=>ab (al b a) λc=>J c
def aA1 (U:List Int) (e:List Int) (d:Int):Nat->(List Bool)->Int->Option (Sum (List Bool) (Bool))|0,_,_=>ae|n+1,a,c=>if decide (c<d) then ab (al e c) λb=>ab (aDf U a b) λg=>if g then J (bt ak) else ab (al a b) λi=>ab (al a b) λh=>aF.lt (a.set ((b:Int).toNat) aa) λf=>aA1 U e d n f (aO .i64 (c+1)) else J (bw a)
def aDg (b:List eE) (U:List Int) (a:Int) (c:List Int):Option Bool:=ab (al b a) λd=>if decide (d.length<0) then J aa else ab (al b a) λe=>if decide (100000<e.length) then J aa else ab (al b a) λf=>ab (Rl N f U c) λg=>J (decide (g<0))
def aA0 (e:List eE) (U:List Int) (c:List (List Int)) (d:Int):Nat->(List Bool)->Int->Option (Sum (Unit) (Bool))|0,_,_=>ae|n+1,f,a=>if decide (a<d) then ab (al c a) λb=>ab (aA1 U b (b.length:Int) N f 0) λh=>match h with|bw g=>ab (aDg N e U a b) λj=>if j then J (bt ak) else aA0 e U c d n g (aO .i64 (a+1))|bt i=>J (bt i) else J (bw ())
def Ho (b:List eE) (U:List Int) (a:List (List Int)):Option Bool:=ab (aDd b U a) λc=>if c then J ak else ab (aAZ U (U.length:Int) N 0) λd=>match d with|bw i=>(ab (hy ak (U.length:Int)) λe=>ab (aA0 N b U a (a.length:Int) N e 0) λf=>match f with|bw j=>J aa|bt g=>J g)|bt h=>J h
def CZ (d:List (List Int)) (c:Int):Nat->(List (List Int))->Int->Option (List (List Int))|0,_,_=>ae|n+1,b,a=>if decide (a<c) then ab (al d a) λe=>ab (qy e) λf=>ab (cD b (([[]]:List (List Int)).set ((0:Int).toNat) f)) λg=>CZ d c n g (aO .i64 (a+1)) else J b
def Hm (a:List (List Int)):Option (List (List Int)):=ab (CZ a (a.length:Int) N ([]:List (List Int)) 0) λb=>J b
def aA2 (U:Int) (d:List (List Int)) (b:Int):Nat->Int->Option (Sum (Unit) (Int×Int))|0,_=>ae|n+1,a=>if decide (a<b) then ab (al d a) λe=>ab (vA N e U) λc=>if decide (0<=c) then J (bt (a,c)) else aA2 U d b n (aO .i64 (a+1)) else J (bw ())
def z7 (b:List (List Int)) (U:Int):Option (Int×Int):=ab (aA2 N U b (b.length:Int) N 0) λc=>match c with|bw d=>J ((-1),(-1))|bt a=>J (a.1,a.2)
def DJ (U:List Int) (b:List (List Int)) (a:cn):Option Bool:=if decide (a.hX<0) then J aa else if decide ((U.length:Int)<=a.hX) then J aa else if decide (a.from_<(-1)) then J aa else if decide ((b.length:Int)<=a.from_) then J aa else if decide (a.to<(-1)) then J aa else J (decide ((b.length:Int)<=a.to))
def L0 (a:cn) (b:Int):Option Bool:=if b !=a.from_ then J aa else if a.from_==(-1) then J (a.to==(-1)) else J ak
def aC5 (g:List eE) (U:List Int) (b:List (List Int)) (a:cn):Option (List (List Int)×Bool):=if decide (0<=a.to) then if a.to !=a.from_ then ab (al g a.to) λd=>ab (al b a.to) λh=>ab (al b a.to) λc=>ab (Rl N d U c) λf=>ab (al U a.hX) λe=>J ((b.set ((a.to:Int).toNat) c),(decide (f<e))) else J (b,ak) else J (b,ak)
def aC6 (b:List (List Int)) (a:Int) (c:Int) (f:Bool):Option (List (List Int)):=if f then ab (al b a) λg=>ab (al b a) λe=>ab (AY e c (aO .i64 (c+1))) λd=>ab (al b a) λh=>if a=a then ab (al b a) λi=>J (b.set ((a:Int).toNat) d) else ae else J b
def aC8 (a:cn):Option Bool:=if decide (0<=a.to) then J a.front else J ak
def aC7 (b:List (List Int)) (a:cn):Option (List (List Int)):=ab (aC8 a) λc=>if c then ab (al b a.to) λg=>ab (al b a.to) λh=>ae else aF.lt (decide (0<=a.to)) λe=>if e then ab (al b a.to) λj=>ab (al b a.to) λf=>ab (cD f ([a.hX]:List Int)) λd=>ab (al b a.to) λi=>if a.to=a.to then ab (al b a.to) λk=>J (b.set ((a.to:Int).toNat) d) else ae else J b
def QZ (i:List eE) (U:List Int) (a:List (List Int)) (b:cn):Option (Int×List (List Int)):=ab (DJ U a b) λe=>if e then J (2,a) else ab (z7 N (rz (λ(z:List Int)=>z) a) b.hX) λc=>ab (L0 b c.1) λf=>if f then J (17,a) else ab (aC5 N i U a b) λd=>if d.2 then J (14,d.1) else ab (aC6 d.1 c.1 c.2 (decide (0<=c.1))) λg=>ab (aC7 g b) λh=>J (0,h)
def aAQ (f:List eE) (U:List Int) (d:List cn) (e:Int):Nat->(List (List Int))->Int->Option (Sum (List (List Int)) (Int×Int))|0,_,_=>ae|n+1,c,a=>if decide (a<e) then ab (al d a) λg=>ab (QZ N f U c g) λb=>if b.1 !=0 then J (bt (a,b.1)) else aAQ f U d e n b.2 (aO .i64 (a+1)) else J (bw c)
def Rw (d:List eE) (U:List Int) (b:List (List Int)) (a:List cn):Option (List (List Int)×Int×Int):=ab (Ho N d U b) λe=>if !e then J ([],0,1) else ab (Hm N b) λf=>ab (aAQ N d U a (a.length:Int) N f 0) λg=>match g with|bw h=>aF.lt (a.length:Int) λi=>J ((rz (λ(z:List Int)=>z) h),i,0)|bt c=>J ([],c.1,c.2)
def aCb (c:List bC) (d:Int):Nat->(List Int)->Int->Option (List Int)|0,_,_=>ae|n+1,b,a=>if decide (a<d) then ab (al c a) λe=>ab (cD b ([e.length]:List Int)) λf=>aCb c d n f (aO .i64 (a+1)) else J b
def R3 (a:Step) (U:List cn) (f:List cn):Option (Int×Step):=ab (aCb a.y.bD (a.y.bD.length:Int) N [] 0) λd=>ab (Rw N a.c.aH d a.y.aH U) λb=>if b.2.2 !=0 then J (b.2.2,(Step.mk a.c a.y a.e (cI.mk a.r.err f a.r.proof a.r.dW a.r.final a.r.cZ a.r.place))) else J (0,(Step.mk a.c (bq.mk a.y.bD b.1 a.y.b2 a.y.busy a.y.bo a.y.cE) a.e (cI.mk a.r.err U a.r.proof a.r.dW a.r.final a.r.cZ a.r.place)))
def Em (c:List bC) (e:List Int) (f:Int) (a:List bC):Nat->Int->Option (Sum (Unit) (Int))|0,_=>ae|n+1,b=>if decide (b<f) then ab (al e b) λd=>ab (al a d) λi=>ab (al a d) λh=>ab (Qo N c h.number) λg=>if g then J (bt 8) else Em c e f a n (aO .i64 (b+1)) else J (bw ())
def CV (b:List bC) (f:List (List Int)) (e:Int) (d:List bC):Nat->Int->Option (Sum (Unit) (Int))|0,_=>ae|n+1,a=>if decide (a<e) then ab (al f a) λc=>ab (Em N b c (c.length:Int) d N 0) λh=>match h with|bw i=>CV b f e d n (aO .i64 (a+1))|bt g=>J (bt g) else J (bw ())
def aAS (d:Int) (b:Int) (e:Int):Nat->(List cn)->Int->Option (List cn)|0,_,_=>ae|n+1,c,a=>if decide (a<e) then ab (cD c ([(cn.mk (aO .i64 (b+a)) (-1) d ak)]:List cn)) λf=>aAS d b e n f (aO .i64 (a+1)) else J c
def x1 (a:Step) (b:List bC) (d:List cn):Option (Int×Step):=ab (SI (Step.mk a.c (bq.mk b a.y.aH a.y.b2 a.y.busy a.y.bo a.y.cE) a.e (cI.mk a.r.err d a.r.proof a.r.dW a.r.final a.r.cZ a.r.place)) a.e.cq) λi=>aF.lt (!i) λj=>if j then J (2,(Step.mk a.c (bq.mk b a.y.aH a.y.b2 a.y.busy a.y.bo a.y.cE) a.e (cI.mk a.r.err d a.r.proof a.r.dW a.r.final a.r.cZ a.r.place))) else ab (x4 N (Step.mk a.c (bq.mk b a.y.aH a.y.b2 a.y.busy a.y.bo a.y.cE) a.e (cI.mk a.r.err d a.r.proof a.r.dW a.r.final a.r.cZ a.r.place)) a.e.cq) λk=>if k then J (25,(Step.mk a.c (bq.mk b a.y.aH a.y.b2 a.y.busy a.y.bo a.y.cE) a.e (cI.mk a.r.err d a.r.proof a.r.dW a.r.final a.r.cZ a.r.place))) else ab (HF N (Step.mk a.c (bq.mk b a.y.aH a.y.b2 a.y.busy a.y.bo a.y.cE) a.e (cI.mk a.r.err d a.r.proof a.r.dW a.r.final a.r.cZ a.r.place)) a.e.cq) λl=>if l then J (17,(Step.mk a.c (bq.mk b a.y.aH a.y.b2 a.y.busy a.y.bo a.y.cE) a.e (cI.mk a.r.err d a.r.proof a.r.dW a.r.final a.r.cZ a.r.place))) else ab (Rk N a.e.data) λf=>if f.2 !=0 then J (f.2,(Step.mk a.c (bq.mk b a.y.aH a.y.b2 a.y.busy a.y.bo a.y.cE) a.e (cI.mk a.r.err d a.r.proof a.r.dW a.r.final a.r.cZ a.r.place))) else ab (CV N f.1 a.y.aH (a.y.aH.length:Int) b N 0) λm=>match m with|bw q=>aF.lt (b.length:Int) λg=>if decide (192<(aO .i64 (g+(f.1.length:Int)))) then J (3,(Step.mk a.c (bq.mk b a.y.aH a.y.b2 a.y.busy a.y.bo a.y.cE) a.e (cI.mk a.r.err d a.r.proof a.r.dW a.r.final a.r.cZ a.r.place))) else ab (cD b f.1) λn=>ab (aAS a.e.cq g (f.1.length:Int) N [] 0) λo=>ab (R3 N (Step.mk a.c (bq.mk n a.y.aH a.y.b2 a.y.busy a.y.bo a.y.cE) a.e (cI.mk a.r.err [] a.r.proof a.r.dW a.r.final a.r.cZ a.r.place)) o d) λh=>J (h.1,h.2)|bt p=>J (p,(Step.mk a.c (bq.mk b a.y.aH a.y.b2 a.y.busy a.y.bo a.y.cE) a.e (cI.mk a.r.err d a.r.proof a.r.dW a.r.final a.r.cZ a.r.place)))
def Dx (c:List (List UInt8)) (U:List UInt8) (b:Int):Nat->Int->Option (Sum (Unit) (Int))|0,_=>ae|n+1,a=>if decide (a<b) then ab (al c a) λd=>if U==d then J (bt a) else Dx c U b n (aO .i64 (a+1)) else J (bw ())
def z6 (a:List (List UInt8)) (U:List UInt8):Option Int:=ab (Dx a U (a.length:Int) N 0) λb=>match b with|bw d=>J (-1)|bt c=>J c
def Hh (c:List (List UInt8)) (U:List UInt8):Option Bool:=ab (z6 N c U) λa=>aF.lt (decide (0<=a)) λb=>J b
def Mz (c:c8) (a:b7):Option Bool:=ab (Hq N a.name) λb=>if !b then J aa else if decide (a.cq<0) then J aa else if decide ((c.aH.length:Int)<=a.cq) then J aa else if decide ((a.c7.length:Int)<1) then J aa else J (decide (16<(a.c7.length:Int)))
def MA (d:b7) (c:Int) (a:List UInt8):Option Bool:=ab (Hq N a) λb=>if !b then J aa else ab (gi d.c7 0 c) λe=>ab (Hh N e a) λf=>J f
def DC (b:b7) (c:List (List UInt8)) (d:Int):Nat->Int->Option (Sum (Unit) (Bool))|0,_=>ae|n+1,a=>if decide (a<d) then ab (al c a) λe=>ab (MA N b a e) λf=>if f then J (bt ak) else DC b c d n (aO .i64 (a+1)) else J (bw ())
def Hj (d:c8) (U:b7):Option Bool:=ab (Mz N d U) λa=>if a then J ak else ab (DC N U U.c7 (U.c7.length:Int) N 0) λc=>match c with|bw e=>J aa|bt b=>J b
def QY (b:List UInt8) (U:b7):Option Bool:=ab (Hh N U.c7 b) λa=>J a
def Cy (c:List (List UInt8)) (U:b7) (b:Int):Nat->Int->Option (Sum (Unit) (Int))|0,_=>ae|n+1,a=>if decide (a<b) then ab (al c a) λd=>ab (QY N d U) λe=>if e then J (bt a) else Cy c U b n (aO .i64 (a+1)) else J (bw ())
def Qv (a:List (List UInt8)) (U:b7):Option Int:=ab (Cy N a U (a.length:Int) N 0) λb=>match b with|bw d=>J (-1)|bt c=>J c
def Qs (c:List (List UInt8)) (U:b7):Option Bool:=ab (Qv N c U) λa=>aF.lt (decide (0<=a)) λb=>J b
def DM (b:b7) (a:b7) (c:Bool):Option Bool:=if c then J aa else if a.name==b.name then J aa else J (a.cq==b.cq)
def El (b:b7) (c:List b7) (e:Int):Nat->Int->Option (Sum (Unit) (Int))|0,_=>ae|n+1,a=>if decide (a<e) then ab (al c a) λh=>ab (al c a) λd=>ab (Qs N b.c7 d) λf=>ab (DM b d f) λg=>if g then J (bt 8) else El b c e n (aO .i64 (a+1)) else J (bw ())
def R2 (a:Step) (b:List b7):Option (Int×List b7×Step):=if a.y.busy then J (25,b,(vz a)) else ab (Hj N a.c a.e.order) λd=>if !d then J (1,b,(vz a)) else ab (El N a.e.order b (b.length:Int) N 0) λi=>match i with|bw k=>if (b.length:Int)==8 then J (18,b,(vz a)) else ab (al a.y.aH a.e.order.cq) λg=>if decide (0<(g.length:Int)) then J (17,b,(vz a)) else ab (Rb a.e.order) λh=>ab (cD b ([h]:List b7)) λf=>J (0,f,(vz a))|bt j=>J (j,b,(vz a))
def aBY (d:Step) (b:List Int) (c:Int):Nat->Int->Option (Sum (Unit) (Int))|0,_=>ae|n+1,a=>if decide (a<c) then ab (al b a) λg=>ab (al b a) λe=>ab (SI d e) λf=>if !f then J (bt 2) else aBY d b c n (aO .i64 (a+1)) else J (bw ())
def aD1 (a:Step):Option Bool:=if decide (a.e.dO<0) then J aa else J (decide (12<a.e.dO))
def R1 (a:Step):Option Int:=ab (cD ([a.e.cq]:List Int) a.e.aH) λb=>ab (aBY a b (b.length:Int) N 0) λd=>match d with|bw g=>ab (aD1 a) λf=>if f then J 2 else J 0|bt c=>J c
def aAx (b:Step) (g:Int) (a:Int):Option Bool:=if a==b.e.cq then J aa else ab (HF N b a) λc=>if c then J aa else ab (gi b.e.aH 0 g) λd=>ab (sy N d a) λf=>J f
def aAi (d:Step) (c:List Int) (b:Int):Nat->Int->Option (Sum (Unit) (Int))|0,_=>ae|n+1,a=>if decide (a<b) then ab (al c a) λe=>ab (aAx N d a e) λf=>if f then J (bt 17) else aAi d c b n (aO .i64 (a+1)) else J (bw ())
def tS (a:Step):Option Int:=ab (aAi N a a.e.aH (a.e.aH.length:Int) N 0) λd=>match d with|bw f=>ab (HF N a a.e.cq) λb=>if b then J 17 else J 0|bt c=>J c
def DR (U:Int) (e:bq) (c:List b7) (b:Int):Nat->Int->Option (Sum (Unit) (Int×Int))|0,_=>ae|n+1,a=>if decide (a<b) then ab (al c a) λf=>ab (al e.bD U) λg=>ab (z6 N f.c7 g.dest) λd=>if decide (0<=d) then J (bt (a,d)) else DR U e c b n (aO .i64 (a+1)) else J (bw ())
def R6 (a:bq) (U:Int):Option (Int×Int):=ab (DR N U a a.b2 (a.b2.length:Int) N 0) λc=>match c with|bw d=>J ((-1),(-1))|bt b=>J (b.1,b.2)
def tT (b:bq) (U:Int):Option (c4×Bool):=ab (R6 N b U) λa=>ab (al b.bD U) λc=>aF.lt (decide (0<=a.1)) λd=>J ((c4.mk a.1 a.2 0 c.length),d)
def F0 (a:Int) (U:Int) (c:Int):Option Bool:=if decide (U<=a) then aF.lt (decide (a<=c)) λb=>J b else J ak
def Tm (c:Int) (U:Int) (b:Int):Option Bool:=ab (F0 c U b) λa=>J a
def aDO (a:c4):Option Bool:=ab (Tm a.dS 0 15) λb=>if !b then J aa else ab (Tm a.block 0 31) λc=>if !c then J aa else ab (Tm a.round 0 12) λd=>if !d then J aa else ab (Tm a.length 1 400) λe=>J (!e)
def aDP (U:b8) (a:Int) (b:c4):Option Bool:=if decide (0<a) then ab (al U.items (aO .i64 (a - 1))) λc=>J (decide (b.round<c.round)) else J ak
def Fm (U:b8) (c:List c4) (d:Int):Nat->Int->Option (Sum (Unit) (Int))|0,_=>ae|n+1,a=>if decide (a<d) then ab (al c a) λb=>ab (aDO b) λf=>if f then J (bt 2) else ab (aDP U a b) λe=>if e then J (bt 12) else Fm U c d n (aO .i64 (a+1)) else J (bw ())
def SN (a:b8):Option Int:=if decide (96<(a.items.length:Int)) then J 3 else ab (Tm a.dO 0 12) λb=>if !b then J 2 else ab (Fm a a.items (a.items.length:Int) N 0) λc=>match c with|bw e=>J 0|bt d=>J d
def MC (b:c4) (a:c4):Option Bool:=if b.dS !=a.dS then J aa else aF.lt (decide (a.block<=b.block)) λc=>J c
def MB (U:b8) (c:List (List Int)) (a:Int) (b:Int):Option (List (List Int)):=ab (al U.items a) λh=>ab (al U.items b) λg=>ab (MC h g) λf=>if f then J c else aF.lt (decide (b<a)) λj=>if j then ab (al c a) λo=>ab (al c a) λd=>ab (al d b) λl=>ab (al d b) λn=>aF.lt (d.set ((b:Int).toNat) 2) λi=>J (c.set ((a:Int).toNat) i) else ab (al c a) λm=>ab (al c a) λe=>ab (al e b) λp=>ab (al e b) λq=>aF.lt (e.set ((b:Int).toNat) 1) λk=>J (c.set ((a:Int).toNat) k)
def DF (U:b8) (c:Int) (d:Int):Nat->(List (List Int))->Int->Option (List (List Int))|0,_,_=>ae|n+1,b,a=>if decide (a<d) then ab (MB U b c a) λe=>DF U c d n e (aO .i64 (a+1)) else J b
def DE (U:b8) (d:Int):Nat->(List (List Int))->Int->Option (List (List Int))|0,_,_=>ae|n+1,b,a=>if decide (a<d) then ab (hy 0 (U.items.length:Int)) λc=>ab (al b a) λg=>ab (al b a) λh=>ab (al (b.set ((a:Int).toNat) c) a) λi=>ab (al (b.set ((a:Int).toNat) c) a) λe=>ab (DF U a (e.length:Int) N ((b.set ((a:Int).toNat) c).set ((a:Int).toNat) e) 0) λf=>DE U d n f (aO .i64 (a+1)) else J b
def Hk (b:b8):Option (List (List Int)):=ab (hy ([]:List Int) (b.items.length:Int)) λa=>ab (DE N b (a.length:Int) N a 0) λc=>J c
def aEB (a:Int) (U:Int) (c:Int):Option Bool:=if decide (U<=a) then aF.lt (decide (a<=c)) λb=>J b else J ak
def Ib (c:Int) (U:Int) (b:Int):Option Bool:=ab (aEB c U b) λa=>J a
def NP (c:Int) (U:Int):Option Bool:=ab (Ib c 0 12) λa=>if a then ab (Ib U 0 12) λb=>J b else J ak
def vE (b:Int) (U:Int):Option Bool:=ab (NP b U) λa=>J a
def Sc (c:Int):Option Int:=ab (j2 .i64 c) λa=>aF.lt (aO .i64 ((aO .i64 (1*((2 ^ a:Nat):Int))) - 1)) λb=>J b
def Fk:Nat->Int->Int->Option Int|0,_,_=>ae|n+1,a,b=>if a !=0 then aF.lt (aO .i64 (b+1)) λc=>aF.lt (ih .and .i64 a (aO .i64 (a - 1))) λd=>Fk n d c else J b
def SJ (b:Int):Option Int:=ab (Fk N b 0) λa=>J a
def Fj (c:Int) (U:Int) (b:Int):Option Bool:=ab (vE U b) λa=>if !a then J aa else J (decide (c<0))
def aAr (g:Int) (U:Int) (c:Int) (a:Int) (f:Bool):Option Int:=if f then ab (j2 .i64 U) λb=>ab (j2 .i64 U) λd=>aF.lt (sE (aO .i64 ((aO .i64 ((aO .i64 (g - a))+(aO .i64 (1*((2 ^ b:Nat):Int))))) - 1)) ((2 ^ d:Nat):Int)) λe=>J e else J c
def aAj (b:Int):Nat->Int->Option (Sum (Int) (Int×Int))|0,_=>ae|n+1,a=>ab (SJ N a) λd=>if decide (b<d) then aF.lt (aO .i64 (a+(ih .and .i64 a (aO .i64 (0 - a))))) λc=>if decide (4096<=c) then J (bt (0,15)) else aAj b n c else J (bw a)
def HV (a:Int) (U:Int) (c:Int):Option (Int×Int):=ab (Fj a U c) λf=>if f then J (0,2) else if decide (4096<=a) then J (0,15) else ab (Sc U) λb=>ab (aAr a U 0 b (decide (b<a))) λh=>ab (aAj N c N h) λg=>match g with|bw k=>ab (j2 .i64 U) λj=>ab (Sc U) λi=>aF.lt (ih .or .i64 (aO .i64 (k*((2 ^ j:Nat):Int))) i) λd=>if decide (d<4096) then J (d,0) else J (0,15)|bt e=>J (e.1,e.2)
def Mg (c:Int):Nat->(List Int)->Int->Option (List Int)|0,_,_=>ae|n+1,b,a=>if decide (a<c) then ab (al b a) λe=>ab (al b a) λf=>aF.lt (b.set ((a:Int).toNat) a) λd=>Mg c n d (aO .i64 (a+1)) else J b
def C4 (U:List (List Int)) (b:List Int) (d:List Int) (a:Int) (c:Int):Option (List Int):=ab (al U c) λh=>ab (al h a) λe=>if decide (0<e) then ab (al b a) λj=>ab (al b a) λf=>ab (al d c) λl=>ab (al d c) λg=>ab (al b a) λk=>ab (al b a) λm=>aF.lt (b.set ((a:Int).toNat) (max f (aO .i64 ((aO .i64 (g+e)) - 1)))) λi=>J i else J b
def Mh (U:List (List Int)) (c:List Int) (b:Int) (e:Int):Nat->(List Int)->Int->Option (List Int)|0,_,_=>ae|n+1,d,a=>if decide (a<e) then ab (C4 U d c b a) λf=>Mh U c b e n f (aO .i64 (a+1)) else J d
def C3 (U:List (List Int)) (c:b8) (g:List Int) (i:Int):Nat->(List Int)->(List Int)->Int->Option (Sum (List Int×List Int) (Int))|0,_,_,_=>ae|n+1,h,b,d=>if decide (d<i) then ab (al g d) λm=>ab (al g d) λa=>ab (Mh U b a (c.items.length:Int) N h 0) λe=>ab (al e a) λo=>ab (al e a) λj=>ab (al c.items a) λk=>ab (HV N j k.round c.dO) λf=>if f.2 !=0 then J (bt f.2) else ab (al b a) λp=>ab (al b a) λq=>aF.lt (b.set ((a:Int).toNat) f.1) λl=>C3 U c g i n e l (aO .i64 (d+1)) else J (bw (h,b))
def Rg (c:b8) (U:List (List Int)):Option (List Int×List Int×Int):=ab (hy 0 (c.items.length:Int)) λd=>ab (Mg (d.length:Int) N d 0) λg=>ab (o1 (rz (λ(a:c4)=>a.block) c.items) g) λb=>ab (hy 0 (b.length:Int)) λh=>ab (hy 0 (b.length:Int)) λf=>ab (C3 N U c b (b.length:Int) N h f 0) λi=>match i with|bw e=>J (e.1,e.2,0)|bt j=>J ([],[],j)
def aAg:Nat->Int->Int->Option Int|0,_,_=>ae|n+1,b,a=>if decide (0<b) then aF.lt (aO .i64 (a+1)) λc=>aF.lt (sE b 2) λd=>aAg n d c else J a
def Sx (a:Int):Option (Int×Int):=ab (Ib a 0 4095) λb=>if !b then J (0,2) else ab (aAg N a 0) λc=>J (c,0)
def Mf (b:List Int) (d:Int):Nat->dF->Int->Option dF|0,_,_=>ae|n+1,c,a=>if decide (a<d) then ab (al b a) λg=>ab (al b a) λe=>ab (Sx N e) λf=>Mf b d n (dF.mk (max c.steps f.1) []) (aO .i64 (a+1)) else J (dF.mk c.steps [])
def Rf (b:b8):Option (dF×Int):=ab (SN N b) λc=>if c !=0 then J ((dF.mk 0 []),c) else ab (Hk N b) λd=>ab (Rg N b (rz (λ(z:List Int)=>z) d)) λa=>if a.2.2 !=0 then J ((dF.mk 0 []),a.2.2) else ab (Mf N a.2.1 (a.2.1.length:Int) N (dF.mk 0 []) 0) λe=>J ((dF.mk e.steps a.2.1),0)
def MF (a:Bool):Option Unit:=if a then ae else J ()
def DG (b:List Int):Nat->Int->Int->Option Int|0,_,_=>ae|n+1,c,a=>if decide (a<(b.length:Int)) then ab (al b a) λd=>aF.lt (max c d) λe=>aF.lt (aO .i64 (a+1)) λf=>DG b n e f else J c
def QV (a:List Int):Option Int:=ab (MF (decide ((a.length:Int)<1))) λd=>ab (al a 0) λb=>ab (DG a N b 1) λc=>J c
def Dy:Nat->(List Int)->Int->Int->Option (List Int)|0,_,_,_=>ae|n+1,a,b,c=>if decide (b<c) then ab (al a c) λj=>ab (al a c) λe=>ab (al a b) λk=>ab (al a b) λf=>ab (al a b) λo=>ab (al a b) λp=>aF.lt (a.set ((b:Int).toNat) e) λd=>ab (al d c) λm=>ab (al d c) λl=>aF.lt (d.set ((c:Int).toNat) f) λi=>aF.lt (aO .i64 (b+1)) λh=>aF.lt (aO .i64 (c - 1)) λg=>Dy n i h g else J a
def QI (a:List Int):Option (List Int):=aF.lt (aO .i64 ((a.length:Int) - 1)) λb=>ab (Dy N a 0 b) λc=>J c
def L3 (e:List Int) (d:List Int) (b:Int) (a:Int) (c:Int):Option Bool:=if decide (0<c) then ab (al d a) λh=>ab (al d a) λg=>ab (al e b) λi=>ab (al e b) λf=>J ((aO .i64 ((aO .i64 (g+c)) - 1))==f) else J ak
def L2 (c:List (List Int)) (e:List Int) (d:List Int) (f:Int):Nat->Int->Int->Option Int|0,_,_=>ae|n+1,b,a=>if decide (a<f) then ab (al c a) λg=>ab (al g b) λh=>ab (L3 e d b a h) λi=>if i then J a else L2 c e d f n b (aO .i64 (a+1)) else J b
def L1 (e:List (List Int)) (a:List Int) (c:List Int):Nat->Int->(List Int)->Option (List Int)|0,_,_=>ae|n+1,b,d=>ab (al a b) λi=>ab (al a b) λg=>if decide (0<g) then ab (L2 e a c (c.length:Int) N b 0) λf=>ab (cD d ([f]:List Int)) λh=>L1 e a c n f h else J d
def Q0 (b:b8):Option (List Int×Int):=ab (SN N b) λc=>if c !=0 then J ([],c) else ab (Hk N b) λd=>ab (Rg N b (rz (λ(z:List Int)=>z) d)) λa=>if a.2.2 !=0 then J ([],a.2.2) else if (a.2.1.length:Int)==0 then J ([],0) else ab (QV N a.2.1) λf=>ab (vA N a.2.1 f) λe=>ab (L1 N (rz (λ(z:List Int)=>z) d) a.1 a.2.1 N e ([e]:List Int)) λg=>ab (QI N g) λh=>J (h,0)
def Q7 (c:b8):Option (e8×Int):=ab (Rf N c) λa=>if a.2 !=0 then J ((e8.mk (dF.mk 0 []) []),a.2) else ab (Q0 N c) λb=>if b.2 !=0 then J ((e8.mk (dF.mk 0 []) []),b.2) else J ((e8.mk a.1 b.1),0)
def Q4:Option Bool:=J ak
def Mr (h:dF) (e:Int) (a:Int) (i:List c4) (b:Int):Option Int:=ab (al i b) λc=>ab (al h.fW b) λd=>ab (j2 .i64 e) λf=>if (ih .and .i64 (sE d ((2 ^ f:Nat):Int)) 1)==1 then aF.lt (aO .i64 (a+c.length)) λg=>J g else J a
def Dt (d:dF) (c:Int) (e:List c4) (f:Int):Nat->Int->Int->Option Int|0,_,_=>ae|n+1,b,a=>if decide (a<f) then ab (Mr d c b e a) λg=>Dt d c e f n g (aO .i64 (a+1)) else J b
def Ds (d:Step) (b:b8) (f:dF) (g:Int):Nat->Int->Option (Sum (Unit) (Int))|0,_=>ae|n+1,a=>if decide (a<g) then ab (Dt f a b.items (b.items.length:Int) N 0 0) λi=>ab (al d.e.aH a) λj=>ab (al d.c.aH j) λh=>if decide (h.length<i) then J (bt 14) else Ds d b f g n (aO .i64 (a+1)) else J (bw ())
def Ms (c:Int) (a:Int) (f:List c4) (e:Int):Option Int:=ab (al f e) λb=>if b.dS==c then aF.lt (aO .i64 (a+b.length)) λd=>J d else J a
def Dv (b:Int) (d:List c4) (e:Int):Nat->Int->Int->Option Int|0,_,_=>ae|n+1,c,a=>if decide (a<e) then ab (Ms b c d a) λf=>Dv b d e n f (aO .i64 (a+1)) else J c
def Mt (h:Step) (a:Int) (g:List Int) (f:Int):Option Int:=ab (al g f) λb=>ab (Q4) λc=>if !c then ab (al h.y.bD b) λd=>aF.lt (aO .i64 (a+d.length)) λe=>J e else J a
def Dw (e:Step) (c:List Int) (d:Int):Nat->Int->Int->Option Int|0,_,_=>ae|n+1,b,a=>if decide (a<d) then ab (Mt e b c a) λf=>Dw e c d n f (aO .i64 (a+1)) else J b
def Du (b:Step) (d:b8) (h:List b7) (g:Int):Nat->Int->Option (Sum (Unit) (Int))|0,_=>ae|n+1,a=>if decide (a<g) then ab (al h a) λf=>ab (Dv a d.items (d.items.length:Int) N 0 0) λi=>ab (al b.y.aH f.cq) λe=>ab (Dw b e (e.length:Int) N i 0) λj=>ab (al b.c.aH f.cq) λk=>if decide (k.length<j) then J (bt 14) else Du b d h g n (aO .i64 (a+1)) else J (bw ())
def QG (a:Step) (U:b8) (b:dF):Option Int:=if decide ((a.e.aH.length:Int)<b.steps) then J 14 else ab (Ds N a U b b.steps N 0) λc=>match c with|bw h=>(ab (Du N a U a.y.b2 (a.y.b2.length:Int) N 0) λf=>match f with|bw i=>J 0|bt d=>J d)|bt g=>J g
def HE (a:Step) (U:List Int) (d:b8):Option (Int×Step):=ab (Q7 N d) λb=>if b.2 !=0 then J (b.2,a) else ab (QG N a d b.1.e9) λf=>if f !=0 then J (f,a) else ab (gi a.e.aH 0 b.1.e9.steps) λg=>ab (qy g) λh=>ab (Rc b.1) λi=>J (0,(Step.mk a.c (bq.mk a.y.bD a.y.aH a.y.b2 aa (eR.mk U d b.1 a.e.cq h 0) ak) a.e (cI.mk a.r.err a.r.vv i a.r.dW a.r.final a.r.cZ a.r.place)))
def aB7 (d:Step) (b:List Int) (c:Int):Nat->Int->Option (Sum (Unit) (Int))|0,_=>ae|n+1,a=>if decide (a<c) then ab (al b a) λe=>ab (al d.y.aH e) λf=>if decide (0<(f.length:Int)) then J (bt 17) else aB7 d b c n (aO .i64 (a+1)) else J (bw ())
def aAf (f:Step) (b:List Int) (e:Int):Nat->b8->Int->(List c4)->Option (Sum (b8×List c4) (Int))|0,_,_,_=>ae|n+1,c,a,g=>if decide (a<e) then ab (al b a) λj=>ab (al b a) λh=>ab (tT N f.y h) λd=>if !d.2 then J (bt 13) else ab (cD g ([d.1]:List c4)) λi=>aAf f b e n (b8.mk [] c.dO) (aO .i64 (a+1)) i else J (bw ((b8.mk [] c.dO),g))
def aEf (b:Step) (e:List c4) (d:Int):Option (Sum (Unit) (Int)):=ab (al e d) λi=>ab (al e d) λc=>ab (al b.y.b2 c.dS) λf=>ab (al b.y.aH f.cq) λa=>if (a.length:Int)==0 then J (bw ()) else ab (al a (aO .i64 ((a.length:Int) - 1))) λg=>ab (R6 N b.y g) λh=>if decide (c.block<h.2) then J (bt 12) else J (bw ())
def aB8 (c:Step) (b:List c4) (d:Int):Nat->Int->Option (Sum (Unit) (Int))|0,_=>ae|n+1,a=>if decide (a<d) then ab (aEf N c b a) λf=>match f with|bw g=>aB8 c b d n (aO .i64 (a+1))|bt e=>J (bt e) else J (bw ())
def Sk (a:Step):Option (Int×Step):=if a.y.busy then J (25,a) else ab (R1 N a) λd=>if d !=0 then J (d,a) else ab (tS N a) λf=>if f !=0 then J (f,a) else ab (aB7 a a.e.aH (a.e.aH.length:Int) N 0) λh=>match h with|bw o=>(ab (al a.y.aH a.e.cq) λi=>ab (qy i) λb=>ab (aAf N a b (b.length:Int) N (b8.mk [] a.e.dO) 0 []) λj=>match j with|bw c=>(if (b.length:Int)==0 then J (13,a) else ab (aB8 N a c.2 (c.2.length:Int) N 0) λk=>match k with|bw p=>ab (HE N a b (b8.mk c.2 c.1.dO)) λg=>J (g.1,g.2)|bt m=>J (m,a))|bt n=>J (n,a))|bt l=>J (l,a)
def Sv (a:eR):Option Int:=if a.h9==0 then J a.lead else ab (al a.aH (aO .i64 (a.h9 - 1))) λb=>J b
def NE (c:Step) (U:Int) (a:im):Option Bool:=if decide (a.place<0) then J aa else if decide (U<=a.place) then J aa else ab (SI c a.cq) λb=>J (!b)
def Es (d:Step) (U:Int) (b:List im) (c:Int):Nat->Int->Option (Sum (Unit) (Int))|0,_=>ae|n+1,a=>if decide (a<c) then ab (al b a) λe=>ab (NE d U e) λf=>if f then J (bt 2) else Es d U b c n (aO .i64 (a+1)) else J (bw ())
def Et (e:List im) (f:Int):Nat->(List (Int×Int))->Int->Option (Sum ((List (Int×Int))) (Int))|0,_,_=>ae|n+1,a,c=>if decide (c<f) then ab (al e c) λb=>aF.lt (jv a b.place) λd=>aF.lt (d.getD 0) λh=>if d.isSome then J (bt 8) else aF.lt (o8 a b.place b.cq) λg=>Et e f n g (aO .i64 (c+1)) else J (bw a)
def aAU (b:Int) (c:List im) (d:Int):Nat->Int->Option (Sum (Unit) (Int))|0,_=>ae|n+1,a=>if decide (a<d) then ab (al c a) λe=>if e.cq==b then J (bt 17) else aAU b c d n (aO .i64 (a+1)) else J (bw ())
def RC (a:Step) (U:Int) (c:Int):Option ((List (Int×Int))×Int):=if decide (16<(a.e.hD.length:Int)) then J ([],3) else ab (Es a U a.e.hD (a.e.hD.length:Int) N 0) λb=>match b with|bw k=>(ab (Et a.e.hD (a.e.hD.length:Int) N [] 0) λd=>match d with|bw j=>(ab (aAU c a.e.hD (a.e.hD.length:Int) N 0) λf=>match f with|bw l=>J (j,0)|bt i=>J ([],i))|bt h=>J ([],h))|bt g=>J ([],g)
def FM (b:eR) (c:Int):Nat->Int->Option (Sum (Unit) (Int))|0,_=>ae|n+1,a=>if decide (a<(b.aH.length:Int)) then ab (j2 .i64 a) λd=>if (ih .and .i64 (sE c ((2 ^ d:Nat):Int)) 1)==1 then ab (al b.aH a) λe=>J (bt e) else aF.lt (aO .i64 (a+1)) λf=>FM b c n f else J (bw ())
def Sw (a:bq) (U:Int):Option Int:=ab (vA N a.bo.bD U) λb=>ab (al a.bo.proof.e9.fW b) λc=>ab (FM a.bo c N a.bo.h9) λg=>match g with|bw h=>ab (R6 N a U) λe=>ab (al a.b2 e.1) λf=>J f.cq|bt d=>J d
def aBy (c:List bC) (d:Int):Nat->(List Int)->Int->Option (List Int)|0,_,_=>ae|n+1,b,a=>if decide (a<d) then ab (al c a) λe=>ab (cD b ([e.length]:List Int)) λf=>aBy c d n f (aO .i64 (a+1)) else J b
def x8 (a:Step) (U:List cn):Option (Int×Step):=ab (aBy a.y.bD (a.y.bD.length:Int) N [] 0) λd=>ab (Rw N a.c.aH d a.y.aH U) λb=>if b.2.2 !=0 then J (b.2.2,a) else J (0,(Step.mk a.c (bq.mk a.y.bD b.1 a.y.b2 a.y.busy a.y.bo a.y.cE) a.e (cI.mk a.r.err U a.r.proof a.r.dW a.r.final a.r.cZ a.r.place)))
def Sh (a:Step):Option Step:=J (Step.mk a.c (bq.mk a.y.bD a.y.aH a.y.b2 ak (eR.mk [] (b8.mk [] 0) (e8.mk (dF.mk 0 []) []) 0 [] 0) ak) a.e a.r)
def aEg (a:Int) (c:Int) (b:Bool):Option Bool:=if b then J (c !=a) else J ak
def aEh (b:Bool) (a:Int) (c:Int) (d:Bool):Option (Bool×Int):=if d then J (aa,c) else J (b,a)
def FB (m:Step) (e:Int) (d:List (Int×Int)) (k:List Int) (l:Int):Nat->Bool->(List cn)->Int->Option (Bool×List cn)|0,_,_,_=>ae|n+1,f,b,a=>if decide (a<l) then ab (al k a) λc=>ab (Sw N m.y c) λh=>aF.lt (jv d a) λi=>aF.lt (i.getD 0) λj=>ab (aEg h j i.isSome) λp=>ab (aEh f h j p) λg=>ab (cD b ([(cn.mk c e g.2 ak)]:List cn)) λo=>FB m e d k l n g.1 o (aO .i64 (a+1)) else J (f,b)
def aEi (a:Step) (b:Bool):Option Step:=if b then J (Step.mk a.c (bq.mk a.y.bD a.y.aH a.y.b2 a.y.busy a.y.bo aa) a.e a.r) else aF.lt (decide (a.y.bo.proof.e9.steps<a.y.bo.h9)) λd=>if d then ab (Sh a) λf=>J f else J a
def Sl (a:Step) (d:List cn):Option (Int×Step):=if !a.y.busy then J (16,(Step.mk a.c a.y a.e (cI.mk a.r.err d a.r.proof a.r.dW a.r.final a.r.cZ a.r.place))) else if a.y.cE then J (25,(Step.mk a.c a.y a.e (cI.mk a.r.err d a.r.proof a.r.dW a.r.final a.r.cZ a.r.place))) else ab (Sv a.y.bo) λf=>ab (al a.y.aH f) λg=>ab (RC N (Step.mk a.c a.y a.e (cI.mk a.r.err d a.r.proof a.r.dW a.r.final a.r.cZ a.r.place)) (g.length:Int) f) λh=>if h.2 !=0 then J (h.2,(Step.mk a.c a.y a.e (cI.mk a.r.err d a.r.proof a.r.dW a.r.final a.r.cZ a.r.place))) else ab (FB N (Step.mk a.c a.y a.e (cI.mk a.r.err d a.r.proof a.r.dW a.r.final a.r.cZ a.r.place)) f h.1 g (g.length:Int) N ak [] 0) λi=>ab (x8 N (Step.mk a.c a.y a.e (cI.mk a.r.err d a.r.proof a.r.dW a.r.final a.r.cZ a.r.place)) i.2) λb=>if b.1 !=0 then J (b.1,b.2) else ab (aEi (Step.mk b.2.c (bq.mk b.2.y.bD b.2.y.aH b.2.y.b2 b.2.y.busy (eR.mk b.2.y.bo.bD b.2.y.bo.iP b.2.y.bo.proof b.2.y.bo.lead b.2.y.bo.aH (aO .i64 (b.2.y.bo.h9+1))) b.2.y.cE) b.2.e b.2.r) i.1) λj=>J (0,j)
def EF (c:List b7) (b:Int):Nat->ct->Int->(List Int)->Option (ct×List Int)|0,_,_,_=>ae|n+1,g,a,d=>if decide (a<b) then ab (al c a) λe=>ab (cD d ([e.cq]:List Int)) λf=>EF c b n (ct.mk [] [] []) (aO .i64 (a+1)) f else J ((ct.mk [] [] []),d)
def EI (U:bq) (b:Int) (a:Int) (e:List Int):Option Bool:=ab (sy N e b) λc=>if c then J aa else ab (sy N U.bo.bD a) λd=>J d
def EH (U:bq) (c:Int) (h:List Int) (f:Int) (g:List Int) (b:List Int):Option ((List Int)×List Int):=ab (al h f) λa=>ab (EI N U c a g) λd=>if d then ab (cD b ([a]:List Int)) λe=>J ([],e) else J ([],b)
def EG (U:bq) (b:Int) (e:List Int) (f:Int) (d:List Int):Nat->(List Int)->Int->(List Int)->Option ((List Int)×List Int)|0,_,_,_=>ae|n+1,h,a,c=>if decide (a<f) then ab (EH N U b e a d c) λg=>EG U b e f d n [] (aO .i64 (a+1)) g.2 else J ([],c)
def MR (U:bq) (f:List (List Int)) (d:Int) (e:List Int):Nat->(List Int)->Int->(List Int)->Option ((List Int)×List Int)|0,_,_,_=>ae|n+1,h,a,c=>if decide (a<d) then ab (al f a) λb=>ab (EG N U a b (b.length:Int) e N [] 0 c) λg=>MR U f d e n [] (aO .i64 (a+1)) g.2 else J ([],c)
def MS (U:bq) (b:List Int) (c:Int):Nat->ct->Int->(List c4)->Option (ct×List c4)|0,_,_,_=>ae|n+1,h,a,d=>if decide (a<c) then ab (al b a) λi=>ab (al b a) λg=>ab (tT N U g) λf=>ab (cD d ([f.1]:List c4)) λe=>MS U b c n (ct.mk [] [] []) (aO .i64 (a+1)) e else J ((ct.mk [] [] []),d)
def EK (a:List Int) (g:List Int) (f:Int) (e:List Int):Option (List Int):=ab (al g f) λd=>ab (vA N e d) λb=>if decide (0<=b) then ab (cD a ([b]:List Int)) λc=>J c else J a
def MT (d:List Int) (e:Int) (c:List Int):Nat->(List Int)->Int->Option (List Int)|0,_,_=>ae|n+1,b,a=>if decide (a<e) then ab (EK N b d a c) λf=>MT d e c n f (aO .i64 (a+1)) else J b
def EJ (d:List (List Int)) (f:Int) (c:List Int):Nat->ct->Int->(List (List Int))->Option (ct×List (List Int))|0,_,_,_=>ae|n+1,i,a,e=>if decide (a<f) then ab (al d a) λb=>ab (MT N b (b.length:Int) c N [] 0) λh=>ab (cD e ([h]:List (List Int))) λg=>EJ d f c n (ct.mk [] [] []) (aO .i64 (a+1)) g else J ((ct.mk [] [] []),e)
def RL (a:bq):Option (ct×List Int×Int):=if !a.cE then J ((ct.mk [] [] []),[],16) else ab (EF a.b2 (a.b2.length:Int) N (ct.mk [] [] []) 0 []) λc=>ab (MR N a a.aH (a.aH.length:Int) c.2 N [] 0 []) λd=>ab (ve d.2) λb=>if decide (96<(b.length:Int)) then J ((ct.mk [] [] []),[],3) else ab (MS N a b (b.length:Int) N (ct.mk [] [] []) 0 []) λe=>ab (EJ N a.aH (a.aH.length:Int) b N (ct.mk [] [] []) 0 []) λf=>J ((ct.mk e.2 c.2 f.2),b,0)
def Ed (c:List hx) (b:List Bool) (a:Int):Option Bool:=if decide (a<0) then J aa else if decide ((c.length:Int)<=a) then J aa else ab (al b a) λe=>ab (al b a) λd=>J d
def MI (e:Int) (h:List Int) (g:Int):Nat->(List hx)->(List Bool)->Int->Int->Option (Sum (List hx×List Bool×Int) (Bool))|0,_,_,_,_=>ae|n+1,c,b,f,d=>if decide (d<g) then ab (al h d) λa=>ab (Ed c b a) λj=>if j then J (bt ak) else ab (al c a) λm=>ab (al c a) λo=>aF.lt (c.set ((a:Int).toNat) (hx.mk e d)) λi=>ab (al b a) λq=>ab (al b a) λp=>aF.lt (b.set ((a:Int).toNat) aa) λk=>aF.lt (aO .i64 (f+1)) λl=>MI e h g n i k l (aO .i64 (d+1)) else J (bw (c,b,f))
def Ec (f:List (List Int)) (g:Int):Nat->(List hx)->(List Bool)->Int->Int->Option (Sum (List hx×Int) (Bool))|0,_,_,_,_=>ae|n+1,e,h,d,a=>if decide (a<g) then ab (al f a) λc=>ab (MI a c (c.length:Int) N e h d 0) λj=>match j with|bw b=>Ec f g n b.1 b.2.1 b.2.2 (aO .i64 (a+1))|bt i=>J (bt i) else J (bw (e,d))
def RY (a:ct):Option (List hx×Bool):=ab (hy (hx.mk 0 0) (a.items.length:Int)) λc=>ab (hy ak (a.items.length:Int)) λd=>ab (Ec N a.aH (a.aH.length:Int) N c d 0 0) λe=>match e with|bw b=>aF.lt (b.2==(b.1.length:Int)) λf=>J (b.1,f)|bt g=>J ([],g)
def aCE (U:ct):Option Bool:=if decide (96<(U.items.length:Int)) then J aa else if decide (16<(U.homes.length:Int)) then J aa else J (decide (24<(U.aH.length:Int)))
def aDW (U:ct) (d:Int) (a:Int):Option Bool:=if decide (a<0) then J aa else if decide ((U.aH.length:Int)<=a) then J aa else ab (gi U.homes 0 d) λb=>ab (sy N b a) λc=>J c
def aBV (U:ct) (b:List Int) (c:Int):Nat->Int->Option (Sum (Unit) (Bool))|0,_=>ae|n+1,a=>if decide (a<c) then ab (al b a) λd=>ab (aDW N U a d) λe=>if e then J (bt ak) else aBV U b c n (aO .i64 (a+1)) else J (bw ())
def aDX (U:ct) (a:c4):Option Bool:=if decide (a.dS<0) then J aa else if decide ((U.homes.length:Int)<=a.dS) then J aa else if decide (a.block<0) then J aa else if decide (32<=a.block) then J aa else if a.round !=0 then J aa else if decide (a.length<1) then J aa else J (decide (400<a.length))
def aBW (U:ct) (c:List c4) (b:Int):Nat->Int->Option (Sum (Unit) (Bool))|0,_=>ae|n+1,a=>if decide (a<b) then ab (al c a) λd=>ab (aDX U d) λe=>if e then J (bt ak) else aBW U c b n (aO .i64 (a+1)) else J (bw ())
def RW (a:ct):Option Bool:=ab (aCE a) λb=>if b then J ak else ab (aBV N a a.homes (a.homes.length:Int) N 0) λd=>match d with|bw h=>(ab (aBW a a.items (a.items.length:Int) N 0) λc=>match c with|bw i=>ab (RY N a) λg=>J g.2|bt e=>J e)|bt f=>J f
def xm (c:Int):Nat->Int->(List Int)->Option (List Int)|0,_,_=>ae|n+1,a,b=>if decide (a<c) then ab (al b a) λe=>ab (al b a) λf=>aF.lt (b.set ((a:Int).toNat) (-1)) λd=>xm c n (aO .i64 (a+1)) d else J b
def qz (a:ct):Option (er×List hx×List Int):=ab (hy 0 (a.items.length:Int)) λb=>ab (RY N a) λc=>ab (xm (b.length:Int) N 0 b) λd=>J ((er.mk a [] []),c.1,d)
def HT (a:er) (U:Int):Option Bool:=ab (al a.at_ U) λb=>ab (al a.d.items U) λc=>ab (al a.d.homes c.dS) λe=>aF.lt (b.cq==e) λf=>J f
def Fv (a:er) (U:Int) (b:Int):Option Bool:=ab (al a.d.items U) λc=>ab (al a.d.items b) λe=>if c.dS==e.dS then ab (al a.d.items U) λf=>ab (al a.d.items b) λg=>aF.lt (decide (f.block<g.block)) λh=>J h else J ak
def sz (c:er) (U:Int) (a:Int):Option Bool:=ab (Fv c U a) λb=>J b
def Eg (a:er) (U:Int) (b:Int):Option Bool:=ab (al a.at_ U) λc=>ab (al a.at_ b) λd=>if c.cq==d.cq then ab (al a.at_ U) λe=>ab (al a.at_ b) λf=>aF.lt (decide (f.place<e.place)) λg=>J g else J ak
def RZ (c:er) (U:Int) (a:Int):Option Bool:=ab (Eg c U a) λb=>J b
def Ei (a:er) (U:Int) (e:Int):Option Bool:=ab (al a.round U) λb=>if decide (0<=b) then ab (al a.round U) λc=>aF.lt (decide (c<e)) λd=>J d else J ak
def Ab (c:er) (U:Int) (b:Int):Option Bool:=ab (Ei c U b) λa=>J a
def C8 (d:er) (U:Int) (c:Int):Option Bool:=if c==(-1) then ab (HT d U) λa=>aF.lt (!a) λb=>J b else J ak
def C9 (b:er) (a:Int):Option Bool:=if decide (a<0) then J aa else J (decide ((b.d.items.length:Int)<=a))
def Da (a:Int) (b:Int):Option Bool:=if a==3 then aF.lt (b==0) λc=>J c else J ak
def Mk (a:er) (U:Int) (b:Int):Option Bool:=ab (HT a U) λe=>if e then ab (sz a b U) λc=>if c then ab (RZ a b U) λd=>J d else J ak else J ak
def aDk (b:er) (U:Int) (a:Int) (c:Int):Option Bool:=ab (sz b a U) λe=>if e then ab (Ab b a c) λd=>J d else J ak
def aDl (b:er) (U:Int) (a:Int) (c:Int):Option Bool:=ab (RZ b U a) λe=>if e then ab (Ab b a c) λd=>J d else J ak
def nQ (b:er) (U:Int) (c:Int) (a:Int) (d:Int):Option Bool:=if c==1 then ab (C8 b U a) λe=>J e else ab (C9 b a) λf=>if f then J ak else ab (Da c d) λh=>if h then ab (Mk b U a) λg=>J g else aF.lt (c==3) λk=>if k then ab (aDk b U a d) λi=>J i else aF.lt (c==2) λj=>if j then ab (aDl b U a d) λl=>J l else J ak
def O7 (f:er) (U:Int) (b:b6) (a:List Int) (e:Bool):Option (Sum (b6×List Int) (b6×Bool)):=if e then ab (HT f U) λc=>if !c then J (bt ((b6.mk U 1 (-1) 0),aa)) else ab (gi a 1 (a.length:Int)) λd=>J (bw (b,d)) else J (bw (b,a))
def aBe (f:er) (U:Int) (c:Int) (b:Int) (e:Int):Nat->b6->Int->Option (Sum (b6) (b6×Bool))|0,_,_=>ae|n+1,d,a=>if decide (a<e) then ab (nQ f U b a c) λg=>if g then J (bt ((b6.mk U b a c),aa)) else aBe f U c b e n d (aO .i64 (a+1)) else J (bw d)
def aBd (b:er) (U:Int) (c:Int) (h:List Int) (g:Int):Nat->b6->Int->Option (Sum (b6) (b6×Bool))|0,_,_=>ae|n+1,e,a=>if decide (a<g) then ab (al h a) λj=>ab (aBe b U c j (b.d.items.length:Int) N e 0) λk=>match k with|bw i=>aBd b U c h g n i (aO .i64 (a+1))|bt f=>J (bt (f.1,f.2)) else J (bw e)
def rm (e:er) (U:Int) (b:Int):Option (b6×Bool):=ab (O7 e U (b6.mk 0 0 0 0) ([2,3]:List Int) (b==0)) λf=>match f with|bw a=>(ab (aBd N e U b a.2 (a.2.length:Int) N a.1 0) λg=>match g with|bw h=>J ((b6.mk 0 0 0 0),ak)|bt d=>J (d.1,d.2))|bt c=>J (c.1,c.2)
def Nd (g:er) (a:List b6) (f:Int) (b:Int) (j:List hx) (c:List Int):Option (List b6):=ab (al c b) λk=>ab (al c b) λh=>if decide (0<=h) then J a else ab (rm N (er.mk g.d j c) b f) λe=>if e.2 then ab (cD a ([e.1]:List b6)) λi=>J i else J a
def Nc (e:er) (c:Int) (f:Int) (h:List hx) (g:List Int):Nat->(List b6)->Int->Option (List b6)|0,_,_=>ae|n+1,b,a=>if decide (a<f) then ab (Nd N (er.mk e.d [] []) b c a h g) λi=>Nc e c f h g n i (aO .i64 (a+1)) else J b
def aBU (d:List b6) (f:Int) (b:Nat×Nat) (g:Int):Nat->Int->(List Int)->Option (List Int)|0,_,_=>ae|n+1,c,a=>if decide (c<g) then ab (al (List.drop b.1 (List.take b.2 d)) c) λk=>ab (al d ((b.1:Int)+c)) λe=>ab (al a e.item) λi=>ab (al a e.item) λj=>aF.lt (a.set ((e.item:Int).toNat) f) λh=>aBU d f b g n (aO .i64 (c+1)) h else J a
def aCD (a:List b6) (c:Int) (b:Int):Option Bool:=if decide (0<c) then J ((a.length:Int)==b) else J ak
def D6 (U:ct) (f:er) (h:List hx):Nat->(List b6)->Int->(List Int)->Option (List b6)|0,_,_,_=>ae|n+1,e,c,g=>aF.lt (e.length:Int) λb=>ab (Nc N (er.mk f.d [] []) c (U.items.length:Int) h g N e 0) λa=>ab (gi a b (a.length:Int)) λl=>ab (aBU a c (sF b,sF (a.length:Int)) ((List.drop (sF b) (List.take (sF (a.length:Int)) a)).length:Int) N 0 g) λj=>ab (aCD a c b) λi=>if i then J a else aF.lt (aO .i64 (c+1)) λk=>D6 U f h n a k j
def RV (e:ct):Option (List b6×Int):=ab (RW N e) λf=>if !f then J ([],1) else ab (qz N e) λc=>ab (D6 N e (er.mk c.1.d [] []) c.2.1 N [] 0 c.2.2) λg=>ab (@G6 b6 ⟨(b6.mk 0 0 0 0)⟩ (λ(a b:b6)=>p1 a.item b.item) g) λh=>J (h,0)
def Rz (a:Step):Option Step:=J (Step.mk a.c (bq.mk a.y.bD a.y.aH a.y.b2 ak (eR.mk [] (b8.mk [] 0) (e8.mk (dF.mk 0 []) []) 0 [] 0) ak) a.e a.r)
def D8 (d:ct) (a:b6) (b:List Int):Option Bool:=if decide (a.item<0) then J aa else if decide ((d.items.length:Int)<=a.item) then J aa else ab (al b a.item) λe=>ab (al b a.item) λc=>if decide (0<=c) then J aa else J (decide (a.round<0))
def D7 (d:ct) (e:List b6) (f:Int):Nat->Int->(List Int)->Option (Sum (List Int) (Bool))|0,_,_=>ae|n+1,c,b=>if decide (c<f) then ab (al e c) λa=>ab (D8 d a b) λh=>if h then J (bt ak) else ab (al b a.item) λi=>ab (al b a.item) λj=>aF.lt (b.set ((a.item:Int).toNat) a.round) λg=>D7 d e f n (aO .i64 (c+1)) g else J (bw b)
def Nf (c:er) (g:List b6) (h:Int) (e:List hx) (f:List Int):Nat->Int->Option (Sum (Unit) (Bool))|0,_=>ae|n+1,b=>if decide (b<h) then ab (al g b) λa=>ab (nQ (er.mk c.d e f) a.item a.reason a.ib a.round) λi=>if !i then J (bt ak) else Nf c g h e f n (aO .i64 (b+1)) else J (bw ())
def aDY (b:er) (a:Int) (f:Int) (c:List Int) (e:List hx):Option Bool:=ab (HT (er.mk b.d e c) a) λg=>if g then ab (sz (er.mk b.d e c) f a) λh=>if h then ab (RZ (er.mk b.d e c) f a) λi=>J i else J ak else J ak
def aDZ (e:er) (c:Int) (b:Int) (g:Bool) (a:List Int) (f:List hx):Option Bool:=ab (HT (er.mk e.d f a) c) λi=>if !i then J aa else if g then J aa else ab (al a b) λl=>ab (al a b) λh=>if decide (0<=h) then ab (sz (er.mk e.d f a) b c) λk=>if k then J aa else ab (RZ (er.mk e.d f a) c b) λj=>J j else J ak
def aBX (c:er) (b:Int) (e:List Int) (g:Int) (f:List hx):Nat->Int->Option (Sum (Unit) (Bool))|0,_=>ae|n+1,a=>if decide (a<g) then ab (aDY (er.mk c.d [] []) b a e f) λh=>ab (aDZ (er.mk c.d [] []) b a h e f) λi=>if i then J (bt ak) else aBX c b e g f n (aO .i64 (a+1)) else J (bw ())
def Ng (c:ct) (e:er) (a:List Int) (b:Int) (i:List hx):Option (Sum (Unit) (Bool)):=ab (al a b) λj=>ab (al a b) λf=>if decide (0<=f) then J (bw ()) else ab (aBX (er.mk e.d [] []) b a (c.items.length:Int) i N 0) λh=>match h with|bw k=>J (bw ())|bt g=>J (bt g)
def D9 (b:ct) (c:er) (e:List Int) (f:Int) (g:List hx):Nat->Int->Option (Sum (Unit) (Bool))|0,_=>ae|n+1,a=>if decide (a<f) then ab (Ng N b (er.mk c.d [] []) e a g) λh=>match h with|bw j=>D9 b c e f g n (aO .i64 (a+1))|bt i=>J (bt i) else J (bw ())
def RX (c:ct) (U:List b6):Option Bool:=ab (qz N c) λa=>ab (D7 c U (U.length:Int) N 0 a.2.2) λe=>match e with|bw b=>(ab (Nf (er.mk a.1.d [] []) U (U.length:Int) a.2.1 b N 0) λf=>match f with|bw k=>(ab (D9 N c (er.mk a.1.d [] []) b (b.length:Int) a.2.1 N 0) λj=>match j with|bw l=>J aa|bt h=>J h)|bt i=>J i)|bt g=>J g
def RU (a:ct) (U:List b6):Option (Bool×Int):=ab (RW N a) λb=>if !b then J (ak,1) else ab (RX N a U) λc=>J (c,0)
def Rh (b:b6) (U:Int):Option Bool:=aF.lt (b.item==U) λa=>J a
def Cx (c:List b6) (U:Int) (b:Int):Nat->Int->Option (Sum (Unit) (Int))|0,_=>ae|n+1,a=>if decide (a<b) then ab (al c a) λd=>ab (Rh d U) λe=>if e then J (bt a) else Cx c U b n (aO .i64 (a+1)) else J (bw ())
def Qu (a:List b6) (U:Int):Option Int:=ab (Cx a U (a.length:Int) N 0) λb=>match b with|bw d=>J (-1)|bt c=>J c
def Qr (c:List b6) (U:Int):Option Bool:=ab (Qu N c U) λa=>aF.lt (decide (0<=a)) λb=>J b
def MG (U:List b6) (e:Bool) (b:List (List Int)) (a:Int) (h:List Int) (i:Int):Option (List (List Int)):=ab (al h i) λc=>ab (Qr N U c) λd=>if !(d==e) then ab (al b a) λl=>ab (al b a) λf=>ab (cD f ([c]:List Int)) λg=>ab (al b a) λj=>if a=a then ab (al b a) λk=>J (b.set ((a:Int).toNat) g) else ae else J b
def Ea (U:List b6) (b:Bool) (d:Int) (e:List Int) (f:Int):Nat->(List (List Int))->Int->Option (List (List Int))|0,_,_=>ae|n+1,c,a=>if decide (a<f) then ab (MG N U b c d e a) λg=>Ea U b d e f n g (aO .i64 (a+1)) else J c
def Nh (U:List b6) (c:Bool) (e:List (List Int)) (f:Int):Nat->(List (List Int))->Int->Option (List (List Int))|0,_,_=>ae|n+1,d,a=>if decide (a<f) then ab (al e a) λb=>ab (Ea N U c a b (b.length:Int) N d 0) λg=>Nh U c e f n g (aO .i64 (a+1)) else J d
def HD (a:ct) (U:List b6) (c:Bool):Option (List (List Int)):=ab (hy ([]:List Int) (a.aH.length:Int)) λb=>ab (Nh N U c a.aH (a.aH.length:Int) N b 0) λd=>J d
def MD (a:Bool):Option Unit:=if a then ae else J ()
def ME (U:Int) (c:Bool):Option (List Int):=if c then if decide (0<U) then ab (hy 0 U) λa=>ab (gi a 0 (([]:List Int).length:Int)) λb=>J b else ae else J []
def QT (U:Int):Option (List Int):=ab (MD (decide (U<0))) λc=>aF.lt (aO .i64 (U - (aO .i64 (0 - (([]:List Int).length:Int))))) λa=>ab (ME a (decide (0<a))) λb=>J b
def My (e:Int) (d:List (List Int)) (b:Int):Option Int:=ab (al d b) λc=>aF.lt (aO .i64 (e+(c.length:Int))) λa=>if decide (a<0) then ae else J a
def DA (c:List (List Int)) (b:Int):Nat->Int->Int->Option Int|0,_,_=>ae|n+1,d,a=>if decide (a<b) then ab (My d c a) λe=>DA c b n e (aO .i64 (a+1)) else J d
def DB (c:List (List Int)) (d:Int):Nat->(List Int)->Int->Option (List Int)|0,_,_=>ae|n+1,b,a=>if decide (a<d) then ab (al c a) λe=>ab (cD b e) λf=>DB c d n f (aO .i64 (a+1)) else J b
def QQ (a:List (List Int)):Option (List Int):=ab (DA a (a.length:Int) N 0 0) λb=>ab (QT b) λd=>ab (DB a (a.length:Int) N d 0) λc=>J c
def Fg (a:Int):Option Bool:=if decide (a<0) then J aa else aF.lt (decide (12<a)) λb=>J b
def aAh (d:ct) (b:List Int) (e:Int):Nat->b8->Int->(List c4)->Option (b8×List c4)|0,_,_,_=>ae|n+1,c,a,f=>if decide (a<e) then ab (al b a) λj=>ab (al b a) λh=>ab (al d.items h) λg=>ab (cD f ([g]:List c4)) λi=>aAh d b e n (b8.mk [] c.dO) (aO .i64 (a+1)) i else J ((b8.mk [] c.dO),f)
def SH (d:ct) (U:List b6) (e:Int):Option (b8×List Int×Int):=ab (RU N d U) λb=>aF.lt (b.2 !=0) λg=>if g then J ((b8.mk [] 0),[],b.2) else ab (Fg e) λh=>if h then J ((b8.mk [] 0),[],2) else aF.lt (!b.1) λi=>if i then J ((b8.mk [] 0),[],17) else ab (HD N d U ak) λj=>ab (QQ N (rz (λ(z:List Int)=>z) j)) λc=>ab (aAh d c (c.length:Int) N (b8.mk [] e) 0 []) λa=>ab (SN N (b8.mk a.2 a.1.dO)) λf=>if f !=0 then J ((b8.mk [] 0),[],f) else J ((b8.mk a.2 a.1.dO),c,0)
def Hl (b:Int) (U:(List Int)):Option Bool:=ab (sy N U b) λa=>J a
def Fz (e:Step) (d:List Int) (b:Int):Nat->Int->Int->Option Int|0,_,_=>ae|n+1,c,a=>if decide (a<b) then ab (al d a) λf=>ab (al e.y.bD f) λg=>aF.lt (aO .i64 (c+g.length)) λh=>Fz e d b n h (aO .i64 (a+1)) else J c
def Si (b:Step) (U:List Int):Option Int:=ab (Fz b U (U.length:Int) N 0 0) λa=>J a
def Mo (h:dF) (e:Int) (a:Int) (i:List c4) (b:Int):Option Int:=ab (al i b) λc=>ab (al h.fW b) λd=>ab (j2 .i64 e) λf=>if (ih .and .i64 (sE d ((2 ^ f:Nat):Int)) 1)==1 then aF.lt (aO .i64 (a+c.length)) λg=>J g else J a
def Dn (d:dF) (c:Int) (e:List c4) (f:Int):Nat->Int->Int->Option Int|0,_,_=>ae|n+1,b,a=>if decide (a<f) then ab (Mo d c b e a) λg=>Dn d c e f n g (aO .i64 (a+1)) else J b
def Dm (d:Step) (b:b8) (f:dF) (g:Int):Nat->Int->Option (Sum (Unit) (Int))|0,_=>ae|n+1,a=>if decide (a<g) then ab (Dn f a b.items (b.items.length:Int) N 0 0) λi=>ab (al d.e.aH a) λj=>ab (al d.c.aH j) λh=>if decide (h.length<i) then J (bt 14) else Dm d b f g n (aO .i64 (a+1)) else J (bw ())
def Mp (c:Int) (a:Int) (f:List c4) (e:Int):Option Int:=ab (al f e) λb=>if b.dS==c then aF.lt (aO .i64 (a+b.length)) λd=>J d else J a
def Dq (b:Int) (d:List c4) (e:Int):Nat->Int->Int->Option Int|0,_,_=>ae|n+1,c,a=>if decide (a<e) then ab (Mp b c d a) λf=>Dq b d e n f (aO .i64 (a+1)) else J c
def Mq (i:Step) (c:(List Int)) (a:Int) (h:List Int) (g:Int):Option Int:=ab (al h g) λb=>ab (Hl N b c) λd=>if !d then ab (al i.y.bD b) λe=>aF.lt (aO .i64 (a+e.length)) λf=>J f else J a
def Dr (f:Step) (b:(List Int)) (d:List Int) (e:Int):Nat->Int->Int->Option Int|0,_,_=>ae|n+1,c,a=>if decide (a<e) then ab (Mq N f b c d a) λg=>Dr f b d e n g (aO .i64 (a+1)) else J c
def Dp (b:Step) (e:(List Int)) (d:b8) (i:List b7) (h:Int):Nat->Int->Option (Sum (Unit) (Int))|0,_=>ae|n+1,a=>if decide (a<h) then ab (al i a) λg=>ab (Dq a d.items (d.items.length:Int) N 0 0) λj=>ab (al b.y.aH g.cq) λf=>ab (Dr N b e f (f.length:Int) N j 0) λk=>ab (al b.c.aH g.cq) λl=>if decide (l.length<k) then J (bt 14) else Dp b e d i h n (aO .i64 (a+1)) else J (bw ())
def QF (a:Step) (U:b8) (b:dF) (c:(List Int)):Option Int:=if decide ((a.e.aH.length:Int)<b.steps) then J 14 else ab (Dm N a U b b.steps N 0) λd=>match d with|bw i=>(ab (Dp N a c U a.y.b2 (a.y.b2.length:Int) N 0) λg=>match g with|bw j=>J 0|bt f=>J f)|bt h=>J h
def Rx (a:Step) (U:List Int) (d:b8) (i:(List Int)):Option (Int×Step):=ab (Q7 N d) λb=>if b.2 !=0 then J (b.2,a) else ab (QF N a d b.1.e9 i) λf=>if f !=0 then J (f,a) else ab (gi a.e.aH 0 b.1.e9.steps) λg=>ab (qy g) λh=>ab (Rc b.1) λj=>J (0,(Step.mk a.c (bq.mk a.y.bD a.y.aH a.y.b2 aa (eR.mk U d b.1 a.e.cq h 0) ak) a.e (cI.mk a.r.err a.r.vv j a.r.dW a.r.final a.r.cZ a.r.place)))
def Oj (b:(List Int)) (c:List Int) (d:Int):Nat->Int->Option (Sum (Unit) (Int))|0,_=>ae|n+1,a=>if decide (a<d) then ab (al c a) λe=>ab (Hl N e b) λf=>if !f then J (bt 17) else Oj b c d n (aO .i64 (a+1)) else J (bw ())
def Ek (f:Step) (d:(List Int)) (b:List Int) (e:Int):Nat->Int->Option (Sum (Unit) (Int))|0,_=>ae|n+1,a=>if decide (a<e) then ab (al b a) λj=>ab (al b a) λg=>ab (al f.y.aH g) λc=>ab (Oj N d c (c.length:Int) N 0) λi=>match i with|bw k=>Ek f d b e n (aO .i64 (a+1))|bt h=>J (bt h) else J (bw ())
def aAb (b:Step) (f:List Int) (g:Int):Nat->(List cn)->Int->Option (List cn)|0,_,_=>ae|n+1,c,a=>if decide (a<g) then ab (al f a) λd=>ab (z7 N b.y.aH d) λi=>ab (cD c ([(cn.mk d i.1 b.e.cq ak)]:List cn)) λh=>aAb b f g n h (aO .i64 (a+1)) else J c
def R0 (a:Step) (U:List Int) (h:b8) (d:List cn):Option (Int×Step):=ab (cD ([a.e.cq]:List Int) a.e.aH) λf=>ab (Ek N (zZ a) U f (f.length:Int) N 0) λi=>match i with|bw n=>ab (Si N (Step.mk a.c a.y a.e (cI.mk a.r.err d a.r.proof a.r.dW a.r.final a.r.cZ a.r.place)) U) λk=>ab (al a.c.aH a.e.cq) λj=>if decide (j.length<k) then J (14,(Step.mk a.c a.y a.e (cI.mk a.r.err d a.r.proof a.r.dW a.r.final a.r.cZ a.r.place))) else ab (Rx N (Step.mk a.c a.y a.e (cI.mk a.r.err d a.r.proof a.r.dW a.r.final a.r.cZ a.r.place)) U h U) λb=>if b.1 !=0 then J (b.1,b.2) else ab (aAb N b.2 U (U.length:Int) N [] 0) λl=>ab (x8 N b.2 l) λg=>J (g.1,g.2)|bt m=>J (m,(Step.mk a.c a.y a.e (cI.mk a.r.err d a.r.proof a.r.dW a.r.final a.r.cZ a.r.place)))
def aCW (b:List Int) (a:b6) (c:Bool):Option b6:=if c then ab (al b a.ib) λe=>ab (al b a.ib) λd=>J (b6.mk a.item a.reason d a.round) else J a
def Er (b:List Int) (f:List b6) (g:Int):Nat->Step->Int->(List b6)->Option (Step×List b6)|0,_,_,_=>ae|n+1,e,c,d=>if decide (c<g) then ab (al f c) λa=>ab (al b a.item) λk=>ab (al b a.item) λh=>ab (aCW b (b6.mk h a.reason a.ib a.round) (decide (0<=a.ib))) λj=>ab (cD d ([j]:List b6)) λi=>Er b f g n (He e) (aO .i64 (c+1)) i else J ((He e),d)
def az7 (b:List Int) (c:List Int) (f:Int):Nat->(List Int)->Int->Option (List Int)|0,_,_=>ae|n+1,d,a=>if decide (a<f) then ab (al c a) λj=>ab (al c a) λe=>ab (al b e) λi=>ab (al b e) λg=>ab (cD d ([g]:List Int)) λh=>az7 b c f n h (aO .i64 (a+1)) else J d
def RA (a:Step) (b:List cn) (d:List b6):Option (Int×Step):=if !a.y.cE then J (16,(Step.mk a.c a.y a.e (cI.mk a.r.err b a.r.proof d a.r.final a.r.cZ a.r.place))) else ab (R1 N (Step.mk a.c a.y a.e (cI.mk a.r.err b a.r.proof d a.r.final a.r.cZ a.r.place))) λj=>if j !=0 then J (j,(Step.mk a.c a.y a.e (cI.mk a.r.err b a.r.proof d a.r.final a.r.cZ a.r.place))) else ab (tS N (Step.mk a.c a.y a.e (cI.mk a.r.err b a.r.proof d a.r.final a.r.cZ a.r.place))) λk=>if k !=0 then J (k,(Step.mk a.c a.y a.e (cI.mk a.r.err b a.r.proof d a.r.final a.r.cZ a.r.place))) else ab (RL N a.y) λg=>if g.2.2 !=0 then J (g.2.2,(Step.mk a.c a.y a.e (cI.mk a.r.err b a.r.proof d a.r.final a.r.cZ a.r.place))) else ab (RV N g.1) λh=>if h.2 !=0 then J (h.2,(Step.mk a.c a.y a.e (cI.mk a.r.err b a.r.proof d a.r.final a.r.cZ a.r.place))) else if (h.1.length:Int)==0 then ab (Rz (Step.mk a.c a.y a.e (cI.mk a.r.err b a.r.proof d a.r.final a.r.cZ a.r.place))) λm=>J (0,m) else ab (SH N g.1 h.1 a.e.dO) λi=>if i.2.2 !=0 then J (i.2.2,(Step.mk a.c a.y a.e (cI.mk a.r.err b a.r.proof d a.r.final a.r.cZ a.r.place))) else ab (Er g.2.1 h.1 (h.1.length:Int) N (He a) 0 d) λf=>ab (az7 g.2.1 i.2.1 (i.2.1.length:Int) N [] 0) λn=>ab (R0 N (Step.mk f.1.c f.1.y f.1.e (cI.mk f.1.r.err [] f.1.r.proof f.2 f.1.r.final f.1.r.cZ f.1.r.place)) n i.1 b) λl=>J (l.1,l.2)
def aC' (b:List (List Int)) (U:Int) (a:Int):Option Bool:=if decide (U<0) then J aa else if decide ((b.length:Int)<=U) then J aa else if decide (a<0) then J aa else if decide ((b.length:Int)<=a) then J aa else J (U==a)
def aDa (a:Int) (b:List Int):Option Bool:=if decide (a<0) then J aa else J (decide ((b.length:Int)<a))
def aAX (U:Int) (c:Int) (d:List Int) (e:Int):Nat->(List cn)->Int->Option (List cn)|0,_,_=>ae|n+1,b,a=>if decide (a<e) then ab (al d a) λf=>ab (cD b ([(cn.mk f U c ak)]:List cn)) λg=>aAX U c d e n g (aO .i64 (a+1)) else J b
def Q8 (e:List (List Int)) (U:Int) (c:Int) (d:Int):Option (List cn×Int):=ab (aC' e U c) λf=>if f then J ([],2) else ab (al e U) λa=>ab (aDa d a) λg=>if g then J ([],13) else ab (gi a (aO .i64 ((a.length:Int) - d)) (a.length:Int)) λb=>ab (aAX U c b (b.length:Int) N [] 0) λh=>J (h,0)
def OG (a:Step) (h:Int) (i:Int) (b:List cn):Option Bool:=ab (SI (Step.mk a.c a.y a.e (cI.mk a.r.err b a.r.proof a.r.dW a.r.final a.r.cZ a.r.place)) h) λd=>if !d then J aa else ab (SI (Step.mk a.c a.y a.e (cI.mk a.r.err b a.r.proof a.r.dW a.r.final a.r.cZ a.r.place)) i) λf=>aF.lt (!f) λg=>J g
def aEe (a:Step) (b:Int) (d:Int) (f:List cn):Option Bool:=if b==d then J aa else ab (HF N (Step.mk a.c a.y a.e (cI.mk a.r.err f a.r.proof a.r.dW a.r.final a.r.cZ a.r.place)) b) λg=>if g then J aa else ab (HF N (Step.mk a.c a.y a.e (cI.mk a.r.err f a.r.proof a.r.dW a.r.final a.r.cZ a.r.place)) d) λh=>J h
def Sj (a:Step) (b:List cn):Option (Int×Step):=if a.y.busy then J (25,(Step.mk a.c a.y a.e (cI.mk a.r.err b a.r.proof a.r.dW a.r.final a.r.cZ a.r.place))) else ab (OG (zZ a) a.e.cq a.e.to b) λg=>if g then J (2,(Step.mk a.c a.y a.e (cI.mk a.r.err b a.r.proof a.r.dW a.r.final a.r.cZ a.r.place))) else ab (aEe N (zZ a) a.e.cq a.e.to b) λi=>if i then J (17,(Step.mk a.c a.y a.e (cI.mk a.r.err b a.r.proof a.r.dW a.r.final a.r.cZ a.r.place))) else aF.lt (decide (a.e.count<1)) λh=>if h then J (13,(Step.mk a.c a.y a.e (cI.mk a.r.err b a.r.proof a.r.dW a.r.final a.r.cZ a.r.place))) else ab (Q8 N a.y.aH a.e.cq a.e.to a.e.count) λd=>if d.2 !=0 then J (d.2,(Step.mk a.c a.y a.e (cI.mk a.r.err b a.r.proof a.r.dW a.r.final a.r.cZ a.r.place))) else ab (R3 N (zZ a) d.1 b) λf=>J (f.1,f.2)
def QR (b:Step) (c:b7):Option Bool:=aF.lt (c.name==b.e.name) λa=>J a
def Cz (d:Step) (b:List b7) (c:Int):Nat->Int->Option (Sum (Unit) (Int))|0,_=>ae|n+1,a=>if decide (a<c) then ab (al b a) λg=>ab (al b a) λe=>ab (QR (Hf d) e) λf=>if f then J (bt a) else Cz d b c n (aO .i64 (a+1)) else J (bw ())
def Qw (d:Step) (a:List b7):Option Int:=ab (Cz (Hf d) a (a.length:Int) N 0) λb=>match b with|bw e=>J (-1)|bt c=>J c
def CP (f:List bC) (g:Int):Nat->Int->Int->Int->Int->Option (Int×Int×Int)|0,_,_,_,_=>ae|n+1,c,d,e,b=>if decide (b<g) then ab (al f b) λa=>aF.lt (aO .i64 (c+a.length)) λh=>aF.lt (aO .i64 (d+a.gv)) λi=>aF.lt (aO .i64 (e+a.iL)) λj=>CP f g n h i j (aO .i64 (b+1)) else J (c,d,e)
def Rt (b:List bC):Option (Int×Int×Int×Int):=ab (Rv N b) λc=>if c !=0 then J (0,0,0,c) else ab (CP b (b.length:Int) N 0 0 0 0) λa=>J (a.1,a.2.1,a.2.2,0)
def pM (b:c8) (U:b7) (e:List bC):Option Int:=ab (Hi N b) λa=>if a !=0 then J a else ab (Hj N b U) λc=>if !c then J 1 else ab (Rt N e) λd=>J d.2.2.2
def CW (e:b7) (b:List bC) (d:Int):Nat->(List Int)->Int->Option (Sum (List Int) (Int×Int))|0,_,_=>ae|n+1,f,a=>if decide (a<d) then ab (al b a) λg=>ab (z6 N e.c7 g.dest) λc=>if decide (c<0) then J (bt (a,7)) else ab (cD f ([c]:List Int)) λh=>CW e b d n h (aO .i64 (a+1)) else J (bw f)
def Q1 (d:b7) (U:List bC):Option (List Int×Int×Int):=ab (CW N d U (U.length:Int) N [] 0) λb=>match b with|bw c=>J (c,(-1),0)|bt a=>J ([],a.1,a.2)
def LY (b:List Int) (a:Int):Option Bool:=if decide (0<a) then ab (al b a) λe=>ab (al b a) λc=>ab (al b (aO .i64 (a - 1))) λf=>ab (al b (aO .i64 (a - 1))) λd=>J (decide (c<d)) else J ak
def DH (b:List Int) (c:Int):Nat->Int->Option (Sum (Unit) (Int×Int))|0,_=>ae|n+1,a=>if decide (a<c) then ab (LY b a) λd=>if d then J (bt (a,12)) else DH b c n (aO .i64 (a+1)) else J (bw ())
def QW (d:b7) (U:List bC):Option (List Int×Int×Int):=ab (Q1 N d U) λa=>if a.2.2 !=0 then J ([],a.2.1,a.2.2) else ab (DH a.1 (a.1.length:Int) N 0) λc=>match c with|bw e=>J (a.1,0,0)|bt b=>J ([],b.1,b.2)
def RQ (a:Int):Option Int:=if decide (a<=5000) then J 100 else if decide (10000<a) then J 80 else aF.lt (max 80 (aO .i64 (100 - (aO .i64 (l1 (aO .i64 ((aO .i64 (a - 5000))+99)) 100))))) λb=>J b
def Ov (e:List bC) (c:List Int) (d:Int):Nat->dM->Int->Option (Sum (dM) (dM×Int))|0,_,_=>ae|n+1,b,a=>if decide (a<d) then ab (al c a) λf=>ab (H4 f 0 (aO .i64 ((e.length:Int) - 1))) λg=>if !g then J (bt ((dM.mk 0 0 0 0 0 0 0),2)) else Ov e c d n b (aO .i64 (a+1)) else J (bw b)
def Ow (e:List Int) (f:Int):Nat->dM->(List Bool)->Int->Option (Sum (dM×List Bool) (dM×Int))|0,_,_,_=>ae|n+1,d,a,c=>if decide (c<f) then ab (al e c) λb=>ab (al a b) λj=>ab (al a b) λg=>if g then J (bt ((dM.mk 0 0 0 0 0 0 0),8)) else ab (al a b) λi=>ab (al a b) λk=>aF.lt (a.set ((b:Int).toNat) aa) λh=>Ow e f n d h (aO .i64 (c+1)) else J (bw (d,a))
def aD9 (c:List Bool) (a:dM) (f:List bC) (b:Int):Option dM:=ab (al f b) λe=>ab (al c b) λg=>ab (al c b) λd=>if !d then J (dM.mk a.length a.iL a.gv (aO .i64 (a.mw+e.lJ)) a.j9 a.required a.oW) else J a
def aB3 (b:List Bool) (d:List bC) (e:Int):Nat->dM->Int->Option dM|0,_,_=>ae|n+1,c,a=>if decide (a<e) then ab (aD9 b c d a) λf=>aB3 b d e n f (aO .i64 (a+1)) else J c
def aD' (b:Int) (a:dM) (d:Bool):Option dM:=if d then ab (sU (aO .i64 (100*a.mw)) b) λc=>J (dM.mk a.length a.iL a.gv a.mw (aO .i64 (c)) a.required a.oW) else J a
def HI (c:List bC) (U:List Int):Option (dM×Int):=ab (Rt N c) λa=>if a.2.2.2 !=0 then J ((dM.mk 0 0 0 0 0 0 0),a.2.2.2) else ab (hy ak (c.length:Int)) λf=>ab (Ov c U (U.length:Int) N (dM.mk 0 0 0 0 0 0 0) 0) λg=>match g with|bw h=>(ab (Ow U (U.length:Int) N h f 0) λi=>match i with|bw j=>ab (aB3 j.2 c (c.length:Int) N (dM.mk a.1 a.2.2.1 a.2.1 0 0 0 0) 0) λb=>ab (RQ a.1) λl=>ab (aD' a.2.1 (dM.mk b.length b.iL b.gv (aO .i64 (l1 (aO .i64 (b.mw*l)) 100)) b.j9 b.required b.oW) (decide (0<a.2.1))) λk=>J (k,0)|bt d=>J (d.1,d.2))|bt e=>J (e.1,e.2)
def aCG (U:Int) (c:Int) (d:Int) (b:Bool) (a:ff):Option Bool:=if decide (U<=a.speed) then if decide (c<=a.iZ) then if !b then J aa else J (decide (a.j9<d)) else J ak else J ak
def Ni (U:Int) (f:Int) (c:Int) (b:Bool) (e:List ff) (g:Int):Option (Int×Bool):=ab (al e g) λa=>ab (aCG U f c b a) λd=>if d then J (a.j9,aa) else J (c,b)
def De (U:Int) (e:Int) (d:List ff) (g:Int):Nat->Int->Bool->Int->Option (Int×Bool)|0,_,_,_=>ae|n+1,f,b,a=>if decide (a<g) then ab (Ni U e f b d a) λc=>De U e d g n c.1 c.2 (aO .i64 (a+1)) else J (f,b)
def Rj (b:List ff) (U:Int) (c:Int):Option (Int×Bool):=ab (De U c b (b.length:Int) N 0 ak 0) λa=>J (a.1,a.2)
def Dd (U:Int) (c:Int):Option Bool:=ab (H4 U 1 200) λa=>if !a then J aa else ab (H4 c 0 500) λb=>J (!b)
def z8 (c:List ff) (U:Int) (a:Int):Option (Int×Int):=ab (afG N c) λd=>if !d then J (0,1) else ab (Dd U a) λe=>if e then J (0,2) else ab (Rj N c U a) λb=>if !b.2 then J (0,15) else J (b.1,0)
def Sb (f:List bC) (U:List Int) (c:List ff) (d:Int) (e:Int):Option (dM×Int):=ab (HI N f U) λa=>if a.2 !=0 then J ((dM.mk 0 0 0 0 0 0 0),a.2) else ab (z8 N c d e) λb=>if b.2 !=0 then J ((dM.mk 0 0 0 0 0 0 0),b.2) else J ((dM.mk a.1.length a.1.iL a.1.gv a.1.mw a.1.j9 b.1 (max 0 (aO .i64 ((aO .i64 (l1 (aO .i64 ((aO .i64 (b.1*a.1.gv))+99)) 100)) - a.1.mw)))),0)
def QJ (a:bC):Option Int:=J a.length
def CA (U:Int) (b:List bC) (d:Int):Nat->Int->Int->Option (Sum (Unit) (Int))|0,_,_=>ae|n+1,g,a=>if decide (a<d) then ab (al b a) λe=>ab (QJ e) λf=>aF.lt (aO .i64 (g+f)) λc=>if decide (U<c) then J (bt a) else CA U b d n c (aO .i64 (a+1)) else J (bw ())
def Qx (a:fI) (U:Int):Option Int:=ab (CA U a.l (a.l.length:Int) N 0 0) λb=>match b with|bw d=>J (-1)|bt c=>J c
def QK (a:bC):Option Int:=J a.iL
def CB (U:Int) (b:List bC) (d:Int):Nat->Int->Int->Option (Sum (Unit) (Int))|0,_,_=>ae|n+1,g,a=>if decide (a<d) then ab (al b a) λe=>ab (QK e) λf=>aF.lt (aO .i64 (g+f)) λc=>if decide (U<c) then J (bt a) else CB U b d n c (aO .i64 (a+1)) else J (bw ())
def Qy (a:fI) (U:Int):Option Int:=ab (CB U a.l (a.l.length:Int) N 0 0) λb=>match b with|bw d=>J (-1)|bt c=>J c
def QL (a:bC):Option Int:=J a.gv
def CC (U:Int) (b:List bC) (d:Int):Nat->Int->Int->Option (Sum (Unit) (Int))|0,_,_=>ae|n+1,g,a=>if decide (a<d) then ab (al b a) λe=>ab (QL e) λf=>aF.lt (aO .i64 (g+f)) λc=>if decide (U<c) then J (bt a) else CC U b d n c (aO .i64 (a+1)) else J (bw ())
def Qz (a:fI) (U:Int):Option Int:=ab (CC U a.l (a.l.length:Int) N 0 0) λb=>match b with|bw d=>J (-1)|bt c=>J c
def S9 (b:fI) (U:Bool):Option Int:=if U then aF.lt (b.l.length:Int) λa=>J a else J (-1)
def OI (g:Int) (d:cR) (h:Int) (f:Int) (e:Int):Option Bool:=if decide ((aO .i64 ((aO .i64 (g - h)) - 1))<d.c) then if f==d.a then if e==d.b then J aa else if f==d.b then J (e==d.a) else J ak else if f==d.b then J (e==d.a) else J ak else J ak
def OH (b:Int) (c:fI) (e:cR) (d:Int):Nat->Int->Option (Sum (Unit) (Bool))|0,_=>ae|n+1,a=>if decide (a<d) then ab (al c.l a) λf=>ab (al c.l b) λg=>ab (OI b e a f.kH g.kH) λh=>if h then J (bt aa) else OH b c e d n (aO .i64 (a+1)) else J (bw ())
def Sm (d:fI) (U:cR) (a:Int):Option Bool:=ab (OH a d U a N 0) λb=>match b with|bw e=>J ak|bt c=>J c
def QM (d:Int) (b:fI) (c:cR):Option Bool:=ab (Sm N b c d) λa=>J a
def CD (U:fI×cR) (c:List bC) (b:Int):Nat->Int->Option (Sum (Unit) (Int))|0,_=>ae|n+1,a=>if decide (a<b) then ab (al c a) λe=>ab (QM N a U.1 U.2) λd=>if d then J (bt a) else CD U c b n (aO .i64 (a+1)) else J (bw ())
def QA (a:fI) (U:fI×cR):Option Int:=ab (CD N (U.1,U.2) a.l (a.l.length:Int) N 0) λb=>match b with|bw d=>J (-1)|bt c=>J c
def Mu (f:Int) (c:cR) (e:bC):Option Bool:=if e.kH==c.a then aF.lt (decide (f<c.b)) λd=>J d else J ak
def QN (c:Int) (U:bC) (b:cR):Option Bool:=ab (Mu c b U) λa=>J a
def CE (U:cR) (c:List bC) (b:Int):Nat->Int->Option (Sum (Unit) (Int))|0,_=>ae|n+1,a=>if decide (a<b) then ab (al c a) λd=>ab (QN a d U) λe=>if e then J (bt a) else CE U c b n (aO .i64 (a+1)) else J (bw ())
def QB (a:fI) (U:cR):Option Int:=ab (CE U a.l (a.l.length:Int) N 0) λb=>match b with|bw d=>J (-1)|bt c=>J c
def aDN (a:fI) (b:Int):Option Bool:=ab (al a.l b) λc=>if decide (0<c.lJ) then ab (sy N a.off b) λd=>J (!d) else J ak
def aDM (b:fI) (a:Int) (c:Int):Option Int:=ab (aDN N b c) λd=>if d then aF.lt (aO .i64 (a+1)) λe=>J e else J a
def aBz (a:fI):Nat->Int->Int->Option Int|0,_,_=>ae|n+1,c,b=>if decide (b<(a.l.length:Int)) then ab (aDM N a c b) λe=>aF.lt (aO .i64 (b+1)) λd=>aBz a n e d else J c
def vD (c:fI) (U:cR):Option Bool:=aF.lt (min U.a (c.l.length:Int)) λd=>aF.lt (aO .i64 ((c.l.length:Int) - d)) λe=>ab (aBz N c N 0 e) λg=>aF.lt (decide (g<(min U.b d))) λf=>J f
def QO (U:bC) (c:cR):Option Bool:=aF.lt (decide ((aO .i64 (c.a*U.iL))<U.gv)) λb=>J b
def CF (U:cR) (c:List bC) (b:Int):Nat->Int->Option (Sum (Unit) (Int))|0,_=>ae|n+1,a=>if decide (a<b) then ab (al c a) λd=>ab (QO d U) λe=>if e then J (bt a) else CF U c b n (aO .i64 (a+1)) else J (bw ())
def QC (a:fI) (U:cR):Option Int:=ab (CF U a.l (a.l.length:Int) N 0) λb=>match b with|bw d=>J (-1)|bt c=>J c
def aBZ (b:List bC) (d:Int):Nat->Int->Int->Option Int|0,_,_=>ae|n+1,c,a=>if decide (a<d) then ab (al b a) λe=>aF.lt (aO .i64 (c+e.gv)) λf=>aBZ b d n f (aO .i64 (a+1)) else J c
def vC (b:fI) (U:Int):Option Int:=ab (gi b.l (aO .i64 (U+1)) (b.l.length:Int)) λa=>ab (aBZ a (a.length:Int) N 0 0) λc=>J c
def Mv (h:Int) (c:cR) (g:fI) (f:bC):Option Bool:=if decide (f.gv<=c.a) then ab (vC N g h) λd=>aF.lt (decide (c.b<d)) λe=>J e else J ak
def QP (d:Int) (U:bC) (b:cR) (c:fI):Option Bool:=ab (Mv N d b c U) λa=>J a
def Dl (U:cR×fI) (c:List bC) (b:Int):Nat->Int->Option (Sum (Unit) (Int))|0,_=>ae|n+1,a=>if decide (a<b) then ab (al c a) λd=>ab (QP N a d U.1 U.2) λe=>if e then J (bt a) else Dl U c b n (aO .i64 (a+1)) else J (bw ())
def QD (a:fI) (U:cR×fI):Option Int:=ab (Dl N (U.1,U.2) a.l (a.l.length:Int) N 0) λb=>match b with|bw d=>J (-1)|bt c=>J c
def FC (b:fI) (c:cR):Option Int:=if decide (0<(b.l.length:Int)) then ab (S9 b (decide (b.total.j9<c.a))) λd=>J d else ab (S9 b ak) λe=>J e
def Sn (b:fI) (U:cR):Option Int:=aF.lt (U.kind==1) λc=>if c then ab (Qx N b U.a) λd=>J d else aF.lt (U.kind==2) λe=>if e then ab (Qy N b U.a) λf=>J f else aF.lt (U.kind==3) λh=>if h then ab (Qz N b U.a) λi=>J i else aF.lt (U.kind==4) λj=>if j then ab (FC b U) λg=>J g else aF.lt (U.kind==5) λq=>if q then ab (QA N b (b,U)) λp=>J p else aF.lt (U.kind==6) λk=>if k then ab (QB N b U) λl=>J l else aF.lt (U.kind==7) λo=>if o then ab (vD N b U) λn=>ab (S9 b n) λm=>J m else aF.lt (U.kind==8) λr=>if r then ab (QC N b U) λs=>J s else ab (QD N b (U,b)) λt=>J t
def Di (b:fI) (e:List cR) (f:Int):Nat->Int->Option (Sum (Unit) (Int×Int×Int))|0,_=>ae|n+1,a=>if decide (a<f) then ab (al e a) λc=>ab (Sn N b c) λd=>if decide (0<=d) then J (bt (c.number,d,0)) else Di b e f n (aO .i64 (a+1)) else J (bw ())
def Hu (c:List cR) (U:List bC) (e:List Int):Option (Int×Int×Int):=ab (Hv N c) λd=>if d !=0 then J (0,0,d) else ab (HI N U e) λa=>if a.2 !=0 then J (0,0,a.2) else ab (Di N (fI.mk U e a.1) c (c.length:Int) N 0) λf=>match f with|bw g=>J (0,(-1),0)|bt b=>J (b.1,b.2.1,b.2.2)
def aD0 (U:Int) (a:Int):Option Bool:=if decide (a<0) then J aa else J (decide (U<=a))
def MO (U:Int) (c:List Int) (b:Int):Nat->Int->Option (Sum (Unit) (Int))|0,_=>ae|n+1,a=>if decide (a<b) then ab (al c a) λd=>ab (aD0 U d) λe=>if e then J (bt 2) else MO U c b n (aO .i64 (a+1)) else J (bw ())
def x3 (a:List Int) (U:Int):Option Int:=if decide (96<(a.length:Int)) then J 3 else ab (MO U a (a.length:Int) N 0) λb=>match b with|bw d=>J 0|bt c=>J c
def aEc (d:List Int) (c:Int) (a:Int):Option Bool:=if a==0 then J aa else ab (al d (aO .i64 (a - 1))) λb=>J (b !=c)
def aEb (h:List Int) (d:Int) (a:hn) (b:List Int) (i:List Int) (e:Int):Option (hn×List Int):=ab (al i e) λc=>if c !=d then ab (cD b ([c]:List Int)) λf=>J (a,f) else ab (aEc h d e) λg=>if g then J ((hn.mk a.stop (aO .i64 (a.bD+1)) (aO .i64 (a.UN+1))),b) else J ((hn.mk a.stop (aO .i64 (a.bD+1)) a.UN),b)
def aB6 (d:List Int) (c:Int) (g:List Int) (h:Int):Nat->hn->(List Int)->Int->Option (hn×List Int)|0,_,_,_=>ae|n+1,e,b,a=>if decide (a<h) then ab (aEb d c e b g a) λf=>aB6 d c g h n f.1 f.2 (aO .i64 (a+1)) else J (e,b)
def aEd (a:List hn) (b:hn) (d:Bool):Option (List hn):=if d then ab (cD a ([b]:List hn)) λc=>J c else J a
def Fy (e:Int):Nat->(List hn)->(List Int)->Int->Option (List hn)|0,_,_,_=>ae|n+1,d,b,a=>if decide (a<e) then ab (aB6 b a b (b.length:Int) N (hn.mk a 0 0) [] 0) λc=>ab (aEd d c.1 (decide (0<c.1.bD))) λf=>Fy e n f c.2 (aO .i64 (a+1)) else J d
def HM (b:List Int) (U:Int):Option (List hn):=ab (Fy N U N [] b 0) λa=>J a
def Fw (U:Int):Option Bool:=if decide (U<0) then J aa else J (decide (16<U))
def HL (b:List Int) (U:Int):Option (List hn×Int):=ab (Fw U) λc=>if c then J ([],2) else ab (x3 N b U) λa=>if a !=0 then J ([],a) else ab (HM N b U) λd=>J (d,0)
def aAY (d:b7) (c:List Int) (e:Int):Nat->(List Int)->Int->Option (List Int)|0,_,_=>ae|n+1,b,a=>if decide (a<e) then ab (al c a) λj=>ab (al c a) λf=>ab (al b a) λi=>ab (al b a) λh=>aF.lt (b.set ((a:Int).toNat) (aO .i64 ((aO .i64 ((d.c7.length:Int) - 1)) - f))) λg=>aAY d c e n g (aO .i64 (a+1)) else J b
def Hn (d:c8) (U:b7) (a:List bC):Option (hI×Int×Int×Int):=ab (pM N d U a) λg=>if g !=0 then J ((hI.mk [] [] (dM.mk 0 0 0 0 0 0 0) []),0,0,g) else if (a.length:Int)==0 then J ((hI.mk [] [] (dM.mk 0 0 0 0 0 0 0) []),0,0,13) else ab (QW N U a) λb=>if b.2.2 !=0 then J ((hI.mk [] [] (dM.mk 0 0 0 0 0 0 0) []),0,b.2.1,b.2.2) else ab (Sb N a [] d.table d.speed d.iZ) λe=>if e.2 !=0 then J ((hI.mk [] [] (dM.mk 0 0 0 0 0 0 0) []),0,0,e.2) else ab (Hu N d.rules a []) λc=>if c.2.2 !=0 then J ((hI.mk [] [] (dM.mk 0 0 0 0 0 0 0) []),0,0,c.2.2) else if c.1 !=0 then J ((hI.mk [] [] (dM.mk 0 0 0 0 0 0 0) []),c.1,c.2.1,20) else if e.1.oW !=0 then aF.lt (a.length:Int) λh=>J ((hI.mk [] [] (dM.mk 0 0 0 0 0 0 0) []),0,h,20) else ab (hy 0 (a.length:Int)) λi=>ab (aAY U b.1 (b.1.length:Int) N i 0) λk=>ab (HL N k (U.c7.length:Int)) λf=>if f.2 !=0 then J ((hI.mk [] [] (dM.mk 0 0 0 0 0 0 0) []),0,0,f.2) else ab (Hg a) λj=>J ((hI.mk U.name j e.1 f.1),0,0,0)
def aAT (c:List bC) (d:Int):Nat->(List Int)->Int->Option (List Int)|0,_,_=>ae|n+1,b,a=>if decide (a<d) then ab (al c a) λe=>ab (cD b ([e.length]:List Int)) λf=>aAT c d n f (aO .i64 (a+1)) else J b
def RB (a:Step) (U:List cn) (f:List cn):Option (Int×Step):=ab (aAT a.y.bD (a.y.bD.length:Int) N [] 0) λd=>ab (Rw N a.c.aH d a.y.aH U) λb=>if b.2.2 !=0 then J (b.2.2,(Step.mk a.c a.y a.e (cI.mk a.r.err f a.r.proof a.r.dW a.r.final a.r.cZ a.r.place))) else J (0,(Step.mk a.c (bq.mk a.y.bD b.1 a.y.b2 a.y.busy a.y.bo a.y.cE) a.e (cI.mk a.r.err U a.r.proof a.r.dW a.r.final a.r.cZ a.r.place)))
def En (h:Step) (d:b7) (f:List Int) (g:Int):Nat->(List bC)->(List cn)->Int->Option (List bC×List cn)|0,_,_,_=>ae|n+1,b,c,a=>if decide (a<g) then ab (al f a) λe=>ab (al h.y.bD e) λj=>ab (cD b ([j]:List bC)) λk=>ab (cD c ([(cn.mk e d.cq (-1) ak)]:List cn)) λi=>En h d f g n k i (aO .i64 (a+1)) else J (b,c)
def Ry (a:Step) (b:List b7) (g:List cn):Option (Int×Step):=if a.y.busy then J (25,(Step.mk a.c (bq.mk a.y.bD a.y.aH b a.y.busy a.y.bo a.y.cE) a.e (cI.mk a.r.err g a.r.proof a.r.dW a.r.final a.r.cZ a.r.place))) else ab (Qw N (Hf a) b) λd=>if decide (d<0) then J (7,(Step.mk a.c (bq.mk a.y.bD a.y.aH b a.y.busy a.y.bo a.y.cE) a.e (cI.mk a.r.err g a.r.proof a.r.dW a.r.final a.r.cZ a.r.place))) else ab (al b d) λm=>ab (al b d) λh=>ab (al a.y.aH h.cq) λi=>ab (En (Hf a) h i (i.length:Int) N [] [] 0) λj=>ab (Hn N a.c h j.1) λf=>if f.2.2.2 !=0 then J (f.2.2.2,(Step.mk a.c (bq.mk a.y.bD a.y.aH b a.y.busy a.y.bo a.y.cE) a.e (cI.mk a.r.err g a.r.proof a.r.dW a.r.final f.2.1 f.2.2.1))) else ab (AY b d (aO .i64 (d+1))) λl=>ab (RB N (Step.mk a.c (bq.mk a.y.bD a.y.aH l a.y.busy a.y.bo a.y.cE) a.e (cI.mk a.r.err [] a.r.proof a.r.dW f.1 a.r.cZ a.r.place)) j.2 g) λk=>J (k.1,k.2)
def S8 (a:Step) (g:List bC) (f:List b7) (d:List cn) (h:List b6):Option (Int×Step):=aF.lt (a.e.kind==1) λo=>if o then ab (x1 N (Step.mk a.c (bq.mk [] a.y.aH f a.y.busy a.y.bo a.y.cE) a.e (cI.mk a.r.err [] a.r.proof h a.r.final a.r.cZ a.r.place)) g d) λi=>J (i.1,i.2) else aF.lt (a.e.kind==2) λp=>if p then ab (R2 N (Step.mk a.c (bq.mk g a.y.aH [] a.y.busy a.y.bo a.y.cE) a.e (cI.mk a.r.err d a.r.proof h a.r.final a.r.cZ a.r.place)) f) λb=>J (b.1,(Step.mk b.2.2.c (bq.mk b.2.2.y.bD b.2.2.y.aH b.2.1 b.2.2.y.busy b.2.2.y.bo b.2.2.y.cE) b.2.2.e b.2.2.r)) else aF.lt (a.e.kind==3) λs=>if s then ab (Sk N (Step.mk a.c (bq.mk g a.y.aH f a.y.busy a.y.bo a.y.cE) a.e (cI.mk a.r.err d a.r.proof h a.r.final a.r.cZ a.r.place))) λl=>J (l.1,l.2) else aF.lt (a.e.kind==4) λt=>if t then ab (Sl N (Step.mk a.c (bq.mk g a.y.aH f a.y.busy a.y.bo a.y.cE) a.e (cI.mk a.r.err [] a.r.proof h a.r.final a.r.cZ a.r.place)) d) λk=>J (k.1,k.2) else aF.lt (a.e.kind==5) λq=>if q then ab (RA N (Step.mk a.c (bq.mk g a.y.aH f a.y.busy a.y.bo a.y.cE) a.e (cI.mk a.r.err [] a.r.proof [] a.r.final a.r.cZ a.r.place)) d h) λj=>J (j.1,j.2) else aF.lt (a.e.kind==6) λv=>if v then ab (Sj N (Step.mk a.c (bq.mk g a.y.aH f a.y.busy a.y.bo a.y.cE) a.e (cI.mk a.r.err [] a.r.proof h a.r.final a.r.cZ a.r.place)) d) λn=>J (n.1,n.2) else aF.lt (a.e.kind==7) λu=>if u then ab (Ry N (Step.mk a.c (bq.mk g a.y.aH [] a.y.busy a.y.bo a.y.cE) a.e (cI.mk a.r.err [] a.r.proof h a.r.final a.r.cZ a.r.place)) f d) λm=>J (m.1,m.2) else J (1,(Step.mk a.c (bq.mk g a.y.aH f a.y.busy a.y.bo a.y.cE) a.e (cI.mk a.r.err d a.r.proof h a.r.final a.r.cZ a.r.place)))
def afI (e:c8) (U:bq) (d:eb):Option (bq×cI):=ab (Su N U) λa=>ab (S8 N (Step.mk e (bq.mk [] a.1.aH [] a.1.busy a.1.bo a.1.cE) d (cI.mk 0 [] (e8.mk (dF.mk 0 []) []) [] (hI.mk [] [] (dM.mk 0 0 0 0 0 0 0) []) 0 0)) a.2.1 a.2.2 [] []) λb=>if b.1 !=0 then ab (Su N U) λc=>J ((bq.mk c.2.1 c.1.aH c.2.2 c.1.busy c.1.bo c.1.cE),(cI.mk b.1 [] (e8.mk (dF.mk 0 []) []) [] (hI.mk [] [] (dM.mk 0 0 0 0 0 0 0) []) b.2.r.cZ b.2.r.place)) else J (b.2.y,b.2.r)
def aFY (U:bq):Option Bool:=if !U.busy then J aa else J U.cE
def aFk (U:bq) (f:List Int) (d:Int):Nat->(List Int)->(List Int)->Int->(List Int)->(List Int)->Option ((List Int)×(List Int)×List Int×List Int)|0,_,_,_,_,_=>ae|n+1,j,k,b,e,a=>if decide (b<d) then ab (al f b) λc=>ab (cD e ([c]:List Int)) λg=>ab (Sw N U c) λh=>ab (cD a ([h]:List Int)) λi=>aFk U f d n [] [] (aO .i64 (b+1)) g i else J ([],[],e,a)
def Ah (a:bq):Option (Int×List Int×List Int×Int):=ab (aFY a) λe=>if e then J (0,[],[],16) else ab (Sv a.bo) λb=>ab (al a.aH b) λc=>ab (aFk N a c (c.length:Int) N [] [] 0 [] []) λd=>J (b,d.2.2.1,d.2.2.2,0)
def O9 (b:List Int) (U:List Int):Nat->Int->Option (Sum (Unit) (Bool))|0,_=>ae|n+1,a=>if decide (a<(b.length:Int)) then ab (al b a) λc=>ab (al U a) λd=>if c !=d then J (bt ak) else aF.lt (aO .i64 (a+1)) λe=>O9 b U n e else J (bw ())
def tU (a:List Int) (U:List Int):Option Bool:=if (a.length:Int) !=(U.length:Int) then J ak else ab (O9 a U N 0) λb=>match b with|bw d=>J aa|bt c=>J c
def aFj (b:List b6) (U:List b6):Nat->Int->Option (Sum (Unit) (Bool))|0,_=>ae|n+1,a=>if decide (a<(b.length:Int)) then ab (al b a) λc=>ab (al U a) λd=>if !(decide (c=d)) then J (bt ak) else aF.lt (aO .i64 (a+1)) λe=>aFj b U n e else J (bw ())
def Q5 (a:List b6) (U:List b6):Option Bool:=if (a.length:Int) !=(U.length:Int) then J ak else ab (aFj a U N 0) λb=>match b with|bw d=>J aa|bt c=>J c
def NS (b:List (List Int)) (U:List (List Int)):Nat->Int->Option (Sum (Unit) (Bool))|0,_=>ae|n+1,a=>if decide (a<(b.length:Int)) then ab (al b a) λc=>ab (al U a) λd=>ab (tU N c d) λe=>if !e then J (bt ak) else aF.lt (aO .i64 (a+1)) λf=>NS b U n f else J (bw ())
def SL (a:List (List Int)) (U:List (List Int)):Option Bool:=if (a.length:Int) !=(U.length:Int) then J ak else ab (NS N a U N 0) λb=>match b with|bw d=>J aa|bt c=>J c
def F8 (U:c8) (a:List eb):Nat->bq->cI->Int->Option (Sum (bq×cI) (Bool))|0,_,_,_=>ae|n+1,d,f,b=>if decide (b<(a.length:Int)) then ab (al a b) λh=>ab (al a b) λe=>ab (afI N U d e) λc=>if c.2.err !=0 then J (bt ak) else aF.lt (aO .i64 (b+1)) λg=>F8 U a n c.1 c.2 g else J (bw (d,f))
def aFZ (c:cI) (d:Int) (e:List Int) (b:List Int) (a:Int):Option Bool:=ab (tU N c.proof.e9.fW ([0,1,0]:List Int)) λf=>if !f then J aa else if a !=0 then J aa else if d !=0 then J aa else ab (tU N e ([0,1,2]:List Int)) λh=>if !h then J aa else ab (tU N b ([2,1,2]:List Int)) λg=>J (!g)
def aF0 (b:cI) (a:bq) (d:ct) (c:List Int) (e:Int):Option Bool:=if !a.cE then J aa else if e !=0 then J aa else if (d.items.length:Int) !=3 then J aa else ab (tU N c ([0,1,2]:List Int)) λf=>if !f then J aa else ab (Q5 N b.dW ([(b6.mk 1 3 2 0),(b6.mk 2 2 1 1)]:List b6)) λg=>J (!g)
def aF1 (a:bq):Option Bool:=if !a.busy then ab (SL N a.aH ([([]:List Int),([]:List Int),([0,2,1]:List Int)]:List (List Int))) λb=>J b else J ak
def qA:Option Bool:=ab (SO N) λa=>ab (Ia N a.1) λf=>if f.2 !=0 then J ak else ab (F8 N a.1 a.2 N f.1 (cI.mk 0 [] (e8.mk (dF.mk 0 []) []) [] (hI.mk [] [] (dM.mk 0 0 0 0 0 0 0) []) 0 0) 0) λg=>match g with|bw b=>ab (Ah N b.1) λc=>ab (aFZ N b.2 c.1 c.2.1 c.2.2.1 c.2.2.2) λh=>if h then J ak else ab (afI N a.1 b.1 (eb.mk 4 0 0 0 0 [] ([(im.mk 1 2)]:List im) (b7.mk [] 0 []) [] [])) λd=>ab (RL N d.1) λe=>ab (afI N a.1 d.1 (eb.mk 5 0 0 0 12 ([1]:List Int) [] (b7.mk [] 0 []) [] [])) λi=>ab (aF0 N i.2 d.1 e.1 e.2.1 e.2.2) λj=>if j then J ak else ab (afI N a.1 b.1 (eb.mk 4 0 0 0 0 [] [] (b7.mk [] 0 []) [] [])) λl=>ab (afI N a.1 l.1 (eb.mk 4 0 0 0 0 [] [] (b7.mk [] 0 []) [] [])) λm=>ab (aF1 N m.1) λk=>J k|bt n=>J n
def R8 (a:Int):Option (List UInt8):=ab (gW 112) λb=>ab (gW (aO .u8 ((aO .i64 (48+(jB (aO .i64 (l1 a 10)) 10)))))) λc=>ab (gW (aO .u8 ((aO .i64 (48+(jB a 10)))))) λd=>aF.lt ([b,c,d]:List UInt8) λe=>J e
def D1:Nat->dd->(List ff)->Int->Option (dd×List ff)|0,_,_,_=>ae|n+1,f,d,e=>if decide (0<e) then ab (HQ f ([60,80,100,120,200]:List Int)) λa=>ab (HQ a.2 ([0,50,100,250,500]:List Int)) λb=>ab (HQ b.2 ([0,10,30,50,65,100]:List Int)) λc=>ab (cD d ([(ff.mk a.1 b.1 c.1)]:List ff)) λg=>aF.lt (aO .i64 (e - 1)) λh=>D1 n c.2 g h else J (f,d)
def RN (c:dd):Option (List ff×dd):=ab (HP c 5) λa=>ab (D1 N a.2 [] a.1) λb=>J (b.2,b.1)
def aD3 (d:dd) (a:cR) (e:Int):Option (dd×cR):=aF.lt (e==1) λt=>if t then ab (HQ d ([0,262,700,1500,10000]:List Int)) λf=>J (f.2,(cR.mk a.number a.kind f.1 a.b a.c)) else aF.lt (e==2) λu=>if u then ab (HQ d ([3,8,16,40]:List Int)) λh=>J (h.2,(cR.mk a.number a.kind h.1 a.b a.c)) else aF.lt (e==3) λx=>if x then ab (HQ d ([400,1600,4000,20000]:List Int)) λi=>J (i.2,(cR.mk a.number a.kind i.1 a.b a.c)) else aF.lt (e==4) λw=>if w then ab (HQ d ([0,30,50,80]:List Int)) λg=>J (g.2,(cR.mk a.number a.kind g.1 a.b a.c)) else aF.lt (e==5) λv=>if v then ab (HQ d ([1,3,9]:List Int)) λn=>ab (HQ n.2 ([0,1,3]:List Int)) λm=>ab (HP m.2 4) λj=>J (j.2,(cR.mk a.number a.kind n.1 m.1 j.1)) else aF.lt (e==6) λy=>if y then ab (HQ d ([0,1,3]:List Int)) λl=>ab (HP l.2 4) λk=>J (k.2,(cR.mk a.number a.kind l.1 k.1 a.c)) else aF.lt (e==7) λz=>if z then ab (HP d 5) λo=>ab (HP o.2 4) λq=>J (q.2,(cR.mk a.number a.kind o.1 q.1 a.c)) else aF.lt (e==8) λA=>if A then ab (HQ d ([50,200,500]:List Int)) λs=>J (s.2,(cR.mk a.number a.kind s.1 a.b a.c)) else ab (HQ d ([100,400]:List Int)) λp=>ab (HQ p.2 ([0,800,3000]:List Int)) λr=>J (r.2,(cR.mk a.number a.kind p.1 r.1 a.c))
def R7 (c:dd) (U:Int):Option (cR×dd):=ab (HP c 9) λa=>ab (aD3 a.2 (cR.mk U (aO .i64 (1+a.1)) 0 0 0) (aO .i64 (1+a.1))) λb=>J (b.2,b.1)
def MX:Nat->dd->(List cR)->Int->Option (dd×List cR)|0,_,_,_=>ae|n+1,e,a,d=>if decide (0<d) then ab (HP e 9) λb=>ab (R7 b.2 (aO .i64 ((aO .i64 ((aO .i64 (10*(a.length:Int)))+1))+b.1))) λc=>ab (cD a ([c.1]:List cR)) λf=>aF.lt (aO .i64 (d - 1)) λg=>MX n c.2 f g else J (e,a)
def HC (c:dd) (U:Int):Option (List cR×dd):=ab (HP c (aO .i64 (U+1))) λa=>ab (MX N a.2 [] a.1) λb=>J (b.2,b.1)
def aAN:Nat->dd->c8->Int->(List eE)->Option (dd×c8×List eE)|0,_,_,_,_=>ae|n+1,e,a,c,b=>if decide (0<c) then ab (R8 (b.length:Int)) λh=>ab (HQ e ([500,1500,3000,8000,100000]:List Int)) λd=>ab (cD b ([(eE.mk h d.1)]:List eE)) λf=>aF.lt (aO .i64 (c - 1)) λg=>aAN n d.2 (c8.mk [] a.rules [] a.speed a.iZ) g f else J (e,(c8.mk [] a.rules [] a.speed a.iZ),b)
def aCN (b:dd) (U:Bool):Option (dd×Bool):=if !U then J (b,aa) else ab (HP b 3) λa=>J (a.2,(a.1==0))
def aCO (e:dd) (a:c8) (f:Bool) (d:List eE) (c:List ff):Option (dd×c8×List eE×List ff):=if f then ab (HC N e 3) λb=>J (b.2,(c8.mk [] b.1 [] a.speed a.iZ),d,c) else J (e,(c8.mk [] a.rules [] a.speed a.iZ),d,c)
def Rq (k:dd) (U:Bool):Option (c8×dd):=ab (HQ k ([60,80,100]:List Int)) λc=>ab (HQ c.2 ([0,50,100]:List Int)) λd=>ab (HQ d.2 ([0,0,10,40]:List Int)) λe=>ab (HP e.2 5) λf=>aF.lt (aO .i64 (4+f.1)) λi=>ab (aAN N f.2 (c8.mk [] [] [] c.1 d.1) i []) λb=>ab (RN N b.1) λh=>ab (cD ([(ff.mk 200 500 e.1)]:List ff) h.1) λj=>ab (aCN h.2 U) λg=>ab (aCO N g.1 (c8.mk [] b.2.1.rules [] b.2.1.speed b.2.1.iZ) g.2 b.2.2 j) λa=>J ((c8.mk a.2.2.1 a.2.1.rules a.2.2.2 a.2.1.speed a.2.1.iZ),a.1)
def OX (U:cR):Option Bool:=if decide (U.number<1) then J aa else if decide (9999<U.number) then J aa else if decide (U.kind<1) then J aa else J (decide (9<U.kind))
def GQ (U:cR):Option Bool:=if decide (0<=U.a) then if decide (U.a<=1000000) then if decide (0<=U.b) then if decide (U.b<=1000000) then if decide (0<=U.c) then aF.lt (decide (U.c<=1000000)) λd=>J d else J ak else J ak else J ak else J ak else J ak
def S2 (a:cR):Option Bool:=ab (OX a) λb=>if b then J ak else ab (GQ a) λc=>J c
def aBb (c:List cR) (a:Int):Nat->Int->Option (Sum (Unit) (Int))|0,_=>ae|n+1,b=>if decide (b<a) then ab (al c b) λd=>ab (al c a) λe=>if d.number==e.number then J (bt 8) else aF.lt (aO .i64 (b+1)) λf=>aBb c a n f else J (bw ())
def GN (b:List cR):Nat->Int->Option (Sum (Unit) (Int))|0,_=>ae|n+1,a=>if decide (a<(b.length:Int)) then ab (al b a) λc=>ab (S2 c) λd=>if !d then J (bt 1) else ab (aBb b a N 0) λg=>match g with|bw h=>aF.lt (aO .i64 (a+1)) λe=>GN b n e|bt f=>J (bt f) else J (bw ())
def S1 (a:List cR):Option Int:=if decide (32<(a.length:Int)) then J 3 else ab (GN N a N 0) λb=>match b with|bw d=>J 0|bt c=>J c
def Nn (b:List ff) (a:Int):Option Bool:=ab (al b a) λc=>if decide (c.speed<1) then J aa else ab (al b a) λd=>if decide (200<d.speed) then J aa else ab (al b a) λe=>if decide (e.iZ<0) then J aa else ab (al b a) λf=>if decide (500<f.iZ) then J aa else ab (al b a) λg=>if decide (g.j9<0) then J aa else ab (al b a) λh=>J (decide (250<h.j9))
def Dg (b:List ff):Nat->Int->Option (Sum (Unit) (Bool))|0,_=>ae|n+1,a=>if decide (a<(b.length:Int)) then ab (Nn b a) λd=>if d then J (bt ak) else aF.lt (aO .i64 (a+1)) λc=>Dg b n c else J (bw ())
def Rn (a:List ff):Option Bool:=if decide (64<(a.length:Int)) then J ak else ab (Dg a N 0) λb=>match b with|bw d=>J aa|bt c=>J c
def C6 (U:c8):Option Bool:=if decide (1<=(U.aH.length:Int)) then if decide ((U.aH.length:Int)<=24) then if decide (1<=U.speed) then if decide (U.speed<=200) then if decide (0<=U.iZ) then aF.lt (decide (U.iZ<=500)) λa=>J a else J ak else J ak else J ak else J ak else J ak
def aDh (U:c8) (a:Bool) (b:Int):Option Bool:=if a then J (decide (b<(U.aH.length:Int))) else J ak
def aDi (U:c8) (a:Int):Option Bool:=ab (al U.aH a) λb=>ab (Tb N b.name) λd=>if d then ab (al U.aH a) λe=>if decide (1<=e.length) then ab (al U.aH a) λf=>aF.lt (decide (f.length<=100000)) λc=>J c else J ak else J ak
def aDj (U:c8) (b:Bool) (c:Int) (a:Int):Option Bool:=if b then ab (al U.aH a) λd=>ab (al U.aH c) λf=>aF.lt (!(d.name==f.name)) λe=>J e else J ak
def aA4 (U:c8) (b:Int):Nat->Bool->Int->Option Bool|0,_,_=>ae|n+1,c,a=>if decide (a<b) then ab (aDj U c b a) λd=>aF.lt (aO .i64 (a+1)) λe=>aA4 U b n d e else J c
def aA3 (U:c8):Nat->Bool->Int->Option Bool|0,_,_=>ae|n+1,b,a=>ab (aDh U b a) λc=>if c then ab (aDi N U a) λd=>ab (aA4 U a N d 0) λf=>aF.lt (aO .i64 (a+1)) λe=>aA3 U n f e else J b
def Hp (a:c8):Option Int:=ab (C6 a) λc=>ab (aA3 N a N c 0) λd=>if !d then J 1 else ab (S1 N a.rules) λb=>if b !=0 then J b else ab (Rn N a.table) λe=>if !e then J 1 else J 0
def FZ (U:c8):Nat->bq->Int->(List (List Int))->Option (bq×List (List Int))|0,_,_,_=>ae|n+1,a,b,c=>if decide (b<(U.aH.length:Int)) then ab (cD c ([([]:List Int)]:List (List Int))) λd=>aF.lt (aO .i64 (b+1)) λe=>FZ U n (z1 a) e d else J ((z1 a),c)
def vI (c:c8):Option (bq×Int):=ab (Hp N c) λb=>if b !=0 then J ((bq.mk [] [] [] ak (eR.mk [] (b8.mk [] 0) (e8.mk (dF.mk 0 []) []) 0 [] 0) ak),b) else ab (FZ c N (bq.mk [] [] [] ak (eR.mk [] (b8.mk [] 0) (e8.mk (dF.mk 0 []) []) 0 [] 0) ak) 0 []) λa=>J ((bq.mk a.1.bD a.2 a.1.b2 a.1.busy a.1.bo a.1.cE),0)
def aD5 (U:bq) (c:Int) (e:Bool) (d:Int):Option Bool:=if e then J aa else ab (al U.b2 d) λa=>aF.lt (a.cq==c) λb=>J b
def aB2 (U:bq) (b:Int):Nat->Bool->Int->Option Bool|0,_,_=>ae|n+1,c,a=>if decide (a<(U.b2.length:Int)) then ab (aD5 U b c a) λd=>aF.lt (aO .i64 (a+1)) λe=>aB2 U b n d e else J c
def aD6 (U:bq) (a:Int) (b:Bool):Option Bool:=if !b then ab (al U.aH a) λc=>J ((c.length:Int)==0) else J ak
def aD4 (U:bq) (b:List Int) (c:List Int) (a:Int):Option (List Int×List Int):=ab (aB2 U a N ak 0) λd=>ab (aD6 U a d) λg=>if g then ab (cD b ([a]:List Int)) λe=>J (e,c) else if !d then ab (cD c ([a]:List Int)) λf=>J (b,f) else J (b,c)
def DT (U:bq):Nat->(List Int)->(List Int)->Int->Option (List Int×List Int)|0,_,_,_=>ae|n+1,b,c,a=>if decide (a<(U.aH.length:Int)) then ab (aD4 N U b c a) λd=>aF.lt (aO .i64 (a+1)) λe=>DT U n d.1 d.2 e else J (b,c)
def Ac (c:bq):Option (List Int):=ab (DT N c N [] [] 0) λa=>ab (cD a.1 a.2) λb=>J b
def R9 (g:dd) (U:List UInt8):Option (List UInt8×dd):=if U==[] then ab (HP g 256) λc=>ab (gW (aO .u8 (c.1))) λh=>aF.lt ([h]:List UInt8) λi=>J (i,c.2) else ab (HP g (U.length:Int)) λa=>ab (HP a.2 4) λb=>aF.lt (b.1==0) λm=>if m then ab (gi U 0 a.1) λn=>ab (gi U (aO .i64 (a.1+1)) (U.length:Int)) λk=>ab (cD n k) λl=>J (l,b.2) else aF.lt (b.1==1) λj=>if j then ab (gi U 0 a.1) λt=>ab (HP b.2 256) λd=>ab (gW (aO .u8 (d.1))) λo=>ab (cD t ([o]:List UInt8)) λp=>ab (gi U a.1 (U.length:Int)) λs=>ab (cD p s) λr=>J (r,d.2) else aF.lt (b.1==2) λq=>if q then ab (gi U 0 a.1) λu=>ab (HP b.2 10) λe=>ab (gW (aO .u8 ((aO .i64 (48+e.1))))) λx=>ab (cD u ([x]:List UInt8)) λy=>ab (gi U (aO .i64 (a.1+1)) (U.length:Int)) λv=>ab (cD y v) λw=>J (w,e.2) else ab (gi U 0 a.1) λA=>ab (HP b.2 256) λf=>ab (gW (aO .u8 (f.1))) λz=>ab (cD A ([z]:List UInt8)) λC=>ab (gi U (aO .i64 (a.1+1)) (U.length:Int)) λD=>ab (cD C D) λB=>J (B,f.2)
def Q6 (c:dd) (U:List UInt8):Option (List UInt8×dd):=ab (R9 c U) λa=>ab (cD a.1 []) λb=>J (b,a.2)
def EM (h:dd) (a:b7) (e:Int) (d:List (List UInt8)):Option (dd×b7×List (List UInt8)):=ab (HP h 2) λb=>if b.1==0 then ab (HP b.2 2) λc=>ab (al p2 (jB (aO .i64 (e+c.1)) 4)) λg=>ab (cD d ([g]:List (List UInt8))) λf=>J (c.2,(b7.mk a.name a.cq []),f) else J (b.2,(b7.mk a.name a.cq []),d)
def EL:Nat->dd->b7->Int->(List (List UInt8))->Option (dd×b7×List (List UInt8))|0,_,_,_,_=>ae|n+1,e,a,c,d=>if decide (c<4) then ab (EM e (b7.mk a.name a.cq []) c d) λb=>aF.lt (aO .i64 (c+1)) λf=>EL n b.1 (b7.mk b.2.1.name b.2.1.cq []) f b.2.2 else J (e,(b7.mk a.name a.cq []),d)
def DW (c:dd) (d:c8) (a:b7) (e:Bool):Option (dd×b7):=if e then ab (HQ c ([(-1),(d.aH.length:Int)]:List Int)) λb=>J (b.2,(b7.mk a.name b.1 [])) else J (c,(b7.mk a.name a.cq []))
def HB (g:dd) (U:c8):Option (b7×dd):=ab (HP g 4) λb=>ab (al ([[120,49],[120,50],[120,51],[120,52]]:List (List UInt8)) b.1) λh=>ab (al ([[120,49],[120,50],[120,51],[120,52]]:List (List UInt8)) b.1) λf=>ab (HP b.2 (U.aH.length:Int)) λd=>ab (EL N d.2 (b7.mk f d.1 []) 0 []) λa=>ab (HP a.1 9) λe=>ab (DW e.2 U (b7.mk a.2.1.name a.2.1.cq []) (e.1==0)) λc=>J ((b7.mk c.2.name c.2.cq a.2.2),c.1)
def SE (a:bq):Option Int:=if a.bo.h9==0 then J a.bo.lead else ab (al a.bo.aH (aO .i64 (a.bo.h9 - 1))) λb=>J b
def aBx (c:Int) (b:List Int):Nat->Int->Option (Sum (Unit) (Int))|0,_=>ae|n+1,a=>if decide (a<(b.length:Int)) then ab (j2 .i64 (aO .u64 a)) λd=>if (ih .and .i64 (sE c ((2 ^ d:Nat):Int)) 1)==1 then ab (al b a) λe=>J (bt e) else aF.lt (aO .i64 (a+1)) λf=>aBx c b n f else J (bw ())
def SD (g:List b7) (U:c4) (b:Int) (c:Int) (d:List Int):Option Int:=ab (aBx b d N c) λa=>match a with|bw h=>ab (al g U.dS) λe=>J e.cq|bt f=>J f
def aEa (U:List Int) (h:bq) (c:List Int) (a:eR) (i:Int) (b:Int):Option (List Int):=ab (al a.bD b) λd=>ab (al U i) λe=>if d==e then ab (al a.iP.items b) λf=>ab (al a.proof.e9.fW b) λg=>ab (SD N h.b2 f g a.h9 a.aH) λj=>ab (cD c ([j]:List Int)) λk=>J k else J c
def aB5 (U:List Int) (c:bq) (a:eR) (e:Int):Nat->(List Int)->Int->Option (List Int)|0,_,_=>ae|n+1,d,b=>if decide (b<(a.bD.length:Int)) then ab (aEa N U c d a e b) λg=>aF.lt (aO .i64 (b+1)) λf=>aB5 U c a e n g f else J d
def Oz (U:List Int) (b:bq) (d:eR):Nat->(List Int)->Int->Option (List Int)|0,_,_=>ae|n+1,c,a=>if decide (a<(U.length:Int)) then ab (aB5 N U b d a N c 0) λf=>aF.lt (aO .i64 (a+1)) λe=>Oz U b d n f e else J c
def Sg (a:bq) (U:List Int):Option (List Int):=ab (Oz N U a a.bo N [] 0) λb=>J b
def Gk (U:bq):Option Bool:=if !U.busy then J aa else J U.cE
def Ti (a:bq):Option (Int×List Int×List Int×Int):=ab (Gk a) λd=>if d then J (0,[],[],16) else ab (SE a) λb=>ab (al a.aH b) λe=>ab (cD ([]:List Int) e) λc=>ab (Sg N a c) λf=>J (b,c,f,0)
def aC2 (b:dd) (d:bq):Option (dd×Bool):=if d.cE then ab (HP b 6) λa=>aF.lt (decide (0<a.1)) λc=>J (a.2,c) else J (b,ak)
def aC3 (b:dd) (c:bq):Option (dd×Bool):=if c.busy then ab (HP b 5) λa=>aF.lt (decide (0<a.1)) λd=>J (a.2,d) else J (b,ak)
def aC1 (e:dd) (d:bq) (a:eb):Option (dd×eb):=ab (aC2 e d) λc=>if c.2 then J (c.1,(eb.mk 5 a.cq a.to a.count a.dO [] [] a.order a.name [])) else ab (aC3 c.1 d) λb=>if b.2 then J (b.1,(eb.mk 4 a.cq a.to a.count a.dO [] [] a.order a.name [])) else J (b.1,(l0 a))
def aCv (b:dd) (c:List Int):Option (dd×Bool):=if decide (0<(c.length:Int)) then ab (HP b 4) λa=>J (a.2,(decide (0<a.1))) else J (b,ak)
def aCw (d:dd) (b:List Int) (a:eb) (f:Bool):Option (dd×eb):=if f then ab (HP d (b.length:Int)) λc=>ab (al b c.1) λg=>ab (al b c.1) λe=>J (c.2,(eb.mk a.kind e a.to a.count a.dO [] [] a.order a.name [])) else J (d,(l0 a))
def aBS (d:Int):Nat->dd->(List bC)->Int->Option (dd×List bC)|0,_,_,_=>ae|n+1,f,b,c=>if decide (0<c) then ab (Sa N f (aO .i64 (d+(b.length:Int)))) λa=>ab (HP a.2 4) λe=>ab (al p2 e.1) λi=>ab (cD b ([(bC.mk a.1.number a.1.length a.1.iL a.1.gv a.1.lJ a.1.kH a.1.uM i)]:List bC)) λg=>aF.lt (aO .i64 (c - 1)) λh=>aBS d n e.2 g h else J (f,b)
def aCx (b:dd) (c:List Int):Option (dd×Bool):=if decide (0<(c.length:Int)) then ab (HP b 4) λa=>J (a.2,(decide (0<a.1))) else J (b,ak)
def aCy (b:Int) (a:Bool):Option Bool:=if a then J a else aF.lt (b==5) λc=>J c
def aCz (b:List Int) (a:eb):Option Bool:=if a.kind==3 then J (decide (0<(b.length:Int))) else J ak
def aEG (b:List Int) (a:eb) (c:Bool):Option eb:=if c then ab (al b (aO .i64 ((b.length:Int) - 1))) λg=>ab (al b (aO .i64 ((b.length:Int) - 1))) λe=>J (eb.mk a.kind e a.to a.count a.dO [] [] a.order a.name []) else if decide (0<(b.length:Int)) then ab (al b 0) λf=>ab (al b 0) λd=>J (eb.mk a.kind d a.to a.count a.dO [] [] a.order a.name []) else J (l0 a)
def aEH (a:List Int) (b:Int) (c:List Int):Option Bool:=if decide (b<(a.length:Int)) then J (decide ((c.length:Int)<4)) else J ak
def aEI (a:List Int) (c:eb) (b:Int) (d:List Int):Option (eb×List Int):=ab (al a b) λh=>ab (al a b) λf=>if f !=c.cq then ab (al a b) λi=>ab (al a b) λe=>ab (cD d ([e]:List Int)) λg=>J ((l0 c),g) else J ((l0 c),d)
def aA' (a:List Int):Nat->eb->Int->(List Int)->Option (eb×List Int)|0,_,_,_=>ae|n+1,e,b,c=>ab (aEH a b c) λg=>if g then ab (aEI a (l0 e) b c) λd=>aF.lt (aO .i64 (b+1)) λf=>aA' a n (l0 d.1) f d.2 else J ((l0 e),c)
def aBa (d:c8) (e:List Int):Nat->dd->eb->Int->(List im)->Option (dd×eb×List im)|0,_,_,_,_=>ae|n+1,h,c,f,g=>if decide (0<f) then ab (HP h (aO .i64 ((e.length:Int)+1))) λa=>ab (HP a.2 (d.aH.length:Int)) λb=>ab (cD g ([(im.mk a.1 b.1)]:List im)) λj=>aF.lt (aO .i64 (f - 1)) λi=>aBa d e n b.2 (l0 c) i j else J (h,(l0 c),g)
def aC4 (f:dd) (K:Int) (g:c8) (m:bq) (e:List Int) (a:eb) (h:Int) (c:List Int) (b:List im) (d:List UInt8):Option (dd×eb×List Int×List im×List UInt8):=aF.lt (h==1) λL=>if L then ab (HP f (g.aH.length:Int)) λz=>ab (aCv z.2 e) λy=>ab (aCw y.1 e (eb.mk a.kind z.1 a.to a.count a.dO [] [] a.order a.name []) y.2) λr=>ab (HP r.1 7) λA=>ab (aBS N K N A.2 [] A.1) λC=>ab (Sz N C.2) λB=>ab (HP C.1 15) λs=>if s.1==0 then ab (Q6 s.2 B.1) λD=>J (D.2,(l0 r.2),c,b,D.1) else J (s.2,(l0 r.2),c,b,B.1) else aF.lt (h==2) λM=>if M then ab (HB N f g) λn=>ab (aCx n.2 e) λu=>if u.2 then ab (al e 0) λU=>ab (al e 0) λR=>J (u.1,(eb.mk a.kind a.cq a.to a.count a.dO [] [] (b7.mk n.1.name R n.1.c7) a.name []),c,b,d) else J (u.1,(eb.mk a.kind a.cq a.to a.count a.dO [] [] n.1 a.name []),c,b,d) else aF.lt (h==3) λQ=>ab (aCy h Q) λO=>if O then ab (HP f (g.aH.length:Int)) λt=>ab (HQ t.2 ([12,12,12,1,2,0]:List Int)) λv=>ab (aCz e (eb.mk a.kind t.1 a.to a.count v.1 [] [] a.order a.name [])) λP=>ab (aEG e (eb.mk a.kind t.1 a.to a.count v.1 [] [] a.order a.name []) P) λS=>ab (aA' e N (l0 S) 0 c) λl=>ab (HP v.2 8) λw=>if w.1==0 then ab (HQ w.2 ([(-1),0,l.1.cq,(g.aH.length:Int)]:List Int)) λx=>ab (cD l.2 ([x.1]:List Int)) λG=>J (x.2,(l0 l.1),G,b,d) else J (w.2,(l0 l.1),l.2,b,d) else aF.lt (h==4) λH=>if H then ab (Ti N m) λI=>ab (HQ f ([0,0,0,1,2]:List Int)) λF=>ab (aBa g I.2.1 N F.2 (l0 a) F.1 b) λo=>J (o.1,(l0 o.2.1),c,o.2.2,d) else aF.lt (h==6) λT=>if T then ab (HP f (g.aH.length:Int)) λE=>ab (HP E.2 (g.aH.length:Int)) λi=>ab (HP i.2 4) λj=>J (j.2,(eb.mk a.kind E.1 i.1 j.1 a.dO [] [] a.order a.name []),c,b,d) else aF.lt (h==7) λp=>if p then if decide (0<(m.b2.length:Int)) then ab (HP f (m.b2.length:Int)) λk=>ab (al m.b2 k.1) λq=>J (k.2,(eb.mk a.kind a.cq a.to a.count a.dO [] [] a.order q.name []),c,b,d) else J (f,(eb.mk a.kind a.cq a.to a.count a.dO [] [] a.order [120,49] []),c,b,d) else J (f,(l0 a),c,b,d)
def RM (g:dd) (U:c8) (b:bq) (f:Int):Option (eb×dd):=ab (Ac N b) λe=>ab (HP g 7) λd=>ab (aC1 d.2 b (eb.mk (aO .i64 (1+d.1)) 0 0 0 0 [] [] (b7.mk [] 0 []) [] [])) λc=>ab (aC4 N c.1 f U b e (l0 c.2) c.2.kind [] [] []) λa=>J ((eb.mk a.2.1.kind a.2.1.cq a.2.1.to a.2.1.count a.2.1.dO a.2.2.1 a.2.2.2.1 a.2.1.order a.2.1.name a.2.2.2.2),a.1)
def aBh (b:List (List Int)):Nat->(List (List Int))->Int->Option (List (List Int))|0,_,_=>ae|n+1,c,a=>if decide (a<(b.length:Int)) then ab (al b a) λd=>ab (cD ([]:List Int) d) λe=>ab (cD c (([[]]:List (List Int)).set ((0:Int).toNat) e)) λf=>aF.lt (aO .i64 (a+1)) λg=>aBh b n f g else J c
def Th (b:List (List Int)):Option (List (List Int)):=ab (aBh b N ([]:List (List Int)) 0) λa=>J a
def Gi (U:bq):Nat->(List b7)->Int->(List (List Int))->Option (List b7×List (List Int))|0,_,_,_=>ae|n+1,c,b,d=>if decide (b<(U.b2.length:Int)) then ab (al U.b2 b) λa=>ab (cD ([]:List (List UInt8)) a.c7) λe=>ab (cD c ([(b7.mk a.name a.cq e)]:List b7)) λf=>aF.lt (aO .i64 (b+1)) λg=>Gi U n f g d else J (c,d)
def Ak (a:bq):Option (bq×List bC×List b7):=ab (cD ([]:List bC) a.bD) λc=>ab (Th N a.aH) λd=>ab (Gi (Yp a) N [] 0 d) λb=>ab (cD ([]:List Int) a.bo.bD) λf=>ab (cD ([]:List Int) a.bo.aH) λg=>ab (cD ([]:List c4) a.bo.iP.items) λe=>ab (cD ([]:List Int) a.bo.proof.e9.fW) λi=>ab (cD ([]:List Int) a.bo.proof.chain) λh=>J ((bq.mk [] (rz (λ(z:List Int)=>z) b.2) [] a.busy (eR.mk f (b8.mk e a.bo.iP.dO) (e8.mk (dF.mk a.bo.proof.e9.steps i) h) a.bo.lead g a.bo.h9) a.cE),c,b.1)
def F5 (U:Int) (b:c8):Option Bool:=if decide (0<=U) then aF.lt (decide (U<(b.aH.length:Int))) λa=>J a else J ak
def S7 (b:c8) (U:Int):Option Bool:=ab (F5 U b) λa=>J a
def xq (b:List Int) (U:Int):Nat->Int->Option (Sum (Unit) (Bool))|0,_=>ae|n+1,a=>if decide (a<(b.length:Int)) then ab (al b a) λc=>if c==U then J (bt aa) else aF.lt (aO .i64 (a+1)) λd=>xq b U n d else J (bw ())
def yc (c:List Int) (U:Int):Option Bool:=ab (xq c U N 0) λa=>match a with|bw d=>J ak|bt b=>J b
def aB4 (U:Int) (a:bq):Nat->Int->Option (Sum (Unit) (Bool))|0,_=>ae|n+1,b=>if decide (b<(a.b2.length:Int)) then ab (al a.b2 b) λc=>if c.cq==U then J (bt aa) else aF.lt (aO .i64 (b+1)) λd=>aB4 U a n d else J (bw ())
def Sf (c:bq) (U:Int):Option Bool:=ab (aB4 U c N 0) λa=>match a with|bw d=>J ak|bt b=>J b
def FU (a:List UInt8):Nat->Int->Int->Option (Sum (Int) (Int))|0,_,_=>ae|n+1,b,d=>ab (al a 0) λe=>if decide (d<(aO .i64 ((fy e:Int)))) then if decide ((a.length:Int)<(aO .i64 (b+15))) then J (bt (-1)) else ab (al a (aO .i64 (b+14))) λf=>aF.lt (aO .i64 (b+(aO .i64 (15+(aO .i64 ((fy f:Int))))))) λc=>if decide ((a.length:Int)<c) then J (bt (-1)) else aF.lt (aO .i64 (d+1)) λg=>FU a n c g else J (bw b)
def Ie (a:List UInt8):Option Int:=if (a.length:Int)==0 then J (-1) else ab (FU a N 1 0) λd=>match d with|bw b=>if decide ((a.length:Int)<(aO .i64 (b+2))) then J (-1) else aF.lt (aO .i64 (b+2)) λe=>J e|bt c=>J c
def Tk (a:List UInt8):Option Int:=ab (al a 0) λb=>ab (al a 1) λc=>aF.lt (aO .i64 ((aO .i64 ((aO .i64 ((fy b:Int)))*256))+(aO .i64 ((fy c:Int))))) λd=>J d
def aDD (b:List UInt8) (a:Int):Option Bool:=ab (al b a) λd=>if decide (9<(aO .u8 (l1 (fy d:Int) 16))) then J aa else ab (al b a) λc=>J (decide (9<(jB (fy c:Int) 16)))
def aBr (b:List UInt8):Nat->(List UInt8)->Int->Option (Sum (List UInt8) (Int))|0,_,_=>ae|n+1,c,a=>if decide (a<6) then ab (aDD b a) λd=>if d then J (bt 11) else ab (al b a) λe=>ab (al b a) λh=>ab (gW (aO .u8 (48+(aO .u8 (l1 (fy e:Int) 16))))) λg=>ab (gW (aO .u8 (48+(jB (fy h:Int) 16)))) λf=>ab (cD c ([g,f]:List UInt8)) λi=>aF.lt (aO .i64 (a+1)) λj=>aBr b n i j else J (bw c)
def aDE (a:List UInt8):Option Bool:=ab (al a 13) λb=>if decide (25<(fy b:Int)) then J aa else ab (al a 13) λc=>if decide (10<=(fy c:Int)) then ab (al a 13) λd=>J (decide ((fy d:Int)<=15)) else J ak
def E1 (b:List UInt8):Nat->(List bC)->Int->Int->Option (Sum (List bC) (Int))|0,_,_,_=>ae|n+1,c,e,d=>ab (al b 0) λg=>if decide (d<(aO .i64 ((fy g:Int)))) then ab (gi b e (b.length:Int)) λa=>ab (aBr a N [] 0) λh=>match h with|bw i=>ab (aDE a) λj=>if j then J (bt 11) else ab (al a 14) λk=>aF.lt (aO .i64 ((fy k:Int))) λf=>ab (gi a 6 (a.length:Int)) λo=>ab (Tk o) λm=>ab (al a 8) λr=>ab (gi a 9 (a.length:Int)) λp=>ab (Tk p) λw=>ab (gi a 11 (a.length:Int)) λx=>ab (Tk x) λu=>ab (al a 13) λq=>ab (al a 13) λs=>ab (gi a 15 (aO .i64 (15+f))) λl=>ab (cD c ([(bC.mk i m (aO .i64 ((fy r:Int))) w u (aO .i64 ((jB (fy q:Int) 16))) (decide (16<=(fy s:Int))) l)]:List bC)) λv=>aF.lt (aO .i64 (e+(aO .i64 (15+f)))) λt=>aF.lt (aO .i64 (d+1)) λz=>E1 b n v t z|bt y=>J (bt y) else J (bw c)
def Sy (a:List UInt8):Option (List bC×Int):=ab (Ie N a) λb=>aF.lt (decide (b<0)) λe=>if e then J ([],10) else aF.lt (decide (b<(a.length:Int))) λf=>if f then J ([],11) else ab (gi a (aO .i64 (b - 2)) (a.length:Int)) λg=>ab (Tk g) λi=>ab (gi a 0 (aO .i64 (b - 2))) λj=>ab (Af N j) λk=>aF.lt (i !=k) λh=>if h then J ([],9) else ab (E1 N a N [] 1 0) λl=>match l with|bw c=>ab (Hy N c) λd=>if d !=0 then J ([],d) else J (c,0)|bt m=>J ([],m)
def xn (c:List (List Int)) (U:Int) (b:Int):Nat->Int->Option (Sum (Unit) (Int×Int))|0,_=>ae|n+1,a=>ab (al c b) λd=>if decide (a<(d.length:Int)) then ab (al c b) λe=>ab (al e a) λf=>if f==U then J (bt (b,a)) else aF.lt (aO .i64 (a+1)) λg=>xn c U b n g else J (bw ())
def zG (b:List (List Int)) (U:Int):Nat->Int->Option (Sum (Unit) (Int×Int))|0,_=>ae|n+1,a=>if decide (a<(b.length:Int)) then ab (xn b U a N 0) λd=>match d with|bw f=>aF.lt (aO .i64 (a+1)) λe=>zG b U n e|bt c=>J (bt (c.1,c.2)) else J (bw ())
def vG (c:List (List Int)) (U:Int):Option (Int×Int):=ab (zG N c U N 0) λb=>match b with|bw d=>J ((-1),(-1))|bt a=>J (a.1,a.2)
def Fu (b:List bC):Nat->(List Int)->Int->Option (List Int)|0,_,_=>ae|n+1,c,a=>if decide (a<(b.length:Int)) then ab (al b a) λd=>ab (cD c ([d.length]:List Int)) λe=>aF.lt (aO .i64 (a+1)) λf=>Fu b n e f else J c
def Se (b:List bC):Option (List Int):=ab (Fu b N [] 0) λa=>J a
def FY (c:List Int) (U:List Int):Nat->Int->Int->Option Int|0,_,_=>ae|n+1,b,a=>if decide (a<(U.length:Int)) then ab (al U a) λd=>ab (al c d) λe=>aF.lt (aO .i64 (b+e)) λf=>aF.lt (aO .i64 (a+1)) λg=>FY c U n f g else J b
def An (b:List Int) (U:List Int):Option Int:=ab (FY b U N 0 0) λa=>J a
def O3 (a:List eE) (U:List Int) (b:List (List Int)):Option Bool:=if (b.length:Int) !=(a.length:Int) then J aa else if decide (24<(a.length:Int)) then J aa else J (decide (192<(U.length:Int)))
def O5 (U:List Int) (a:Int):Option Bool:=ab (al U a) λb=>if decide (b<1) then J aa else ab (al U a) λc=>J (decide (400<c))
def O4 (U:List Int):Nat->Int->Option (Sum (Unit) (Bool))|0,_=>ae|n+1,a=>if decide (a<(U.length:Int)) then ab (O5 U a) λb=>if b then J (bt ak) else aF.lt (aO .i64 (a+1)) λc=>O4 U n c else J (bw ())
def aAv (U:List Int) (b:List Bool) (a:Int):Option Bool:=if decide (a<0) then J aa else if decide ((U.length:Int)<=a) then J aa else ab (al b a) λd=>ab (al b a) λc=>J c
def aAl (U:List Int) (e:List (List Int)) (d:Int):Nat->(List Bool)->Int->Option (Sum (List Bool) (Bool))|0,_,_=>ae|n+1,a,c=>ab (al e d) λg=>if decide (c<(g.length:Int)) then ab (al e d) λf=>ab (al f c) λb=>ab (aAv U a b) λh=>if h then J (bt ak) else ab (al a b) λl=>ab (al a b) λk=>aF.lt (a.set ((b:Int).toNat) aa) λi=>aF.lt (aO .i64 (c+1)) λj=>aAl U e d n i j else J (bw a)
def aAw (b:List eE) (U:List Int) (c:List (List Int)) (a:Int):Option Bool:=ab (al b a) λf=>if decide (f.length<0) then J aa else ab (al b a) λd=>if decide (100000<d.length) then J aa else ab (al c a) λe=>ab (An N U e) λh=>ab (al b a) λg=>J (decide (g.length<h))
def O6 (c:List eE) (U:List Int) (b:List (List Int)):Nat->(List Bool)->Int->Option (Sum (Unit) (Bool))|0,_,_=>ae|n+1,d,a=>if decide (a<(b.length:Int)) then ab (aAl U b a N d 0) λe=>match e with|bw f=>ab (aAw N c U b a) λg=>if g then J (bt ak) else aF.lt (aO .i64 (a+1)) λh=>O6 c U b n f h|bt i=>J (bt i) else J (bw ())
def vF (b:List eE) (U:List Int) (a:List (List Int)):Option Bool:=ab (O3 b U a) λc=>if c then J ak else ab (O4 U N 0) λe=>match e with|bw i=>(ab (hy ak (U.length:Int)) λd=>ab (O6 N b U a N d 0) λf=>match f with|bw j=>J aa|bt g=>J g)|bt h=>J h
def aEm (U:List Int) (b:List (List Int)) (a:cn):Option Bool:=if decide (a.hX<0) then J aa else if decide ((U.length:Int)<=a.hX) then J aa else if decide (a.from_<(-1)) then J aa else if decide ((b.length:Int)<=a.from_) then J aa else if decide (a.to<(-1)) then J aa else J (decide ((b.length:Int)<=a.to))
def aEn (b:cn) (a:Int):Option Bool:=if a !=b.from_ then J aa else if decide (a<0) then J (decide (b.to<0)) else J ak
def aEo (a:Int) (d:Int) (b:List (List Int)) (f:Bool):Option (List (List Int)):=if f then ab (al b a) λj=>ab (al b a) λc=>ab (gi c 0 d) λh=>ab (al b a) λi=>if a=a then ab (gi c (aO .i64 (d+1)) (c.length:Int)) λg=>ab (cD (List.take (sF d) c) (List.drop (sF (aO .i64 (d+1))) (List.take (sF (c.length:Int)) c))) λe=>ab (al b a) λl=>if a=a then ab (al b a) λk=>J (b.set ((a:Int).toNat) e) else ae else ae else J b
def aEp (a:cn) (b:List (List Int)) (g:Bool):Option (List (List Int)):=if g then ab (al b a.to) λh=>ab (al b a.to) λd=>ab (cD ([a.hX]:List Int) d) λc=>ab (al b a.to) λi=>if a.to=a.to then ab (al b a.to) λj=>J (b.set ((a.to:Int).toNat) c) else ae else ab (al b a.to) λl=>ab (al b a.to) λf=>ab (cD f ([a.hX]:List Int)) λe=>ab (al b a.to) λk=>if a.to=a.to then ab (al b a.to) λm=>J (b.set ((a.to:Int).toNat) e) else ae
def S5 (g:List eE) (U:List Int) (c:List (List Int)) (a:cn):Option (List (List Int)×Int):=ab (vF N g U c) λh=>if !h then J ([],1) else ab (aEm U c a) λi=>if i then J ([],2) else ab (vG N c a.hX) λb=>ab (aEn a b.1) λj=>if j then J ([],17) else ab (Th N c) λk=>ab (aEo b.1 b.2 k (decide (0<=b.1))) λe=>if decide (a.to<0) then J ((rz (λ(z:List Int)=>z) e),0) else ab (aEp a e a.front) λd=>ab (al d a.to) λn=>ab (al d a.to) λf=>ab (An N U f) λm=>ab (al g a.to) λl=>if decide (l.length<m) then J ([],14) else J ((rz (λ(z:List Int)=>z) (d.set ((a.to:Int).toNat) f)),0)
def R5 (a:b0) (U:Int) (f:Int) (g:List cn):Option (Bool×List cn×b0):=ab (vG N a.y.aH U) λb=>ab (Se N a.y.bD) λh=>ab (S5 N a.c.aH h a.y.aH (cn.mk U b.1 f ak)) λd=>if d.2 !=0 then J (ak,g,(gq a)) else ab (cD g ([(cn.mk U b.1 f ak)]:List cn)) λi=>J (aa,i,(b0.mk a.c (bq.mk a.y.bD d.1 a.y.b2 a.y.busy a.y.bo a.y.cE) a.e (cI.mk a.r.err [] a.r.proof a.r.dW a.r.final a.r.cZ a.r.place)))
def Eu (c:b0) (a:Int) (b:eR):Option Bool:=if c.y.cE then J aa else if c.y.busy then if a==b.lead then J aa else ab (yc N b.aH a) λd=>J d else J ak
def aCX (b:List bC) (c:Int) (a:Int) (e:Int) (d:List bC):Option Bool:=if decide (0<=e) then ab (al d a) λh=>ab (al d a) λf=>ab (al b c) λi=>ab (al b c) λg=>J (f.number==g.number) else J ak
def aAW (f:b0) (b:List bC) (c:Int) (d:Int) (e:List bC):Nat->Int->Option (Sum (Unit) (Int))|0,_=>ae|n+1,a=>if decide (a<c) then ab (vG N f.y.aH a) λg=>ab (aCX b d a g.1 e) λh=>if h then J (bt 8) else aF.lt (aO .i64 (a+1)) λi=>aAW f b c d e n i else J (bw ())
def aAV (e:b0) (a:List bC) (c:Int) (d:List bC):Nat->Int->Option (Sum (Unit) (Int))|0,_=>ae|n+1,b=>if decide (b<(a.length:Int)) then ab (aAW N (Ql e) a c b d N 0) λg=>match g with|bw i=>aF.lt (aO .i64 (b+1)) λf=>aAV e a c d n f|bt h=>J (bt h) else J (bw ())
def aBL (d:Int) (c:List bC) (e:Int):Nat->b0->Int->(List cn)->Option (Sum (b0×List cn) (b0×Int×List cn))|0,_,_,_=>ae|n+1,g,b,f=>if decide (b<(c.length:Int)) then ab (R5 N (gq g) (aO .i64 (e+b)) d f) λa=>if !a.1 then J (bt ((gq a.2.2),14,a.2.1)) else aF.lt (aO .i64 (b+1)) λh=>aBL d c e n (gq a.2.2) h a.2.1 else J (bw ((gq g),f))
def RD (a:b0) (b:List bC) (d:List cn):Option (Int×List cn×b0):=ab (S7 a.c a.e.cq) λj=>aF.lt (!j) λk=>if k then J (2,d,(b0.mk a.c (bq.mk b a.y.aH a.y.b2 a.y.busy a.y.bo a.y.cE) a.e (cI.mk a.r.err [] a.r.proof a.r.dW a.r.final a.r.cZ a.r.place))) else ab (Eu N (Ql a) a.e.cq a.y.bo) λl=>if l then J (25,d,(b0.mk a.c (bq.mk b a.y.aH a.y.b2 a.y.busy a.y.bo a.y.cE) a.e (cI.mk a.r.err [] a.r.proof a.r.dW a.r.final a.r.cZ a.r.place))) else ab (Sf N (bq.mk b a.y.aH a.y.b2 a.y.busy a.y.bo a.y.cE) a.e.cq) λm=>if m then J (17,d,(b0.mk a.c (bq.mk b a.y.aH a.y.b2 a.y.busy a.y.bo a.y.cE) a.e (cI.mk a.r.err [] a.r.proof a.r.dW a.r.final a.r.cZ a.r.place))) else ab (Sy N a.e.data) λf=>if f.2 !=0 then J (f.2,d,(b0.mk a.c (bq.mk b a.y.aH a.y.b2 a.y.busy a.y.bo a.y.cE) a.e (cI.mk a.r.err [] a.r.proof a.r.dW a.r.final a.r.cZ a.r.place))) else aF.lt (b.length:Int) λg=>ab (aAV N (Ql a) f.1 g b N 0) λn=>match n with|bw s=>(if decide (192<(aO .i64 (g+(f.1.length:Int)))) then J (3,d,(b0.mk a.c (bq.mk b a.y.aH a.y.b2 a.y.busy a.y.bo a.y.cE) a.e (cI.mk a.r.err [] a.r.proof a.r.dW a.r.final a.r.cZ a.r.place))) else ab (cD b f.1) λo=>ab (aBL N a.e.cq f.1 g N (b0.mk a.c (bq.mk o a.y.aH a.y.b2 a.y.busy a.y.bo a.y.cE) a.e (cI.mk a.r.err [] a.r.proof a.r.dW a.r.final a.r.cZ a.r.place)) 0 d) λp=>match p with|bw i=>J (0,i.2,(gq i.1))|bt h=>J (h.2.1,h.2.2,(gq h.1)))|bt q=>J (q,d,(b0.mk a.c (bq.mk b a.y.aH a.y.b2 a.y.busy a.y.bo a.y.cE) a.e (cI.mk a.r.err [] a.r.proof a.r.dW a.r.final a.r.cZ a.r.place)))
def O0 (U:List UInt8) (b:b7):Nat->Int->Option (Sum (Unit) (Int))|0,_=>ae|n+1,a=>if decide (a<(b.c7.length:Int)) then ab (al b.c7 a) λc=>if c==U then J (bt a) else aF.lt (aO .i64 (a+1)) λd=>O0 U b n d else J (bw ())
def S3 (c:b7) (U:List UInt8):Option Int:=ab (O0 U c N 0) λa=>match a with|bw d=>J (-1)|bt b=>J b
def Dh (c:c8) (a:b7):Option Bool:=ab (Tb N a.name) λb=>if !b then J aa else if decide (a.cq<0) then J aa else if decide ((c.aH.length:Int)<=a.cq) then J aa else if decide ((a.c7.length:Int)<1) then J aa else J (decide (16<(a.c7.length:Int)))
def aCK (b:b7) (a:Int):Option Bool:=ab (al b.c7 a) λc=>ab (Tb N c) λd=>if !d then J aa else ab (al b.c7 a) λe=>ab (S3 N b e) λf=>J (f !=a)
def aA9 (b:b7):Nat->Int->Option (Sum (Unit) (Bool))|0,_=>ae|n+1,a=>if decide (a<(b.c7.length:Int)) then ab (aCK N b a) λd=>if d then J (bt ak) else aF.lt (aO .i64 (a+1)) λc=>aA9 b n c else J (bw ())
def Ht (d:c8) (U:b7):Option Bool:=ab (Dh N d U) λa=>if a then J ak else ab (aA9 N U N 0) λb=>match b with|bw e=>J aa|bt c=>J c
def aD2 (b:b7) (a:b7):Option Bool:=if a.name==b.name then J aa else J (a.cq==b.cq)
def aB1 (a:b7) (c:b7):Nat->Int->Option (Sum (Unit) (Int))|0,_=>ae|n+1,b=>if decide (b<(a.c7.length:Int)) then ab (al a.c7 b) λd=>ab (S3 N c d) λe=>if decide (0<=e) then J (bt 8) else aF.lt (aO .i64 (b+1)) λf=>aB1 a c n f else J (bw ())
def aB0 (c:b7) (b:List b7):Nat->Int->Option (Sum (Unit) (Int))|0,_=>ae|n+1,a=>if decide (a<(b.length:Int)) then ab (al b a) λi=>ab (al b a) λd=>ab (aD2 c d) λe=>if e then J (bt 8) else ab (aB1 N c d N 0) λg=>match g with|bw j=>aF.lt (aO .i64 (a+1)) λf=>aB0 c b n f|bt h=>J (bt h) else J (bw ())
def HH (a:b0) (b:List b7):Option (Int×List b7×b0):=if a.y.busy then J (25,b,(xZ a)) else ab (Ht N a.c a.e.order) λd=>if !d then J (1,b,(xZ a)) else ab (aB0 N a.e.order b N 0) λj=>match j with|bw k=>if (b.length:Int)==8 then J (18,b,(xZ a)) else ab (al a.y.aH a.e.order.cq) λf=>if decide (0<(f.length:Int)) then J (17,b,(xZ a)) else ab (cD ([]:List (List UInt8)) a.e.order.c7) λi=>ab (cD b ([(b7.mk a.e.order.name a.e.order.cq i)]:List b7)) λh=>J (0,h,(xZ a))|bt g=>J (g,b,(xZ a))
def aEM (a:b0):Option Bool:=ab (S7 a.c a.e.cq) λb=>if b then if decide (0<=a.e.dO) then aF.lt (decide (a.e.dO<=12)) λd=>J d else J ak else J ak
def aEN (a:b0) (d:Bool) (f:Int):Option Bool:=if d then ab (al a.e.aH f) λb=>ab (S7 a.c b) λg=>J g else J ak
def aCc (b:b0):Nat->Bool->Int->Option Bool|0,_,_=>ae|n+1,c,a=>if decide (a<(b.e.aH.length:Int)) then ab (aEN b c a) λd=>aF.lt (aO .i64 (a+1)) λf=>aCc b n d f else J c
def R4 (a:b0):Option Bool:=ab (aEM a) λb=>ab (aCc a N b 0) λc=>J c
def aEO (a:b0) (f:Bool) (b:Int):Option Bool:=if f then ab (al a.e.aH b) λc=>if c !=a.e.cq then ab (gi a.e.aH 0 b) λd=>ab (al a.e.aH b) λi=>ab (yc N d i) λj=>if !j then ab (al a.e.aH b) λk=>ab (Sf N a.y k) λg=>aF.lt (!g) λh=>J h else J ak else J ak else J ak
def aCd (b:b0):Nat->Bool->Int->Option Bool|0,_,_=>ae|n+1,c,a=>if decide (a<(b.e.aH.length:Int)) then ab (aEO N b c a) λd=>aF.lt (aO .i64 (a+1)) λf=>aCd b n d f else J c
def HU (a:b0):Option Bool:=ab (Sf N a.y a.e.cq) λb=>aF.lt (!b) λc=>ab (aCd N a N c 0) λd=>J d
def F4 (b:List b7) (U:List UInt8):Nat->Int->Option (Sum (Unit) (Int×Int))|0,_=>ae|n+1,a=>if decide (a<(b.length:Int)) then ab (al b a) λd=>ab (S3 N d U) λc=>if decide (0<=c) then J (bt (a,c)) else aF.lt (aO .i64 (a+1)) λe=>F4 b U n e else J (bw ())
def S6 (c:List b7) (U:List UInt8):Option (Int×Int):=ab (F4 N c U N 0) λb=>match b with|bw d=>J ((-1),(-1))|bt a=>J (a.1,a.2)
def H7 (b:List b7) (U:bC):Option c4:=ab (S6 N b U.dest) λa=>J (c4.mk a.1 a.2 0 U.length)
def aAs (U:b8):Option Bool:=if decide (U.dO<0) then J aa else J (decide (12<U.dO))
def aAt (a:c4):Option Bool:=if decide (a.dS<0) then J aa else if decide (16<=a.dS) then J aa else if decide (a.block<0) then J aa else if decide (32<=a.block) then J aa else if decide (a.round<0) then J aa else if decide (13<=a.round) then J aa else if decide (a.length<1) then J aa else J (decide (400<a.length))
def aAu (U:b8) (a:Int) (c:c4):Option Bool:=if decide (0<a) then ab (al U.items (aO .i64 (a - 1))) λb=>J (decide (c.round<b.round)) else J ak
def aAk (U:b8):Nat->Int->Option (Sum (Unit) (Int))|0,_=>ae|n+1,a=>if decide (a<(U.items.length:Int)) then ab (al U.items a) λb=>ab (aAt b) λc=>if c then J (bt 2) else ab (aAu U a b) λd=>if d then J (bt 12) else aF.lt (aO .i64 (a+1)) λe=>aAk U n e else J (bw ())
def SR (a:b8):Option Int:=if decide (96<(a.items.length:Int)) then J 3 else ab (aAs a) λb=>if b then J 2 else ab (aAk a N 0) λd=>match d with|bw e=>J 0|bt c=>J c
def Gd (a:c4) (b:c4):Option Bool:=if a.dS !=b.dS then J aa else aF.lt (decide (b.block<=a.block)) λc=>J c
def Ai (b:b8) (U:Int) (a:Int):Option Int:=ab (al b.items U) λc=>ab (al b.items a) λd=>ab (Gd c d) λe=>if e then J 0 else aF.lt (decide (a<U)) λf=>if f then J 2 else J 1
def Ad (d:b8) (U:Int) (c:Int):Option Int:=ab (Ai d U c) λa=>aF.lt (aO .i64 (l1 a 2)) λb=>J b
def Pe (N:Nat) (U:List Int) (b:Int) (c:b8) (d:Int) (a:Int):Option Int:=ab (Ai c a b) λe=>if decide (0<e) then ab (al U a) λf=>ab (Ad c a b) λg=>aF.lt (max d (aO .i64 (f+g))) λh=>J h else J d
def Ga (U:List Int) (c:Int) (a:b8):Nat->Int->Int->Option Int|0,_,_=>ae|n+1,d,b=>if decide (b<(a.items.length:Int)) then ab (Pe N U c a d b) λe=>aF.lt (aO .i64 (b+1)) λf=>Ga U c a n e f else J d
def Tc (c:b8) (U:List Int) (a:Int):Option Int:=ab (Ga N U a c N 0 0) λb=>J b
def Pj (a:Int) (U:Int):Option Bool:=if decide (0<=a) then if decide (a<13) then if decide (0<=U) then aF.lt (decide (U<=12)) λb=>J b else J ak else J ak else J ak
def Te (b:Int) (U:Int):Option Bool:=ab (Pj b U) λa=>J a
def PS (a:Int) (U:Int) (f:Int):Option Bool:=ab (Te U f) λb=>if !b then J aa else if decide (a<0) then J aa else if decide (4096<=a) then J aa else ab (j2 .i64 U) λc=>ab (px a (aO .i64 (1*((2 ^ c:Nat):Int)))) λd=>ab (j2 .i64 U) λe=>J (d !=(aO .i64 ((aO .i64 (1*((2 ^ e:Nat):Int))) - 1)))
def aAn:Nat->Int->Int->Option Int|0,_,_=>ae|n+1,b,a=>if decide (0<a) then aF.lt (aO .i64 (b+(jB a 2))) λc=>aF.lt (aO .i64 (l1 a 2)) λd=>aAn n c d else J b
def vJ (b:Int) (U:Int) (a:Int):Option Bool:=ab (PS b U a) λd=>if d then J ak else ab (j2 .i64 U) λe=>aF.lt (sE b ((2 ^ e:Nat):Int)) λf=>ab (aAn N 0 f) λc=>aF.lt (decide (c<=a)) λg=>J g
def Ge (c:Int) (U:Int) (b:Int):Option Bool:=ab (Te U b) λa=>if !a then J aa else J (decide (c<0))
def aAm (U:Int) (b:Int):Nat->Int->Option (Sum (Unit) (Int×Int))|0,_=>ae|n+1,a=>if decide (a<4096) then ab (vJ N a U b) λc=>if c then J (bt (a,0)) else aF.lt (aO .i64 (a+1)) λd=>aAm U b n d else J (bw ())
def Td (c:Int) (U:Int) (a:Int):Option (Int×Int):=ab (Ge c U a) λd=>if d then J (0,2) else ab (aAm N U a N c) λe=>match e with|bw f=>J (0,15)|bt b=>J (b.1,b.2)
def Ph:Nat->Int->Int->Option Int|0,_,_=>ae|n+1,b,a=>if decide (0<b) then aF.lt (aO .i64 (a+1)) λc=>aF.lt (aO .i64 (l1 b 2)) λd=>Ph n d c else J a
def vH (b:Int):Option Int:=ab (Ph N b 0) λa=>J a
def aDU (U:b8) (d:dF) (b:List Int) (e:Int) (h:Int) (a:Int):Option (Sum (dF×List Int×Int) (dF×Int)):=ab (al U.items a) λf=>if f.block !=h then J (bw (d,b,e)) else ab (Tc N U b a) λg=>ab (al U.items a) λk=>ab (Td N g k.round U.dO) λc=>if c.2 !=0 then J (bt ((dF.mk 0 []),c.2)) else ab (al b a) λm=>ab (al b a) λl=>aF.lt (b.set ((a:Int).toNat) c.1) λj=>aF.lt (max e c.1) λi=>J (bw (d,j,i))
def aBC (U:b8) (e:Int):Nat->dF->(List Int)->Int->Int->Option (Sum (dF×List Int×Int) (dF×Int))|0,_,_,_,_=>ae|n+1,d,a,f,b=>if decide (b<(a.length:Int)) then ab (aDU N U d a f e b) λi=>match i with|bw c=>aF.lt (aO .i64 (b+1)) λh=>aBC U e n c.1 c.2.1 c.2.2 h|bt g=>J (bt (g.1,g.2)) else J (bw (d,a,f))
def EQ (U:b8):Nat->dF->(List Int)->Int->Int->Option (Sum (dF×List Int×Int) (dF×Int))|0,_,_,_,_=>ae|n+1,c,d,e,a=>if decide (a<32) then ab (aBC N U a N c d e 0) λh=>match h with|bw b=>aF.lt (aO .i64 (a+1)) λg=>EQ U n b.1 b.2.1 b.2.2 g|bt f=>J (bt (f.1,f.2)) else J (bw (c,d,e))
def SS (a:b8):Option (dF×Int):=ab (SR N a) λb=>if b !=0 then J ((dF.mk 0 []),b) else ab (hy 0 (a.items.length:Int)) λe=>ab (EQ N a N (dF.mk 0 []) e 0 0) λf=>match f with|bw d=>ab (vH N d.2.2) λg=>J ((dF.mk g d.2.1),0)|bt c=>J (c.1,c.2)
def Pc (U:List Int) (a:Int) (b:Int):Option Int:=ab (al U b) λc=>ab (al U a) λd=>if decide (d<c) then J b else J a
def F9 (U:List Int):Nat->Int->Int->Option Int|0,_,_=>ae|n+1,b,a=>if decide (a<(U.length:Int)) then ab (Pc U b a) λc=>aF.lt (aO .i64 (a+1)) λd=>F9 U n c d else J b
def aEs (N:Nat) (U:List Int) (b:b8) (c:Int) (d:Int) (a:Int):Option Bool:=ab (Ai b a c) λg=>if g==0 then J aa else ab (al U a) λe=>ab (Ad b a c) λf=>J ((aO .i64 (e+f)) !=d)
def aBf (U:List Int) (b:b8) (c:Int) (d:Int):Nat->Int->Option Int|0,_=>ae|n+1,a=>ab (aEs N U b c d a) λe=>if e then aF.lt (aO .i64 (a+1)) λf=>aBf U b c d n f else J a
def Pd (U:List Int) (a:b8):Nat->Int->(List Int)->Int->Option (List Int)|0,_,_,_=>ae|n+1,e,c,d=>if decide (0<d) then ab (aBf N U a e d N 0) λb=>ab (cD ([b]:List Int) c) λf=>ab (Tc N a U b) λg=>Pd U a n b f g else J c
def ya (b:b8) (U:List Int):Option (List Int):=if (U.length:Int)==0 then J [] else ab (F9 U N 0 0) λa=>ab (Tc N b U a) λc=>ab (Pd N U b N a ([a]:List Int) c) λd=>J d
def HK (b:b8):Option (List Int×Int):=ab (SS N b) λa=>if a.2 !=0 then J ([],a.2) else ab (ya N b a.1.fW) λc=>J (c,0)
def H5 (b:b8):Option (e8×Int):=ab (SS N b) λa=>if a.2 !=0 then J ((e8.mk (dF.mk 0 []) []),a.2) else ab (HK N b) λc=>J ((e8.mk a.1 c.1),0)
def OT (U:List Int) (b:bq):Nat->Int->Int->Option Int|0,_,_=>ae|n+1,c,a=>if decide (a<(U.length:Int)) then ab (al U a) λd=>ab (al b.bD d) λe=>aF.lt (aO .i64 (c+e.length)) λf=>aF.lt (aO .i64 (a+1)) λg=>OT U b n f g else J c
def H8 (b:bq) (U:List Int):Option Int:=ab (OT U b N 0 0) λa=>J a
def aEz (h:b8) (e:dF) (i:Int) (a:Int) (b:Int):Option Int:=ab (al e.fW b) λc=>ab (j2 .i64 (aO .u64 i)) λd=>if (ih .and .i64 (sE c ((2 ^ d:Nat):Int)) 1)==1 then ab (al h.items b) λf=>aF.lt (aO .i64 (a+f.length)) λg=>J g else J a
def aAH (a:b8) (c:dF) (e:Int):Nat->Int->Int->Option Int|0,_,_=>ae|n+1,d,b=>if decide (b<(a.items.length:Int)) then ab (aEz a c e d b) λf=>aF.lt (aO .i64 (b+1)) λg=>aAH a c e n f g else J d
def Gq (d:List Int) (c:c8) (e:b8) (b:dF):Nat->Int->Option (Sum (Unit) (Bool))|0,_=>ae|n+1,a=>if decide (a<b.steps) then ab (aAH e b a N 0 0) λi=>ab (al d a) λg=>ab (al c.aH g) λh=>if decide (h.length<i) then J (bt ak) else aF.lt (aO .i64 (a+1)) λf=>Gq d c e b n f else J (bw ())
def aEA (a:b8) (d:Int) (b:Int) (c:Int):Option Int:=ab (al a.items c) λf=>if f.dS==d then ab (al a.items c) λe=>aF.lt (aO .i64 (b+e.length)) λg=>J g else J b
def aAJ (a:b8) (c:Int):Nat->Int->Int->Option Int|0,_,_=>ae|n+1,d,b=>if decide (b<(a.items.length:Int)) then ab (aEA a c d b) λe=>aF.lt (aO .i64 (b+1)) λf=>aAJ a c n e f else J d
def aAI (c:List (List Int)) (d:c8) (a:bq) (e:b8):Nat->Int->Option (Sum (Unit) (Bool))|0,_=>ae|n+1,b=>if decide (b<(a.b2.length:Int)) then ab (al a.b2 b) λf=>ab (al c f.cq) λg=>ab (H8 N a g) λh=>ab (aAJ e b N h 0) λk=>ab (al a.b2 b) λi=>ab (al d.aH i.cq) λj=>if decide (j.length<k) then J (bt ak) else aF.lt (aO .i64 (b+1)) λl=>aAI c d a e n l else J (bw ())
def H9 (d:c8) (U:bq) (a:b8) (b:dF) (c:List Int) (e:List (List Int)):Option Bool:=if decide ((c.length:Int)<b.steps) then J ak else ab (Gq N c d a b N 0) λf=>match f with|bw j=>(ab (aAI N e d U a N 0) λg=>match g with|bw k=>J aa|bt h=>J h)|bt i=>J i
def HG (a:b0) (U:List Int) (i:b8) (b:e8):Option (List Int×List Int×List Int×b0):=ab (gi a.e.aH 0 b.e9.steps) λd=>ab (cD ([]:List Int) d) λf=>ab (cD ([]:List Int) b.e9.fW) λg=>ab (cD ([]:List Int) b.chain) λh=>J (f,g,h,(b0.mk a.c (bq.mk a.y.bD a.y.aH a.y.b2 aa (eR.mk U i b a.e.cq [] 0) ak) a.e (cI.mk a.r.err a.r.vv (e8.mk (dF.mk b.e9.steps []) []) a.r.dW a.r.final a.r.cZ a.r.place)))
def aEk (a:b0) (d:Bool) (f:Int):Option Bool:=if d then ab (al a.e.aH f) λb=>ab (al a.y.aH b) λc=>aF.lt ((c.length:Int)==0) λg=>J g else J ak
def NU (b:b0):Nat->Bool->Int->Option Bool|0,_,_=>ae|n+1,c,a=>if decide (a<(b.e.aH.length:Int)) then ab (aEk b c a) λd=>aF.lt (aO .i64 (a+1)) λf=>NU b n d f else J c
def aB' (d:b0) (b:List Int):Nat->b8->Int->(List c4)->Option (Sum (b8×List c4) (Int))|0,_,_,_=>ae|n+1,e,a,f=>if decide (a<(b.length:Int)) then ab (al b a) λm=>ab (al b a) λj=>ab (al d.y.bD j) λg=>ab (H7 N d.y.b2 g) λh=>ab (cD f ([h]:List c4)) λc=>ab (al c a) λl=>ab (al c a) λi=>if decide (i.dS<0) then J (bt 13) else aF.lt (aO .i64 (a+1)) λk=>aB' d b n (b8.mk [] e.dO) k c else J (bw ((b8.mk [] e.dO),f))
def aDw (d:b0) (b:Int) (e:List Int) (a:Int) (c:List c4):Option Bool:=if decide (0<a) then ab (al e (aO .i64 (a - 1))) λf=>ab (al d.y.bD f) λg=>ab (H7 N d.y.b2 g) λh=>ab (al c b) λj=>ab (al c b) λi=>J (decide (i.block<h.block)) else J ak
def aBl (c:b0) (d:List Int) (b:List c4):Nat->Int->Option (Sum (Unit) (Int))|0,_=>ae|n+1,a=>if decide (a<(d.length:Int)) then ab (al b a) λk=>ab (al b a) λf=>ab (al c.y.b2 f.dS) λg=>ab (al c.y.aH g.cq) λe=>aF.lt (e.length:Int) λh=>ab (aDw N c a e h b) λi=>if i then J (bt 12) else aF.lt (aO .i64 (a+1)) λj=>aBl c d b n j else J (bw ())
def Sr (b:b0):Option (Int×b0):=if b.y.busy then J (25,b) else ab (R4 N b) λh=>if !h then J (2,b) else ab (HU N b) λi=>ab (NU b N i 0) λj=>if !j then J (17,b) else ab (al b.y.aH b.e.cq) λk=>ab (cD ([]:List Int) k) λf=>ab (aB' N b f N (b8.mk [] b.e.dO) 0 []) λl=>match l with|bw d=>(if (f.length:Int)==0 then J (13,b) else ab (aBl N b f d.2 N 0) λp=>match p with|bw q=>ab (H5 N (b8.mk d.2 d.1.dO)) λg=>if g.2 !=0 then J (g.2,b) else ab (H9 N b.c b.y (b8.mk d.2 d.1.dO) g.1.e9 b.e.aH b.y.aH) λm=>if !m then J (14,b) else ab (HG b f (b8.mk d.2 d.1.dO) g.1) λa=>J (0,(b0.mk a.2.2.2.c (bq.mk a.2.2.2.y.bD a.2.2.2.y.aH a.2.2.2.y.b2 a.2.2.2.y.busy (eR.mk a.2.2.2.y.bo.bD a.2.2.2.y.bo.iP a.2.2.2.y.bo.proof a.2.2.2.y.bo.lead a.1 a.2.2.2.y.bo.h9) a.2.2.2.y.cE) a.2.2.2.e (cI.mk a.2.2.2.r.err a.2.2.2.r.vv (e8.mk (dF.mk a.2.2.2.r.proof.e9.steps a.2.1) a.2.2.1) a.2.2.2.r.dW a.2.2.2.r.final a.2.2.2.r.cZ a.2.2.2.r.place)))|bt o=>J (o,b))|bt n=>J (n,b)
def RI (a:b0) (U:Int) (f:Int) (g:List cn):Option (Bool×List cn×b0):=ab (vG N a.y.aH U) λb=>ab (Se N a.y.bD) λh=>ab (S5 N a.c.aH h a.y.aH (cn.mk U b.1 f ak)) λd=>if d.2 !=0 then J (ak,g,(gq a)) else ab (cD g ([(cn.mk U b.1 f ak)]:List cn)) λi=>J (aa,i,(b0.mk a.c (bq.mk a.y.bD d.1 a.y.b2 a.y.busy a.y.bo a.y.cE) a.e (cI.mk a.r.err [] a.r.proof a.r.dW a.r.final a.r.cZ a.r.place)))
def RF (a:b0):Option b0:=J (b0.mk a.c (bq.mk a.y.bD a.y.aH a.y.b2 ak (eR.mk [] (b8.mk [] 0) (e8.mk (dF.mk 0 []) []) 0 [] 0) ak) a.e a.r)
def NV (e:b0) (b:List Int) (a:im):Option Bool:=if decide (a.place<0) then J aa else if decide ((b.length:Int)<=a.place) then J aa else ab (S7 e.c a.cq) λd=>J (!d)
def FH (a:b0) (c:List Int):Nat->Int->Option (Sum (Unit) (Int))|0,_=>ae|n+1,b=>if decide (b<(a.e.hD.length:Int)) then ab (al a.e.hD b) λf=>ab (NV (gq a) c f) λd=>if d then J (bt 2) else aF.lt (aO .i64 (b+1)) λg=>FH a c n g else J (bw ())
def aBn (c:b0) (b:Int):Nat->Int->Option (Sum (Unit) (Int))|0,_=>ae|n+1,a=>if decide (a<b) then ab (al c.e.hD a) λd=>ab (al c.e.hD b) λg=>if d.place==g.place then J (bt 8) else aF.lt (aO .i64 (a+1)) λf=>aBn c b n f else J (bw ())
def aBm (b:b0):Nat->Int->Option (Sum (Unit) (Int))|0,_=>ae|n+1,a=>if decide (a<(b.e.hD.length:Int)) then ab (aBn (gq b) a N 0) λc=>match c with|bw g=>aF.lt (aO .i64 (a+1)) λd=>aBm b n d|bt f=>J (bt f) else J (bw ())
def aBo (b:b0) (f:Int):Nat->(List Int)->Int->Option (Sum (List Int) (Int))|0,_,_=>ae|n+1,c,a=>if decide (a<(b.e.hD.length:Int)) then ab (al b.e.hD a) λg=>if g.cq==f then J (bt 17) else ab (al b.e.hD a) λd=>ab (al b.e.hD a) λh=>ab (al c d.place) λk=>ab (al c d.place) λl=>aF.lt (c.set ((d.place:Int).toNat) h.cq) λj=>aF.lt (aO .i64 (a+1)) λi=>aBo b f n j i else J (bw c)
def aDx (a:b0) (d:List Int) (f:List Int) (b:Int):Option b0:=if a.y.cE then J (b0.mk a.c (bq.mk a.y.bD a.y.aH a.y.b2 a.y.busy a.y.bo aa) a.e (cI.mk a.r.err [] a.r.proof a.r.dW a.r.final a.r.cZ a.r.place)) else ab (al f b) λi=>ab (al f b) λg=>ab (al d b) λj=>ab (al d b) λh=>J (b0.mk a.c (bq.mk a.y.bD a.y.aH a.y.b2 a.y.busy a.y.bo (g !=h)) a.e (cI.mk a.r.err [] a.r.proof a.r.dW a.r.final a.r.cZ a.r.place))
def aBp (d:List Int) (e:List Int) (c:List Int):Nat->b0->Int->(List cn)->Option (Sum (b0×List cn) (b0×Int×List cn))|0,_,_,_=>ae|n+1,g,a,f=>if decide (a<(d.length:Int)) then ab (al d a) λi=>ab (al c a) λl=>ab (al c a) λh=>ab (RI N (gq g) i h f) λb=>if !b.1 then J (bt ((gq b.2.2),14,b.2.1)) else ab (aDx (gq b.2.2) e c a) λk=>aF.lt (aO .i64 (a+1)) λj=>aBp d e c n (gq k) j b.2.1 else J (bw ((gq g),f))
def aDy (a:b0):Option Bool:=if !a.y.cE then J (decide (a.y.bo.proof.e9.steps<a.y.bo.h9)) else J ak
def aDz (a:b0) (d:Bool) (b:List cn):Option b0:=if d then ab (RF (b0.mk a.c a.y a.e (cI.mk a.r.err b a.r.proof a.r.dW a.r.final a.r.cZ a.r.place))) λf=>J f else J (b0.mk a.c a.y a.e (cI.mk a.r.err b a.r.proof a.r.dW a.r.final a.r.cZ a.r.place))
def Ss (a:b0) (f:List cn):Option (Int×b0):=aF.lt (!a.y.busy) λk=>if k then J (16,(b0.mk a.c a.y a.e (cI.mk a.r.err f a.r.proof a.r.dW a.r.final a.r.cZ a.r.place))) else if a.y.cE then J (25,(b0.mk a.c a.y a.e (cI.mk a.r.err f a.r.proof a.r.dW a.r.final a.r.cZ a.r.place))) else aF.lt (decide (16<(a.e.hD.length:Int))) λl=>if l then J (3,(b0.mk a.c a.y a.e (cI.mk a.r.err f a.r.proof a.r.dW a.r.final a.r.cZ a.r.place))) else ab (SE a.y) λh=>ab (al a.y.aH h) λm=>ab (cD ([]:List Int) m) λg=>ab (Sg N a.y g) λi=>ab (cD ([]:List Int) i) λn=>ab (FH (gq a) g N 0) λo=>match o with|bw z=>(ab (aBm N (gq a) N 0) λp=>match p with|bw A=>(ab (aBo (gq a) h N n 0) λs=>match s with|bw q=>(ab (aBp N g i q N (gq a) 0 f) λt=>match t with|bw b=>ab (aDy (b0.mk b.1.c (bq.mk b.1.y.bD b.1.y.aH b.1.y.b2 b.1.y.busy (eR.mk b.1.y.bo.bD b.1.y.bo.iP b.1.y.bo.proof b.1.y.bo.lead b.1.y.bo.aH (aO .i64 (b.1.y.bo.h9+1))) b.1.y.cE) b.1.e (cI.mk b.1.r.err [] b.1.r.proof b.1.r.dW b.1.r.final b.1.r.cZ b.1.r.place))) λu=>ab (aDz (b0.mk b.1.c (bq.mk b.1.y.bD b.1.y.aH b.1.y.b2 b.1.y.busy (eR.mk b.1.y.bo.bD b.1.y.bo.iP b.1.y.bo.proof b.1.y.bo.lead b.1.y.bo.aH (aO .i64 (b.1.y.bo.h9+1))) b.1.y.cE) b.1.e (cI.mk b.1.r.err [] b.1.r.proof b.1.r.dW b.1.r.final b.1.r.cZ b.1.r.place)) u b.2) λv=>J (0,v)|bt d=>J (d.2.1,(b0.mk d.1.c d.1.y d.1.e (cI.mk d.1.r.err d.2.2 d.1.r.proof d.1.r.dW d.1.r.final d.1.r.cZ d.1.r.place))))|bt w=>J (w,(b0.mk a.c a.y a.e (cI.mk a.r.err f a.r.proof a.r.dW a.r.final a.r.cZ a.r.place))))|bt j=>J (j,(b0.mk a.c a.y a.e (cI.mk a.r.err f a.r.proof a.r.dW a.r.final a.r.cZ a.r.place))))|bt x=>J (x,(b0.mk a.c a.y a.e (cI.mk a.r.err f a.r.proof a.r.dW a.r.final a.r.cZ a.r.place)))
def EB (a:b0):Option Bool:=ab (S7 a.c a.e.cq) λb=>if b then if decide (0<=a.e.dO) then aF.lt (decide (a.e.dO<=12)) λd=>J d else J ak else J ak
def ED (a:b0) (d:Bool) (f:Int):Option Bool:=if d then ab (al a.e.aH f) λb=>ab (S7 a.c b) λg=>J g else J ak
def EC (b:b0):Nat->Bool->Int->Option Bool|0,_,_=>ae|n+1,c,a=>if decide (a<(b.e.aH.length:Int)) then ab (ED b c a) λd=>aF.lt (aO .i64 (a+1)) λf=>EC b n d f else J c
def RG (a:b0):Option Bool:=ab (EB a) λb=>ab (EC a N b 0) λc=>J c
def OK (a:b0) (f:Bool) (b:Int):Option Bool:=if f then ab (al a.e.aH b) λc=>if c !=a.e.cq then ab (gi a.e.aH 0 b) λd=>ab (al a.e.aH b) λi=>ab (yc N d i) λj=>if !j then ab (al a.e.aH b) λk=>ab (Sf N a.y k) λg=>aF.lt (!g) λh=>J h else J ak else J ak else J ak
def FF (b:b0):Nat->Bool->Int->Option Bool|0,_,_=>ae|n+1,c,a=>if decide (a<(b.e.aH.length:Int)) then ab (OK N b c a) λd=>aF.lt (aO .i64 (a+1)) λf=>FF b n d f else J c
def Sp (a:b0):Option Bool:=ab (Sf N a.y a.e.cq) λb=>aF.lt (!b) λc=>ab (FF N a N c 0) λd=>J d
def F2 (b:List Int) (U:Int):Nat->Int->Option (Sum (Unit) (Int))|0,_=>ae|n+1,a=>if decide (a<(b.length:Int)) then ab (al b a) λc=>if c==U then J (bt a) else aF.lt (aO .i64 (a+1)) λd=>F2 b U n d else J (bw ())
def rl (c:List Int) (U:Int):Option Int:=ab (F2 c U N 0) λa=>match a with|bw d=>J (-1)|bt b=>J b
def aEw (c:List b7) (d:Int) (e:Bool) (f:Int):Option Bool:=if e then J aa else ab (al c f) λa=>aF.lt (d==a.cq) λb=>J b
def aBj (a:List b7) (c:Int):Nat->Bool->Int->Option Bool|0,_,_=>ae|n+1,d,b=>if decide (b<(a.length:Int)) then ab (aEw a c d b) λe=>aF.lt (aO .i64 (b+1)) λf=>aBj a c n e f else J d
def aEx (a:Int) (b:Bool):Option Bool:=if decide (0<=a) then J b else J ak
def aEv (n:List bC) (U:List (List Int)) (d:List b7) (g:List Int) (b:List Int) (a:Int) (e:List c4):Option (ct×List Int×List c4):=ab (vG N U a) λc=>ab (yc N g a) λf=>ab (aBj d c.1 N f 0) λk=>ab (aEx c.1 k) λi=>if i then ab (cD b ([a]:List Int)) λj=>ab (al n a) λh=>ab (H7 N d h) λm=>ab (cD e ([m]:List c4)) λl=>J ((ct.mk [] [] []),j,l) else J ((ct.mk [] [] []),b,e)
def aBi (b:List bC) (U:List (List Int)) (d:List b7) (e:List Int):Nat->ct->(List Int)->Int->(List c4)->Option (ct×List Int×List c4)|0,_,_,_,_=>ae|n+1,i,c,a,g=>if decide (a<(b.length:Int)) then ab (aEv N b U d e c a g) λf=>aF.lt (aO .i64 (a+1)) λh=>aBi b U d e n (ct.mk [] [] []) f.2.1 h f.2.2 else J ((ct.mk [] [] []),c,g)
def aBk (a:List b7):Nat->ct->Int->(List Int)->Option (ct×List Int)|0,_,_,_=>ae|n+1,g,b,c=>if decide (b<(a.length:Int)) then ab (al a b) λe=>ab (cD c ([e.cq]:List Int)) λd=>aF.lt (aO .i64 (b+1)) λf=>aBk a n (ct.mk [] [] []) f d else J ((ct.mk [] [] []),c)
def aEy (U:List (List Int)) (c:List Int) (d:Int) (a:List Int) (h:Int):Option (List Int):=ab (al U d) λf=>ab (al f h) λe=>ab (rl N c e) λb=>if decide (0<=b) then ab (cD a ([b]:List Int)) λg=>J g else J a
def aAG (U:List (List Int)) (c:List Int) (a:Int):Nat->(List Int)->Int->Option (List Int)|0,_,_=>ae|n+1,d,b=>ab (al U a) λe=>if decide (b<(e.length:Int)) then ab (aEy N U c a d b) λf=>aF.lt (aO .i64 (b+1)) λg=>aAG U c a n f g else J d
def aAF (U:List (List Int)) (b:List Int):Nat->ct->Int->(List (List Int))->Option (ct×List (List Int))|0,_,_,_=>ae|n+1,g,a,c=>if decide (a<(U.length:Int)) then ab (aAG N U b a N ([]:List Int) 0) λe=>ab (cD c ([e]:List (List Int))) λf=>aF.lt (aO .i64 (a+1)) λd=>aAF U b n (ct.mk [] [] []) d f else J ((ct.mk [] [] []),c)
def Al (f:List bC) (U:List (List Int)) (b:List b7) (c:List Int):Option (ct×List Int):=ab (aBi N f U b c N (ct.mk [] [] []) [] 0 []) λa=>ab (aBk b N (ct.mk [] [] []) 0 []) λd=>ab (aAF N U a.2.1 N (ct.mk [] [] []) 0 []) λe=>J ((ct.mk a.2.2 d.2 e.2),a.2.1)
def EU (U:ct):Option Bool:=if decide (96<(U.items.length:Int)) then J aa else if decide (16<(U.homes.length:Int)) then J aa else J (decide (24<(U.aH.length:Int)))
def EV (U:ct) (a:c4):Option Bool:=if decide (a.dS<0) then J aa else if decide ((U.homes.length:Int)<=a.dS) then J aa else if decide (a.block<0) then J aa else if decide (32<=a.block) then J aa else if a.round !=0 then J aa else if decide (a.length<1) then J aa else J (decide (400<a.length))
def Pz (U:ct):Nat->Int->Option (Sum (Unit) (Bool))|0,_=>ae|n+1,a=>if decide (a<(U.items.length:Int)) then ab (al U.items a) λb=>ab (EV U b) λc=>if c then J (bt ak) else aF.lt (aO .i64 (a+1)) λd=>Pz U n d else J (bw ())
def PA (U:ct) (a:Int):Option Bool:=ab (al U.homes a) λc=>if decide (c<0) then J aa else ab (al U.homes a) λb=>J (decide ((U.aH.length:Int)<=b))
def Gs (U:ct) (a:Int):Nat->Int->Option (Sum (Unit) (Bool))|0,_=>ae|n+1,b=>if decide (b<a) then ab (al U.homes b) λc=>ab (al U.homes a) λe=>if c==e then J (bt ak) else aF.lt (aO .i64 (b+1)) λd=>Gs U a n d else J (bw ())
def EW (U:ct):Nat->Int->Option (Sum (Unit) (Bool))|0,_=>ae|n+1,a=>if decide (a<(U.homes.length:Int)) then ab (PA U a) λb=>if b then J (bt ak) else ab (Gs U a N 0) λc=>match c with|bw f=>aF.lt (aO .i64 (a+1)) λe=>EW U n e|bt d=>J (bt d) else J (bw ())
def aDo (b:List Int) (a:Int):Option Bool:=if decide (a<0) then J aa else J (decide ((b.length:Int)<=a))
def aBF (U:ct) (d:Int):Nat->(List Int)->Int->Option (Sum (List Int) (Bool))|0,_,_=>ae|n+1,a,c=>ab (al U.aH d) λf=>if decide (c<(f.length:Int)) then ab (al U.aH d) λg=>ab (al g c) λb=>ab (aDo a b) λe=>if e then J (bt ak) else ab (al a b) λl=>ab (al a b) λh=>ab (al a b) λk=>ab (al a b) λm=>aF.lt (a.set ((b:Int).toNat) (aO .i64 (h+1))) λj=>aF.lt (aO .i64 (c+1)) λi=>aBF U d n j i else J (bw a)
def PB (U:ct):Nat->(List Int)->Int->Option (Sum (List Int) (Bool))|0,_,_=>ae|n+1,b,a=>if decide (a<(U.aH.length:Int)) then ab (aBF U a N b 0) λd=>match d with|bw c=>aF.lt (aO .i64 (a+1)) λe=>PB U n c e|bt f=>J (bt f) else J (bw b)
def aBG (b:List Int):Nat->Int->Option (Sum (Unit) (Bool))|0,_=>ae|n+1,a=>if decide (a<(b.length:Int)) then ab (al b a) λe=>ab (al b a) λc=>if c !=1 then J (bt ak) else aF.lt (aO .i64 (a+1)) λd=>aBG b n d else J (bw ())
def SX (a:ct):Option Bool:=ab (EU a) λb=>if b then J ak else ab (Pz a N 0) λc=>match c with|bw m=>(ab (EW N a N 0) λd=>match d with|bw n=>(ab (hy 0 (a.items.length:Int)) λe=>ab (PB N a N e 0) λi=>match i with|bw g=>(ab (aBG g N 0) λh=>match h with|bw o=>J aa|bt k=>J k)|bt j=>J j)|bt f=>J f)|bt l=>J l
def PJ (U:ct) (c:Int):Nat->(List fa)->Int->Option (List fa)|0,_,_=>ae|n+1,b,a=>ab (al U.aH c) λe=>if decide (a<(e.length:Int)) then ab (al U.aH c) λf=>ab (al f a) λd=>ab (al b d) λi=>ab (al b d) λj=>aF.lt (b.set ((d:Int).toNat) (fa.mk c a)) λh=>aF.lt (aO .i64 (a+1)) λg=>PJ U c n h g else J b
def GG (U:ct):Nat->(List fa)->Int->Option (List fa)|0,_,_=>ae|n+1,b,a=>if decide (a<(U.aH.length:Int)) then ab (PJ U a N b 0) λd=>aF.lt (aO .i64 (a+1)) λc=>GG U n d c else J b
def SZ (a:ct):Option (List fa):=ab (hy (fa.mk 0 0) (a.items.length:Int)) λb=>ab (GG N a N b 0) λc=>J c
def H6 (b:ct) (U:List fa) (a:Int):Option Bool:=ab (al U a) λc=>ab (al b.items a) λd=>ab (al b.homes d.dS) λe=>aF.lt (c.cq==e) λf=>J f
def aDG (a:List fa) (U:Int) (b:Int):Option Bool:=ab (al a U) λc=>ab (al a b) λd=>if c.cq==d.cq then ab (al a U) λe=>ab (al a b) λf=>aF.lt (decide (f.place<e.place)) λg=>J g else J ak
def x5 (c:List fa) (U:Int) (a:Int):Option Bool:=ab (aDG c U a) λb=>J b
def E6 (U:Int) (b:Int) (a:ct):Option Bool:=ab (al a.items U) λc=>ab (al a.items b) λd=>if c.dS==d.dS then ab (al a.items U) λe=>ab (al a.items b) λf=>aF.lt (decide (e.block<f.block)) λg=>J g else J ak
def HS (c:ct) (U:Int) (a:Int):Option Bool:=ab (E6 U a c) λb=>J b
def E4 (U:List fa) (a:Int) (b:Int) (c:ct):Option Bool:=ab (H6 c U a) λd=>if d then ab (x5 U b a) λe=>if e then ab (HS c b a) λf=>J f else J ak else J ak
def SA (d:ct) (U:List fa) (b:Int) (c:Int):Option Bool:=ab (E4 U b c d) λa=>J a
def Gz (U:List fa) (b:Int) (c:ct):Nat->b6->Int->Option (Sum (b6) (b6×Bool))|0,_,_=>ae|n+1,d,a=>if decide (a<(c.items.length:Int)) then ab (SA c U b a) λe=>if e then J (bt ((b6.mk b 3 a 0),aa)) else aF.lt (aO .i64 (a+1)) λf=>Gz U b c n d f else J (bw d)
def SY (c:ct) (U:List fa) (a:Int):Option (b6×Bool):=ab (H6 c U a) λd=>if !d then J ((b6.mk a 1 (-1) 0),aa) else ab (Gz U a c N (b6.mk 0 0 0 0) 0) λe=>match e with|bw f=>J ((b6.mk 0 0 0 0),ak)|bt b=>J (b.1,b.2)
def aDp (U:List fa) (b:List Int) (f:Int) (g:Int) (a:Int):Option Bool:=ab (al b a) λc=>if decide (0<=c) then ab (al b a) λd=>if decide (d<g) then ab (x5 U f a) λe=>J e else J ak else J ak
def GF (U:List fa) (e:List Int) (b:Int) (c:Int) (f:ct):Nat->b6->Int->Option (Sum (b6) (b6×Bool))|0,_,_=>ae|n+1,d,a=>if decide (a<(f.items.length:Int)) then ab (aDp U e b c a) λg=>if g then J (bt ((b6.mk b 2 a c),aa)) else aF.lt (aO .i64 (a+1)) λh=>GF U e b c f n d h else J (bw d)
def aDq (b:List Int) (d:Int) (e:Int) (c:ct) (a:Int):Option Bool:=ab (al b a) λg=>if decide (0<=g) then ab (al b a) λh=>if decide (h<e) then ab (HS c a d) λf=>J f else J ak else J ak
def aBH (f:List Int) (c:Int) (d:Int) (b:ct):Nat->b6->Int->Option (Sum (b6) (b6×Bool))|0,_,_=>ae|n+1,e,a=>if decide (a<(b.items.length:Int)) then ab (aDq f c d b a) λh=>if h then J (bt ((b6.mk c 3 a d),aa)) else aF.lt (aO .i64 (a+1)) λg=>aBH f c d b n e g else J (bw e)
def H0 (f:ct) (U:List fa) (a:List Int) (b:Int) (c:Int):Option (b6×Bool):=ab (GF U a b c f N (b6.mk 0 0 0 0) 0) λg=>match g with|bw h=>(ab (aBH a b c f N h 0) λi=>match i with|bw j=>J ((b6.mk 0 0 0 0),ak)|bt e=>J (e.1,e.2))|bt d=>J (d.1,d.2)
def ET (U:ct) (f:List fa) (b:List b6) (d:List Int) (a:Int):Option (List b6×List Int):=ab (al d a) λk=>ab (al d a) λl=>aF.lt (d.set ((a:Int).toNat) (-1)) λc=>ab (SY N U f a) λe=>if e.2 then ab (al b a) λj=>ab (al b a) λi=>aF.lt (b.set ((a:Int).toNat) e.1) λh=>ab (al c a) λn=>ab (al c a) λm=>aF.lt (c.set ((a:Int).toNat) 0) λg=>J (h,g) else J (b,c)
def ES (U:ct) (d:List fa):Nat->(List b6)->(List Int)->Int->Option (List b6×List Int)|0,_,_,_=>ae|n+1,c,b,a=>if decide (a<(b.length:Int)) then ab (ET N U d c b a) λe=>aF.lt (aO .i64 (a+1)) λf=>ES U d n e.1 e.2 f else J (c,b)
def aDm (U:ct) (g:List fa) (c:List b6) (b:List Int) (e:Int) (d:Bool) (a:Int):Option (List b6×List Int×Bool):=ab (al b a) λk=>ab (al b a) λh=>if decide (0<=h) then J (c,b,d) else ab (H0 N U g b a e) λf=>if f.2 then ab (al c a) λm=>ab (al c a) λl=>aF.lt (c.set ((a:Int).toNat) f.1) λi=>ab (al b a) λo=>ab (al b a) λn=>aF.lt (b.set ((a:Int).toNat) e) λj=>J (i,j,aa) else J (c,b,d)
def aBD (U:ct) (g:List fa) (e:Int):Nat->(List b6)->(List Int)->Bool->Int->Option (List b6×List Int×Bool)|0,_,_,_,_=>ae|n+1,f,b,d,a=>if decide (a<(b.length:Int)) then ab (aDm N U g f b e d a) λc=>aF.lt (aO .i64 (a+1)) λh=>aBD U g e n c.1 c.2.1 c.2.2 h else J (f,b,d)
def Py (U:ct) (e:List fa):Nat->(List b6)->(List Int)->Int->Bool->Option (List b6×List Int)|0,_,_,_,_=>ae|n+1,c,d,b,f=>if f then ab (aBD N U e b N c d ak 0) λa=>aF.lt (aO .i64 (b+1)) λg=>Py U e n a.1 a.2.1 g a.2.2 else J (c,d)
def aDn (b:List b6) (c:List Int) (d:List b6) (a:Int):Option (List b6):=ab (al c a) λi=>ab (al c a) λg=>if decide (0<=g) then ab (al b a) λh=>ab (al b a) λe=>ab (cD d ([e]:List b6)) λf=>J f else J d
def aBE (c:List b6) (a:List Int):Nat->(List b6)->Int->Option (List b6)|0,_,_=>ae|n+1,d,b=>if decide (b<(a.length:Int)) then ab (aDn c a d b) λe=>aF.lt (aO .i64 (b+1)) λf=>aBE c a n e f else J d
def HY (a:ct):Option (List b6×Int):=ab (SX N a) λe=>if !e then J ([],1) else ab (SZ N a) λb=>ab (hy (b6.mk 0 0 0 0) (a.items.length:Int)) λf=>ab (hy 0 (a.items.length:Int)) λg=>ab (ES N a b N f g 0) λc=>ab (Py N a b N c.1 c.2 1 aa) λd=>ab (aBE d.1 d.2 N [] 0) λh=>J (h,0)
def Hw (a:b0):Option b0:=J (b0.mk a.c (bq.mk a.y.bD a.y.aH a.y.b2 ak (eR.mk [] (b8.mk [] 0) (e8.mk (dF.mk 0 []) []) 0 [] 0) ak) a.e a.r)
def CU (U:List fa) (d:ct) (a:b6):Option Bool:=if a.ib==(-1) then ab (H6 d U a.item) λb=>aF.lt (!b) λc=>J c else J ak
def aCS (b:ct) (a:Int):Option Bool:=if decide (a<0) then J aa else J (decide ((b.items.length:Int)<=a))
def aCT (b:List Int) (c:b6) (a:Int):Option Bool:=ab (al b a) λd=>if decide (0<=d) then ab (al b a) λe=>aF.lt (decide (e<c.round)) λf=>J f else J ak
def aCU (U:List fa) (c:b6) (b:Int) (a:Bool):Option Bool:=if a then ab (x5 U c.item b) λd=>J d else J ak
def aCV (U:List fa) (c:ct) (a:b6) (b:Int) (d:Bool):Option Bool:=if d then ab (HS c b a.item) λe=>if e then J aa else if a.round==0 then ab (SA c U a.item b) λf=>J f else J ak else if a.round==0 then ab (SA c U a.item b) λg=>J g else J ak
def Aa (b:ct) (U:List fa) (f:List Int) (a:b6):Option Bool:=if a.reason==1 then ab (CU U b a) λd=>J d else ab (aCS b a.ib) λe=>if e then J ak else ab (aCT f a a.ib) λc=>aF.lt (a.reason==2) λg=>if g then ab (aCU U a a.ib c) λj=>J j else aF.lt (a.reason==3) λi=>if i then ab (aCV U b a a.ib c) λh=>J h else J ak
def PC:Nat->(List Int)->Int->Option (List Int)|0,_,_=>ae|n+1,b,a=>if decide (a<(b.length:Int)) then ab (al b a) λe=>ab (al b a) λf=>aF.lt (b.set ((a:Int).toNat) (-1)) λc=>aF.lt (aO .i64 (a+1)) λd=>PC n c d else J b
def PD (U:List b6) (b:List Int) (c:Int) (a:Int):Option Bool:=if decide (a<0) then J aa else if decide ((b.length:Int)<=a) then J aa else ab (al b a) λf=>ab (al b a) λd=>if decide (0<=d) then J aa else ab (al U c) λe=>J (decide (e.round<0))
def Gt (U:List b6):Nat->(List Int)->Int->Option (Sum (List Int) (Bool))|0,_,_=>ae|n+1,a,b=>if decide (b<(U.length:Int)) then ab (al U b) λc=>ab (PD U a b c.item) λg=>if g then J (bt ak) else ab (al U b) λd=>ab (al a c.item) λh=>ab (al a c.item) λi=>aF.lt (a.set ((c.item:Int).toNat) d.round) λf=>aF.lt (aO .i64 (b+1)) λe=>Gt U n f e else J (bw a)
def Gu (U:List b6) (b:ct) (c:List fa) (d:List Int):Nat->Int->Option (Sum (Unit) (Bool))|0,_=>ae|n+1,a=>if decide (a<(U.length:Int)) then ab (al U a) λf=>ab (Aa b c d f) λg=>if !g then J (bt ak) else aF.lt (aO .i64 (a+1)) λe=>Gu U b c d n e else J (bw ())
def Gx (d:ct) (e:List fa) (c:List Int) (b:Int) (a:Int):Option Bool:=ab (al c a) λi=>ab (al c a) λf=>if decide (0<=f) then ab (x5 e b a) λh=>if h then J aa else ab (HS d a b) λg=>J g else J ak
def Gw (d:ct) (e:List fa) (a:List Int) (c:Int):Nat->Int->Option (Sum (Unit) (Bool))|0,_=>ae|n+1,b=>if decide (b<(a.length:Int)) then ab (Gx d e a c b) λf=>if f then J (bt ak) else aF.lt (aO .i64 (b+1)) λg=>Gw d e a c n g else J (bw ())
def Gv (c:ct) (d:List fa) (b:List Int) (a:Int):Option (Sum (Unit) (Bool)):=ab (al b a) λi=>ab (al b a) λe=>if decide (0<=e) then J (bw ()) else ab (SY N c d a) λf=>if f.2 then J (bt ak) else ab (Gw c d b a N 0) λh=>match h with|bw j=>J (bw ())|bt g=>J (bt g)
def PE (c:ct) (d:List fa) (b:List Int):Nat->Int->Option (Sum (Unit) (Bool))|0,_=>ae|n+1,a=>if decide (a<(b.length:Int)) then ab (Gv N c d b a) λe=>match e with|bw h=>aF.lt (aO .i64 (a+1)) λf=>PE c d b n f|bt g=>J (bt g) else J (bw ())
def HZ (a:ct) (U:List b6):Option Bool:=ab (SZ N a) λb=>ab (hy 0 (a.items.length:Int)) λd=>ab (PC N d 0) λe=>ab (Gt U N e 0) λf=>match f with|bw c=>(ab (Gu U a b c N 0) λg=>match g with|bw l=>(ab (PE N a b c N 0) λi=>match i with|bw m=>J aa|bt h=>J h)|bt j=>J j)|bt k=>J k
def E3 (b:List b6) (U:Int):Nat->Int->Option (Sum (Unit) (Bool))|0,_=>ae|n+1,a=>if decide (a<(b.length:Int)) then ab (al b a) λc=>if c.item==U then J (bt aa) else aF.lt (aO .i64 (a+1)) λd=>E3 b U n d else J (bw ())
def HR (c:List b6) (U:Int):Option Bool:=ab (E3 c U N 0) λa=>match a with|bw d=>J ak|bt b=>J b
def aED (a:Int):Option Bool:=if decide (a<0) then J aa else aF.lt (decide (12<a)) λb=>J b
def aEE (U:List b6) (d:ct) (c:b8) (b:List Int) (f:Int) (g:Int) (e:List c4):Option (b8×List Int×List c4):=ab (al d.aH f) λi=>ab (al i g) λa=>ab (HR N U a) λh=>if h then ab (al d.items a) λl=>ab (cD e ([l]:List c4)) λk=>ab (cD b ([a]:List Int)) λj=>J ((b8.mk [] c.dO),j,k) else J ((b8.mk [] c.dO),b,e)
def aAM (U:List b6) (c:ct) (a:Int):Nat->b8->(List Int)->Int->(List c4)->Option (b8×List Int×List c4)|0,_,_,_,_=>ae|n+1,f,e,b,g=>ab (al c.aH a) λh=>if decide (b<(h.length:Int)) then ab (aEE N U c (b8.mk [] f.dO) e a b g) λd=>aF.lt (aO .i64 (b+1)) λi=>aAM U c a n (b8.mk [] d.1.dO) d.2.1 i d.2.2 else J ((b8.mk [] f.dO),e,g)
def aAL (U:List b6) (b:ct):Nat->b8->(List Int)->Int->(List c4)->Option (b8×List Int×List c4)|0,_,_,_,_=>ae|n+1,e,d,a,f=>if decide (a<(b.aH.length:Int)) then ab (aAM N U b a N (b8.mk [] e.dO) d 0 f) λc=>aF.lt (aO .i64 (a+1)) λg=>aAL U b n (b8.mk [] c.1.dO) c.2.1 g c.2.2 else J ((b8.mk [] e.dO),d,f)
def yb (b:ct) (U:List b6) (c:Int):Option (b8×List Int×Int):=ab (SX N b) λd=>aF.lt (!d) λe=>if e then J ((b8.mk [] 0),[],1) else ab (aED c) λf=>if f then J ((b8.mk [] 0),[],2) else ab (HZ N b U) λg=>aF.lt (!g) λh=>if h then J ((b8.mk [] 0),[],17) else ab (aAL N U b N (b8.mk [] c) [] 0 []) λa=>J ((b8.mk a.2.2 a.1.dO),a.2.1,0)
def Rp (a:b0) (U:Int) (f:Int) (g:List cn):Option (Bool×List cn×b0):=ab (vG N a.y.aH U) λb=>ab (Se N a.y.bD) λh=>ab (S5 N a.c.aH h a.y.aH (cn.mk U b.1 f ak)) λd=>if d.2 !=0 then J (ak,g,(gq a)) else ab (cD g ([(cn.mk U b.1 f ak)]:List cn)) λi=>J (aa,i,(b0.mk a.c (bq.mk a.y.bD d.1 a.y.b2 a.y.busy a.y.bo a.y.cE) a.e (cI.mk a.r.err [] a.r.proof a.r.dW a.r.final a.r.cZ a.r.place)))
def aCY (b:List Int) (a:b6) (c:Bool):Option b6:=if c then ab (al b a.ib) λe=>ab (al b a.ib) λd=>J (b6.mk a.item a.reason d a.round) else J a
def aBM (d:List Int) (b:List b6):Nat->b0->Int->(List b6)->Option (b0×List b6)|0,_,_,_=>ae|n+1,f,c,e=>if decide (c<(b.length:Int)) then ab (al b c) λk=>ab (al b c) λa=>ab (al d a.item) λl=>ab (al d a.item) λj=>ab (aCY d (b6.mk j a.reason a.ib a.round) (decide (0<=a.ib))) λi=>ab (cD e ([i]:List b6)) λh=>aF.lt (aO .i64 (c+1)) λg=>aBM d b n (zY f) g h else J ((zY f),e)
def aBN (c:List Int) (a:List Int):Nat->(List Int)->Int->Option (List Int)|0,_,_=>ae|n+1,d,b=>if decide (b<(a.length:Int)) then ab (al a b) λj=>ab (al a b) λe=>ab (al c e) λi=>ab (al c e) λf=>ab (cD d ([f]:List Int)) λh=>aF.lt (aO .i64 (b+1)) λg=>aBN c a n h g else J d
def aCZ (g:List Int) (b:List (List Int)) (a:Int) (f:List Int) (d:Int):Option (List (List Int)×List Int):=ab (al b a) λn=>ab (al b a) λc=>ab (al c d) λo=>ab (al c d) λk=>ab (yc N g k) λi=>if !i then ab (al (b.set ((a:Int).toNat) c) a) λm=>ab (al (b.set ((a:Int).toNat) c) a) λe=>ab (al e d) λl=>ab (al e d) λj=>ab (cD f ([j]:List Int)) λh=>J (((b.set ((a:Int).toNat) c).set ((a:Int).toNat) e),h) else J ((b.set ((a:Int).toNat) c),f)
def aBP (e:List Int) (a:Int):Nat->(List (List Int))->(List Int)->Int->Option (List (List Int)×List Int)|0,_,_,_=>ae|n+1,b,f,c=>ab (al b a) λi=>ab (al b a) λd=>if decide (c<(d.length:Int)) then ab (aCZ N e (b.set ((a:Int).toNat) d) a f c) λg=>aF.lt (aO .i64 (c+1)) λh=>aBP e a n g.1 g.2 h else J ((b.set ((a:Int).toNat) d),f)
def aBO (d:List Int):Nat->(List (List Int))->Int->Option (List (List Int))|0,_,_=>ae|n+1,c,a=>if decide (a<(c.length:Int)) then ab (aBP N d a N c ([]:List Int) 0) λb=>ab (al b.1 a) λf=>ab (al b.1 a) λg=>aF.lt (aO .i64 (a+1)) λe=>aBO d n (b.1.set ((a:Int).toNat) b.2) e else J c
def aC0 (g:b0) (a:List (List Int)) (d:Bool) (f:Int):Option (List (List Int)×Bool):=if d then ab (al g.e.aH f) λb=>ab (al a b) λi=>ab (al a b) λc=>aF.lt ((c.length:Int)==0) λh=>J ((a.set ((b:Int).toNat) c),h) else J (a,ak)
def aBQ (b:b0):Nat->(List (List Int))->Bool->Int->Option (List (List Int)×Bool)|0,_,_,_=>ae|n+1,c,d,a=>if decide (a<(b.e.aH.length:Int)) then ab (aC0 (zY b) c d a) λf=>aF.lt (aO .i64 (a+1)) λg=>aBQ b n f.1 f.2 g else J (c,d)
def aBR (a:List Int):Nat->b0->Int->(List cn)->Option (b0×List cn)|0,_,_,_=>ae|n+1,c,b,f=>if decide (b<(a.length:Int)) then ab (al a b) λi=>ab (al a b) λh=>ab (Rp N (gq c) h c.e.cq f) λd=>aF.lt (aO .i64 (b+1)) λg=>aBR a n (gq d.2.2) g d.2.1 else J ((gq c),f)
def RH (a:b0) (f:List cn) (h:List b6):Option (Int×b0):=aF.lt (!a.y.cE) λv=>if v then J (16,(b0.mk a.c a.y a.e (cI.mk a.r.err f a.r.proof h a.r.final a.r.cZ a.r.place))) else ab (RG N (b0.mk a.c a.y a.e (cI.mk a.r.err f a.r.proof h a.r.final a.r.cZ a.r.place))) λw=>aF.lt (!w) λx=>if x then J (2,(b0.mk a.c a.y a.e (cI.mk a.r.err f a.r.proof h a.r.final a.r.cZ a.r.place))) else ab (Sp N (b0.mk a.c a.y a.e (cI.mk a.r.err f a.r.proof h a.r.final a.r.cZ a.r.place))) λA=>aF.lt (!A) λC=>if C then J (17,(b0.mk a.c a.y a.e (cI.mk a.r.err f a.r.proof h a.r.final a.r.cZ a.r.place))) else ab (Al N a.y.bD a.y.aH a.y.b2 a.y.bo.bD) λi=>if decide (96<(i.2.length:Int)) then J (3,(b0.mk a.c a.y a.e (cI.mk a.r.err f a.r.proof h a.r.final a.r.cZ a.r.place))) else ab (HY N i.1) λm=>if (m.1.length:Int)==0 then ab (Hw (b0.mk a.c a.y a.e (cI.mk a.r.err f a.r.proof h a.r.final a.r.cZ a.r.place))) λB=>J (0,B) else ab (aBM i.2 m.1 N (zY a) 0 h) λb=>ab (yb N i.1 m.1 b.1.e.dO) λj=>ab (aBN i.2 j.2.1 N [] 0) λk=>ab (Th N b.1.y.aH) λD=>ab (aBO N k N D 0) λn=>ab (al n b.1.e.cq) λE=>ab (al n b.1.e.cq) λp=>aF.lt ((p.length:Int)==0) λq=>ab (aBQ (zY b.1) N (n.set ((b.1.e.cq:Int).toNat) p) q 0) λo=>if !o.2 then J (17,(b0.mk b.1.c b.1.y b.1.e (cI.mk b.1.r.err f b.1.r.proof b.2 b.1.r.final b.1.r.cZ b.1.r.place))) else ab (H8 N b.1.y k) λt=>ab (al b.1.c.aH b.1.e.cq) λu=>if decide (u.length<t) then J (14,(b0.mk b.1.c b.1.y b.1.e (cI.mk b.1.r.err f b.1.r.proof b.2 b.1.r.final b.1.r.cZ b.1.r.place))) else ab (H5 N j.1) λl=>if l.2 !=0 then J (l.2,(b0.mk b.1.c b.1.y b.1.e (cI.mk b.1.r.err f b.1.r.proof b.2 b.1.r.final b.1.r.cZ b.1.r.place))) else ab (H9 N b.1.c b.1.y j.1 l.1.e9 b.1.e.aH (rz (λ(z:List Int)=>z) o.1)) λs=>if !s then J (14,(b0.mk b.1.c b.1.y b.1.e (cI.mk b.1.r.err f b.1.r.proof b.2 b.1.r.final b.1.r.cZ b.1.r.place))) else ab (aBR N k N (b0.mk b.1.c b.1.y b.1.e (cI.mk b.1.r.err [] b.1.r.proof b.2 b.1.r.final b.1.r.cZ b.1.r.place)) 0 f) λg=>ab (HG (b0.mk g.1.c g.1.y g.1.e (cI.mk g.1.r.err g.2 g.1.r.proof g.1.r.dW g.1.r.final g.1.r.cZ g.1.r.place)) k j.1 l.1) λd=>J (0,(b0.mk d.2.2.2.c (bq.mk d.2.2.2.y.bD d.2.2.2.y.aH d.2.2.2.y.b2 d.2.2.2.y.busy (eR.mk d.2.2.2.y.bo.bD d.2.2.2.y.bo.iP d.2.2.2.y.bo.proof d.2.2.2.y.bo.lead d.1 d.2.2.2.y.bo.h9) d.2.2.2.y.cE) d.2.2.2.e (cI.mk d.2.2.2.r.err d.2.2.2.r.vv (e8.mk (dF.mk d.2.2.2.r.proof.e9.steps d.2.1) d.2.2.1) d.2.2.2.r.dW d.2.2.2.r.final d.2.2.2.r.cZ d.2.2.2.r.place)))
def E9 (b:List (List Int)) (U:Int) (a:Int):Option Bool:=if decide (U<0) then J aa else if decide ((b.length:Int)<=U) then J aa else if decide (a<0) then J aa else if decide ((b.length:Int)<=a) then J aa else J (U==a)
def Of (c:List (List Int)) (U:Int) (a:Int):Option Bool:=if decide (a<0) then J aa else ab (al c U) λb=>J (decide ((b.length:Int)<a))
def aBw (b:List (List Int)) (U:Int) (d:Int):Nat->(List cn)->Int->Option (List cn)|0,_,_=>ae|n+1,c,a=>ab (al b U) λh=>if decide (a<(h.length:Int)) then ab (al b U) λi=>ab (al i a) λf=>ab (cD c ([(cn.mk f U d ak)]:List cn)) λg=>aF.lt (aO .i64 (a+1)) λe=>aBw b U d n g e else J c
def SC (a:List (List Int)) (U:Int) (b:Int) (c:Int):Option (List cn×Int):=ab (E9 a U b) λd=>if d then J ([],2) else ab (Of a U c) λe=>if e then J ([],13) else ab (al a U) λf=>aF.lt (aO .i64 ((f.length:Int) - c)) λg=>ab (aBw a U b N [] g) λh=>J (h,0)
def Hs (a:b0) (U:Int) (f:Int) (g:List cn):Option (Bool×List cn×b0):=ab (vG N a.y.aH U) λb=>ab (Se N a.y.bD) λh=>ab (S5 N a.c.aH h a.y.aH (cn.mk U b.1 f ak)) λd=>if d.2 !=0 then J (ak,g,(gq a)) else ab (cD g ([(cn.mk U b.1 f ak)]:List cn)) λi=>J (aa,i,(b0.mk a.c (bq.mk a.y.bD d.1 a.y.b2 a.y.busy a.y.bo a.y.cE) a.e (cI.mk a.r.err [] a.r.proof a.r.dW a.r.final a.r.cZ a.r.place)))
def FG (a:b0):Option Bool:=ab (S7 a.c a.e.cq) λb=>if !b then J aa else ab (S7 a.c a.e.to) λd=>aF.lt (!d) λf=>J f
def NT (a:b0):Option Bool:=if a.e.cq==a.e.to then J aa else ab (Sf N a.y a.e.cq) λb=>if b then J aa else ab (Sf N a.y a.e.to) λc=>J c
def aEj (a:b0):Option Bool:=if decide (a.e.count<1) then J aa else ab (al a.y.aH a.e.cq) λb=>aF.lt (decide ((b.length:Int)<a.e.count)) λc=>J c
def aB9 (c:List cn):Nat->b0->Int->(List cn)->Option (Sum (b0×List cn) (b0×Int×List cn))|0,_,_,_=>ae|n+1,d,b,f=>if decide (b<(c.length:Int)) then ab (al c b) λi=>ab (al c b) λg=>ab (Hs N (gq d) g.hX d.e.to f) λa=>if !a.1 then J (bt ((gq a.2.2),14,a.2.1)) else aF.lt (aO .i64 (b+1)) λh=>aB9 c n (gq a.2.2) h a.2.1 else J (bw ((gq d),f))
def Sq (a:b0) (b:List cn):Option (Int×List cn×b0):=if a.y.busy then J (25,b,(gq a)) else ab (FG (gq a)) λf=>if f then J (2,b,(gq a)) else ab (NT N (gq a)) λh=>if h then J (17,b,(gq a)) else ab (aEj (gq a)) λg=>if g then J (13,b,(gq a)) else ab (SC N a.y.aH a.e.cq a.e.to a.e.count) λj=>ab (aB9 N j.1 N (gq a) 0 b) λi=>match i with|bw d=>J (0,d.2,(gq d.1))|bt c=>J (c.2.1,c.2.2,(gq c.1))
def S4 (b:c8) (U:b7) (e:List bC):Option Int:=ab (Hp N b) λa=>if a !=0 then J a else ab (Ht N b U) λc=>if !c then J 1 else ab (Hy N e) λd=>J d
def Oe (U:List bC) (c:b7):Nat->(List Int)->Int->Option (Sum (List Int) (Int×Int))|0,_,_=>ae|n+1,d,a=>if decide (a<(U.length:Int)) then ab (al U a) λe=>ab (S3 N c e.dest) λb=>if decide (b<0) then J (bt (a,7)) else ab (cD d ([b]:List Int)) λf=>aF.lt (aO .i64 (a+1)) λg=>Oe U c n f g else J (bw d)
def x7 (d:b7) (U:List bC):Option (List Int×Int×Int):=ab (Oe N U d N [] 0) λb=>match b with|bw c=>J (c,(-1),0)|bt a=>J ([],a.1,a.2)
def XM (b:List bC):Nat->Int->Int->Int->Int->Option (Int×Int×Int)|0,_,_,_,_=>ae|n+1,c,d,e,a=>if decide (a<(b.length:Int)) then ab (al b a) λf=>aF.lt (aO .i64 (c+f.length)) λg=>ab (al b a) λh=>aF.lt (aO .i64 (d+h.gv)) λj=>ab (al b a) λk=>aF.lt (aO .i64 (e+k.iL)) λl=>aF.lt (aO .i64 (a+1)) λi=>XM b n g j l i else J (c,d,e)
def afH (c:List bC):Option (Int×Int×Int×Int):=ab (Hy N c) λb=>if b !=0 then J (0,0,0,b) else ab (XM c N 0 0 0 0) λa=>J (a.1,a.2.1,a.2.2,0)
def PQ (b:List Int) (U:Int):Nat->Int->Option (Sum (Unit) (Bool))|0,_=>ae|n+1,a=>if decide (a<(b.length:Int)) then ab (al b a) λc=>if c==U then J (bt aa) else aF.lt (aO .i64 (a+1)) λd=>PQ b U n d else J (bw ())
def Tl (c:List Int) (U:Int):Option Bool:=ab (PQ c U N 0) λa=>match a with|bw d=>J ak|bt b=>J b
def Ae (a:Int):Option Int:=if decide (a<=5000) then J 100 else if decide (7000<a) then J 80 else aF.lt (aO .i64 (100 - (aO .i64 (l1 (aO .i64 ((aO .i64 (a - 5000))+99)) 100)))) λb=>J b
def aDr (d:List bC) (U:List Int) (a:Int):Option Bool:=ab (al U a) λb=>if decide (b<0) then J aa else ab (al U a) λc=>J (decide ((d.length:Int)<=c))
def aBI (c:List bC) (U:List Int):Nat->dM->Int->Option (Sum (dM) (dM×Int))|0,_,_=>ae|n+1,b,a=>if decide (a<(U.length:Int)) then ab (aDr c U a) λd=>if d then J (bt ((dM.mk 0 0 0 0 0 0 0),2)) else aF.lt (aO .i64 (a+1)) λe=>aBI c U n b e else J (bw b)
def aBJ (U:List Int):Nat->dM->Int->Option (Sum (dM) (dM×Int))|0,_,_=>ae|n+1,b,a=>if decide (a<(U.length:Int)) then ab (gi U 0 a) λd=>ab (al U a) λe=>ab (Tl N d e) λc=>if c then J (bt ((dM.mk 0 0 0 0 0 0 0),8)) else aF.lt (aO .i64 (a+1)) λf=>aBJ U n b f else J (bw b)
def aDs (e:List bC) (U:List Int) (a:dM) (b:Int):Option dM:=ab (Tl N U b) λc=>if !c then ab (al e b) λd=>J (dM.mk a.length a.iL a.gv (aO .i64 (a.mw+d.lJ)) a.j9 a.required a.oW) else J a
def aBK (b:List bC) (U:List Int):Nat->dM->Int->Option dM|0,_,_=>ae|n+1,c,a=>if decide (a<(b.length:Int)) then ab (aDs N b U c a) λe=>aF.lt (aO .i64 (a+1)) λd=>aBK b U n e d else J c
def aDt (b:Int) (a:dM) (d:Bool):Option dM:=if d then ab (sU (aO .i64 (100*a.mw)) b) λc=>J (dM.mk a.length a.iL a.gv a.mw (aO .i64 (c)) a.required a.oW) else J a
def S0 (c:List bC) (U:List Int):Option (dM×Int):=ab (afH N c) λa=>if a.2.2.2 !=0 then J ((dM.mk 0 0 0 0 0 0 0),a.2.2.2) else ab (aBI c U N (dM.mk 0 0 0 0 0 0 0) 0) λf=>match f with|bw g=>(ab (aBJ N U N g 0) λh=>match h with|bw k=>ab (aBK N c U N (dM.mk a.1 a.2.2.1 a.2.1 0 0 0 0) 0) λb=>ab (Ae a.1) λi=>ab (aDt a.2.1 (dM.mk b.length b.iL b.gv (aO .i64 (l1 (aO .i64 (b.mw*i)) 100)) b.j9 b.required b.oW) (decide (0<a.2.1))) λj=>J (j,0)|bt d=>J (d.1,d.2))|bt e=>J (e.1,e.2)
def Pm (b:List ff) (U:Int) (g:Int) (h:Int) (e:Bool) (a:Int):Option Bool:=ab (al b a) λc=>if decide (U<=c.speed) then ab (al b a) λd=>if decide (g<=d.iZ) then if !e then J aa else ab (al b a) λf=>J (decide (f.j9<h)) else J ak else J ak
def Gg (d:List ff) (U:Int) (f:Int) (c:Int) (b:Bool) (a:Int):Option (Int×Bool):=ab (Pm d U f c b a) λe=>if e then ab (al d a) λg=>J (g.j9,aa) else J (c,b)
def Pl (b:List ff) (U:Int) (d:Int):Nat->Int->Bool->Int->Option (Int×Bool)|0,_,_,_=>ae|n+1,e,c,a=>if decide (a<(b.length:Int)) then ab (Gg b U d e c a) λf=>aF.lt (aO .i64 (a+1)) λg=>Pl b U d n f.1 f.2 g else J (e,c)
def Tf (c:List ff) (U:Int) (b:Int):Option (Int×Bool):=ab (Pl c U b N 0 ak 0) λa=>J (a.1,a.2)
def aCC (U:Int) (a:Int):Option Bool:=if decide (U<1) then J aa else if decide (200<U) then J aa else if decide (a<0) then J aa else J (decide (500<a))
def RS (c:List ff) (U:Int) (b:Int):Option (Int×Int):=ab (Rn N c) λd=>if !d then J (0,1) else ab (aCC U b) λe=>if e then J (0,2) else ab (Tf N c U b) λa=>if !a.2 then J (0,15) else J (a.1,0)
def H2 (f:List bC) (U:List Int) (c:List ff) (d:Int) (e:Int):Option (dM×Int):=ab (S0 N f U) λa=>if a.2 !=0 then J ((dM.mk 0 0 0 0 0 0 0),a.2) else ab (RS N c d e) λb=>if b.2 !=0 then J ((dM.mk 0 0 0 0 0 0 0),b.2) else J ((dM.mk a.1.length a.1.iL a.1.gv a.1.mw a.1.j9 b.1 (max 0 (aO .i64 ((aO .i64 (l1 (aO .i64 ((aO .i64 (b.1*a.1.gv))+99)) 100)) - a.1.mw)))),0)
def Tg (a:Int) (U:bC):Option Int:=aF.lt (a==1) λb=>if b then J U.length else aF.lt (a==2) λc=>if c then J U.iL else J U.gv
def Ft (a:Int) (c:Int) (d:bC) (b:bC):Option Bool:=if d.kH==a then if b.kH==c then J aa else if d.kH==c then aF.lt (b.kH==a) λe=>J e else J ak else if d.kH==c then aF.lt (b.kH==a) λf=>J f else J ak
def Sd (d:bC) (U:bC) (b:Int) (c:Int):Option Bool:=ab (Ft b c d U) λa=>J a
def aDI (b:Int) (c:Bool):Option Bool:=if c then J c else aF.lt (b==2) λa=>if a then J a else aF.lt (b==3) λd=>J d
def aBt (U:List bC) (b:Int) (c:cR):Nat->Int->Int->Option Int|0,_,_=>ae|n+1,d,a=>if decide (a<=b) then ab (al U a) λf=>ab (Tg c.kind f) λg=>aF.lt (aO .i64 (d+g)) λh=>aF.lt (aO .i64 (a+1)) λe=>aBt U b c n h e else J d
def aDJ (U:List bC) (f:Int) (d:cR) (e:Int):Option Bool:=ab (al U e) λi=>ab (al U f) λg=>ab (Sd i g d.a d.b) λh=>if h then J (decide ((aO .i64 ((aO .i64 (f - e)) - 1))<d.c)) else J ak
def aBu (U:List bC) (b:Int) (c:cR):Nat->Int->Option (Sum (Unit) (Bool))|0,_=>ae|n+1,a=>if decide (a<b) then ab (aDJ U b c a) λe=>if e then J (bt aa) else aF.lt (aO .i64 (a+1)) λd=>aBu U b c n d else J (bw ())
def aDK (U:List bC) (c:Int) (d:cR):Option Bool:=ab (al U c) λf=>if f.kH==d.a then aF.lt (decide (c<d.b)) λe=>J e else J ak
def aBv (U:List bC):Nat->Int->Int->Option Int|0,_,_=>ae|n+1,b,a=>if decide (a<(U.length:Int)) then ab (al U a) λd=>aF.lt (aO .i64 (b+d.gv)) λc=>aF.lt (aO .i64 (a+1)) λe=>aBv U n c e else J b
def aDL (U:List bC) (d:Int) (c:cR) (e:Int):Option Bool:=ab (al U d) λg=>if decide (g.gv<=c.a) then aF.lt (decide (c.b<e)) λf=>J f else J ak
def Od (U:List bC) (b:Int) (d:cR) (e:Int) (c:Int):Option (Sum (Unit) (Bool)):=aF.lt (c==1) λf=>ab (aDI c f) λg=>if g then ab (aBt U b d N e 0) λi=>aF.lt (decide (d.a<i)) λh=>J (bt h) else aF.lt (c==5) λk=>if k then ab (aBu U b d N 0) λj=>match j with|bw w=>J (bw ())|bt l=>J (bt l) else aF.lt (c==6) λn=>if n then ab (aDK U b d) λm=>J (bt m) else aF.lt (c==8) λq=>if q then ab (al U b) λo=>ab (al U b) λp=>aF.lt (decide ((aO .i64 (d.a*p.iL))<o.gv)) λs=>J (bt s) else aF.lt (c==9) λt=>if t then aF.lt (aO .i64 (b+1)) λr=>ab (aBv U N e r) λv=>ab (aDL U b d v) λu=>J (bt u) else J (bw ())
def x6 (a:cR) (U:List bC) (b:Int):Option Bool:=ab (Od N U b a 0 a.kind) λc=>match c with|bw e=>J ak|bt d=>J d
def GO (b:cR) (c:Int) (d:dM):Option Bool:=if decide (0<c) then J (decide (d.j9<b.a)) else J ak
def aDv (U:List bC) (b:List Int) (a:Int):Option Bool:=ab (al U a) λc=>if decide (0<c.lJ) then ab (Tl N b a) λd=>J (!d) else J ak
def aDu (U:List bC) (c:List Int) (a:Int) (b:Int):Option Int:=ab (aDv N U c b) λd=>if d then aF.lt (aO .i64 (a+1)) λe=>J e else J a
def GP (U:List bC) (c:List Int) (d:Int):Nat->Int->Int->Option Int|0,_,_=>ae|n+1,b,a=>if decide (a<d) then ab (aDu N U c b a) λf=>aF.lt (aO .i64 (a+1)) λe=>GP U c d n f e else J b
def aBc (U:List bC) (b:cR) (c:Int):Nat->Int->Option (Sum (Unit) (Int))|0,_=>ae|n+1,a=>if decide (a<c) then ab (x6 N b U a) λe=>if e then J (bt a) else aF.lt (aO .i64 (a+1)) λd=>aBc U b c n d else J (bw ())
def H3 (d:cR) (U:List bC) (e:List Int):Option Int:=aF.lt (U.length:Int) λc=>aF.lt (d.kind==4) λg=>if g then ab (S0 N U e) λh=>ab (GO d c h.1) λi=>if i then J c else J (-1) else aF.lt (d.kind==7) λj=>if j then aF.lt (min d.a c) λf=>aF.lt (aO .i64 (c - f)) λk=>ab (GP N U e c N 0 k) λl=>if decide (l<(min d.b f)) then J c else J (-1) else ab (aBc N U d c N 0) λm=>match m with|bw o=>J (-1)|bt n=>J n
def GK (b:List cR) (U:List bC) (d:List Int):Nat->Int->Option (Sum (Unit) (Int×Int×Int))|0,_=>ae|n+1,a=>if decide (a<(b.length:Int)) then ab (al b a) λe=>ab (H3 N e U d) λc=>if decide (0<=c) then ab (al b a) λf=>J (bt (f.number,c,0)) else aF.lt (aO .i64 (a+1)) λg=>GK b U d n g else J (bw ())
def Ag (e:List cR) (U:List bC) (d:List Int):Option (Int×Int×Int):=ab (S1 N e) λb=>if b !=0 then J (0,0,b) else ab (S0 N U d) λc=>if c.2 !=0 then J (0,0,c.2) else ab (GK N e U d N 0) λf=>match f with|bw g=>J (0,(-1),0)|bt a=>J (a.1,a.2.1,a.2.2)
def aDH (b:List Int) (U:Int) (a:Int):Option Bool:=ab (al b a) λc=>if decide (c<0) then J aa else ab (al b a) λd=>J (decide (U<=d))
def E8 (b:List Int) (U:Int):Nat->Int->Option (Sum (Unit) (Bool))|0,_=>ae|n+1,a=>if decide (a<(b.length:Int)) then ab (aDH b U a) λc=>if c then J (bt ak) else aF.lt (aO .i64 (a+1)) λd=>E8 b U n d else J (bw ())
def SB (c:List Int) (U:Int):Option Bool:=ab (E8 c U N 0) λa=>match a with|bw d=>J aa|bt b=>J b
def aEF (a:Int) (c:Bool):Option Int:=if c then aF.lt (aO .i64 (a+1)) λb=>J b else J a
def GU (e:List Int) (U:Int) (b:Int) (a:Int) (d:Bool) (c:Int):Option (Int×Int×Bool):=ab (al e c) λf=>aF.lt (f==U) λg=>if g then aF.lt (aO .i64 (b+1)) λh=>ab (aEF a (!d)) λi=>J (h,i,aa) else ab (al e c) λj=>aF.lt (decide (U<j)) λk=>if k then J (b,a,ak) else J (b,a,d)
def PT (c:List Int) (U:Int):Nat->Int->Int->Bool->Int->Option (Int×Int)|0,_,_,_,_=>ae|n+1,e,d,f,a=>if decide (a<(c.length:Int)) then ab (GU c U e d f a) λb=>aF.lt (aO .i64 (a+1)) λg=>PT c U n b.1 b.2.1 b.2.2 g else J (e,d)
def Tn (b:List Int) (U:Int):Option (Int×Int):=ab (PT b U N 0 0 ak 0) λa=>J (a.1,a.2)
def aEt (U:Int):Option Bool:=if decide (U<0) then J aa else J (decide (16<U))
def aEu (e:List Int) (c:List hn) (b:Int):Option (List hn):=ab (Tn N e b) λa=>if decide (0<a.1) then ab (cD c ([(hn.mk b a.1 a.2)]:List hn)) λd=>J d else J c
def aBg (c:List Int) (U:Int):Nat->(List hn)->Int->Option (List hn)|0,_,_=>ae|n+1,b,a=>if decide (a<U) then ab (aEu N c b a) λd=>aF.lt (aO .i64 (a+1)) λe=>aBg c U n d e else J b
def Aj (a:List Int) (U:Int):Option (List hn×Int):=ab (aEt U) λb=>if b then J ([],2) else if decide (96<(a.length:Int)) then J ([],3) else ab (SB N a U) λc=>if !c then J ([],2) else ab (aBg N a U N [] 0) λd=>J (d,0)
def aEl (b:List Int) (a:Int):Option Bool:=if decide (0<a) then ab (al b a) λe=>ab (al b a) λc=>ab (al b (aO .i64 (a - 1))) λf=>ab (al b (aO .i64 (a - 1))) λd=>J (decide (c<d)) else J ak
def GS (d:b7) (b:List Int):Nat->hI->(List Int)->Int->Option (Sum (hI×List Int) (hI×Int×Int×Int))|0,_,_,_=>ae|n+1,c,e,a=>if decide (a<(b.length:Int)) then ab (aEl b a) λh=>if h then J (bt ((hI.mk [] [] (dM.mk 0 0 0 0 0 0 0) []),0,a,12)) else ab (al b a) λj=>ab (al b a) λg=>ab (cD e ([(aO .i64 ((aO .i64 ((d.c7.length:Int) - 1)) - g))]:List Int)) λf=>aF.lt (aO .i64 (a+1)) λi=>GS d b n c f i else J (bw (c,e))
def x9 (b:c8) (U:b7) (a:List bC):Option (hI×Int×Int×Int):=ab (S4 N b U a) λg=>if g !=0 then J ((hI.mk [] [] (dM.mk 0 0 0 0 0 0 0) []),0,0,g) else if (a.length:Int)==0 then J ((hI.mk [] [] (dM.mk 0 0 0 0 0 0 0) []),0,0,13) else ab (x7 N U a) λc=>if c.2.2 !=0 then J ((hI.mk [] [] (dM.mk 0 0 0 0 0 0 0) []),0,c.2.1,c.2.2) else ab (GS U c.1 N (hI.mk [] [] (dM.mk 0 0 0 0 0 0 0) []) [] 0) λk=>match k with|bw h=>ab (H2 N a [] b.table b.speed b.iZ) λd=>if d.2 !=0 then J ((hI.mk [] [] (dM.mk 0 0 0 0 0 0 0) []),0,0,d.2) else ab (Ag N b.rules a []) λf=>if f.1 !=0 then J ((hI.mk [] [] (dM.mk 0 0 0 0 0 0 0) []),f.1,f.2.1,20) else if d.1.oW !=0 then aF.lt (a.length:Int) λj=>J ((hI.mk [] [] (dM.mk 0 0 0 0 0 0 0) []),0,j,20) else ab (cD ([]:List bC) a) λi=>ab (Aj N h.2 (U.c7.length:Int)) λl=>J ((hI.mk U.name i d.1 l.1),0,0,0)|bt e=>J (e.1,e.2.1,e.2.2.1,e.2.2.2)
def Ra (a:b0) (U:Int) (f:Int) (g:List cn):Option (Bool×List cn×b0):=ab (vG N a.y.aH U) λb=>ab (Se N a.y.bD) λh=>ab (S5 N a.c.aH h a.y.aH (cn.mk U b.1 f ak)) λd=>if d.2 !=0 then J (ak,g,(gq a)) else ab (cD g ([(cn.mk U b.1 f ak)]:List cn)) λi=>J (aa,i,(b0.mk a.c (bq.mk a.y.bD d.1 a.y.b2 a.y.busy a.y.bo a.y.cE) a.e (cI.mk a.r.err [] a.r.proof a.r.dW a.r.final a.r.cZ a.r.place)))
def NF (d:b0) (b:List Int):Nat->(List bC)->Int->Option (List bC)|0,_,_=>ae|n+1,c,a=>if decide (a<(b.length:Int)) then ab (al b a) λi=>ab (al b a) λh=>ab (al d.y.bD h) λf=>ab (cD c ([f]:List bC)) λg=>aF.lt (aO .i64 (a+1)) λe=>NF d b n g e else J c
def Ew (b:List Int):Nat->b0->Int->(List cn)->Option (b0×List cn)|0,_,_,_=>ae|n+1,e,a,c=>if decide (a<(b.length:Int)) then ab (al b a) λh=>ab (al b a) λf=>ab (Ra N (gq e) f (-1) c) λd=>aF.lt (aO .i64 (a+1)) λg=>Ew b n (gq d.2.2) g d.2.1 else J ((gq e),c)
def Ev:Nat->b0->Int->(List b7)->(List cn)->Option (Sum (b0×List b7×List cn) (b0×Int×List cn))|0,_,_,_,_=>ae|n+1,b,d,f,h=>if decide (d<(f.length:Int)) then ab (al f d) λs=>ab (al f d) λi=>if !(i.name==b.e.name) then aF.lt (aO .i64 (d+1)) λm=>Ev n (Hd b) m f h else ab (al b.y.aH i.cq) λo=>ab (cD ([]:List Int) o) λj=>ab (NF (Hd b) j N [] 0) λp=>ab (x9 N b.c i p) λg=>if g.2.2.2 !=0 then J (bt ((b0.mk b.c (bq.mk b.y.bD b.y.aH f b.y.busy b.y.bo b.y.cE) b.e (cI.mk b.r.err [] b.r.proof b.r.dW b.r.final g.2.1 g.2.2.1)),g.2.2.2,h)) else ab (Ew N j N (b0.mk b.c (bq.mk b.y.bD b.y.aH f b.y.busy b.y.bo b.y.cE) b.e (cI.mk b.r.err [] b.r.proof b.r.dW g.1 b.r.cZ b.r.place)) 0 h) λa=>ab (LJ a.1.y.b2 d d) λq=>ab (gi a.1.y.b2 (aO .i64 (d+1)) (a.1.y.b2.length:Int)) λk=>ab (cD q k) λl=>if k.isEmpty then J (bt ((b0.mk a.1.c (bq.mk a.1.y.bD a.1.y.aH l a.1.y.busy a.1.y.bo a.1.y.cE) a.1.e (cI.mk a.1.r.err [] a.1.r.proof a.1.r.dW a.1.r.final a.1.r.cZ a.1.r.place)),0,a.2)) else J (bt ((b0.mk a.1.c (bq.mk a.1.y.bD a.1.y.aH l a.1.y.busy a.1.y.bo a.1.y.cE) a.1.e (cI.mk a.1.r.err [] a.1.r.proof a.1.r.dW a.1.r.final a.1.r.cZ a.1.r.place)),0,a.2)) else J (bw ((Hd b),f,h))
def RE (b:b0) (g:List b7) (f:List cn):Option (Int×List cn×b0):=if b.y.busy then J (25,f,(b0.mk b.c (bq.mk b.y.bD b.y.aH g b.y.busy b.y.bo b.y.cE) b.e (cI.mk b.r.err [] b.r.proof b.r.dW b.r.final b.r.cZ b.r.place))) else ab (Ev N N (Hd b) 0 g f) λh=>match h with|bw a=>J (7,a.2.2,(b0.mk a.1.c (bq.mk a.1.y.bD a.1.y.aH a.2.1 a.1.y.busy a.1.y.bo a.1.y.cE) a.1.e (cI.mk a.1.r.err [] a.1.r.proof a.1.r.dW a.1.r.final a.1.r.cZ a.1.r.place)))|bt d=>J (d.2.1,d.2.2,(gq d.1))
def OS (a:b0) (q:Int) (l:Int) (h:List bC) (i:List b7) (j:List cn) (k:List b6):Option (b0×Int):=aF.lt (l==1) λp=>if p then ab (RD N (b0.mk a.c (bq.mk [] a.y.aH i a.y.busy a.y.bo a.y.cE) a.e (cI.mk a.r.err [] a.r.proof k a.r.final a.r.cZ a.r.place)) h j) λb=>J ((b0.mk b.2.2.c b.2.2.y b.2.2.e (cI.mk b.2.2.r.err b.2.1 b.2.2.r.proof b.2.2.r.dW b.2.2.r.final b.2.2.r.cZ b.2.2.r.place)),b.1) else aF.lt (l==2) λs=>if s then ab (HH N (b0.mk a.c (bq.mk h a.y.aH [] a.y.busy a.y.bo a.y.cE) a.e (cI.mk a.r.err j a.r.proof k a.r.final a.r.cZ a.r.place)) i) λg=>J ((b0.mk g.2.2.c (bq.mk g.2.2.y.bD g.2.2.y.aH g.2.1 g.2.2.y.busy g.2.2.y.bo g.2.2.y.cE) g.2.2.e g.2.2.r),g.1) else aF.lt (l==3) λv=>if v then ab (Sr N (b0.mk a.c (bq.mk h a.y.aH i a.y.busy a.y.bo a.y.cE) a.e (cI.mk a.r.err j a.r.proof k a.r.final a.r.cZ a.r.place))) λn=>J (n.2,n.1) else aF.lt (l==4) λu=>if u then ab (Ss N (b0.mk a.c (bq.mk h a.y.aH i a.y.busy a.y.bo a.y.cE) a.e (cI.mk a.r.err [] a.r.proof k a.r.final a.r.cZ a.r.place)) j) λm=>J (m.2,m.1) else aF.lt (l==5) λt=>if t then ab (RH N (b0.mk a.c (bq.mk h a.y.aH i a.y.busy a.y.bo a.y.cE) a.e (cI.mk a.r.err [] a.r.proof [] a.r.final a.r.cZ a.r.place)) j k) λo=>J (o.2,o.1) else aF.lt (l==6) λx=>if x then ab (Sq N (b0.mk a.c (bq.mk h a.y.aH i a.y.busy a.y.bo a.y.cE) a.e (cI.mk a.r.err [] a.r.proof k a.r.final a.r.cZ a.r.place)) j) λd=>J ((b0.mk d.2.2.c d.2.2.y d.2.2.e (cI.mk d.2.2.r.err d.2.1 d.2.2.r.proof d.2.2.r.dW d.2.2.r.final d.2.2.r.cZ d.2.2.r.place)),d.1) else aF.lt (l==7) λw=>if w then ab (RE N (b0.mk a.c (bq.mk h a.y.aH [] a.y.busy a.y.bo a.y.cE) a.e (cI.mk a.r.err [] a.r.proof k a.r.final a.r.cZ a.r.place)) i j) λf=>J ((b0.mk f.2.2.c f.2.2.y f.2.2.e (cI.mk f.2.2.r.err f.2.1 f.2.2.r.proof f.2.2.r.dW f.2.2.r.final f.2.2.r.cZ f.2.2.r.place)),f.1) else J ((b0.mk a.c (bq.mk h a.y.aH i a.y.busy a.y.bo a.y.cE) a.e (cI.mk a.r.err j a.r.proof k a.r.final a.r.cZ a.r.place)),q)
def Tj (e:c8) (U:bq) (d:eb):Option (bq×cI):=ab (Ak N U) λa=>ab (OS N (b0.mk e (bq.mk [] a.1.aH [] a.1.busy a.1.bo a.1.cE) d (cI.mk 0 [] (e8.mk (dF.mk 0 []) []) [] (hI.mk [] [] (dM.mk 0 0 0 0 0 0 0) []) 0 0)) 1 d.kind a.2.1 a.2.2 [] []) λc=>if c.2 !=0 then ab (Ak N U) λb=>J ((bq.mk b.2.1 b.1.aH b.2.2 b.1.busy b.1.bo b.1.cE),(cI.mk c.2 [] (e8.mk (dF.mk 0 []) []) [] (hI.mk [] [] (dM.mk 0 0 0 0 0 0 0) []) c.1.r.cZ c.1.r.place)) else J (c.1.y,c.1.r)
def aCP (b:Int) (a:Int):Option Bool:=if decide (a<3) then J (decide (3<b)) else J ak
def aAO (g:Int) (a:c8):Nat->dd->bq->(List eb)->Int->Option (dd×bq×List eb)|0,_,_,_,_=>ae|n+1,h,b,d,c=>ab (aCP g c) λi=>if i then ab (RM N h a b (b.bD.length:Int)) λe=>ab (al [(eb.mk 2 0 0 0 0 [] [] (b7.mk [120,49] (aO .i64 ((a.aH.length:Int) - 1)) ([[98],[97]]:List (List UInt8))) [] []),(eb.mk 2 0 0 0 0 [] [] (b7.mk [120,50] (aO .i64 ((a.aH.length:Int) - 2)) ([[99],[100]]:List (List UInt8))) [] []),e.1] c) λf=>ab (Tj N a b f) λj=>ab (cD d ([f]:List eb)) λk=>aF.lt (aO .i64 (c+1)) λl=>aAO g a n e.2 j.1 k l else J (h,b,d)
def aAP (b:c8):Nat->dd->bq->(List eb)->Int->Option (dd×List eb)|0,_,_,_,_=>ae|n+1,f,a,d,e=>if decide (0<e) then ab (RM N f b a (a.bD.length:Int)) λc=>ab (Tj N b a c.1) λi=>ab (cD d ([c.1]:List eb)) λh=>aF.lt (aO .i64 (e - 1)) λg=>aAP b n c.2 i.1 h g else J (f,d)
def Rr (f:dd) (U:c8) (c:Int):Option (List eb×dd):=ab (vI N U) λb=>if b.2 !=0 then J ([],f) else ab (aAO N c U N f b.1 [] 0) λa=>ab (HP a.1 (aO .i64 (c+1))) λd=>ab (aAP N U N d.2 a.2.1 a.2.2 d.1) λe=>J (e.2,e.1)
def Pt (b:b8) (a:dF):Option Bool:=if decide (a.steps<0) then J aa else if decide (12<a.steps) then J aa else J ((a.fW.length:Int) !=(b.items.length:Int))
def aDV (c:b8) (a:dF) (b:Int):Option Bool:=ab (al a.fW b) λd=>ab (j2 .i64 a.steps) λe=>if decide ((aO .i64 (1*((2 ^ e:Nat):Int)))<=d) then J aa else ab (al a.fW b) λf=>ab (al c.items b) λg=>ab (vJ N f g.round c.dO) λh=>J (!h)
def Pu (c:b8) (a:dF):Nat->Int->Option (Sum (Unit) (Int))|0,_=>ae|n+1,b=>if decide (b<(a.fW.length:Int)) then ab (aDV N c a b) λd=>if d then J (bt 1) else aF.lt (aO .i64 (b+1)) λe=>Pu c a n e else J (bw ())
def SU (a:b8) (U:dF):Option Int:=ab (SR N a) λb=>if b !=0 then J b else ab (Pt a U) λc=>if c then J 1 else ab (Pu N a U N 0) λd=>match d with|bw f=>J 0|bt e=>J e
def aDS (U:List Int) (b:b8) (a:Int):Option Bool:=ab (al U a) λc=>if decide (c<0) then J aa else ab (al U a) λd=>if decide ((b.items.length:Int)<=d) then J aa else if decide (0<a) then ab (al U (aO .i64 (a - 1))) λe=>ab (al U a) λf=>ab (Ai b e f) λg=>J (g==0) else J ak
def EP (U:List Int) (b:b8):Nat->Int->Option (Sum (Unit) (Int×Int))|0,_=>ae|n+1,a=>if decide (a<(U.length:Int)) then ab (aDS U b a) λd=>if d then J (bt (0,1)) else aF.lt (aO .i64 (a+1)) λc=>EP U b n c else J (bw ())
def aDT (N:Nat) (U:List Int) (d:b8) (c:Int) (b:Int) (a:Bool):Option Int:=if a then ab (al U (aO .i64 (b - 1))) λh=>ab (al U b) λg=>ab (Ad d h g) λe=>aF.lt (aO .i64 (c+e)) λf=>J f else J c
def aBB (U:List Int) (b:b8):Nat->Int->Int->Option (Sum (Int) (Int×Int))|0,_,_=>ae|n+1,d,a=>if decide (a<(U.length:Int)) then ab (aDT N U b d a (decide (0<a))) λg=>ab (al U a) λf=>ab (al b.items f) λe=>ab (Td N g e.round b.dO) λc=>if c.2 !=0 then J (bt (0,c.2)) else aF.lt (aO .i64 (a+1)) λh=>aBB U b n c.1 h else J (bw d)
def HX (a:b8) (U:List Int):Option (Int×Int):=ab (SR N a) λb=>if b !=0 then J (0,b) else ab (EP U a N 0) λe=>match e with|bw h=>(ab (aBB N U a N 0 0) λf=>match f with|bw g=>J (g,0)|bt c=>J (c.1,c.2))|bt d=>J (d.1,d.2)
def Pw (N:Nat) (c:b8) (d:List Int) (a:Int) (b:Int):Option Bool:=ab (Ai c a b) λe=>if decide (0<e) then ab (al d a) λf=>ab (Ad c a b) λg=>ab (al d b) λh=>J (decide (h<(aO .i64 (f+g)))) else J ak
def ER (c:b8) (a:List Int) (d:Int):Nat->Int->Option (Sum (Unit) (Int))|0,_=>ae|n+1,b=>if decide (b<(a.length:Int)) then ab (Pw N c a d b) λe=>if e then J (bt 12) else aF.lt (aO .i64 (b+1)) λf=>ER c a d n f else J (bw ())
def Pv (c:b8) (b:List Int):Nat->Int->Option (Sum (Unit) (Int))|0,_=>ae|n+1,a=>if decide (a<(b.length:Int)) then ab (ER N c b a N 0) λe=>match e with|bw g=>aF.lt (aO .i64 (a+1)) λd=>Pv c b n d|bt f=>J (bt f) else J (bw ())
def SV (b:b8) (U:e8):Option Int:=ab (SU N b U.e9) λc=>if c !=0 then J c else ab (Pv N b U.e9.fW N 0) λf=>match f with|bw g=>ab (HX N b U.chain) λa=>if a.2 !=0 then J a.2 else ab (vH N a.1) λe=>if e !=U.e9.steps then J 17 else J 0|bt d=>J d
def Pp (a:dF) (b:dF):Option Bool:=if a.steps==b.steps then ab (tU N a.fW b.fW) λc=>J c else J ak
def SM (b:dF) (U:dF):Option Bool:=ab (Pp N b U) λa=>J a
def N5 (a:e8) (b:e8):Option Bool:=ab (SM N a.e9 b.e9) λc=>if c then ab (tU N a.chain b.chain) λd=>J d else J ak
def gy (b:e8) (U:e8):Option Bool:=ab (N5 N b U) λa=>J a
def aBA (b:List c4) (U:List c4):Nat->Int->Option (Sum (Unit) (Bool))|0,_=>ae|n+1,a=>if decide (a<(b.length:Int)) then ab (al b a) λc=>ab (al U a) λd=>if !(decide (c=d)) then J (bt ak) else aF.lt (aO .i64 (a+1)) λe=>aBA b U n e else J (bw ())
def SK (a:List c4) (U:List c4):Option Bool:=if (a.length:Int) !=(U.length:Int) then J ak else ab (aBA a U N 0) λb=>match b with|bw d=>J aa|bt c=>J c
def aDc (a:b8) (b:b8):Option Bool:=if a.dO==b.dO then ab (SK N a.items b.items) λc=>J c else J ak
def Re (b:b8) (U:b8):Option Bool:=ab (aDc N b U) λa=>J a
def Nk (a:List eb) (b:Int) (c:cI):Option Bool:=if c.err==0 then ab (al a b) λg=>ab (al a b) λd=>if d.kind==3 then J aa else ab (al a b) λf=>ab (al a b) λe=>if e.kind==5 then J (decide (0<(c.dW.length:Int))) else J ak else J ak
def aCI (a:List eb) (b:Int) (c:bq):Option Bool:=ab (al a b) λf=>ab (al a b) λd=>if decide (d.cq<0) then J aa else ab (al a b) λg=>ab (al a b) λe=>J (decide ((c.aH.length:Int)<=e.cq))
def aA7 (b:List eb) (c:Int) (a:bq):Nat->b8->Int->(List c4)->Option (b8×List c4)|0,_,_,_=>ae|n+1,f,e,d=>ab (al b c) λr=>ab (al b c) λh=>ab (al a.aH h.cq) λg=>if decide (e<(g.length:Int)) then ab (al b c) λq=>ab (al b c) λk=>ab (al a.aH k.cq) λi=>ab (al i e) λj=>ab (al a.bD j) λm=>ab (H7 N a.b2 m) λo=>ab (cD d ([o]:List c4)) λl=>aF.lt (aO .i64 (e+1)) λp=>aA7 b c a n (b8.mk [] f.dO) p l else J ((b8.mk [] f.dO),d)
def aCJ (f:List eb) (g:Int) (d:bq) (c:cI) (e:b8) (b:eR) (a:List c4):Option Bool:=if !d.busy then J aa else if d.cE then J aa else ab (SV N (b8.mk a e.dO) c.proof) λl=>if l !=0 then J aa else ab (gy N b.proof c.proof) λm=>if !m then J aa else ab (Re N b.iP (b8.mk a e.dO)) λj=>if !j then J aa else ab (al f g) λn=>ab (al f g) λi=>ab (al d.aH i.cq) λh=>ab (tU N b.bD h) λk=>if !k then J aa else if (b.aH.length:Int) !=c.proof.e9.steps then J aa else J (b.h9 !=0)
def aA8 (c:bq) (b:eR):Nat->Int->Option (Sum (Unit) (Bool))|0,_=>ae|n+1,a=>if decide (a<(b.aH.length:Int)) then ab (al b.aH a) λf=>ab (al c.aH f) λe=>if decide (0<(e.length:Int)) then J (bt ak) else aF.lt (aO .i64 (a+1)) λd=>aA8 c b n d else J (bw ())
def Nl (b:List eb) (c:Int) (a:bq) (f:cI) (d:Bool):Option (Sum (Unit) (Bool)):=if d then ab (aCI b c a) λg=>if g then J (bt ak) else ab (al b c) λl=>ab (al b c) λh=>ab (aA7 N b c a N (b8.mk [] h.dO) 0 []) λe=>ab (aCJ N b c a f (b8.mk [] e.1.dO) a.bo e.2) λj=>if j then J (bt ak) else ab (aA8 a a.bo N 0) λi=>match i with|bw m=>J (bw ())|bt k=>J (bt k) else J (bw ())
def Df (d:c8) (a:List eb):Nat->bq->Int->Option (Sum (Unit) (Bool))|0,_,_=>ae|n+1,f,b=>if decide (b<(a.length:Int)) then ab (al a b) λk=>ab (al a b) λg=>ab (afI N d f g) λc=>ab (Nk a b c.2) λh=>ab (Nl N a b c.1 c.2 h) λi=>match i with|bw l=>aF.lt (aO .i64 (b+1)) λj=>Df d a n c.1 j|bt e=>J (bt e) else J (bw ())
def Rm (f:List Int):Option Bool:=ab (Am f) λd=>ab (Rq N d aa) λa=>ab (Rr N a.2 a.1 26) λe=>ab (Ia N a.1) λb=>if b.2 !=0 then J ak else ab (Df N a.1 e.1 N b.1 0) λg=>match g with|bw i=>ab (qA N) λc=>J c|bt h=>J h
end
end Go.W
end
