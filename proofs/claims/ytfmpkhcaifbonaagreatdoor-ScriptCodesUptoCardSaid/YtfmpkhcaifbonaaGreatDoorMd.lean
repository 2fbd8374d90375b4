import Derived.Recover
import Derived.Test.YtfmpkhcaifbonaaGreatDoorMc
set_option linter.unusedSimpArgs false
set_option linter.unusedVariables false
open Bool renaming and_eq_true->avk,not_eq_true'->awR,or_eq_false_iff->axT,or_eq_true->awl,false->ava,true->au7
open Go renaming IntKind->avb,Operand->avf,Program->avd,TypeId->ave,Value->au9
open Go.IntKind renaming wrap->avc
open Go.MapKept renaming IsKey->axt
open Go.Program renaming cellsOf->awg
open Int renaming reduceEq->avF,tdiv->av6,tmod->avW,toNat_natCast->av'
open List renaming all_cons->av0,all_eq_true->avt,append_assoc->awX,length_cons->awh,mem_map->avy,replicate->avw
open Nat renaming beq->avj,ble->avp,blt->avA,eq_of_beq_eq_true->avn,le_of_ble_eq_true->avq
open Option renaming bind->au',bind_eq_some_iff->avI,bind_some->avv,isSome->axs,some->avl,none->au8,some->au6
open Sum renaming inl->avh,inr->avg
open UInt8 renaming ofNat->awv,toNat->avs
section
set_option maxRecDepth 100000
set_option maxHeartbeats 1000000
namespace Go.W
open Go.av
noncomputable section
structure er where
 place:Int
 bC:Int
deriving DecidableEq
structure bX where
 name:(List UInt8)
 bC:Int
 cw:(List (List UInt8))
deriving DecidableEq
structure bj where
 kind:Int
 bC:Int
 to:Int
 count:Int
 cE:Int
 aP:(List Int)
 cQ:(List er)
 order:bX
 name:(List UInt8)
 data:(List UInt8)
deriving DecidableEq
structure cA where
 l:(List Int)
 n:Int
deriving DecidableEq
structure hS where
 name:(List UInt8)
 length:Int
deriving DecidableEq
structure ep where
 number:Int
 kind:Int
 a:Int
 b:Int
 c:Int
deriving DecidableEq
structure gw where
 speed:Int
 kR:Int
 kV:Int
deriving DecidableEq
structure dx where
 aP:(List hS)
 rules:(List ep)
 table:(List gw)
 speed:Int
 kR:Int
deriving DecidableEq
structure cb where
 number:(List UInt8)
 length:Int
 jM:Int
 h0:Int
 pb:Int
 mb:Int
 ui:Bool
 dest:(List UInt8)
deriving DecidableEq
structure e3 where
 fC:Int
 block:Int
 round:Int
 length:Int
deriving DecidableEq
structure cV where
 items:(List e3)
 cE:Int
deriving DecidableEq
structure e4 where
 steps:Int
 hV:(List Int)
deriving DecidableEq
structure g7 where
 fJ:e4
 chain:(List Int)
deriving DecidableEq
structure gi where
 cv:(List Int)
 ir:cV
 proof:g7
 lead:Int
 aP:(List Int)
 iW:Int
deriving DecidableEq
structure bN where
 cv:(List cb)
 aP:(List (List Int))
 cH:(List bX)
 busy:Bool
 bJ:gi
 dF:Bool
deriving DecidableEq
structure yg where
 gH:bj
 cz:bj
 dw:bj
deriving DecidableEq
structure dj where
 oV:Int
 from_:Int
 to:Int
 front:Bool
deriving DecidableEq
structure da where
 item:Int
 reason:Int
 kO:Int
 round:Int
deriving DecidableEq
structure fz where
 length:Int
 jM:Int
 h0:Int
 m8:Int
 kV:Int
 required:Int
 oI:Int
deriving DecidableEq
structure jB where
 stop:Int
 cv:Int
 UK:Int
deriving DecidableEq
structure js where
 name:(List UInt8)
 cv:(List cb)
 gy:fz
 xG:(List jB)
deriving DecidableEq
structure ef where
 err:Int
 vJ:(List dj)
 proof:g7
 gk:(List da)
 final:js
 ey:Int
 place:Int
deriving DecidableEq
structure bw where
 c:dx
 y:bN
 e:bj
 r:ef
deriving DecidableEq
structure cS where
 items:(List e3)
 homes:(List Int)
 aP:(List (List Int))
deriving DecidableEq
structure eG where
 bC:Int
 place:Int
deriving DecidableEq
structure cF where
 b:(List UInt8)
 bad:Bool
deriving DecidableEq
structure eO where
 b:(List UInt8)
 at_:Int
 short:Bool
deriving DecidableEq
def xT (x:bN):bN:=(bN.mk x.cv [] x.cH x.busy x.bJ x.dF)
def kM (x:bj):bj:=(bj.mk x.kind x.bC x.to x.count x.cE [] [] x.order x.name [])
def Rq (x:bN):bN:=(bN.mk [] [] x.cH x.busy x.bJ x.dF)
def Kw (x:bw):bw:=(bw.mk x.c (bN.mk [] x.y.aP x.y.cH x.y.busy x.y.bJ x.y.dF) x.e (ef.mk x.r.err [] x.r.proof x.r.gk x.r.final x.r.ey x.r.place))
def fR (x:bw):bw:=(bw.mk x.c x.y x.e (ef.mk x.r.err [] x.r.proof x.r.gk x.r.final x.r.ey x.r.place))
def vS (x:bw):bw:=(bw.mk x.c (bN.mk x.y.cv x.y.aP [] x.y.busy x.y.bJ x.y.dF) x.e x.r)
def xU (x:bw):bw:=(bw.mk x.c x.y x.e (ef.mk x.r.err [] x.r.proof [] x.r.final x.r.ey x.r.place))
def C9 (x:bw):bw:=(bw.mk x.c (bN.mk x.y.cv x.y.aP [] x.y.busy x.y.bJ x.y.dF) x.e (ef.mk x.r.err [] x.r.proof x.r.gk x.r.final x.r.ey x.r.place))
def je (x:bj):bj:=(bj.mk x.kind x.bC x.to x.count x.cE [] [] (bX.mk x.order.name x.order.bC []) x.name [])
def LY (N:Nat) (x0:List Int):Option cA:=au6 (cA.mk x0 0)
def Ij (N:Nat) (x0:cA) (ah:Int) (bc:Bool):Option Int:=if bc then au' (oJ x0.n (x0.l.length:Int)) fun aR=>au' (aD x0.l aR) fun a2=>au' (ub x0.n (x0.l.length:Int)) fun a6=>av.lt (avc .i64 (a2+(avc .i64 ((avc .i64 (a6))*7919)))) fun bk=>au6 bk else au6 ah
def Ik (N:Nat) (J:Int) (ah:Int) (tE:Bool):Option Int:=if tE then av.lt (avc .i64 (ah+J)) fun bM=>au6 bM else au6 ah
def eW (N:Nat) (x0:cA) (J:Int):Option (Int×cA):=au' (Ij N x0 0 (decide (0<(x0.l.length:Int)))) fun bq=>au' (oJ bq J) fun bx=>au' (Ik N J bx (decide (bx<0))) fun b1=>au6 (b1,(cA.mk x0.l (avc .i64 (x0.n+1))))
def h5 (N:Nat) (x0:cA) (J:List Int):Option (Int×cA):=au' (eW N x0 (J.length:Int)) fun aR=>au' (aD J aR.1) fun a2=>au6 (a2,aR.2)
def K6 (N:Nat) (x0:Int):Option (List UInt8):=au' (fp 112) fun aR=>au' (fp (avc .u8 ((avc .i64 (48+(avW (avc .i64 (av6 x0 10)) 10)))))) fun a2=>au' (fp (avc .u8 ((avc .i64 (48+(avW x0 10)))))) fun a6=>av.lt ([aR,a2,a6]:List UInt8) fun bk=>au6 bk
def Bt (N:Nat):Nat->cA->(List gw)->Int->Option (cA×List gw)|0,_,_,_=>au8|n+1,x0,ak,an=>if decide (0<an) then au' (h5 N x0 ([60,80,100,120,200]:List Int)) fun a2=>au' (h5 N a2.2 ([0,50,100,250,500]:List Int)) fun a6=>au' (h5 N a6.2 ([0,10,30,50,65,100]:List Int)) fun bk=>au' (ck ak ([(gw.mk a2.1 a6.1 bk.1)]:List gw)) fun bq=>av.lt (avc .i64 (an - 1)) fun bx=>Bt N n bk.2 bq bx else au6 (x0,ak)
def KW (N:Nat) (x0:cA):Option (List gw×cA):=au' (eW N x0 5) fun aR=>au' (Bt N N aR.2 [] aR.1) fun bM=>au6 (bM.2,bM.1)
def IM (N:Nat) (x0:cA) (ah:ep) (a9:Int):Option (cA×ep):=av.lt (a9==1) fun a2=>if a2 then au' (h5 N x0 ([0,262,700,1500,10000]:List Int)) fun a6=>au6 (a6.2,(ep.mk ah.number ah.kind a6.1 ah.b ah.c)) else av.lt (a9==2) fun bk=>if bk then au' (h5 N x0 ([3,8,16,40]:List Int)) fun bq=>au6 (bq.2,(ep.mk ah.number ah.kind bq.1 ah.b ah.c)) else av.lt (a9==3) fun bx=>if bx then au' (h5 N x0 ([400,1600,4000,20000]:List Int)) fun bM=>au6 (bM.2,(ep.mk ah.number ah.kind bM.1 ah.b ah.c)) else av.lt (a9==4) fun b1=>if b1 then au' (h5 N x0 ([0,30,50,80]:List Int)) fun cg=>au6 (cg.2,(ep.mk ah.number ah.kind cg.1 ah.b ah.c)) else av.lt (a9==5) fun ca=>if ca then au' (h5 N x0 ([1,3,9]:List Int)) fun cx=>au' (h5 N cx.2 ([0,1,3]:List Int)) fun cK=>au' (eW N cK.2 4) fun dd=>au6 (dd.2,(ep.mk ah.number ah.kind cx.1 cK.1 dd.1)) else av.lt (a9==6) fun dg=>if dg then au' (h5 N x0 ([0,1,3]:List Int)) fun dm=>au' (eW N dm.2 4) fun dv=>au6 (dv.2,(ep.mk ah.number ah.kind dm.1 dv.1 ah.c)) else av.lt (a9==7) fun c0=>if c0 then au' (eW N x0 5) fun cy=>au' (eW N cy.2 4) fun dR=>au6 (dR.2,(ep.mk ah.number ah.kind cy.1 dR.1 ah.c)) else av.lt (a9==8) fun eI=>if eI then au' (h5 N x0 ([50,200,500]:List Int)) fun fl=>au6 (fl.2,(ep.mk ah.number ah.kind fl.1 ah.b ah.c)) else au' (h5 N x0 ([100,400]:List Int)) fun dT=>au' (h5 N dT.2 ([0,800,3000]:List Int)) fun e1=>au6 (e1.2,(ep.mk ah.number ah.kind dT.1 e1.1 ah.c))
def K4 (N:Nat) (x0:cA) (J:Int):Option (ep×cA):=au' (eW N x0 9) fun aR=>au' (IM N aR.2 (ep.mk J (avc .i64 (1+aR.1)) 0 0 0) (avc .i64 (1+aR.1))) fun fP=>au6 (fP.2,fP.1)
def Bs (N:Nat):Nat->cA->(List ep)->Int->Option (cA×List ep)|0,_,_,_=>au8|n+1,x0,ah,ax=>if decide (0<ax) then au' (eW N x0 9) fun a2=>au' (K4 N a2.2 (avc .i64 ((avc .i64 ((avc .i64 (10*(ah.length:Int)))+1))+a2.1))) fun a6=>au' (ck ah ([a6.1]:List ep)) fun bk=>av.lt (avc .i64 (ax - 1)) fun bq=>Bs N n a6.2 bk bq else au6 (x0,ah)
def KV (N:Nat) (x0:cA) (J:Int):Option (List ep×cA):=au' (eW N x0 (avc .i64 (J+1))) fun aR=>au' (Bs N N aR.2 [] aR.1) fun bx=>au6 (bx.2,bx.1)
def AF (N:Nat):Nat->cA->dx->Int->(List hS)->Option (cA×dx×List hS)|0,_,_,_,_=>au8|n+1,x0,ah,ax,nA=>if decide (0<ax) then au' (K6 N (nA.length:Int)) fun bx=>au' (h5 N x0 ([500,1500,3000,8000,100000]:List Int)) fun bM=>au' (ck nA ([(hS.mk bx bM.1)]:List hS)) fun b1=>av.lt (avc .i64 (ax - 1)) fun cg=>AF N n bM.2 (dx.mk [] ah.rules [] ah.speed ah.kR) cg b1 else au6 (x0,(dx.mk [] ah.rules [] ah.speed ah.kR),nA)
def HF (N:Nat) (x0:cA) (J:Bool):Option (cA×Bool):=if !J then au6 (x0,au7) else au' (eW N x0 3) fun dd=>au6 (dd.2,(dd.1==0))
def HG (N:Nat) (x0:cA) (ah:dx) (tE:Bool) (nA:List hS) (kl:List gw):Option (cA×dx×List hS×List gw):=if tE then au' (KV N x0 3) fun dm=>au6 (dm.2,(dx.mk [] dm.1 [] ah.speed ah.kR),nA,kl) else au6 (x0,(dx.mk [] ah.rules [] ah.speed ah.kR),nA,kl)
def KI (N:Nat) (x0:cA) (J:Bool):Option (dx×cA):=au' (h5 N x0 ([60,80,100]:List Int)) fun aR=>au' (h5 N aR.2 ([0,50,100]:List Int)) fun a2=>au' (h5 N a2.2 ([0,0,10,40]:List Int)) fun a6=>au' (eW N a6.2 5) fun bk=>av.lt (avc .i64 (4+bk.1)) fun bq=>au' (AF N N bk.2 (dx.mk [] [] [] aR.1 a2.1) bq []) fun ca=>au' (KW N ca.1) fun cx=>au' (ck ([(gw.mk 200 500 a6.1)]:List gw) cx.1) fun cK=>au' (HF N cx.2 J) fun dg=>au' (HG N dg.1 (dx.mk [] ca.2.1.rules [] ca.2.1.speed ca.2.1.kR) dg.2 ca.2.2 cK) fun dv=>au6 ((dx.mk dv.2.2.1 dv.2.1.rules dv.2.2.2 dv.2.1.speed dv.2.1.kR),dv.1)
def Jn (N:Nat) (x0:List UInt8) (ak:Int):Option Bool:=au' (aD x0 ak) fun aR=>if decide (97<=(avs aR:Int)) then au' (aD x0 ak) fun a2=>if decide ((avs a2:Int)<=122) then au6 (!au7) else au' (aD x0 ak) fun a6=>if decide (48<=(avs a6:Int)) then au' (aD x0 ak) fun bk=>au6 (!(decide ((avs bk:Int)<=57))) else au6 (!ava) else au' (aD x0 ak) fun bq=>if decide (48<=(avs bq:Int)) then au' (aD x0 ak) fun bx=>au6 (!(decide ((avs bx:Int)<=57))) else au6 (!ava)
def BZ (N:Nat) (x0:List UInt8):Nat->Int->Option (Sum (Unit) (Bool))|0,_=>au8|n+1,ak=>if decide (ak<(x0.length:Int)) then au' (Jn N x0 ak) fun bM=>if bM then au6 (avg ava) else av.lt (avc .i64 (ak+1)) fun b1=>BZ N x0 n b1 else au6 (avh ())
def Jo (N:Nat) (x0:List UInt8):Option Bool:=if decide (1<=(x0.length:Int)) then av.lt (decide ((x0.length:Int)<=12)) fun cx=>au6 cx else au6 ava
def v0 (N:Nat) (x0:List UInt8):Option Bool:=au' (BZ N x0 N 0) fun cg=>match cg with|avh ca=>au' (Jo N x0) fun cK=>au6 cK|avg dd=>au6 dd
def JZ (N:Nat) (J:ep):Option Bool:=if decide (J.number<1) then au6 au7 else if decide (9999<J.number) then au6 au7 else if decide (J.kind<1) then au6 au7 else au6 (decide (9<J.kind))
def J0 (N:Nat) (J:ep):Option Bool:=if decide (0<=J.a) then if decide (J.a<=1000000) then if decide (0<=J.b) then if decide (J.b<=1000000) then if decide (0<=J.c) then av.lt (decide (J.c<=1000000)) fun a2=>au6 a2 else au6 ava else au6 ava else au6 ava else au6 ava else au6 ava
def LF (N:Nat) (x0:ep):Option Bool:=au' (JZ N x0) fun aR=>if aR then au6 ava else au' (J0 N x0) fun a6=>au6 a6
def CC (N:Nat) (x0:List ep) (ak:Int):Nat->Int->Option (Sum (Unit) (Int))|0,_=>au8|n+1,an=>if decide (an<ak) then au' (aD x0 an) fun a6=>au' (aD x0 ak) fun bk=>if a6.number==bk.number then au6 (avg 8) else av.lt (avc .i64 (an+1)) fun bq=>CC N x0 ak n bq else au6 (avh ())
def CB (N:Nat) (x0:List ep):Nat->Int->Option (Sum (Unit) (Int))|0,_=>au8|n+1,ak=>if decide (ak<(x0.length:Int)) then au' (aD x0 ak) fun aR=>au' (LF N aR) fun a2=>if !a2 then au6 (avg 1) else au' (CC N x0 ak N 0) fun bx=>match bx with|avh bM=>av.lt (avc .i64 (ak+1)) fun b1=>CB N x0 n b1|avg cg=>au6 (avg cg) else au6 (avh ())
def Dx (N:Nat) (x0:List ep):Option Int:=if decide (32<(x0.length:Int)) then au6 3 else au' (CB N x0 N 0) fun ca=>match ca with|avh cx=>au6 0|avg cK=>au6 cK
def HC (N:Nat) (x0:List gw) (ak:Int):Option Bool:=au' (aD x0 ak) fun aR=>if decide (aR.speed<1) then au6 au7 else au' (aD x0 ak) fun a2=>if decide (200<a2.speed) then au6 au7 else au' (aD x0 ak) fun a6=>if decide (a6.kR<0) then au6 au7 else au' (aD x0 ak) fun bk=>if decide (500<bk.kR) then au6 au7 else au' (aD x0 ak) fun bq=>if decide (bq.kV<0) then au6 au7 else au' (aD x0 ak) fun bx=>au6 (decide (250<bx.kV))
def AD (N:Nat) (x0:List gw):Nat->Int->Option (Sum (Unit) (Bool))|0,_=>au8|n+1,ak=>if decide (ak<(x0.length:Int)) then au' (HC N x0 ak) fun bM=>if bM then au6 (avg ava) else av.lt (avc .i64 (ak+1)) fun b1=>AD N x0 n b1 else au6 (avh ())
def Dd (N:Nat) (x0:List gw):Option Bool:=if decide (64<(x0.length:Int)) then au6 ava else au' (AD N x0 N 0) fun cg=>match cg with|avh ca=>au6 au7|avg cx=>au6 cx
def Hx (N:Nat) (J:dx):Option Bool:=if decide (1<=(J.aP.length:Int)) then if decide ((J.aP.length:Int)<=24) then if decide (1<=J.speed) then if decide (J.speed<=200) then if decide (0<=J.kR) then av.lt (decide (J.kR<=500)) fun aR=>au6 aR else au6 ava else au6 ava else au6 ava else au6 ava else au6 ava
def Hy (N:Nat) (J:dx) (ak:Bool) (an:Int):Option Bool:=if ak then au6 (decide (an<(J.aP.length:Int))) else au6 ava
def Hz (N:Nat) (J:dx) (an:Int):Option Bool:=au' (aD J.aP an) fun bk=>au' (v0 N bk.name) fun bq=>if bq then au' (aD J.aP an) fun bx=>if decide (1<=bx.length) then au' (aD J.aP an) fun bM=>av.lt (decide (bM.length<=100000)) fun b1=>au6 b1 else au6 ava else au6 ava
def HA (N:Nat) (J:dx) (ak:Bool) (an:Int) (ah:Int):Option Bool:=if ak then au' (aD J.aP ah) fun ca=>au' (aD J.aP an) fun cx=>av.lt (!(ca.name==cx.name)) fun cK=>au6 cK else au6 ava
def AB (N:Nat) (J:dx) (an:Int):Nat->Bool->Int->Option Bool|0,_,_=>au8|n+1,ak,ah=>if decide (ah<an) then au' (HA N J ak an ah) fun dd=>av.lt (avc .i64 (ah+1)) fun dg=>AB N J an n dd dg else au6 ak
def AA (N:Nat) (J:dx):Nat->Bool->Int->Option Bool|0,_,_=>au8|n+1,ak,an=>au' (Hy N J ak an) fun a6=>if a6 then au' (Hz N J an) fun cg=>au' (AB N J an N cg 0) fun dm=>av.lt (avc .i64 (an+1)) fun dv=>AA N J n dm dv else au6 ak
def Dc (N:Nat) (x0:dx):Option Int:=au' (Hx N x0) fun a2=>au' (AA N x0 N a2 0) fun c0=>if !c0 then au6 1 else au' (Dx N x0.rules) fun cy=>if cy !=0 then au6 cy else au' (Dd N x0.table) fun dR=>if !dR then au6 1 else au6 0
def CK (N:Nat) (J:dx):Nat->bN->Int->(List (List Int))->Option (bN×List (List Int))|0,_,_,_=>au8|n+1,ah,ax,vO=>if decide (ax<(J.aP.length:Int)) then au' (ck vO ([([]:List Int)]:List (List Int))) fun a2=>av.lt (avc .i64 (ax+1)) fun a6=>CK N J n (xT ah) a6 a2 else au6 ((xT ah),vO)
def L1 (N:Nat) (x0:dx):Option (bN×Int):=au' (Dc N x0) fun aR=>if aR !=0 then au6 ((bN.mk [] [] [] ava (gi.mk [] (cV.mk [] 0) (g7.mk (e4.mk 0 []) []) 0 [] 0) ava),aR) else au' (CK N x0 N (bN.mk [] [] [] ava (gi.mk [] (cV.mk [] 0) (g7.mk (e4.mk 0 []) []) 0 [] 0) ava) 0 []) fun bk=>au6 ((bN.mk bk.1.cv bk.2 bk.1.cH bk.1.busy bk.1.bJ bk.1.dF),0)
def IP (N:Nat) (J:bN) (ah:Int) (ax:Bool) (aB:Int):Option Bool:=if ax then au6 au7 else au' (aD J.cH aB) fun aR=>av.lt (aR.bC==ah) fun a2=>au6 a2
def By (N:Nat) (J:bN) (ah:Int):Nat->Bool->Int->Option Bool|0,_,_=>au8|n+1,ax,aB=>if decide (aB<(J.cH.length:Int)) then au' (IP N J ah ax aB) fun a6=>av.lt (avc .i64 (aB+1)) fun bk=>By N J ah n a6 bk else au6 ax
def IQ (N:Nat) (J:bN) (ah:Int) (ax:Bool):Option Bool:=if !ax then au' (aD J.aP ah) fun bx=>au6 ((bx.length:Int)==0) else au6 ava
def IN (N:Nat) (J:bN) (ak:List Int) (an:List Int) (ah:Int):Option (List Int×List Int):=au' (By N J ah N ava 0) fun bq=>au' (IQ N J ah bq) fun bM=>if bM then au' (ck ak ([ah]:List Int)) fun b1=>au6 (b1,an) else if !bq then au' (ck an ([ah]:List Int)) fun cg=>au6 (ak,cg) else au6 (ak,an)
def Bx (N:Nat) (J:bN):Nat->(List Int)->(List Int)->Int->Option (List Int×List Int)|0,_,_,_=>au8|n+1,ak,an,ah=>if decide (ah<(J.aP.length:Int)) then au' (IN N J ak an ah) fun ca=>av.lt (avc .i64 (ah+1)) fun cx=>Bx N J n ca.1 ca.2 cx else au6 (ak,an)
def K5 (N:Nat) (x0:bN):Option (List Int):=au' (Bx N x0 N [] [] 0) fun cK=>au' (ck cK.1 cK.2) fun dd=>au6 dd
def Bu (N:Nat) (J:Int):Nat->cA->(List UInt8)->Int->Option (cA×List UInt8)|0,_,_,_=>au8|n+1,x0,ah,ax=>if decide (ax<J) then au' (eW N x0 10) fun a2=>au' (aD ah ax) fun a6=>au' (aD ah ax) fun bk=>au' (fp (avc .u8 ((avc .i64 (48+a2.1))))) fun bq=>av.lt (ah.set ((ax:Int).toNat) bq) fun bx=>av.lt (avc .i64 (ax+1)) fun bM=>Bu N J n a2.2 bx bM else au6 (x0,ah)
def KX (N:Nat) (x0:cA) (J:Int):Option (List UInt8×cA):=au' (iG 0 J) fun aR=>au' (Bu N J N x0 aR 0) fun b1=>au6 (b1.2,b1.1)
def Il (N:Nat) (x0:List UInt8) (ah:Int):Option Bool:=au' (aD x0 ah) fun aR=>if decide ((avs aR:Int)<48) then au6 au7 else au' (aD x0 ah) fun a2=>au6 (decide (57<(avs a2:Int)))
def AY (N:Nat) (x0:List UInt8) (J:Int):Nat->Int->Option (Sum (Unit) (Bool))|0,_=>au8|n+1,ah=>if decide (ah<J) then au' (Il N x0 ah) fun a6=>if a6 then au6 (avg ava) else av.lt (avc .i64 (ah+1)) fun bk=>AY N x0 J n bk else au6 (avh ())
def Dm (N:Nat) (x0:List UInt8) (J:Int):Option Bool:=if (x0.length:Int) !=J then au6 ava else au' (AY N x0 J N 0) fun bq=>match bq with|avh bx=>au6 au7|avg bM=>au6 bM
def J5 (N:Nat) (aB:Int) (kL:Bool):Option Int:=if kL then av.lt (avc .i64 (aB*2)) fun a6=>if decide (9<a6) then av.lt (avc .i64 (a6 - 9)) fun bk=>au6 bk else au6 a6 else au6 aB
def BN (N:Nat) (x0:List UInt8) (J:Int):Nat->Int->Int->Option Int|0,_,_=>au8|n+1,ah,ax=>if decide (ax<J) then au' (aD x0 ax) fun aR=>av.lt (avc .i64 ((avc .u8 ((avs aR:Int) - 48)))) fun a2=>au' (J5 N a2 ((avW ax 2)==0)) fun bq=>av.lt (avc .i64 (ah+bq)) fun bx=>av.lt (avc .i64 (ax+1)) fun bM=>BN N x0 J n bx bM else au6 ah
def DF (N:Nat) (x0:List UInt8) (J:Int):Option Int:=au' (BN N x0 J N 0 0) fun b1=>au6 b1
def Lt (N:Nat) (x0:List UInt8):Option (Int×Int):=au' (Dm N x0 11) fun aR=>if !aR then au6 (0,11) else au' (DF N x0 11) fun a2=>av.lt (avW (avc .i64 (10 - (avW a2 10))) 10) fun a6=>au6 (a6,0)
def KY (N:Nat) (x0:cA) (J:Int):Option (List UInt8×cA):=au' (KX N x0 11) fun aR=>au' (ck aR.1 []) fun a2=>au' (aD a2 8) fun a6=>au' (aD a2 8) fun bk=>au' (fp (avc .u8 ((avc .i64 (48+(avW (avc .i64 (av6 J 100)) 10)))))) fun bq=>av.lt (a2.set ((8:Int).toNat) bq) fun bx=>au' (aD bx 9) fun bM=>au' (aD bx 9) fun b1=>au' (fp (avc .u8 ((avc .i64 (48+(avW (avc .i64 (av6 J 10)) 10)))))) fun cg=>av.lt (bx.set ((9:Int).toNat) cg) fun ca=>au' (aD ca 10) fun cx=>au' (aD ca 10) fun cK=>au' (fp (avc .u8 ((avc .i64 (48+(avW J 10)))))) fun dd=>av.lt (ca.set ((10:Int).toNat) dd) fun dg=>au' (Lt N dg) fun dm=>au' (fp (avc .u8 ((avc .i64 (48+dm.1))))) fun dv=>au' (ck dg ([dv]:List UInt8)) fun c0=>au6 (c0,aR.2)
def Li (N:Nat) (x0:cA):Option (List UInt8×cA):=au' (eW N x0 10) fun aR=>au' (aD ([[97],[98],[99],[100],[101],[110,111,114,116,104],[115,111,117,116,104],[112,111,114,116,49],[120,57],[97,98,99,100,101,102,103,104,105,106,107,108]]:List (List UInt8)) aR.1) fun a2=>au' (aD ([[97],[98],[99],[100],[101],[110,111,114,116,104],[115,111,117,116,104],[112,111,114,116,49],[120,57],[97,98,99,100,101,102,103,104,105,106,107,108]]:List (List UInt8)) aR.1) fun a6=>au6 (a6,aR.2)
def IT (N:Nat) (iC:Int) (Kp:Bool):Option Bool:=if Kp then au6 Kp else av.lt (iC==52) fun cg=>au6 cg
def IS (N:Nat) (ah:cb) (iC:Int):Option cb:=av.lt (iC==50) fun b1=>au' (IT N iC b1) fun ca=>if ca then au6 (cb.mk ah.number ah.length 2 ah.h0 ah.pb ah.mb ah.ui ah.dest) else av.lt (iC==57) fun cx=>if cx then au6 (cb.mk ah.number (max ah.length 120) 6 ah.h0 ah.pb ah.mb ah.ui ah.dest) else au6 ah
def K7 (N:Nat) (x0:cA) (J:Int):Option (cb×cA):=au' (KY N x0 J) fun aR=>au' (h5 N aR.2 ([80,120,142,199,262,400]:List Int)) fun a2=>au' (h5 N a2.2 ([50,120,400,800,2000]:List Int)) fun a6=>au' (h5 N a6.2 ([0,0,0,1,3,9]:List Int)) fun bk=>au' (eW N bk.2 5) fun bq=>au' (Li N bq.2) fun bx=>au' (aD aR.1 4) fun bM=>au' (IS N (cb.mk aR.1 a2.1 4 a6.1 0 bk.1 (bq.1==0) bx.1) (avs bM:Int)) fun cK=>au' (eW N bx.2 5) fun dd=>au6 ((cb.mk cK.number cK.length cK.jM cK.h0 (avc .i64 (av6 (avc .i64 (cK.h0*dd.1)) 4)) cK.mb cK.ui cK.dest),dd.2)
def Lu (N:Nat) (x0:List UInt8):Option Int:=au' (Dm N x0 12) fun aR=>if !aR then au6 11 else au' (DF N x0 11) fun a2=>au' (aD x0 11) fun a6=>if (avW (avc .i64 (a2+(avc .i64 ((avc .u8 ((avs a6:Int) - 48)))))) 10) !=0 then au6 9 else au6 0
def Jl (N:Nat) (bc:Int) (a9:Bool):Option Bool:=if a9 then au6 a9 else av.lt (bc==56) fun bk=>au6 bk
def Jm (N:Nat) (bc:Int) (cI:Bool):Option Bool:=if cI then au6 cI else av.lt (bc==52) fun bM=>au6 bM
def LM (N:Nat) (x0:List UInt8):Option (Int×Int):=au' (Lu N x0) fun aR=>if aR !=0 then au6 (0,aR) else au' (aD x0 4) fun a2=>av.lt ((avs a2:Int)==55) fun a6=>au' (Jl N (avs a2:Int) a6) fun bq=>if bq then au6 (1,0) else av.lt ((avs a2:Int)==50) fun bx=>au' (Jm N (avs a2:Int) bx) fun b1=>if b1 then au6 (2,0) else av.lt ((avs a2:Int)==57) fun cg=>if cg then au6 (3,0) else au6 (0,0)
def H7 (N:Nat) (ah:Int) (ax:Int) (dt:Int):Option (Int×Int):=av.lt (dt==2) fun a2=>if a2 then au6 (2,ax) else av.lt (dt==3) fun a6=>if a6 then au6 (6,120) else au6 (ah,ax)
def H8 (N:Nat) (J:cb) (ax:Int):Option Bool:=if decide (J.length<ax) then au6 au7 else if decide (400<J.length) then au6 au7 else if decide (J.h0<50) then au6 au7 else if decide (2000<J.h0) then au6 au7 else if decide (J.pb<0) then au6 au7 else if decide (J.h0<J.pb) then au6 au7 else if decide (J.mb<0) then au6 au7 else av.lt (decide (9<J.mb)) fun bx=>au6 bx
def Lw (N:Nat) (x0:cb):Option Int:=au' (LM N x0.number) fun aR=>if aR.2 !=0 then au6 aR.2 else au' (H7 N 4 80 aR.1) fun bk=>av.lt (x0.jM !=bk.1) fun bq=>if bq then au6 1 else au' (H8 N x0 bk.2) fun bM=>if bM then au6 2 else au' (v0 N x0.dest) fun b1=>av.lt (!b1) fun cg=>if cg then au6 7 else au6 0
def Al (N:Nat) (x0:List cb) (ak:Int):Nat->Int->Option (Sum (Unit) (Int))|0,_=>au8|n+1,ah=>if decide (ah<ak) then au' (aD x0 ah) fun a6=>au' (aD x0 ak) fun bk=>if a6.number==bk.number then au6 (avg 8) else av.lt (avc .i64 (ah+1)) fun bq=>Al N x0 ak n bq else au6 (avh ())
def Ak (N:Nat) (x0:List cb):Nat->Int->Option (Sum (Unit) (Int))|0,_=>au8|n+1,ak=>if decide (ak<(x0.length:Int)) then au' (aD x0 ak) fun aR=>au' (Lw N aR) fun a2=>if a2 !=0 then au6 (avg a2) else au' (Al N x0 ak N 0) fun bx=>match bx with|avh bM=>av.lt (avc .i64 (ak+1)) fun b1=>Ak N x0 n b1|avg cg=>au6 (avg cg) else au6 (avh ())
def vT (N:Nat) (x0:List cb):Option Int:=if decide (96<(x0.length:Int)) then au6 3 else au' (Ak N x0 N 0) fun ca=>match ca with|avh cx=>au6 0|avg cK=>au6 cK
def Bi (N:Nat) (x0:List UInt8):Nat->Int->Int->Option Int|0,_,_=>au8|n+1,ak,an=>if decide (an<(x0.length:Int)) then au' (aD x0 an) fun aR=>av.lt (avW (avc .i64 (ak+(avc .i64 ((avW (avc .i64 (an+1)) 65521)*(avc .i64 ((avs aR:Int))))))) 65521) fun a2=>av.lt (avc .i64 (an+1)) fun a6=>Bi N x0 n a2 a6 else au6 ak
def Ds (N:Nat) (x0:List UInt8):Option Int:=au' (Bi N x0 N 0 0) fun bk=>au6 bk
def A2 (N:Nat) (aB:cb):Nat->(List UInt8)->Int->Option (List UInt8)|0,_,_=>au8|n+1,ah,aG=>if decide (aG<12) then au' (aD aB.number aG) fun bk=>au' (aD aB.number (avc .i64 (aG+1))) fun bq=>au' (fp (avc .u8 ((avc .u8 ((avc .u8 ((avc .u8 ((avs bk:Int) - 48))*16))+(avs bq:Int))) - 48))) fun bx=>au' (ck ah ([bx]:List UInt8)) fun bM=>av.lt (avc .i64 (aG+2)) fun b1=>A2 N aB n bM b1 else au6 ah
def Ip (N:Nat) (a3:Int) (Ri:Bool):Option Int:=if Ri then av.lt (avc .u8 (a3+16)) fun cx=>au6 cx else au6 a3
def A1 (N:Nat) (x0:List cb):Nat->(List UInt8)->Int->Option (List UInt8)|0,_,_=>au8|n+1,ah,ax=>if decide (ax<(x0.length:Int)) then au' (aD x0 ax) fun a6=>au' (A2 N a6 N ah 0) fun cg=>av.lt (avc .u8 (a6.mb)) fun ca=>au' (Ip N ca a6.ui) fun cK=>au' (fp (avc .u8 ((avc .i64 (av6 a6.length 256))))) fun dd=>au' (fp (avc .u8 ((avW a6.length 256)))) fun dg=>au' (fp (avc .u8 (a6.jM))) fun dm=>au' (fp (avc .u8 ((avc .i64 (av6 a6.h0 256))))) fun dv=>au' (fp (avc .u8 ((avW a6.h0 256)))) fun c0=>au' (fp (avc .u8 ((avc .i64 (av6 a6.pb 256))))) fun cy=>au' (fp (avc .u8 ((avW a6.pb 256)))) fun dR=>au' (fp cK) fun eI=>au' (fp (avc .u8 ((a6.dest.length:Int)))) fun fl=>au' (ck cg ([dd,dg,dm,dv,c0,cy,dR,eI,fl]:List UInt8)) fun dT=>au' (ck dT a6.dest) fun e1=>av.lt (avc .i64 (ax+1)) fun fP=>A1 N x0 n e1 fP else au6 ah
def Lk (N:Nat) (x0:List cb):Option (List UInt8×Int):=au' (vT N x0) fun aR=>if aR !=0 then au6 ([],aR) else au' (fp (avc .u8 ((x0.length:Int)))) fun a2=>au' (A1 N x0 N ([a2]:List UInt8) 0) fun fs=>au' (Ds N fs) fun fQ=>au' (fp (avc .u8 ((avc .i64 (av6 fQ 256))))) fun fX=>au' (fp (avc .u8 ((avW fQ 256)))) fun gO=>au' (ck fs ([fX,gO]:List UInt8)) fun gf=>au6 (gf,0)
def Dj (N:Nat) (x0:cA) (J:List UInt8):Option (List UInt8×cA):=if J==[] then au' (eW N x0 256) fun aR=>au' (fp (avc .u8 (aR.1))) fun a2=>av.lt ([a2]:List UInt8) fun a6=>au6 (a6,aR.2) else au' (eW N x0 (J.length:Int)) fun bk=>au' (eW N bk.2 4) fun bq=>av.lt (bq.1==0) fun bx=>if bx then au' (ho J 0 bk.1) fun bM=>au' (ho J (avc .i64 (bk.1+1)) (J.length:Int)) fun b1=>au' (ck bM b1) fun cg=>au6 (cg,bq.2) else av.lt (bq.1==1) fun ca=>if ca then au' (ho J 0 bk.1) fun cx=>au' (eW N bq.2 256) fun cK=>au' (fp (avc .u8 (cK.1))) fun dd=>au' (ck cx ([dd]:List UInt8)) fun dg=>au' (ho J bk.1 (J.length:Int)) fun dm=>au' (ck dg dm) fun dv=>au6 (dv,cK.2) else av.lt (bq.1==2) fun c0=>if c0 then au' (ho J 0 bk.1) fun cy=>au' (eW N bq.2 10) fun dR=>au' (fp (avc .u8 ((avc .i64 (48+dR.1))))) fun eI=>au' (ck cy ([eI]:List UInt8)) fun fl=>au' (ho J (avc .i64 (bk.1+1)) (J.length:Int)) fun dT=>au' (ck fl dT) fun e1=>au6 (e1,dR.2) else au' (ho J 0 bk.1) fun fP=>au' (eW N bq.2 256) fun fs=>au' (fp (avc .u8 (fs.1))) fun fQ=>au' (ck fP ([fQ]:List UInt8)) fun fX=>au' (ho J (avc .i64 (bk.1+1)) (J.length:Int)) fun gO=>au' (ck fX gO) fun gf=>au6 (gf,fs.2)
def Da (N:Nat) (x0:cA) (J:List UInt8):Option (List UInt8×cA):=au' (Dj N x0 J) fun aR=>au' (ck aR.1 []) fun a2=>au6 (a2,aR.2)
def IH (N:Nat) (x0:cA) (ah:bX) (ax:Int) (kl:List (List UInt8)):Option (cA×bX×List (List UInt8)):=au' (eW N x0 2) fun bq=>if bq.1==0 then au' (eW N bq.2 2) fun bx=>au' (aD ou (avW (avc .i64 (ax+bx.1)) 4)) fun bM=>au' (ck kl ([bM]:List (List UInt8))) fun b1=>au6 (bx.2,(bX.mk ah.name ah.bC []),b1) else au6 (bq.2,(bX.mk ah.name ah.bC []),kl)
def Br (N:Nat):Nat->cA->bX->Int->(List (List UInt8))->Option (cA×bX×List (List UInt8))|0,_,_,_,_=>au8|n+1,x0,ah,ax,kl=>if decide (ax<4) then au' (IH N x0 (bX.mk ah.name ah.bC []) ax kl) fun cg=>av.lt (avc .i64 (ax+1)) fun ca=>Br N n cg.1 (bX.mk cg.2.1.name cg.2.1.bC []) ca cg.2.2 else au6 (x0,(bX.mk ah.name ah.bC []),kl)
def II (N:Nat) (x0:cA) (ak:dx) (ah:bX) (Rh:Bool):Option (cA×bX):=if Rh then au' (h5 N x0 ([(-1),(ak.aP.length:Int)]:List Int)) fun dd=>au6 (dd.2,(bX.mk ah.name dd.1 [])) else au6 (x0,(bX.mk ah.name ah.bC []))
def KU (N:Nat) (x0:cA) (J:dx):Option (bX×cA):=au' (eW N x0 4) fun aR=>au' (aD ([[120,49],[120,50],[120,51],[120,52]]:List (List UInt8)) aR.1) fun a2=>au' (aD ([[120,49],[120,50],[120,51],[120,52]]:List (List UInt8)) aR.1) fun a6=>au' (eW N aR.2 (J.aP.length:Int)) fun bk=>au' (Br N N bk.2 (bX.mk a6 bk.1 []) 0 []) fun cx=>au' (eW N cx.1 9) fun cK=>au' (II N cK.2 J (bX.mk cx.2.1.name cx.2.1.bC []) (cK.1==0)) fun dg=>au6 ((bX.mk dg.2.name dg.2.bC cx.2.2),dg.1)
def Dp (N:Nat) (x0:bN):Option Int:=if x0.bJ.iW==0 then au6 x0.bJ.lead else au' (aD x0.bJ.aP (avc .i64 (x0.bJ.iW - 1))) fun aR=>au6 aR
def Ba (N:Nat) (al:Int) (an:List Int):Nat->Int->Option (Sum (Unit) (Int))|0,_=>au8|n+1,bc=>if decide (bc<(an.length:Int)) then au' (n8 .i64 (avc .u64 bc)) fun aR=>if (lg .and .i64 (Int.fdiv al ((2 ^ aR:Nat):Int)) 1)==1 then au' (aD an bc) fun a2=>au6 (avg a2) else av.lt (avc .i64 (bc+1)) fun a6=>Ba N al an n a6 else au6 (avh ())
def Lq (N:Nat) (x0:List bX) (J:e3) (al:Int) (ak:Int) (an:List Int):Option Int:=au' (Ba N al an N ak) fun bk=>match bk with|avh bq=>au' (aD x0 J.fC) fun bx=>au6 bx.bC|avg bM=>au6 bM
def IV (N:Nat) (J:List Int) (al:bN) (ah:List Int) (ax:gi) (aB:Int) (aG:Int):Option (List Int):=au' (aD ax.cv aG) fun aR=>au' (aD J aB) fun a2=>if aR==a2 then au' (aD ax.ir.items aG) fun a6=>au' (aD ax.proof.fJ.hV aG) fun bk=>au' (Lq N al.cH a6 bk ax.iW ax.aP) fun bq=>au' (ck ah ([bq]:List Int)) fun bx=>au6 bx else au6 ah
def BD (N:Nat) (J:List Int) (al:bN) (ax:gi) (aB:Int):Nat->(List Int)->Int->Option (List Int)|0,_,_=>au8|n+1,ah,aG=>if decide (aG<(ax.cv.length:Int)) then au' (IV N J al ah ax aB aG) fun bM=>av.lt (avc .i64 (aG+1)) fun b1=>BD N J al ax aB n bM b1 else au6 ah
def BC (N:Nat) (J:List Int) (al:bN) (ax:gi):Nat->(List Int)->Int->Option (List Int)|0,_,_=>au8|n+1,ah,aB=>if decide (aB<(J.length:Int)) then au' (BD N J al ax aB N ah 0) fun cg=>av.lt (avc .i64 (aB+1)) fun ca=>BC N J al ax n cg ca else au6 ah
def Dk (N:Nat) (x0:bN) (J:List Int):Option (List Int):=au' (BC N J x0 x0.bJ N [] 0) fun cx=>au6 cx
def JD (N:Nat) (J:bN):Option Bool:=if !J.busy then au6 au7 else au6 J.dF
def LV (N:Nat) (x0:bN):Option (Int×List Int×List Int×Int):=au' (JD N x0) fun aR=>if aR then au6 (0,[],[],16) else au' (Dp N x0) fun a2=>au' (aD x0.aP a2) fun a6=>au' (ck ([]:List Int) a6) fun bk=>au' (Dk N x0 bk) fun bq=>au6 (a2,bk,bq,0)
def Ho (N:Nat) (x0:cA) (ax:bN):Option (cA×Bool):=if ax.dF then au' (eW N x0 6) fun a6=>av.lt (decide (0<a6.1)) fun bk=>au6 (a6.2,bk) else au6 (x0,ava)
def Hp (N:Nat) (x0:cA) (ax:bN):Option (cA×Bool):=if ax.busy then au' (eW N x0 5) fun bx=>av.lt (decide (0<bx.1)) fun bM=>au6 (bx.2,bM) else au6 (x0,ava)
def Hn (N:Nat) (x0:cA) (ax:bN) (aV:bj):Option (cA×bj):=au' (Ho N x0 ax) fun bq=>if bq.2 then au6 (bq.1,(bj.mk 5 aV.bC aV.to aV.count aV.cE [] [] aV.order aV.name [])) else au' (Hp N bq.1 ax) fun b1=>if b1.2 then au6 (b1.1,(bj.mk 4 aV.bC aV.to aV.count aV.cE [] [] aV.order aV.name [])) else au6 (b1.1,(kM aV))
def IC (N:Nat) (x0:cA) (a3:List Int):Option (cA×Bool):=if decide (0<(a3.length:Int)) then au' (eW N x0 4) fun cK=>au6 (cK.2,(decide (0<cK.1))) else au6 (x0,ava)
def ID (N:Nat) (x0:cA) (a3:List Int) (aV:bj) (Kq:Bool):Option (cA×bj):=if Kq then au' (eW N x0 (a3.length:Int)) fun dg=>au' (aD a3 dg.1) fun dm=>au' (aD a3 dg.1) fun dv=>au6 (dg.2,(bj.mk aV.kind dv aV.to aV.count aV.cE [] [] aV.order aV.name [])) else au6 (x0,(kM aV))
def Bq (N:Nat) (ak:Int):Nat->cA->(List cb)->Int->Option (cA×List cb)|0,_,_,_=>au8|n+1,x0,bc,a9=>if decide (0<a9) then au' (K7 N x0 (avc .i64 (ak+(bc.length:Int)))) fun dR=>au' (eW N dR.2 4) fun eI=>au' (aD ou eI.1) fun fl=>au' (ck bc ([(cb.mk dR.1.number dR.1.length dR.1.jM dR.1.h0 dR.1.pb dR.1.mb dR.1.ui fl)]:List cb)) fun dT=>av.lt (avc .i64 (a9 - 1)) fun e1=>Bq N ak n eI.2 dT e1 else au6 (x0,bc)
def IE (N:Nat) (x0:cA) (a3:List Int):Option (cA×Bool):=if decide (0<(a3.length:Int)) then au' (eW N x0 4) fun hH=>au6 (hH.2,(decide (0<hH.1))) else au6 (x0,ava)
def IF (N:Nat) (oa:Int) (Kn:Bool):Option Bool:=if Kn then au6 Kn else av.lt (oa==5) fun hI=>au6 hI
def IG (N:Nat) (a3:List Int) (aV:bj):Option Bool:=if aV.kind==3 then au6 (decide (0<(a3.length:Int))) else au6 ava
def Gz (N:Nat) (a3:List Int) (aV:bj) (Ko:Bool):Option bj:=if Ko then au' (aD a3 (avc .i64 ((a3.length:Int) - 1))) fun mu=>au' (aD a3 (avc .i64 ((a3.length:Int) - 1))) fun h4=>au6 (bj.mk aV.kind h4 aV.to aV.count aV.cE [] [] aV.order aV.name []) else if decide (0<(a3.length:Int)) then au' (aD a3 0) fun ll=>au' (aD a3 0) fun fg=>au6 (bj.mk aV.kind fg aV.to aV.count aV.cE [] [] aV.order aV.name []) else au6 (kM aV)
def GA (N:Nat) (a3:List Int) (cD:Int) (hG:List Int):Option Bool:=if decide (cD<(a3.length:Int)) then au6 (decide ((hG.length:Int)<4)) else au6 ava
def GB (N:Nat) (a3:List Int) (aV:bj) (cD:Int) (hG:List Int):Option (bj×List Int):=au' (aD a3 cD) fun qR=>au' (aD a3 cD) fun lo=>if lo !=aV.bC then au' (aD a3 cD) fun r9=>au' (aD a3 cD) fun vQ=>au' (ck hG ([vQ]:List Int)) fun sa=>au6 ((kM aV),sa) else au6 ((kM aV),hG)
def z4 (N:Nat) (a3:List Int):Nat->bj->Int->(List Int)->Option (bj×List Int)|0,_,_,_=>au8|n+1,aV,cD,hG=>au' (GA N a3 cD hG) fun oc=>if oc then au' (GB N a3 (kM aV) cD hG) fun C7=>av.lt (avc .i64 (cD+1)) fun xQ=>z4 N a3 n (kM C7.1) xQ C7.2 else au6 ((kM aV),hG)
def z5 (N:Nat) (ah:dx) (dt:List Int):Nat->cA->bj->Int->(List er)->Option (cA×bj×List er)|0,_,_,_,_=>au8|n+1,x0,aV,eT,km=>if decide (0<eT) then au' (eW N x0 (avc .i64 ((dt.length:Int)+1))) fun Kt=>au' (eW N Kt.2 (ah.aP.length:Int)) fun Rn=>au' (ck km ([(er.mk Kt.1 Rn.1)]:List er)) fun Ro=>av.lt (avc .i64 (eT - 1)) fun Ku=>z5 N ah dt n Rn.2 (kM aV) Ku Ro else au6 (x0,(kM aV),km)
def Hq (N:Nat) (x0:cA) (ak:Int) (ah:dx) (ax:bN) (a3:List Int) (aV:bj) (oa:Int) (hG:List Int) (km:List er) (o0:List UInt8):Option (cA×bj×List Int×List er×List UInt8):=av.lt (oa==1) fun ca=>if ca then au' (eW N x0 (ah.aP.length:Int)) fun cx=>au' (IC N cx.2 a3) fun dd=>au' (ID N dd.1 a3 (bj.mk aV.kind cx.1 aV.to aV.count aV.cE [] [] aV.order aV.name []) dd.2) fun c0=>au' (eW N c0.1 7) fun cy=>au' (Bq N ak N cy.2 [] cy.1) fun fP=>au' (Lk N fP.2) fun fs=>au' (eW N fP.1 15) fun fQ=>if fQ.1==0 then au' (Da N fQ.2 fs.1) fun fX=>au6 (fX.2,(kM c0.2),hG,km,fX.1) else au6 (fQ.2,(kM c0.2),hG,km,fs.1) else av.lt (oa==2) fun gO=>if gO then au' (KU N x0 ah) fun gf=>au' (IE N gf.2 a3) fun gP=>if gP.2 then au' (aD a3 0) fun jc=>au' (aD a3 0) fun iD=>au6 (gP.1,(bj.mk aV.kind aV.bC aV.to aV.count aV.cE [] [] (bX.mk gf.1.name iD gf.1.cw) aV.name []),hG,km,o0) else au6 (gP.1,(bj.mk aV.kind aV.bC aV.to aV.count aV.cE [] [] gf.1 aV.name []),hG,km,o0) else av.lt (oa==3) fun jq=>au' (IF N oa jq) fun jd=>if jd then au' (eW N x0 (ah.aP.length:Int)) fun gg=>au' (h5 N gg.2 ([12,12,12,1,2,0]:List Int)) fun j4=>au' (IG N a3 (bj.mk aV.kind gg.1 aV.to aV.count j4.1 [] [] aV.order aV.name [])) fun jA=>au' (Gz N a3 (bj.mk aV.kind gg.1 aV.to aV.count j4.1 [] [] aV.order aV.name []) jA) fun ln=>au' (z4 N a3 N (kM ln) 0 hG) fun sb=>au' (eW N j4.2 8) fun tG=>if tG.1==0 then au' (h5 N tG.2 ([(-1),0,sb.1.bC,(ah.aP.length:Int)]:List Int)) fun xR=>au' (ck sb.2 ([xR.1]:List Int)) fun xS=>au6 (xR.2,(kM sb.1),xS,km,o0) else au6 (tG.2,(kM sb.1),sb.2,km,o0) else av.lt (oa==4) fun Rl=>if Rl then au' (LV N ax) fun Rm=>au' (h5 N x0 ([0,0,0,1,2]:List Int)) fun vR=>au' (z5 N ah Rm.2.1 N vR.2 (kM aV) vR.1 km) fun C8=>au6 (C8.1,(kM C8.2.1),hG,C8.2.2,o0) else av.lt (oa==6) fun o2=>if o2 then au' (eW N x0 (ah.aP.length:Int)) fun jr=>au' (eW N jr.2 (ah.aP.length:Int)) fun aaI=>au' (eW N aaI.2 4) fun aaJ=>au6 (aaJ.2,(bj.mk aV.kind jr.1 aaI.1 aaJ.1 aV.cE [] [] aV.order aV.name []),hG,km,o0) else av.lt (oa==7) fun asT=>if asT then if decide (0<(ax.cH.length:Int)) then au' (eW N x0 (ax.cH.length:Int)) fun aaK=>au' (aD ax.cH aaK.1) fun asU=>au6 (aaK.2,(bj.mk aV.kind aV.bC aV.to aV.count aV.cE [] [] aV.order asU.name []),hG,km,o0) else au6 (x0,(bj.mk aV.kind aV.bC aV.to aV.count aV.cE [] [] aV.order [120,49] []),hG,km,o0) else au6 (x0,(kM aV),hG,km,o0)
def Dh (N:Nat) (x0:cA) (J:dx) (al:bN) (ak:Int):Option (bj×cA):=au' (K5 N al) fun aR=>au' (eW N x0 7) fun a2=>au' (Hn N a2.2 al (bj.mk (avc .i64 (1+a2.1)) 0 0 0 0 [] [] (bX.mk [] 0 []) [] [])) fun cg=>au' (Hq N cg.1 ak J al aR (kM cg.2) cg.2.kind [] [] []) fun pT=>au6 ((bj.mk pT.2.1.kind pT.2.1.bC pT.2.1.to pT.2.1.count pT.2.1.cE pT.2.2.1 pT.2.2.2.1 pT.2.1.order pT.2.1.name pT.2.2.2.2),pT.1)
def B8 (N:Nat) (x0:List (List Int)):Nat->(List (List Int))->Int->Option (List (List Int))|0,_,_=>au8|n+1,ak,an=>if decide (an<(x0.length:Int)) then au' (aD x0 an) fun aR=>au' (ck ([]:List Int) aR) fun a2=>au' (ck ak (([[]]:List (List Int)).set ((0:Int).toNat) a2)) fun a6=>av.lt (avc .i64 (an+1)) fun bk=>B8 N x0 n a6 bk else au6 ak
def x3 (N:Nat) (x0:List (List Int)):Option (List (List Int)):=au' (B8 N x0 N ([]:List (List Int)) 0) fun bq=>au6 bq
def B9 (N:Nat) (J:bN):Nat->(List bX)->Int->(List (List Int))->Option (List bX×List (List Int))|0,_,_,_=>au8|n+1,ak,an,xN=>if decide (an<(J.cH.length:Int)) then au' (aD J.cH an) fun a6=>au' (ck ([]:List (List UInt8)) a6.cw) fun bk=>au' (ck ak ([(bX.mk a6.name a6.bC bk)]:List bX)) fun bq=>av.lt (avc .i64 (an+1)) fun bx=>B9 N J n bq bx xN else au6 (ak,xN)
def DB (N:Nat) (x0:bN):Option (bN×List cb×List bX):=au' (ck ([]:List cb) x0.cv) fun aR=>au' (x3 N x0.aP) fun a2=>au' (B9 N (Rq x0) N [] 0 a2) fun bM=>au' (ck ([]:List Int) x0.bJ.cv) fun b1=>au' (ck ([]:List Int) x0.bJ.aP) fun cg=>au' (ck ([]:List e3) x0.bJ.ir.items) fun ca=>au' (ck ([]:List Int) x0.bJ.proof.fJ.hV) fun cx=>au' (ck ([]:List Int) x0.bJ.proof.chain) fun cK=>au6 ((bN.mk [] (List.map (fun (z:List Int)=>z) bM.2) [] x0.busy (gi.mk b1 (cV.mk ca x0.bJ.ir.cE) (g7.mk (e4.mk x0.bJ.proof.fJ.steps cx) cK) x0.bJ.lead cg x0.bJ.iW) x0.dF),aR,bM.1)
def Jk (N:Nat) (J:Int) (al:dx):Option Bool:=if decide (0<=J) then av.lt (decide (J<(al.aP.length:Int))) fun aR=>au6 aR else au6 ava
def pW (N:Nat) (x0:dx) (J:Int):Option Bool:=au' (Jk N J x0) fun a2=>au6 a2
def CJ (N:Nat) (x0:List Int) (J:Int):Nat->Int->Option (Sum (Unit) (Bool))|0,_=>au8|n+1,ah=>if decide (ah<(x0.length:Int)) then au' (aD x0 ah) fun aR=>if aR==J then au6 (avg au7) else av.lt (avc .i64 (ah+1)) fun a2=>CJ N x0 J n a2 else au6 (avh ())
def tN (N:Nat) (x0:List Int) (J:Int):Option Bool:=au' (CJ N x0 J N 0) fun a6=>match a6 with|avh bk=>au6 ava|avg bq=>au6 bq
def BB (N:Nat) (J:Int) (al:bN):Nat->Int->Option (Sum (Unit) (Bool))|0,_=>au8|n+1,ah=>if decide (ah<(al.cH.length:Int)) then au' (aD al.cH ah) fun aR=>if aR.bC==J then au6 (avg au7) else av.lt (avc .i64 (ah+1)) fun a2=>BB N J al n a2 else au6 (avh ())
def qT (N:Nat) (x0:bN) (J:Int):Option Bool:=au' (BB N J x0 N 0) fun a6=>match a6 with|avh bk=>au6 ava|avg bq=>au6 bq
def BO (N:Nat) (x0:List UInt8):Nat->Int->Int->Option (Sum (Int) (Int))|0,_,_=>au8|n+1,ak,an=>au' (aD x0 0) fun aR=>if decide (an<(avc .i64 ((avs aR:Int)))) then if decide ((x0.length:Int)<(avc .i64 (ak+15))) then au6 (avg (-1)) else au' (aD x0 (avc .i64 (ak+14))) fun a2=>av.lt (avc .i64 (ak+(avc .i64 (15+(avc .i64 ((avs a2:Int))))))) fun a6=>if decide ((x0.length:Int)<a6) then au6 (avg (-1)) else av.lt (avc .i64 (an+1)) fun bk=>BO N x0 n a6 bk else au6 (avh ak)
def LZ (N:Nat) (x0:List UInt8):Option Int:=if (x0.length:Int)==0 then au6 (-1) else au' (BO N x0 N 1 0) fun bq=>match bq with|avh bx=>if decide ((x0.length:Int)<(avc .i64 (bx+2))) then au6 (-1) else av.lt (avc .i64 (bx+2)) fun bM=>au6 bM|avg b1=>au6 b1
def v3 (N:Nat) (x0:List UInt8):Option Int:=au' (aD x0 0) fun aR=>au' (aD x0 1) fun a2=>av.lt (avc .i64 ((avc .i64 ((avc .i64 ((avs aR:Int)))*256))+(avc .i64 ((avs a2:Int))))) fun a6=>au6 a6
def Im (N:Nat) (aG:List UInt8) (aV:Int):Option Bool:=au' (aD aG aV) fun cx=>if decide (9<(avc .u8 (av6 (avs cx:Int) 16))) then au6 au7 else au' (aD aG aV) fun cK=>au6 (decide (9<(avW (avs cK:Int) 16)))
def A0 (N:Nat) (aG:List UInt8):Nat->(List UInt8)->Int->Option (Sum (List UInt8) (Int))|0,_,_=>au8|n+1,a3,aV=>if decide (aV<6) then au' (Im N aG aV) fun dd=>if dd then au6 (avg 11) else au' (aD aG aV) fun dg=>au' (aD aG aV) fun dm=>au' (fp (avc .u8 (48+(avc .u8 (av6 (avs dg:Int) 16))))) fun dv=>au' (fp (avc .u8 (48+(avW (avs dm:Int) 16)))) fun c0=>au' (ck a3 ([dv,c0]:List UInt8)) fun cy=>av.lt (avc .i64 (aV+1)) fun dR=>A0 N aG n cy dR else au6 (avh a3)
def Io (N:Nat) (aG:List UInt8):Option Bool:=au' (aD aG 13) fun dT=>if decide (25<(avs dT:Int)) then au6 au7 else au' (aD aG 13) fun e1=>if decide (10<=(avs e1:Int)) then au' (aD aG 13) fun fP=>au6 (decide ((avs fP:Int)<=15)) else au6 ava
def AZ (N:Nat) (x0:List UInt8):Nat->(List cb)->Int->Int->Option (Sum (List cb) (Int))|0,_,_,_=>au8|n+1,ah,ax,aB=>au' (aD x0 0) fun cg=>if decide (aB<(avc .i64 ((avs cg:Int)))) then au' (ho x0 ax (x0.length:Int)) fun ca=>au' (A0 N ca N [] 0) fun eI=>match eI with|avh fl=>au' (Io N ca) fun fs=>if fs then au6 (avg 11) else au' (aD ca 14) fun fQ=>av.lt (avc .i64 ((avs fQ:Int))) fun fX=>au' (ho ca 6 (ca.length:Int)) fun gO=>au' (v3 N gO) fun gf=>au' (aD ca 8) fun hH=>au' (ho ca 9 (ca.length:Int)) fun gP=>au' (v3 N gP) fun jc=>au' (ho ca 11 (ca.length:Int)) fun iD=>au' (v3 N iD) fun jq=>au' (aD ca 13) fun hI=>au' (aD ca 13) fun jd=>au' (ho ca 15 (avc .i64 (15+fX))) fun gg=>au' (ck ah ([(cb.mk fl gf (avc .i64 ((avs hH:Int))) jc jq (avc .i64 ((avW (avs hI:Int) 16))) (decide (16<=(avs jd:Int))) gg)]:List cb)) fun j4=>av.lt (avc .i64 (ax+(avc .i64 (15+fX)))) fun jA=>av.lt (avc .i64 (aB+1)) fun mu=>AZ N x0 n j4 jA mu|avg h4=>au6 (avg h4) else au6 (avh ah)
def Lj (N:Nat) (x0:List UInt8):Option (List cb×Int):=au' (LZ N x0) fun aR=>av.lt (decide (aR<0)) fun a2=>if a2 then au6 ([],10) else av.lt (decide (aR<(x0.length:Int))) fun a6=>if a6 then au6 ([],11) else au' (ho x0 (avc .i64 (aR - 2)) (x0.length:Int)) fun bk=>au' (v3 N bk) fun bq=>au' (ho x0 0 (avc .i64 (aR - 2))) fun bx=>au' (Ds N bx) fun bM=>av.lt (bq !=bM) fun b1=>if b1 then au6 ([],9) else au' (AZ N x0 N [] 1 0) fun ll=>match ll with|avh fg=>au' (vT N fg) fun ln=>if ln !=0 then au6 ([],ln) else au6 (fg,0)|avg oc=>au6 ([],oc)
def BV (N:Nat) (x0:List (List Int)) (J:Int) (ax:Int):Nat->Int->Option (Sum (Unit) (Int×Int))|0,_=>au8|n+1,aB=>au' (aD x0 ax) fun aR=>if decide (aB<(aR.length:Int)) then au' (aD x0 ax) fun a2=>au' (aD a2 aB) fun a6=>if a6==J then au6 (avg (ax,aB)) else av.lt (avc .i64 (aB+1)) fun bk=>BV N x0 J ax n bk else au6 (avh ())
def BU (N:Nat) (x0:List (List Int)) (J:Int):Nat->Int->Option (Sum (Unit) (Int×Int))|0,_=>au8|n+1,ax=>if decide (ax<(x0.length:Int)) then au' (BV N x0 J ax N 0) fun bq=>match bq with|avh bx=>av.lt (avc .i64 (ax+1)) fun bM=>BU N x0 J n bM|avg b1=>au6 (avg (b1.1,b1.2)) else au6 (avh ())
def pV (N:Nat) (x0:List (List Int)) (J:Int):Option (Int×Int):=au' (BU N x0 J N 0) fun cg=>match cg with|avh ca=>au6 ((-1),(-1))|avg cx=>au6 (cx.1,cx.2)
def BA (N:Nat) (x0:List cb):Nat->(List Int)->Int->Option (List Int)|0,_,_=>au8|n+1,ak,an=>if decide (an<(x0.length:Int)) then au' (aD x0 an) fun aR=>au' (ck ak ([aR.length]:List Int)) fun a2=>av.lt (avc .i64 (an+1)) fun a6=>BA N x0 n a2 a6 else au6 ak
def tK (N:Nat) (x0:List cb):Option (List Int):=au' (BA N x0 N [] 0) fun bk=>au6 bk
def BS (N:Nat) (x0:List Int) (J:List Int):Nat->Int->Int->Option Int|0,_,_=>au8|n+1,ah,ax=>if decide (ax<(J.length:Int)) then au' (aD J ax) fun aR=>au' (aD x0 aR) fun a2=>av.lt (avc .i64 (ah+a2)) fun a6=>av.lt (avc .i64 (ax+1)) fun bk=>BS N x0 J n a6 bk else au6 ah
def DG (N:Nat) (x0:List Int) (J:List Int):Option Int:=au' (BS N x0 J N 0 0) fun bq=>au6 bq
def Jg (N:Nat) (x0:List hS) (J:List Int) (al:List (List Int)):Option Bool:=if (al.length:Int) !=(x0.length:Int) then au6 au7 else if decide (24<(x0.length:Int)) then au6 au7 else au6 (decide (192<(J.length:Int)))
def Jh (N:Nat) (J:List Int) (aB:Int):Option Bool:=au' (aD J aB) fun a2=>if decide (a2<1) then au6 au7 else au' (aD J aB) fun a6=>au6 (decide (400<a6))
def CH (N:Nat) (J:List Int):Nat->Int->Option (Sum (Unit) (Bool))|0,_=>au8|n+1,aB=>if decide (aB<(J.length:Int)) then au' (Jh N J aB) fun bk=>if bk then au6 (avg ava) else av.lt (avc .i64 (aB+1)) fun bq=>CH N J n bq else au6 (avh ())
def Ji (N:Nat) (J:List Int) (aG:List Bool) (bc:Int):Option Bool:=if decide (bc<0) then au6 au7 else if decide ((J.length:Int)<=bc) then au6 au7 else au' (aD aG bc) fun cK=>au' (aD aG bc) fun dd=>au6 dd
def BT (N:Nat) (J:List Int) (al:List (List Int)) (a3:Int):Nat->(List Bool)->Int->Option (Sum (List Bool) (Bool))|0,_,_=>au8|n+1,aG,aV=>au' (aD al a3) fun cg=>if decide (aV<(cg.length:Int)) then au' (aD al a3) fun ca=>au' (aD ca aV) fun cx=>au' (Ji N J aG cx) fun dg=>if dg then au6 (avg ava) else au' (aD aG cx) fun dm=>au' (aD aG cx) fun dv=>av.lt (aG.set ((cx:Int).toNat) au7) fun c0=>av.lt (avc .i64 (aV+1)) fun cy=>BT N J al a3 n c0 cy else au6 (avh aG)
def Jj (N:Nat) (x0:List hS) (J:List Int) (al:List (List Int)) (a3:Int):Option Bool:=au' (aD x0 a3) fun fl=>if decide (fl.length<0) then au6 au7 else au' (aD x0 a3) fun dT=>if decide (100000<dT.length) then au6 au7 else au' (aD al a3) fun e1=>au' (DG N J e1) fun fP=>au' (aD x0 a3) fun fs=>au6 (decide (fs.length<fP))
def CI (N:Nat) (x0:List hS) (J:List Int) (al:List (List Int)):Nat->(List Bool)->Int->Option (Sum (Unit) (Bool))|0,_,_=>au8|n+1,aG,a3=>if decide (a3<(al.length:Int)) then au' (BT N J al a3 N aG 0) fun dR=>match dR with|avh eI=>au' (Jj N x0 J al a3) fun fQ=>if fQ then au6 (avg ava) else av.lt (avc .i64 (a3+1)) fun fX=>CI N x0 J al n eI fX|avg gO=>au6 (avg gO) else au6 (avh ())
def LI (N:Nat) (x0:List hS) (J:List Int) (al:List (List Int)):Option Bool:=au' (Jg N x0 J al) fun aR=>if aR then au6 ava else au' (CH N J N 0) fun bx=>match bx with|avh bM=>(au' (iG ava (J.length:Int)) fun b1=>au' (CI N x0 J al N b1 0) fun gf=>match gf with|avh hH=>au6 au7|avg gP=>au6 gP)|avg jc=>au6 jc
def J2 (N:Nat) (J:List Int) (al:List (List Int)) (aB:dj):Option Bool:=if decide (aB.oV<0) then au6 au7 else if decide ((J.length:Int)<=aB.oV) then au6 au7 else if decide (aB.from_<(-1)) then au6 au7 else if decide ((al.length:Int)<=aB.from_) then au6 au7 else if decide (aB.to<(-1)) then au6 au7 else au6 (decide ((al.length:Int)<=aB.to))
def J3 (N:Nat) (aB:dj) (aV:Int):Option Bool:=if aV !=aB.from_ then au6 au7 else if decide (aV<0) then au6 (decide (aB.to<0)) else au6 ava
def Je (N:Nat) (aV:Int) (bc:Int) (a9:List (List Int)) (nB:Bool):Option (List (List Int)):=if nB then au' (aD a9 aV) fun bx=>au' (aD a9 aV) fun bM=>au' (ho bM 0 bc) fun b1=>au' (aD a9 aV) fun cg=>if aV=aV then au' (ho bM (avc .i64 (bc+1)) (bM.length:Int)) fun ca=>au' (ck (List.take (Int.toNat bc) bM) (List.drop (Int.toNat (avc .i64 (bc+1))) (List.take (Int.toNat (bM.length:Int)) bM))) fun cx=>au' (aD a9 aV) fun cK=>if aV=aV then au' (aD a9 aV) fun dd=>au6 (a9.set ((aV:Int).toNat) cx) else au8 else au8 else au6 a9
def Jf (N:Nat) (aB:dj) (a9:List (List Int)) (Rj:Bool):Option (List (List Int)):=if Rj then au' (aD a9 aB.to) fun dm=>au' (aD a9 aB.to) fun dv=>au' (ck ([aB.oV]:List Int) dv) fun c0=>au' (aD a9 aB.to) fun cy=>if aB.to=aB.to then au' (aD a9 aB.to) fun dR=>au6 (a9.set ((aB.to:Int).toNat) c0) else au8 else au' (aD a9 aB.to) fun eI=>au' (aD a9 aB.to) fun fl=>au' (ck fl ([aB.oV]:List Int)) fun dT=>au' (aD a9 aB.to) fun e1=>if aB.to=aB.to then au' (aD a9 aB.to) fun fP=>au6 (a9.set ((aB.to:Int).toNat) dT) else au8
def tL (N:Nat) (x0:List hS) (J:List Int) (al:List (List Int)) (ak:dj):Option (List (List Int)×Int):=au' (LI N x0 J al) fun aR=>if !aR then au6 ([],1) else au' (J2 N J al ak) fun a2=>if a2 then au6 ([],2) else au' (pV N al ak.oV) fun a6=>au' (J3 N ak a6.1) fun bk=>if bk then au6 ([],17) else au' (x3 N al) fun bq=>au' (Je N a6.1 a6.2 bq (decide (0<=a6.1))) fun dg=>if decide (ak.to<0) then au6 ((List.map (fun (z:List Int)=>z) dg),0) else au' (Jf N ak dg ak.front) fun fs=>au' (aD fs ak.to) fun fQ=>au' (aD fs ak.to) fun fX=>au' (DG N J fX) fun gO=>au' (aD x0 ak.to) fun gf=>if decide (gf.length<gO) then au6 ([],14) else au6 ((List.map (fun (z:List Int)=>z) (fs.set ((ak.to:Int).toNat) fX)),0)
def K3 (N:Nat) (x0:bw) (J:Int) (al:Int) (cr:List dj):Option (Bool×List dj×bw):=au' (pV N x0.y.aP J) fun aR=>au' (tK N x0.y.cv) fun a2=>au' (tL N x0.c.aP a2 x0.y.aP (dj.mk J aR.1 al ava)) fun a6=>if a6.2 !=0 then au6 (ava,cr,(fR x0)) else au' (ck cr ([(dj.mk J aR.1 al ava)]:List dj)) fun bk=>au6 (au7,bk,(bw.mk x0.c (bN.mk x0.y.cv a6.1 x0.y.cH x0.y.busy x0.y.bJ x0.y.dF) x0.e (ef.mk x0.r.err [] x0.r.proof x0.r.gk x0.r.final x0.r.ey x0.r.place)))
def HQ (N:Nat) (x0:bw) (ak:Int) (an:gi):Option Bool:=if x0.y.dF then au6 au7 else if x0.y.busy then if ak==an.lead then au6 au7 else au' (tN N an.aP ak) fun a6=>au6 a6 else au6 ava
def Hh (N:Nat) (ah:List cb) (aG:Int) (a3:Int) (aV:Int) (hC:List cb):Option Bool:=if decide (0<=aV) then au' (aD hC a3) fun cg=>au' (aD hC a3) fun ca=>au' (aD ah aG) fun cx=>au' (aD ah aG) fun cK=>au6 (ca.number==cK.number) else au6 ava
def Ap (N:Nat) (x0:bw) (ah:List cb) (aB:Int) (aG:Int) (hC:List cb):Nat->Int->Option (Sum (Unit) (Int))|0,_=>au8|n+1,a3=>if decide (a3<aB) then au' (pV N x0.y.aP a3) fun b1=>au' (Hh N ah aG a3 b1.1 hC) fun dd=>if dd then au6 (avg 8) else av.lt (avc .i64 (a3+1)) fun dg=>Ap N x0 ah aB aG hC n dg else au6 (avh ())
def Ao (N:Nat) (x0:bw) (ah:List cb) (aB:Int) (hC:List cb):Nat->Int->Option (Sum (Unit) (Int))|0,_=>au8|n+1,aG=>if decide (aG<(ah.length:Int)) then au' (Ap N (Kw x0) ah aB aG hC N 0) fun dm=>match dm with|avh dv=>av.lt (avc .i64 (aG+1)) fun c0=>Ao N x0 ah aB hC n c0|avg cy=>au6 (avg cy) else au6 (avh ())
def Aq (N:Nat) (ak:Int) (ah:List cb) (aB:Int):Nat->bw->Int->(List dj)->Option (Sum (bw×List dj) (bw×Int×List dj))|0,_,_,_=>au8|n+1,x0,a9,cr=>if decide (a9<(ah.length:Int)) then au' (K3 N (fR x0) (avc .i64 (aB+a9)) ak cr) fun dT=>if !dT.1 then au6 (avg ((fR dT.2.2),14,dT.2.1)) else av.lt (avc .i64 (a9+1)) fun e1=>Aq N ak ah aB n (fR dT.2.2) e1 dT.2.1 else au6 (avh ((fR x0),cr))
def KM (N:Nat) (x0:bw) (hC:List cb) (cr:List dj):Option (Int×List dj×bw):=au' (pW N x0.c x0.e.bC) fun aR=>av.lt (!aR) fun a2=>if a2 then au6 (2,cr,(bw.mk x0.c (bN.mk hC x0.y.aP x0.y.cH x0.y.busy x0.y.bJ x0.y.dF) x0.e (ef.mk x0.r.err [] x0.r.proof x0.r.gk x0.r.final x0.r.ey x0.r.place))) else au' (HQ N (Kw x0) x0.e.bC x0.y.bJ) fun bk=>if bk then au6 (25,cr,(bw.mk x0.c (bN.mk hC x0.y.aP x0.y.cH x0.y.busy x0.y.bJ x0.y.dF) x0.e (ef.mk x0.r.err [] x0.r.proof x0.r.gk x0.r.final x0.r.ey x0.r.place))) else au' (qT N (bN.mk hC x0.y.aP x0.y.cH x0.y.busy x0.y.bJ x0.y.dF) x0.e.bC) fun bq=>if bq then au6 (17,cr,(bw.mk x0.c (bN.mk hC x0.y.aP x0.y.cH x0.y.busy x0.y.bJ x0.y.dF) x0.e (ef.mk x0.r.err [] x0.r.proof x0.r.gk x0.r.final x0.r.ey x0.r.place))) else au' (Lj N x0.e.data) fun bx=>if bx.2 !=0 then au6 (bx.2,cr,(bw.mk x0.c (bN.mk hC x0.y.aP x0.y.cH x0.y.busy x0.y.bJ x0.y.dF) x0.e (ef.mk x0.r.err [] x0.r.proof x0.r.gk x0.r.final x0.r.ey x0.r.place))) else av.lt (hC.length:Int) fun bM=>au' (Ao N (Kw x0) bx.1 bM hC N 0) fun dR=>match dR with|avh eI=>(if decide (192<(avc .i64 (bM+(bx.1.length:Int)))) then au6 (3,cr,(bw.mk x0.c (bN.mk hC x0.y.aP x0.y.cH x0.y.busy x0.y.bJ x0.y.dF) x0.e (ef.mk x0.r.err [] x0.r.proof x0.r.gk x0.r.final x0.r.ey x0.r.place))) else au' (ck hC bx.1) fun fl=>au' (Aq N x0.e.bC bx.1 bM N (bw.mk x0.c (bN.mk fl x0.y.aP x0.y.cH x0.y.busy x0.y.bJ x0.y.dF) x0.e (ef.mk x0.r.err [] x0.r.proof x0.r.gk x0.r.final x0.r.ey x0.r.place)) 0 cr) fun fP=>match fP with|avh fs=>au6 (0,fs.2,(fR fs.1))|avg fQ=>au6 (fQ.2.1,fQ.2.2,(fR fQ.1)))|avg fX=>au6 (fX,cr,(bw.mk x0.c (bN.mk hC x0.y.aP x0.y.cH x0.y.busy x0.y.bJ x0.y.dF) x0.e (ef.mk x0.r.err [] x0.r.proof x0.r.gk x0.r.final x0.r.ey x0.r.place)))
def CF (N:Nat) (J:List UInt8) (al:bX):Nat->Int->Option (Sum (Unit) (Int))|0,_=>au8|n+1,ah=>if decide (ah<(al.cw.length:Int)) then au' (aD al.cw ah) fun aR=>if aR==J then au6 (avg ah) else av.lt (avc .i64 (ah+1)) fun a2=>CF N J al n a2 else au6 (avh ())
def vZ (N:Nat) (x0:bX) (J:List UInt8):Option Int:=au' (CF N J x0 N 0) fun a6=>match a6 with|avh bk=>au6 (-1)|avg bq=>au6 bq
def HD (N:Nat) (al:dx) (ak:bX):Option Bool:=au' (v0 N ak.name) fun aR=>if !aR then au6 au7 else if decide (ak.bC<0) then au6 au7 else if decide ((al.aP.length:Int)<=ak.bC) then au6 au7 else if decide ((ak.cw.length:Int)<1) then au6 au7 else au6 (decide (16<(ak.cw.length:Int)))
def HE (N:Nat) (ak:bX) (ah:Int):Option Bool:=au' (aD ak.cw ah) fun a6=>au' (v0 N a6) fun bk=>if !bk then au6 au7 else au' (aD ak.cw ah) fun bq=>au' (vZ N ak bq) fun bx=>au6 (bx !=ah)
def AE (N:Nat) (ak:bX):Nat->Int->Option (Sum (Unit) (Bool))|0,_=>au8|n+1,ah=>if decide (ah<(ak.cw.length:Int)) then au' (HE N ak ah) fun bM=>if bM then au6 (avg ava) else av.lt (avc .i64 (ah+1)) fun b1=>AE N ak n b1 else au6 (avh ())
def De (N:Nat) (x0:dx) (J:bX):Option Bool:=au' (HD N x0 J) fun a2=>if a2 then au6 ava else au' (AE N J N 0) fun cg=>match cg with|avh ca=>au6 au7|avg cx=>au6 cx
def IL (N:Nat) (ak:bX) (ah:bX):Option Bool:=if ah.name==ak.name then au6 au7 else au6 (ah.bC==ak.bC)
def Bw (N:Nat) (ak:bX) (ah:bX):Nat->Int->Option (Sum (Unit) (Int))|0,_=>au8|n+1,ax=>if decide (ax<(ak.cw.length:Int)) then au' (aD ak.cw ax) fun bq=>au' (vZ N ah bq) fun bx=>if decide (0<=bx) then au6 (avg 8) else av.lt (avc .i64 (ax+1)) fun bM=>Bw N ak ah n bM else au6 (avh ())
def Bv (N:Nat) (ak:bX) (gC:List bX):Nat->Int->Option (Sum (Unit) (Int))|0,_=>au8|n+1,an=>if decide (an<(gC.length:Int)) then au' (aD gC an) fun a2=>au' (aD gC an) fun a6=>au' (IL N ak a6) fun bk=>if bk then au6 (avg 8) else au' (Bw N ak a6 N 0) fun b1=>match b1 with|avh cg=>av.lt (avc .i64 (an+1)) fun ca=>Bv N ak gC n ca|avg cx=>au6 (avg cx) else au6 (avh ())
def K2 (N:Nat) (x0:bw) (gC:List bX):Option (Int×List bX×bw):=if x0.y.busy then au6 (25,gC,(vS x0)) else au' (De N x0.c x0.e.order) fun aR=>if !aR then au6 (1,gC,(vS x0)) else au' (Bv N x0.e.order gC N 0) fun cK=>match cK with|avh dd=>if (gC.length:Int)==8 then au6 (18,gC,(vS x0)) else au' (aD x0.y.aP x0.e.order.bC) fun dg=>if decide (0<(dg.length:Int)) then au6 (17,gC,(vS x0)) else au' (ck ([]:List (List UInt8)) x0.e.order.cw) fun dm=>au' (ck gC ([(bX.mk x0.e.order.name x0.e.order.bC dm)]:List bX)) fun dv=>au6 (0,dv,(vS x0))|avg c0=>au6 (c0,gC,(vS x0))
def KQ (N:Nat) (x0:bw):Option Bool:=au' (pW N x0.c x0.e.bC) fun aR=>if aR then if decide (0<=x0.e.cE) then av.lt (decide (x0.e.cE<=12)) fun a2=>au6 a2 else au6 ava else au6 ava
def KR (N:Nat) (x0:bw) (ak:Bool) (an:Int):Option Bool:=if ak then au' (aD x0.e.aP an) fun bk=>au' (pW N x0.c bk) fun bq=>au6 bq else au6 ava
def Df (N:Nat) (x0:bw):Nat->Bool->Int->Option Bool|0,_,_=>au8|n+1,ak,an=>if decide (an<(x0.e.aP.length:Int)) then au' (KR N x0 ak an) fun bx=>av.lt (avc .i64 (an+1)) fun bM=>Df N x0 n bx bM else au6 ak
def K1 (N:Nat) (x0:bw):Option Bool:=au' (KQ N x0) fun a6=>au' (Df N x0 N a6 0) fun b1=>au6 b1
def Le (N:Nat) (x0:bw) (ak:Bool) (an:Int):Option Bool:=if ak then au' (aD x0.e.aP an) fun a6=>if a6 !=x0.e.bC then au' (ho x0.e.aP 0 an) fun bk=>au' (aD x0.e.aP an) fun bq=>au' (tN N bk bq) fun bx=>if !bx then au' (aD x0.e.aP an) fun bM=>au' (qT N x0.y bM) fun b1=>av.lt (!b1) fun cg=>au6 cg else au6 ava else au6 ava else au6 ava
def Dl (N:Nat) (x0:bw):Nat->Bool->Int->Option Bool|0,_,_=>au8|n+1,ak,an=>if decide (an<(x0.e.aP.length:Int)) then au' (Le N x0 ak an) fun ca=>av.lt (avc .i64 (an+1)) fun cx=>Dl N x0 n ca cx else au6 ak
def Ls (N:Nat) (x0:bw):Option Bool:=au' (qT N x0.y x0.e.bC) fun aR=>av.lt (!aR) fun a2=>au' (Dl N x0 N a2 0) fun cK=>au6 cK
def BX (N:Nat) (x0:List bX) (J:List UInt8):Nat->Int->Option (Sum (Unit) (Int×Int))|0,_=>au8|n+1,ax=>if decide (ax<(x0.length:Int)) then au' (aD x0 ax) fun aR=>au' (vZ N aR J) fun a2=>if decide (0<=a2) then au6 (avg (ax,a2)) else av.lt (avc .i64 (ax+1)) fun a6=>BX N x0 J n a6 else au6 (avh ())
def LK (N:Nat) (x0:List bX) (J:List UInt8):Option (Int×Int):=au' (BX N x0 J N 0) fun bk=>match bk with|avh bq=>au6 ((-1),(-1))|avg bx=>au6 (bx.1,bx.2)
def x4 (N:Nat) (x0:List bX) (J:cb):Option e3:=au' (LK N x0 J.dest) fun aR=>au6 (e3.mk aR.1 aR.2 0 J.length)
def H9 (N:Nat) (J:cV):Option Bool:=if decide (J.cE<0) then au6 au7 else au6 (decide (12<J.cE))
def JE (N:Nat) (an:e3):Option Bool:=if decide (an.fC<0) then au6 au7 else if decide (16<=an.fC) then au6 au7 else if decide (an.block<0) then au6 au7 else if decide (32<=an.block) then au6 au7 else if decide (an.round<0) then au6 au7 else if decide (13<=an.round) then au6 au7 else if decide (an.length<1) then au6 au7 else au6 (decide (400<an.length))
def JF (N:Nat) (J:cV) (ak:Int) (an:e3):Option Bool:=if decide (0<ak) then au' (aD J.items (avc .i64 (ak - 1))) fun bk=>au6 (decide (an.round<bk.round)) else au6 ava
def AK (N:Nat) (J:cV):Nat->Int->Option (Sum (Unit) (Int))|0,_=>au8|n+1,ak=>if decide (ak<(J.items.length:Int)) then au' (aD J.items ak) fun a2=>au' (JE N a2) fun a6=>if a6 then au6 (avg 2) else au' (JF N J ak a2) fun bq=>if bq then au6 (avg 12) else av.lt (avc .i64 (ak+1)) fun bx=>AK N J n bx else au6 (avh ())
def Lx (N:Nat) (x0:cV):Option Int:=if decide (96<(x0.items.length:Int)) then au6 3 else au' (H9 N x0) fun aR=>if aR then au6 2 else au' (AK N x0 N 0) fun bM=>match bM with|avh b1=>au6 0|avg cg=>au6 cg
def Js (N:Nat) (aB:e3) (aG:e3):Option Bool:=if aB.fC !=aG.fC then au6 au7 else av.lt (decide (aG.block<=aB.block)) fun a6=>au6 a6
def tM (N:Nat) (x0:cV) (J:Int) (al:Int):Option Int:=au' (aD x0.items J) fun aR=>au' (aD x0.items al) fun a2=>au' (Js N aR a2) fun bk=>if bk then au6 0 else av.lt (decide (al<J)) fun bq=>if bq then au6 2 else au6 1
def vW (N:Nat) (x0:cV) (J:Int) (al:Int):Option Int:=au' (tM N x0 J al) fun aR=>av.lt (avc .i64 (av6 aR 2)) fun a2=>au6 a2
def Jr (N:Nat) (J:List Int) (al:Int) (ak:cV) (aB:Int) (aG:Int):Option Int:=au' (tM N ak aG al) fun aR=>if decide (0<aR) then au' (aD J aG) fun a2=>au' (vW N ak aG al) fun a6=>av.lt (max aB (avc .i64 (a2+a6))) fun bk=>au6 bk else au6 aB
def B3 (N:Nat) (J:List Int) (al:Int) (ak:cV):Nat->Int->Int->Option Int|0,_,_=>au8|n+1,aB,aG=>if decide (aG<(ak.items.length:Int)) then au' (Jr N J al ak aB aG) fun bq=>av.lt (avc .i64 (aG+1)) fun bx=>B3 N J al ak n bq bx else au6 aB
def x1 (N:Nat) (x0:cV) (J:List Int) (al:Int):Option Int:=au' (B3 N J al x0 N 0 0) fun bM=>au6 bM
def Ju (N:Nat) (x0:Int) (J:Int):Option Bool:=if decide (0<=x0) then if decide (x0<13) then if decide (0<=J) then av.lt (decide (J<=12)) fun aR=>au6 aR else au6 ava else au6 ava else au6 ava
def Dz (N:Nat) (x0:Int) (J:Int):Option Bool:=au' (Ju N x0 J) fun a2=>au6 a2
def J9 (N:Nat) (x0:Int) (J:Int) (al:Int):Option Bool:=au' (Dz N J al) fun aR=>if !aR then au6 au7 else if decide (x0<0) then au6 au7 else if decide (4096<=x0) then au6 au7 else au' (n8 .i64 J) fun a2=>au' (oJ x0 (avc .i64 (1*((2 ^ a2:Nat):Int)))) fun a6=>au' (n8 .i64 J) fun bk=>au6 (a6 !=(avc .i64 ((avc .i64 (1*((2 ^ bk:Nat):Int))) - 1)))
def CL (N:Nat):Nat->Int->Int->Option Int|0,_,_=>au8|n+1,aB,aG=>if decide (0<aG) then av.lt (avc .i64 (aB+(avW aG 2))) fun b1=>av.lt (avc .i64 (av6 aG 2)) fun cg=>CL N n b1 cg else au6 aB
def L2 (N:Nat) (x0:Int) (J:Int) (al:Int):Option Bool:=au' (J9 N x0 J al) fun bq=>if bq then au6 ava else au' (n8 .i64 J) fun bx=>av.lt (Int.fdiv x0 ((2 ^ bx:Nat):Int)) fun bM=>au' (CL N N 0 bM) fun ca=>av.lt (decide (ca<=al)) fun cx=>au6 cx
def Jt (N:Nat) (x0:Int) (J:Int) (al:Int):Option Bool:=au' (Dz N J al) fun aR=>if !aR then au6 au7 else au6 (decide (x0<0))
def B5 (N:Nat) (J:Int) (al:Int):Nat->Int->Option (Sum (Unit) (Int×Int))|0,_=>au8|n+1,aG=>if decide (aG<4096) then au' (L2 N aG J al) fun a6=>if a6 then au6 (avg (aG,0)) else av.lt (avc .i64 (aG+1)) fun bk=>B5 N J al n bk else au6 (avh ())
def LP (N:Nat) (x0:Int) (J:Int) (al:Int):Option (Int×Int):=au' (Jt N x0 J al) fun a2=>if a2 then au6 (0,2) else au' (B5 N J al N x0) fun bq=>match bq with|avh bx=>au6 (0,15)|avg bM=>au6 (bM.1,bM.2)
def B4 (N:Nat):Nat->Int->Int->Option Int|0,_,_=>au8|n+1,x0,ak=>if decide (0<x0) then av.lt (avc .i64 (ak+1)) fun aR=>av.lt (avc .i64 (av6 x0 2)) fun a2=>B4 N n a2 aR else au6 ak
def LO (N:Nat) (x0:Int):Option Int:=au' (B4 N N x0 0) fun a6=>au6 a6
def JG (N:Nat) (J:cV) (al:e4) (ah:List Int) (ax:Int) (aB:Int) (aG:Int):Option (Sum (e4×List Int×Int) (e4×Int)):=au' (aD J.items aG) fun a6=>if a6.block !=aB then au6 (avh (al,ah,ax)) else au' (x1 N J ah aG) fun bk=>au' (aD J.items aG) fun bq=>au' (LP N bk bq.round J.cE) fun bx=>if bx.2 !=0 then au6 (avg ((e4.mk 0 []),bx.2)) else au' (aD ah aG) fun bM=>au' (aD ah aG) fun b1=>av.lt (ah.set ((aG:Int).toNat) bx.1) fun cg=>av.lt (max ax bx.1) fun ca=>au6 (avh (al,cg,ca))
def AM (N:Nat) (J:cV) (aB:Int):Nat->e4->(List Int)->Int->Int->Option (Sum (e4×List Int×Int) (e4×Int))|0,_,_,_,_=>au8|n+1,al,ah,ax,aG=>if decide (aG<(ah.length:Int)) then au' (JG N J al ah ax aB aG) fun cx=>match cx with|avh cK=>av.lt (avc .i64 (aG+1)) fun dd=>AM N J aB n cK.1 cK.2.1 cK.2.2 dd|avg dg=>au6 (avg (dg.1,dg.2)) else au6 (avh (al,ah,ax))
def AL (N:Nat) (J:cV):Nat->e4->(List Int)->Int->Int->Option (Sum (e4×List Int×Int) (e4×Int))|0,_,_,_,_=>au8|n+1,al,ah,ax,aB=>if decide (aB<32) then au' (AM N J aB N al ah ax 0) fun dm=>match dm with|avh dv=>av.lt (avc .i64 (aB+1)) fun c0=>AL N J n dv.1 dv.2.1 dv.2.2 c0|avg cy=>au6 (avg (cy.1,cy.2)) else au6 (avh (al,ah,ax))
def Dt (N:Nat) (x0:cV):Option (e4×Int):=au' (Lx N x0) fun aR=>if aR !=0 then au6 ((e4.mk 0 []),aR) else au' (iG 0 (x0.items.length:Int)) fun a2=>au' (AL N x0 N (e4.mk 0 []) a2 0 0) fun dR=>match dR with|avh eI=>au' (LO N eI.2.2) fun fl=>au6 ((e4.mk fl eI.2.1),0)|avg dT=>au6 (dT.1,dT.2)
def Jp (N:Nat) (J:List Int) (ah:Int) (ax:Int):Option Int:=au' (aD J ax) fun aR=>au' (aD J ah) fun a2=>if decide (a2<aR) then au6 ax else au6 ah
def B0 (N:Nat) (J:List Int):Nat->Int->Int->Option Int|0,_,_=>au8|n+1,ah,ax=>if decide (ax<(J.length:Int)) then au' (Jp N J ah ax) fun a6=>av.lt (avc .i64 (ax+1)) fun bk=>B0 N J n a6 bk else au6 ah
def Jq (N:Nat) (J:List Int) (al:cV) (ah:Int) (aG:Int) (a3:Int):Option Bool:=au' (tM N al a3 ah) fun bM=>if bM==0 then au6 au7 else au' (aD J a3) fun b1=>au' (vW N al a3 ah) fun cg=>au6 ((avc .i64 (b1+cg)) !=aG)
def B2 (N:Nat) (J:List Int) (al:cV) (ah:Int) (aG:Int):Nat->Int->Option Int|0,_=>au8|n+1,a3=>au' (Jq N J al ah aG a3) fun ca=>if ca then av.lt (avc .i64 (a3+1)) fun cx=>B2 N J al ah aG n cx else au6 a3
def B1 (N:Nat) (J:List Int) (al:cV):Nat->Int->(List Int)->Int->Option (List Int)|0,_,_,_=>au8|n+1,ah,aB,aG=>if decide (0<aG) then au' (B2 N J al ah aG N 0) fun cK=>au' (ck ([cK]:List Int) aB) fun dd=>au' (x1 N al J cK) fun dg=>B1 N J al n cK dd dg else au6 aB
def LN (N:Nat) (x0:cV) (J:List Int):Option (List Int):=if (J.length:Int)==0 then au6 [] else au' (B0 N J N 0 0) fun bq=>au' (x1 N x0 J bq) fun bx=>au' (B1 N J x0 N bq ([bq]:List Int) bx) fun dm=>au6 dm
def K9 (N:Nat) (x0:cV):Option (List Int×Int):=au' (Dt N x0) fun aR=>if aR.2 !=0 then au6 ([],aR.2) else au' (LN N x0 aR.1.hV) fun a2=>au6 (a2,0)
def DA (N:Nat) (x0:cV):Option (g7×Int):=au' (Dt N x0) fun aR=>if aR.2 !=0 then au6 ((g7.mk (e4.mk 0 []) []),aR.2) else au' (K9 N x0) fun a2=>au6 ((g7.mk aR.1 a2.1),0)
def Cf (N:Nat) (J:List Int) (al:bN):Nat->Int->Int->Option Int|0,_,_=>au8|n+1,ah,ax=>if decide (ax<(J.length:Int)) then au' (aD J ax) fun aR=>au' (aD al.cv aR) fun a2=>av.lt (avc .i64 (ah+a2.length)) fun a6=>av.lt (avc .i64 (ax+1)) fun bk=>Cf N J al n a6 bk else au6 ah
def DD (N:Nat) (x0:bN) (J:List Int):Option Int:=au' (Cf N J x0 N 0 0) fun bq=>au6 bq
def I5 (N:Nat) (aG:cV) (a3:e4) (de:Int) (cD:Int) (cI:Int):Option Int:=au' (aD a3.hV cI) fun aR=>au' (n8 .i64 (avc .u64 de)) fun a2=>if (lg .and .i64 (Int.fdiv aR ((2 ^ a2:Nat):Int)) 1)==1 then au' (aD aG.items cI) fun a6=>av.lt (avc .i64 (cD+a6.length)) fun bk=>au6 bk else au6 cD
def Ch (N:Nat) (aG:cV) (a3:e4) (de:Int):Nat->Int->Int->Option Int|0,_,_=>au8|n+1,cD,cI=>if decide (cI<(aG.items.length:Int)) then au' (I5 N aG a3 de cD cI) fun bq=>av.lt (avc .i64 (cI+1)) fun bx=>Ch N aG a3 de n bq bx else au6 cD
def Cg (N:Nat) (an:List Int) (ax:dx) (aG:cV) (a3:e4):Nat->Int->Option (Sum (Unit) (Bool))|0,_=>au8|n+1,de=>if decide (de<a3.steps) then au' (Ch N aG a3 de N 0 0) fun bM=>au' (aD an de) fun b1=>au' (aD ax.aP b1) fun cg=>if decide (cg.length<bM) then au6 (avg ava) else av.lt (avc .i64 (de+1)) fun ca=>Cg N an ax aG a3 n ca else au6 (avh ())
def I6 (N:Nat) (aG:cV) (dt:Int) (fk:Int) (ff:Int):Option Int:=au' (aD aG.items ff) fun dv=>if dv.fC==dt then au' (aD aG.items ff) fun c0=>av.lt (avc .i64 (fk+c0.length)) fun cy=>au6 cy else au6 fk
def BJ (N:Nat) (aG:cV) (dt:Int):Nat->Int->Int->Option Int|0,_,_=>au8|n+1,fk,ff=>if decide (ff<(aG.items.length:Int)) then au' (I6 N aG dt fk ff) fun dR=>av.lt (avc .i64 (ff+1)) fun eI=>BJ N aG dt n dR eI else au6 fk
def Ci (N:Nat) (ah:List (List Int)) (ax:dx) (aB:bN) (aG:cV):Nat->Int->Option (Sum (Unit) (Bool))|0,_=>au8|n+1,dt=>if decide (dt<(aB.cH.length:Int)) then au' (aD aB.cH dt) fun dd=>au' (aD ah dd.bC) fun dg=>au' (DD N aB dg) fun dm=>au' (BJ N aG dt N dm 0) fun fl=>au' (aD aB.cH dt) fun dT=>au' (aD ax.aP dT.bC) fun e1=>if decide (e1.length<fl) then au6 (avg ava) else av.lt (avc .i64 (dt+1)) fun fP=>Ci N ah ax aB aG n fP else au6 (avh ())
def DE (N:Nat) (x0:dx) (J:bN) (al:cV) (ak:e4) (an:List Int) (ah:List (List Int)):Option Bool:=if decide ((an.length:Int)<ak.steps) then au6 ava else au' (Cg N an x0 al ak N 0) fun cx=>match cx with|avh cK=>(au' (Ci N ah x0 J al N 0) fun fs=>match fs with|avh fQ=>au6 au7|avg fX=>au6 fX)|avg gO=>au6 gO
def Di (N:Nat) (x0:bw) (J:List Int) (al:cV) (ak:g7):Option (List Int×List Int×List Int×bw):=au' (ho x0.e.aP 0 ak.fJ.steps) fun aR=>au' (ck ([]:List Int) aR) fun a2=>au' (ck ([]:List Int) ak.fJ.hV) fun a6=>au' (ck ([]:List Int) ak.chain) fun bk=>au6 (a2,a6,bk,(bw.mk x0.c (bN.mk x0.y.cv x0.y.aP x0.y.cH au7 (gi.mk J al ak x0.e.bC [] 0) ava) x0.e (ef.mk x0.r.err x0.r.vJ (g7.mk (e4.mk ak.fJ.steps []) []) x0.r.gk x0.r.final x0.r.ey x0.r.place)))
def Ib (N:Nat) (x0:bw) (ak:Bool) (an:Int):Option Bool:=if ak then au' (aD x0.e.aP an) fun a6=>au' (aD x0.y.aP a6) fun bk=>av.lt ((bk.length:Int)==0) fun bq=>au6 bq else au6 ava
def BG (N:Nat) (x0:bw):Nat->Bool->Int->Option Bool|0,_,_=>au8|n+1,ak,an=>if decide (an<(x0.e.aP.length:Int)) then au' (Ib N x0 ak an) fun bx=>av.lt (avc .i64 (an+1)) fun bM=>BG N x0 n bx bM else au6 ak
def BH (N:Nat) (x0:bw) (ah:List Int):Nat->cV->Int->(List e3)->Option (Sum (cV×List e3) (Int))|0,_,_,_=>au8|n+1,ax,aB,j1=>if decide (aB<(ah.length:Int)) then au' (aD ah aB) fun cx=>au' (aD ah aB) fun cK=>au' (aD x0.y.cv cK) fun dd=>au' (x4 N x0.y.cH dd) fun dg=>au' (ck j1 ([dg]:List e3)) fun dm=>au' (aD dm aB) fun dv=>au' (aD dm aB) fun c0=>if decide (c0.fC<0) then au6 (avg 13) else av.lt (avc .i64 (aB+1)) fun cy=>BH N x0 ah n (cV.mk [] ax.cE) cy dm else au6 (avh ((cV.mk [] ax.cE),j1))
def Ic (N:Nat) (x0:bw) (aG:Int) (a3:List Int) (aV:Int) (j1:List e3):Option Bool:=if decide (0<aV) then au' (aD a3 (avc .i64 (aV - 1))) fun fQ=>au' (aD x0.y.cv fQ) fun fX=>au' (x4 N x0.y.cH fX) fun gO=>au' (aD j1 aG) fun gf=>au' (aD j1 aG) fun hH=>au6 (decide (hH.block<gO.block)) else au6 ava
def BI (N:Nat) (x0:bw) (ah:List Int) (j1:List e3):Nat->Int->Option (Sum (Unit) (Int))|0,_=>au8|n+1,aG=>if decide (aG<(ah.length:Int)) then au' (aD j1 aG) fun fl=>au' (aD j1 aG) fun dT=>au' (aD x0.y.cH dT.fC) fun e1=>au' (aD x0.y.aP e1.bC) fun fP=>av.lt (fP.length:Int) fun fs=>au' (Ic N x0 aG fP fs j1) fun gP=>if gP then au6 (avg 12) else av.lt (avc .i64 (aG+1)) fun jc=>BI N x0 ah j1 n jc else au6 (avh ())
def Lg (N:Nat) (x0:bw):Option (Int×bw):=if x0.y.busy then au6 (25,x0) else au' (K1 N x0) fun aR=>if !aR then au6 (2,x0) else au' (Ls N x0) fun a2=>au' (BG N x0 N a2 0) fun b1=>if !b1 then au6 (17,x0) else au' (aD x0.y.aP x0.e.bC) fun cg=>au' (ck ([]:List Int) cg) fun ca=>au' (BH N x0 ca N (cV.mk [] x0.e.cE) 0 []) fun dR=>match dR with|avh eI=>(if (ca.length:Int)==0 then au6 (13,x0) else au' (BI N x0 ca eI.2 N 0) fun iD=>match iD with|avh jq=>au' (DA N (cV.mk eI.2 eI.1.cE)) fun hI=>if hI.2 !=0 then au6 (hI.2,x0) else au' (DE N x0.c x0.y (cV.mk eI.2 eI.1.cE) hI.1.fJ x0.e.aP x0.y.aP) fun jd=>if !jd then au6 (14,x0) else au' (Di N x0 ca (cV.mk eI.2 eI.1.cE) hI.1) fun gg=>au6 (0,(bw.mk gg.2.2.2.c (bN.mk gg.2.2.2.y.cv gg.2.2.2.y.aP gg.2.2.2.y.cH gg.2.2.2.y.busy (gi.mk gg.2.2.2.y.bJ.cv gg.2.2.2.y.bJ.ir gg.2.2.2.y.bJ.proof gg.2.2.2.y.bJ.lead gg.1 gg.2.2.2.y.bJ.iW) gg.2.2.2.y.dF) gg.2.2.2.e (ef.mk gg.2.2.2.r.err gg.2.2.2.r.vJ (g7.mk (e4.mk gg.2.2.2.r.proof.fJ.steps gg.2.1) gg.2.2.1) gg.2.2.2.r.gk gg.2.2.2.r.final gg.2.2.2.r.ey gg.2.2.2.r.place)))|avg j4=>au6 (j4,x0))|avg jA=>au6 (jA,x0)
def KT (N:Nat) (x0:bw) (J:Int) (al:Int) (cr:List dj):Option (Bool×List dj×bw):=au' (pV N x0.y.aP J) fun aR=>au' (tK N x0.y.cv) fun a2=>au' (tL N x0.c.aP a2 x0.y.aP (dj.mk J aR.1 al ava)) fun a6=>if a6.2 !=0 then au6 (ava,cr,(fR x0)) else au' (ck cr ([(dj.mk J aR.1 al ava)]:List dj)) fun bk=>au6 (au7,bk,(bw.mk x0.c (bN.mk x0.y.cv a6.1 x0.y.cH x0.y.busy x0.y.bJ x0.y.dF) x0.e (ef.mk x0.r.err [] x0.r.proof x0.r.gk x0.r.final x0.r.ey x0.r.place)))
def KO (N:Nat) (x0:bw):Option bw:=au6 (bw.mk x0.c (bN.mk x0.y.cv x0.y.aP x0.y.cH ava (gi.mk [] (cV.mk [] 0) (g7.mk (e4.mk 0 []) []) 0 [] 0) ava) x0.e x0.r)
def Ie (N:Nat) (x0:bw) (an:List Int) (aG:er):Option Bool:=if decide (aG.place<0) then au6 au7 else if decide ((an.length:Int)<=aG.place) then au6 au7 else au' (pW N x0.c aG.bC) fun cg=>au6 (!cg)
def AT (N:Nat) (x0:bw) (an:List Int):Nat->Int->Option (Sum (Unit) (Int))|0,_=>au8|n+1,aB=>if decide (aB<(x0.e.cQ.length:Int)) then au' (aD x0.e.cQ aB) fun b1=>au' (Ie N (fR x0) an b1) fun ca=>if ca then au6 (avg 2) else av.lt (avc .i64 (aB+1)) fun cx=>AT N x0 an n cx else au6 (avh ())
def AV (N:Nat) (x0:bw) (a3:Int):Nat->Int->Option (Sum (Unit) (Int))|0,_=>au8|n+1,aV=>if decide (aV<a3) then au' (aD x0.e.cQ aV) fun dg=>au' (aD x0.e.cQ a3) fun dm=>if dg.place==dm.place then au6 (avg 8) else av.lt (avc .i64 (aV+1)) fun dv=>AV N x0 a3 n dv else au6 (avh ())
def AU (N:Nat) (x0:bw):Nat->Int->Option (Sum (Unit) (Int))|0,_=>au8|n+1,a3=>if decide (a3<(x0.e.cQ.length:Int)) then au' (AV N (fR x0) a3 N 0) fun c0=>match c0 with|avh cy=>av.lt (avc .i64 (a3+1)) fun dR=>AU N x0 n dR|avg eI=>au6 (avg eI) else au6 (avh ())
def AW (N:Nat) (x0:bw) (ak:Int):Nat->(List Int)->Int->Option (Sum (List Int) (Int))|0,_,_=>au8|n+1,ax,bc=>if decide (bc<(x0.e.cQ.length:Int)) then au' (aD x0.e.cQ bc) fun e1=>if e1.bC==ak then au6 (avg 17) else au' (aD x0.e.cQ bc) fun fP=>au' (aD x0.e.cQ bc) fun fs=>au' (aD ax fP.place) fun fQ=>au' (aD ax fP.place) fun fX=>av.lt (ax.set ((fP.place:Int).toNat) fs.bC) fun gO=>av.lt (avc .i64 (bc+1)) fun gf=>AW N x0 ak n gO gf else au6 (avh ax)
def Ig (N:Nat) (x0:bw) (ah:List Int) (ax:List Int) (a9:Int):Option bw:=if x0.y.dF then au6 (bw.mk x0.c (bN.mk x0.y.cv x0.y.aP x0.y.cH x0.y.busy x0.y.bJ au7) x0.e (ef.mk x0.r.err [] x0.r.proof x0.r.gk x0.r.final x0.r.ey x0.r.place)) else au' (aD ax a9) fun jd=>au' (aD ax a9) fun gg=>au' (aD ah a9) fun j4=>au' (aD ah a9) fun jA=>au6 (bw.mk x0.c (bN.mk x0.y.cv x0.y.aP x0.y.cH x0.y.busy x0.y.bJ (gg !=jA)) x0.e (ef.mk x0.r.err [] x0.r.proof x0.r.gk x0.r.final x0.r.ey x0.r.place))
def AX (N:Nat) (an:List Int) (ah:List Int) (ax:List Int):Nat->bw->Int->(List dj)->Option (Sum (bw×List dj) (bw×Int×List dj))|0,_,_,_=>au8|n+1,x0,a9,cr=>if decide (a9<(an.length:Int)) then au' (aD an a9) fun jc=>au' (aD ax a9) fun iD=>au' (aD ax a9) fun jq=>au' (KT N (fR x0) jc jq cr) fun hI=>if !hI.1 then au6 (avg ((fR hI.2.2),14,hI.2.1)) else au' (Ig N (fR hI.2.2) ah ax a9) fun mu=>av.lt (avc .i64 (a9+1)) fun h4=>AX N an ah ax n (fR mu) h4 hI.2.1 else au6 (avh ((fR x0),cr))
def Ih (N:Nat) (x0:bw):Option Bool:=if !x0.y.dF then au6 (decide (x0.y.bJ.proof.fJ.steps<x0.y.bJ.iW)) else au6 ava
def Ii (N:Nat) (x0:bw) (C2:Bool) (cr:List dj):Option bw:=if C2 then au' (KO N (bw.mk x0.c x0.y x0.e (ef.mk x0.r.err cr x0.r.proof x0.r.gk x0.r.final x0.r.ey x0.r.place))) fun oc=>au6 oc else au6 (bw.mk x0.c x0.y x0.e (ef.mk x0.r.err cr x0.r.proof x0.r.gk x0.r.final x0.r.ey x0.r.place))
def Lh (N:Nat) (x0:bw) (cr:List dj):Option (Int×bw):=av.lt (!x0.y.busy) fun aR=>if aR then au6 (16,(bw.mk x0.c x0.y x0.e (ef.mk x0.r.err cr x0.r.proof x0.r.gk x0.r.final x0.r.ey x0.r.place))) else if x0.y.dF then au6 (25,(bw.mk x0.c x0.y x0.e (ef.mk x0.r.err cr x0.r.proof x0.r.gk x0.r.final x0.r.ey x0.r.place))) else av.lt (decide (16<(x0.e.cQ.length:Int))) fun a2=>if a2 then au6 (3,(bw.mk x0.c x0.y x0.e (ef.mk x0.r.err cr x0.r.proof x0.r.gk x0.r.final x0.r.ey x0.r.place))) else au' (Dp N x0.y) fun a6=>au' (aD x0.y.aP a6) fun bk=>au' (ck ([]:List Int) bk) fun bq=>au' (Dk N x0.y bq) fun bx=>au' (ck ([]:List Int) bx) fun bM=>au' (AT N (fR x0) bq N 0) fun cK=>match cK with|avh dd=>(au' (AU N (fR x0) N 0) fun fl=>match fl with|avh dT=>(au' (AW N (fR x0) a6 N bM 0) fun hH=>match hH with|avh gP=>(au' (AX N bq bx gP N (fR x0) 0 cr) fun ll=>match ll with|avh fg=>au' (Ih N (bw.mk fg.1.c (bN.mk fg.1.y.cv fg.1.y.aP fg.1.y.cH fg.1.y.busy (gi.mk fg.1.y.bJ.cv fg.1.y.bJ.ir fg.1.y.bJ.proof fg.1.y.bJ.lead fg.1.y.bJ.aP (avc .i64 (fg.1.y.bJ.iW+1))) fg.1.y.dF) fg.1.e (ef.mk fg.1.r.err [] fg.1.r.proof fg.1.r.gk fg.1.r.final fg.1.r.ey fg.1.r.place))) fun ln=>au' (Ii N (bw.mk fg.1.c (bN.mk fg.1.y.cv fg.1.y.aP fg.1.y.cH fg.1.y.busy (gi.mk fg.1.y.bJ.cv fg.1.y.bJ.ir fg.1.y.bJ.proof fg.1.y.bJ.lead fg.1.y.bJ.aP (avc .i64 (fg.1.y.bJ.iW+1))) fg.1.y.dF) fg.1.e (ef.mk fg.1.r.err [] fg.1.r.proof fg.1.r.gk fg.1.r.final fg.1.r.ey fg.1.r.place)) ln fg.2) fun qR=>au6 (0,qR)|avg lo=>au6 (lo.2.1,(bw.mk lo.1.c lo.1.y lo.1.e (ef.mk lo.1.r.err lo.2.2 lo.1.r.proof lo.1.r.gk lo.1.r.final lo.1.r.ey lo.1.r.place))))|avg r9=>au6 (r9,(bw.mk x0.c x0.y x0.e (ef.mk x0.r.err cr x0.r.proof x0.r.gk x0.r.final x0.r.ey x0.r.place))))|avg vQ=>au6 (vQ,(bw.mk x0.c x0.y x0.e (ef.mk x0.r.err cr x0.r.proof x0.r.gk x0.r.final x0.r.ey x0.r.place))))|avg sa=>au6 (sa,(bw.mk x0.c x0.y x0.e (ef.mk x0.r.err cr x0.r.proof x0.r.gk x0.r.final x0.r.ey x0.r.place)))
def Hi (N:Nat) (x0:bw):Option Bool:=au' (pW N x0.c x0.e.bC) fun aR=>if aR then if decide (0<=x0.e.cE) then av.lt (decide (x0.e.cE<=12)) fun a2=>au6 a2 else au6 ava else au6 ava
def Hj (N:Nat) (x0:bw) (ak:Bool) (an:Int):Option Bool:=if ak then au' (aD x0.e.aP an) fun bk=>au' (pW N x0.c bk) fun bq=>au6 bq else au6 ava
def Bj (N:Nat) (x0:bw):Nat->Bool->Int->Option Bool|0,_,_=>au8|n+1,ak,an=>if decide (an<(x0.e.aP.length:Int)) then au' (Hj N x0 ak an) fun bx=>av.lt (avc .i64 (an+1)) fun bM=>Bj N x0 n bx bM else au6 ak
def KP (N:Nat) (x0:bw):Option Bool:=au' (Hi N x0) fun a6=>au' (Bj N x0 N a6 0) fun b1=>au6 b1
def I1 (N:Nat) (x0:bw) (ak:Bool) (an:Int):Option Bool:=if ak then au' (aD x0.e.aP an) fun a6=>if a6 !=x0.e.bC then au' (ho x0.e.aP 0 an) fun bk=>au' (aD x0.e.aP an) fun bq=>au' (tN N bk bq) fun bx=>if !bx then au' (aD x0.e.aP an) fun bM=>au' (qT N x0.y bM) fun b1=>av.lt (!b1) fun cg=>au6 cg else au6 ava else au6 ava else au6 ava
def BE (N:Nat) (x0:bw):Nat->Bool->Int->Option Bool|0,_,_=>au8|n+1,ak,an=>if decide (an<(x0.e.aP.length:Int)) then au' (I1 N x0 ak an) fun ca=>av.lt (avc .i64 (an+1)) fun cx=>BE N x0 n ca cx else au6 ak
def Ld (N:Nat) (x0:bw):Option Bool:=au' (qT N x0.y x0.e.bC) fun aR=>av.lt (!aR) fun a2=>au' (BE N x0 N a2 0) fun cK=>au6 cK
def BW (N:Nat) (x0:List Int) (J:Int):Nat->Int->Option (Sum (Unit) (Int))|0,_=>au8|n+1,ah=>if decide (ah<(x0.length:Int)) then au' (aD x0 ah) fun aR=>if aR==J then au6 (avg ah) else av.lt (avc .i64 (ah+1)) fun a2=>BW N x0 J n a2 else au6 (avh ())
def LJ (N:Nat) (x0:List Int) (J:Int):Option Int:=au' (BW N x0 J N 0) fun a6=>match a6 with|avh bk=>au6 (-1)|avg bq=>au6 bq
def JA (N:Nat) (al:List bX) (de:Int) (cI:Bool) (dt:Int):Option Bool:=if cI then au6 au7 else au' (aD al dt) fun a6=>av.lt (de==a6.bC) fun bk=>au6 bk
def Cb (N:Nat) (al:List bX) (de:Int):Nat->Bool->Int->Option Bool|0,_,_=>au8|n+1,cI,dt=>if decide (dt<(al.length:Int)) then au' (JA N al de cI dt) fun bq=>av.lt (avc .i64 (dt+1)) fun bx=>Cb N al de n bq bx else au6 cI
def JB (N:Nat) (de:Int) (cI:Bool):Option Bool:=if decide (0<=de) then au6 cI else au6 ava
def Jz (N:Nat) (x0:List cb) (J:List (List Int)) (al:List bX) (ak:List Int) (bc:List Int) (a9:Int) (oZ:List e3):Option (cS×List Int×List e3):=au' (pV N J a9) fun aR=>au' (tN N ak a9) fun a2=>au' (Cb N al aR.1 N a2 0) fun bM=>au' (JB N aR.1 bM) fun b1=>if b1 then au' (ck bc ([a9]:List Int)) fun cg=>au' (aD x0 a9) fun ca=>au' (x4 N al ca) fun cx=>au' (ck oZ ([cx]:List e3)) fun cK=>au6 ((cS.mk [] [] []),cg,cK) else au6 ((cS.mk [] [] []),bc,oZ)
def Ca (N:Nat) (x0:List cb) (J:List (List Int)) (al:List bX) (ak:List Int):Nat->cS->(List Int)->Int->(List e3)->Option (cS×List Int×List e3)|0,_,_,_,_=>au8|n+1,aV,bc,a9,oZ=>if decide (a9<(x0.length:Int)) then au' (Jz N x0 J al ak bc a9 oZ) fun dd=>av.lt (avc .i64 (a9+1)) fun dg=>Ca N x0 J al ak n (cS.mk [] [] []) dd.2.1 dg dd.2.2 else au6 ((cS.mk [] [] []),bc,oZ)
def Cc (N:Nat) (al:List bX):Nat->cS->Int->(List Int)->Option (cS×List Int)|0,_,_,_=>au8|n+1,aV,fk,xO=>if decide (fk<(al.length:Int)) then au' (aD al fk) fun dv=>au' (ck xO ([dv.bC]:List Int)) fun c0=>av.lt (avc .i64 (fk+1)) fun cy=>Cc N al n (cS.mk [] [] []) cy c0 else au6 ((cS.mk [] [] []),xO)
def JC (N:Nat) (J:List (List Int)) (bc:List Int) (ff:Int) (eT:List Int) (kL:Int):Option (List Int):=au' (aD J ff) fun fl=>au' (aD fl kL) fun dT=>au' (LJ N bc dT) fun e1=>if decide (0<=e1) then au' (ck eT ([e1]:List Int)) fun fP=>au6 fP else au6 eT
def Ce (N:Nat) (J:List (List Int)) (bc:List Int) (ff:Int):Nat->(List Int)->Int->Option (List Int)|0,_,_=>au8|n+1,eT,kL=>au' (aD J ff) fun eI=>if decide (kL<(eI.length:Int)) then au' (JC N J bc ff eT kL) fun fs=>av.lt (avc .i64 (kL+1)) fun fQ=>Ce N J bc ff n fs fQ else au6 eT
def Cd (N:Nat) (J:List (List Int)) (bc:List Int):Nat->cS->Int->(List (List Int))->Option (cS×List (List Int))|0,_,_,_=>au8|n+1,aV,ff,vP=>if decide (ff<(J.length:Int)) then au' (Ce N J bc ff N ([]:List Int) 0) fun fX=>au' (ck vP ([fX]:List (List Int))) fun gO=>av.lt (avc .i64 (ff+1)) fun gf=>Cd N J bc n (cS.mk [] [] []) gf gO else au6 ((cS.mk [] [] []),vP)
def LU (N:Nat) (x0:List cb) (J:List (List Int)) (al:List bX) (ak:List Int):Option (cS×List Int):=au' (Ca N x0 J al ak N (cS.mk [] [] []) [] 0 []) fun dm=>au' (Cc N al N (cS.mk [] [] []) 0 []) fun dR=>au' (Cd N J dm.2.1 N (cS.mk [] [] []) 0 []) fun hH=>au6 ((cS.mk dm.2.2 dR.2 hH.2),dm.2.1)
def JK (N:Nat) (J:cS):Option Bool:=if decide (96<(J.items.length:Int)) then au6 au7 else if decide (16<(J.homes.length:Int)) then au6 au7 else au6 (decide (24<(J.aP.length:Int)))
def JL (N:Nat) (J:cS) (an:e3):Option Bool:=if decide (an.fC<0) then au6 au7 else if decide ((J.homes.length:Int)<=an.fC) then au6 au7 else if decide (an.block<0) then au6 au7 else if decide (32<=an.block) then au6 au7 else if an.round !=0 then au6 au7 else if decide (an.length<1) then au6 au7 else au6 (decide (400<an.length))
def AR (N:Nat) (J:cS):Nat->Int->Option (Sum (Unit) (Bool))|0,_=>au8|n+1,ak=>if decide (ak<(J.items.length:Int)) then au' (aD J.items ak) fun a2=>au' (JL N J a2) fun a6=>if a6 then au6 (avg ava) else av.lt (avc .i64 (ak+1)) fun bk=>AR N J n bk else au6 (avh ())
def JM (N:Nat) (J:cS) (ah:Int):Option Bool:=au' (aD J.homes ah) fun bM=>if decide (bM<0) then au6 au7 else au' (aD J.homes ah) fun b1=>au6 (decide ((J.aP.length:Int)<=b1))
def Cj (N:Nat) (J:cS) (ah:Int):Nat->Int->Option (Sum (Unit) (Bool))|0,_=>au8|n+1,ax=>if decide (ax<ah) then au' (aD J.homes ax) fun ca=>au' (aD J.homes ah) fun cx=>if ca==cx then au6 (avg ava) else av.lt (avc .i64 (ax+1)) fun cK=>Cj N J ah n cK else au6 (avh ())
def AS (N:Nat) (J:cS):Nat->Int->Option (Sum (Unit) (Bool))|0,_=>au8|n+1,ah=>if decide (ah<(J.homes.length:Int)) then au' (JM N J ah) fun cg=>if cg then au6 (avg ava) else au' (Cj N J ah N 0) fun dd=>match dd with|avh dg=>av.lt (avc .i64 (ah+1)) fun dm=>AS N J n dm|avg dv=>au6 (avg dv) else au6 (avh ())
def JN (N:Nat) (aB:List Int) (aV:Int):Option Bool:=if decide (aV<0) then au6 au7 else au6 (decide ((aB.length:Int)<=aV))
def Cl (N:Nat) (J:cS) (aG:Int):Nat->(List Int)->Int->Option (Sum (List Int) (Bool))|0,_,_=>au8|n+1,aB,a3=>au' (aD J.aP aG) fun eI=>if decide (a3<(eI.length:Int)) then au' (aD J.aP aG) fun fl=>au' (aD fl a3) fun dT=>au' (JN N aB dT) fun e1=>if e1 then au6 (avg ava) else au' (aD aB dT) fun fP=>au' (aD aB dT) fun fs=>au' (aD aB dT) fun fQ=>au' (aD aB dT) fun fX=>av.lt (aB.set ((dT:Int).toNat) (avc .i64 (fs+1))) fun gO=>av.lt (avc .i64 (a3+1)) fun gf=>Cl N J aG n gO gf else au6 (avh aB)
def Ck (N:Nat) (J:cS):Nat->(List Int)->Int->Option (Sum (List Int) (Bool))|0,_,_=>au8|n+1,aB,aG=>if decide (aG<(J.aP.length:Int)) then au' (Cl N J aG N aB 0) fun hH=>match hH with|avh gP=>av.lt (avc .i64 (aG+1)) fun jc=>Ck N J n gP jc|avg iD=>au6 (avg iD) else au6 (avh aB)
def Cm (N:Nat) (aB:List Int):Nat->Int->Option (Sum (Unit) (Bool))|0,_=>au8|n+1,bc=>if decide (bc<(aB.length:Int)) then au' (aD aB bc) fun jd=>au' (aD aB bc) fun gg=>if gg !=1 then au6 (avg ava) else av.lt (avc .i64 (bc+1)) fun j4=>Cm N aB n j4 else au6 (avh ())
def Du (N:Nat) (x0:cS):Option Bool:=au' (JK N x0) fun aR=>if aR then au6 ava else au' (AR N x0 N 0) fun bq=>match bq with|avh bx=>(au' (AS N x0 N 0) fun c0=>match c0 with|avh cy=>(au' (iG 0 (x0.items.length:Int)) fun dR=>au' (Ck N x0 N dR 0) fun jq=>match jq with|avh hI=>(au' (Cm N hI N 0) fun jA=>match jA with|avh mu=>au6 au7|avg h4=>au6 h4)|avg ll=>au6 ll)|avg fg=>au6 fg)|avg ln=>au6 ln
def Cw (N:Nat) (J:cS) (an:Int):Nat->(List eG)->Int->Option (List eG)|0,_,_=>au8|n+1,ak,ah=>au' (aD J.aP an) fun a2=>if decide (ah<(a2.length:Int)) then au' (aD J.aP an) fun a6=>au' (aD a6 ah) fun bk=>au' (aD ak bk) fun bq=>au' (aD ak bk) fun bx=>av.lt (ak.set ((bk:Int).toNat) (eG.mk an ah)) fun bM=>av.lt (avc .i64 (ah+1)) fun b1=>Cw N J an n bM b1 else au6 ak
def Cv (N:Nat) (J:cS):Nat->(List eG)->Int->Option (List eG)|0,_,_=>au8|n+1,ak,an=>if decide (an<(J.aP.length:Int)) then au' (Cw N J an N ak 0) fun cg=>av.lt (avc .i64 (an+1)) fun ca=>Cv N J n cg ca else au6 ak
def Dw (N:Nat) (x0:cS):Option (List eG):=au' (iG (eG.mk 0 0) (x0.items.length:Int)) fun aR=>au' (Cv N x0 N aR 0) fun cx=>au6 cx
def x2 (N:Nat) (x0:cS) (J:List eG) (al:Int):Option Bool:=au' (aD J al) fun aR=>au' (aD x0.items al) fun a2=>au' (aD x0.homes a2.fC) fun a6=>av.lt (aR.bC==a6) fun bk=>au6 bk
def Is (N:Nat) (x0:List eG) (J:Int) (al:Int):Option Bool:=au' (aD x0 J) fun aR=>au' (aD x0 al) fun a2=>if aR.bC==a2.bC then au' (aD x0 J) fun a6=>au' (aD x0 al) fun bk=>av.lt (decide (bk.place<a6.place)) fun bq=>au6 bq else au6 ava
def vY (N:Nat) (x0:List eG) (J:Int) (al:Int):Option Bool:=au' (Is N x0 J al) fun bx=>au6 bx
def Ir (N:Nat) (J:Int) (al:Int) (ak:cS):Option Bool:=au' (aD ak.items J) fun aR=>au' (aD ak.items al) fun a2=>if aR.fC==a2.fC then au' (aD ak.items J) fun a6=>au' (aD ak.items al) fun bk=>av.lt (decide (a6.block<bk.block)) fun bq=>au6 bq else au6 ava
def vX (N:Nat) (x0:cS) (J:Int) (al:Int):Option Bool:=au' (Ir N J al x0) fun bx=>au6 bx
def Iq (N:Nat) (J:List eG) (al:Int) (ak:Int) (an:cS):Option Bool:=au' (x2 N an J al) fun aR=>if aR then au' (vY N J ak al) fun a2=>if a2 then au' (vX N an ak al) fun a6=>au6 a6 else au6 ava else au6 ava
def xX (N:Nat) (x0:cS) (J:List eG) (al:Int) (ak:Int):Option Bool:=au' (Iq N J al ak x0) fun bk=>au6 bk
def Cs (N:Nat) (J:List eG) (al:Int) (ak:cS):Nat->da->Int->Option (Sum (da) (da×Bool))|0,_,_=>au8|n+1,ax,aG=>if decide (aG<(ak.items.length:Int)) then au' (xX N ak J al aG) fun a2=>if a2 then au6 (avg ((da.mk al 3 aG 0),au7)) else av.lt (avc .i64 (aG+1)) fun a6=>Cs N J al ak n ax a6 else au6 (avh ax)
def Dv (N:Nat) (x0:cS) (J:List eG) (al:Int):Option (da×Bool):=au' (x2 N x0 J al) fun aR=>if !aR then au6 ((da.mk al 1 (-1) 0),au7) else au' (Cs N J al x0 N (da.mk 0 0 0 0) 0) fun bk=>match bk with|avh bq=>au6 ((da.mk 0 0 0 0),ava)|avg bx=>au6 (bx.1,bx.2)
def JR (N:Nat) (J:List eG) (al:List Int) (ak:Int) (an:Int) (a9:Int):Option Bool:=au' (aD al a9) fun aR=>if decide (0<=aR) then au' (aD al a9) fun a2=>if decide (a2<an) then au' (vY N J ak a9) fun a6=>au6 a6 else au6 ava else au6 ava
def Ct (N:Nat) (J:List eG) (al:List Int) (ak:Int) (an:Int) (ah:cS):Nat->da->Int->Option (Sum (da) (da×Bool))|0,_,_=>au8|n+1,aV,a9=>if decide (a9<(ah.items.length:Int)) then au' (JR N J al ak an a9) fun bk=>if bk then au6 (avg ((da.mk ak 2 a9 an),au7)) else av.lt (avc .i64 (a9+1)) fun bq=>Ct N J al ak an ah n aV bq else au6 (avh aV)
def JS (N:Nat) (al:List Int) (ak:Int) (an:Int) (ah:cS) (de:Int):Option Bool:=au' (aD al de) fun b1=>if decide (0<=b1) then au' (aD al de) fun cg=>if decide (cg<an) then au' (vX N ah de ak) fun ca=>au6 ca else au6 ava else au6 ava
def Cu (N:Nat) (al:List Int) (ak:Int) (an:Int) (ah:cS):Nat->da->Int->Option (Sum (da) (da×Bool))|0,_,_=>au8|n+1,aV,de=>if decide (de<(ah.items.length:Int)) then au' (JS N al ak an ah de) fun cx=>if cx then au6 (avg ((da.mk ak 3 de an),au7)) else av.lt (avc .i64 (de+1)) fun cK=>Cu N al ak an ah n aV cK else au6 (avh aV)
def LA (N:Nat) (x0:cS) (J:List eG) (al:List Int) (ak:Int) (an:Int):Option (da×Bool):=au' (Ct N J al ak an x0 N (da.mk 0 0 0 0) 0) fun bx=>match bx with|avh bM=>(au' (Cu N al ak an x0 N bM 0) fun dd=>match dd with|avh dg=>au6 ((da.mk 0 0 0 0),ava)|avg dm=>au6 (dm.1,dm.2))|avg dv=>au6 (dv.1,dv.2)
def JH (N:Nat) (J:cS) (an:List eG) (ah:List da) (ax:List Int) (aB:Int):Option (List da×List Int):=au' (aD ax aB) fun bq=>au' (aD ax aB) fun bx=>av.lt (ax.set ((aB:Int).toNat) (-1)) fun bM=>au' (Dv N J an aB) fun b1=>if b1.2 then au' (aD ah aB) fun cg=>au' (aD ah aB) fun ca=>av.lt (ah.set ((aB:Int).toNat) b1.1) fun cx=>au' (aD bM aB) fun cK=>au' (aD bM aB) fun dd=>av.lt (bM.set ((aB:Int).toNat) 0) fun dg=>au6 (cx,dg) else au6 (ah,bM)
def AN (N:Nat) (J:cS) (an:List eG):Nat->(List da)->(List Int)->Int->Option (List da×List Int)|0,_,_,_=>au8|n+1,ah,ax,aB=>if decide (aB<(ax.length:Int)) then au' (JH N J an ah ax aB) fun dm=>av.lt (avc .i64 (aB+1)) fun dv=>AN N J an n dm.1 dm.2 dv else au6 (ah,ax)
def JI (N:Nat) (J:cS) (an:List eG) (ah:List da) (ax:List Int) (aV:Int) (bc:Bool) (a9:Int):Option (List da×List Int×Bool):=au' (aD ax a9) fun cy=>au' (aD ax a9) fun dR=>if decide (0<=dR) then au6 (ah,ax,bc) else au' (LA N J an ax a9 aV) fun eI=>if eI.2 then au' (aD ah a9) fun fl=>au' (aD ah a9) fun dT=>av.lt (ah.set ((a9:Int).toNat) eI.1) fun e1=>au' (aD ax a9) fun fP=>au' (aD ax a9) fun fs=>av.lt (ax.set ((a9:Int).toNat) aV) fun fQ=>au6 (e1,fQ,au7) else au6 (ah,ax,bc)
def AP (N:Nat) (J:cS) (an:List eG) (aV:Int):Nat->(List da)->(List Int)->Bool->Int->Option (List da×List Int×Bool)|0,_,_,_,_=>au8|n+1,ah,ax,bc,a9=>if decide (a9<(ax.length:Int)) then au' (JI N J an ah ax aV bc a9) fun fX=>av.lt (avc .i64 (a9+1)) fun gO=>AP N J an aV n fX.1 fX.2.1 fX.2.2 gO else au6 (ah,ax,bc)
def AO (N:Nat) (J:cS) (an:List eG):Nat->(List da)->(List Int)->Int->Bool->Option (List da×List Int)|0,_,_,_,_=>au8|n+1,ah,ax,aV,bc=>if bc then au' (AP N J an aV N ah ax ava 0) fun gf=>av.lt (avc .i64 (aV+1)) fun hH=>AO N J an n gf.1 gf.2.1 hH gf.2.2 else au6 (ah,ax)
def JJ (N:Nat) (ah:List da) (ax:List Int) (cI:List da) (dt:Int):Option (List da):=au' (aD ax dt) fun jc=>au' (aD ax dt) fun iD=>if decide (0<=iD) then au' (aD ah dt) fun jq=>au' (aD ah dt) fun hI=>au' (ck cI ([hI]:List da)) fun jd=>au6 jd else au6 cI
def AQ (N:Nat) (ah:List da) (ax:List Int):Nat->(List da)->Int->Option (List da)|0,_,_=>au8|n+1,cI,dt=>if decide (dt<(ax.length:Int)) then au' (JJ N ah ax cI dt) fun gg=>av.lt (avc .i64 (dt+1)) fun j4=>AQ N ah ax n gg j4 else au6 cI
def Ly (N:Nat) (x0:cS):Option (List da×Int):=au' (Du N x0) fun aR=>if !aR then au6 ([],1) else au' (Dw N x0) fun a2=>au' (iG (da.mk 0 0 0 0) (x0.items.length:Int)) fun a6=>au' (iG 0 (x0.items.length:Int)) fun bk=>au' (AN N x0 a2 N a6 bk 0) fun c0=>au' (AO N x0 a2 N c0.1 c0.2 1 au7) fun gP=>au' (AQ N gP.1 gP.2 N [] 0) fun jA=>au6 (jA,0)
def KF (N:Nat) (x0:bw):Option bw:=au6 (bw.mk x0.c (bN.mk x0.y.cv x0.y.aP x0.y.cH ava (gi.mk [] (cV.mk [] 0) (g7.mk (e4.mk 0 []) []) 0 [] 0) ava) x0.e x0.r)
def HI (N:Nat) (J:List eG) (an:cS) (aB:da):Option Bool:=if aB.kO==(-1) then au' (x2 N an J aB.item) fun aR=>av.lt (!aR) fun a2=>au6 a2 else au6 ava
def HJ (N:Nat) (an:cS) (a3:Int):Option Bool:=if decide (a3<0) then au6 au7 else au6 (decide ((an.items.length:Int)<=a3))
def HK (N:Nat) (al:List Int) (aB:da) (a3:Int):Option Bool:=au' (aD al a3) fun bq=>if decide (0<=bq) then au' (aD al a3) fun bx=>av.lt (decide (bx<aB.round)) fun bM=>au6 bM else au6 ava
def HL (N:Nat) (J:List eG) (aB:da) (a3:Int) (aV:Bool):Option Bool:=if aV then au' (vY N J aB.item a3) fun ca=>au6 ca else au6 ava
def HM (N:Nat) (J:List eG) (an:cS) (aB:da) (a3:Int) (aV:Bool):Option Bool:=if aV then au' (vX N an a3 aB.item) fun dd=>if dd then au6 au7 else if aB.round==0 then au' (xX N an J aB.item a3) fun dg=>au6 dg else au6 ava else if aB.round==0 then au' (xX N an J aB.item a3) fun dm=>au6 dm else au6 ava
def KK (N:Nat) (x0:cS) (J:List eG) (al:List Int) (ak:da):Option Bool:=if ak.reason==1 then au' (HI N J x0 ak) fun a6=>au6 a6 else au' (HJ N x0 ak.kO) fun bk=>if bk then au6 ava else au' (HK N al ak ak.kO) fun b1=>av.lt (ak.reason==2) fun cg=>if cg then au' (HL N J ak ak.kO b1) fun cx=>au6 cx else av.lt (ak.reason==3) fun cK=>if cK then au' (HM N J x0 ak ak.kO b1) fun dv=>au6 dv else au6 ava
def Cn (N:Nat):Nat->(List Int)->Int->Option (List Int)|0,_,_=>au8|n+1,ax,aB=>if decide (aB<(ax.length:Int)) then au' (aD ax aB) fun a6=>au' (aD ax aB) fun bk=>av.lt (ax.set ((aB:Int).toNat) (-1)) fun bq=>av.lt (avc .i64 (aB+1)) fun bx=>Cn N n bq bx else au6 ax
def JO (N:Nat) (J:List da) (ax:List Int) (aG:Int) (a3:Int):Option Bool:=if decide (a3<0) then au6 au7 else if decide ((ax.length:Int)<=a3) then au6 au7 else au' (aD ax a3) fun cg=>au' (aD ax a3) fun ca=>if decide (0<=ca) then au6 au7 else au' (aD J aG) fun cx=>au6 (decide (cx.round<0))
def Co (N:Nat) (J:List da):Nat->(List Int)->Int->Option (Sum (List Int) (Bool))|0,_,_=>au8|n+1,ax,aG=>if decide (aG<(J.length:Int)) then au' (aD J aG) fun b1=>au' (JO N J ax aG b1.item) fun cK=>if cK then au6 (avg ava) else au' (aD J aG) fun dd=>au' (aD ax b1.item) fun dg=>au' (aD ax b1.item) fun dm=>av.lt (ax.set ((b1.item:Int).toNat) dd.round) fun dv=>av.lt (avc .i64 (aG+1)) fun c0=>Co N J n dv c0 else au6 (avh ax)
def Cp (N:Nat) (J:List da) (al:cS) (ah:List eG) (ax:List Int):Nat->Int->Option (Sum (Unit) (Bool))|0,_=>au8|n+1,aV=>if decide (aV<(J.length:Int)) then au' (aD J aV) fun eI=>au' (KK N al ah ax eI) fun fl=>if !fl then au6 (avg ava) else av.lt (avc .i64 (aV+1)) fun dT=>Cp N J al ah ax n dT else au6 (avh ())
def JQ (N:Nat) (al:cS) (ah:List eG) (ax:List Int) (bc:Int) (cD:Int):Option Bool:=au' (aD ax cD) fun gO=>au' (aD ax cD) fun gf=>if decide (0<=gf) then au' (vY N ah bc cD) fun hH=>if hH then au6 au7 else au' (vX N al cD bc) fun gP=>au6 gP else au6 ava
def Cr (N:Nat) (al:cS) (ah:List eG) (ax:List Int) (bc:Int):Nat->Int->Option (Sum (Unit) (Bool))|0,_=>au8|n+1,cD=>if decide (cD<(ax.length:Int)) then au' (JQ N al ah ax bc cD) fun jc=>if jc then au6 (avg ava) else av.lt (avc .i64 (cD+1)) fun iD=>Cr N al ah ax bc n iD else au6 (avh ())
def JP (N:Nat) (al:cS) (ah:List eG) (ax:List Int) (bc:Int):Option (Sum (Unit) (Bool)):=au' (aD ax bc) fun fs=>au' (aD ax bc) fun fQ=>if decide (0<=fQ) then au6 (avh ()) else au' (Dv N al ah bc) fun fX=>if fX.2 then au6 (avg ava) else au' (Cr N al ah ax bc N 0) fun jq=>match jq with|avh hI=>au6 (avh ())|avg jd=>au6 (avg jd)
def Cq (N:Nat) (al:cS) (ah:List eG) (ax:List Int):Nat->Int->Option (Sum (Unit) (Bool))|0,_=>au8|n+1,bc=>if decide (bc<(ax.length:Int)) then au' (JP N al ah ax bc) fun gg=>match gg with|avh j4=>av.lt (avc .i64 (bc+1)) fun jA=>Cq N al ah ax n jA|avg mu=>au6 (avg mu) else au6 (avh ())
def Lz (N:Nat) (x0:cS) (J:List da):Option Bool:=au' (Dw N x0) fun aR=>au' (iG 0 (x0.items.length:Int)) fun a2=>au' (Cn N N a2 0) fun bM=>au' (Co N J N bM 0) fun cy=>match cy with|avh dR=>(au' (Cp N J x0 aR dR N 0) fun e1=>match e1 with|avh fP=>(au' (Cq N x0 aR dR N 0) fun h4=>match h4 with|avh ll=>au6 au7|avg fg=>au6 fg)|avg ln=>au6 ln)|avg oc=>au6 oc
def A3 (N:Nat) (x0:List da) (J:Int):Nat->Int->Option (Sum (Unit) (Bool))|0,_=>au8|n+1,ah=>if decide (ah<(x0.length:Int)) then au' (aD x0 ah) fun aR=>if aR.item==J then au6 (avg au7) else av.lt (avc .i64 (ah+1)) fun a2=>A3 N x0 J n a2 else au6 (avh ())
def Ll (N:Nat) (x0:List da) (J:Int):Option Bool:=au' (A3 N x0 J N 0) fun a6=>match a6 with|avh bk=>au6 ava|avg bq=>au6 bq
def J6 (N:Nat) (al:Int):Option Bool:=if decide (al<0) then au6 au7 else av.lt (decide (12<al)) fun a6=>au6 a6
def J7 (N:Nat) (J:List da) (ak:cS) (a3:cV) (aV:List Int) (bc:Int) (a9:Int) (j2:List e3):Option (cV×List Int×List e3):=au' (aD ak.aP bc) fun b1=>au' (aD b1 a9) fun cg=>au' (Ll N J cg) fun ca=>if ca then au' (aD ak.items cg) fun cx=>au' (ck j2 ([cx]:List e3)) fun cK=>au' (ck aV ([cg]:List Int)) fun dd=>au6 ((cV.mk [] a3.cE),dd,cK) else au6 ((cV.mk [] a3.cE),aV,j2)
def BQ (N:Nat) (J:List da) (ak:cS) (bc:Int):Nat->cV->(List Int)->Int->(List e3)->Option (cV×List Int×List e3)|0,_,_,_,_=>au8|n+1,a3,aV,a9,j2=>au' (aD ak.aP bc) fun bM=>if decide (a9<(bM.length:Int)) then au' (J7 N J ak (cV.mk [] a3.cE) aV bc a9 j2) fun dg=>av.lt (avc .i64 (a9+1)) fun dm=>BQ N J ak bc n (cV.mk [] dg.1.cE) dg.2.1 dm dg.2.2 else au6 ((cV.mk [] a3.cE),aV,j2)
def BP (N:Nat) (J:List da) (ak:cS):Nat->cV->(List Int)->Int->(List e3)->Option (cV×List Int×List e3)|0,_,_,_,_=>au8|n+1,a3,aV,bc,j2=>if decide (bc<(ak.aP.length:Int)) then au' (BQ N J ak bc N (cV.mk [] a3.cE) aV 0 j2) fun dv=>av.lt (avc .i64 (bc+1)) fun c0=>BP N J ak n (cV.mk [] dv.1.cE) dv.2.1 c0 dv.2.2 else au6 ((cV.mk [] a3.cE),aV,j2)
def L0 (N:Nat) (x0:cS) (J:List da) (al:Int):Option (cV×List Int×Int):=au' (Du N x0) fun aR=>av.lt (!aR) fun a2=>if a2 then au6 ((cV.mk [] 0),[],1) else au' (J6 N al) fun bk=>if bk then au6 ((cV.mk [] 0),[],2) else au' (Lz N x0 J) fun bq=>av.lt (!bq) fun bx=>if bx then au6 ((cV.mk [] 0),[],17) else au' (BP N J x0 N (cV.mk [] al) [] 0 []) fun cy=>au6 ((cV.mk cy.2.2 cy.1.cE),cy.2.1,0)
def KG (N:Nat) (x0:bw) (J:Int) (al:Int) (cr:List dj):Option (Bool×List dj×bw):=au' (pV N x0.y.aP J) fun aR=>au' (tK N x0.y.cv) fun a2=>au' (tL N x0.c.aP a2 x0.y.aP (dj.mk J aR.1 al ava)) fun a6=>if a6.2 !=0 then au6 (ava,cr,(fR x0)) else au' (ck cr ([(dj.mk J aR.1 al ava)]:List dj)) fun bk=>au6 (au7,bk,(bw.mk x0.c (bN.mk x0.y.cv a6.1 x0.y.cH x0.y.busy x0.y.bJ x0.y.dF) x0.e (ef.mk x0.r.err [] x0.r.proof x0.r.gk x0.r.final x0.r.ey x0.r.place)))
def Hk (N:Nat) (an:List Int) (aG:da) (Ks:Bool):Option da:=if Ks then au' (aD an aG.kO) fun dd=>au' (aD an aG.kO) fun dg=>au6 (da.mk aG.item aG.reason dg aG.round) else au6 aG
def Bk (N:Nat) (an:List Int) (ah:List da):Nat->bw->Int->(List da)->Option (bw×List da)|0,_,_,_=>au8|n+1,x0,aB,lk=>if decide (aB<(ah.length:Int)) then au' (aD ah aB) fun cg=>au' (aD ah aB) fun ca=>au' (aD an ca.item) fun cx=>au' (aD an ca.item) fun cK=>au' (Hk N an (da.mk cK ca.reason ca.kO ca.round) (decide (0<=ca.kO))) fun dm=>au' (ck lk ([dm]:List da)) fun dv=>av.lt (avc .i64 (aB+1)) fun c0=>Bk N an ah n (xU x0) c0 dv else au6 ((xU x0),lk)
def Bl (N:Nat) (an:List Int) (aV:List Int):Nat->(List Int)->Int->Option (List Int)|0,_,_=>au8|n+1,a9,de=>if decide (de<(aV.length:Int)) then au' (aD aV de) fun eI=>au' (aD aV de) fun fl=>au' (aD an fl) fun dT=>au' (aD an fl) fun e1=>au' (ck a9 ([e1]:List Int)) fun fP=>av.lt (avc .i64 (de+1)) fun fs=>Bl N an aV n fP fs else au6 a9
def Hl (N:Nat) (a9:List Int) (cD:List (List Int)) (cI:Int) (dt:List Int) (fk:Int):Option (List (List Int)×List Int):=au' (aD cD cI) fun hH=>au' (aD cD cI) fun gP=>au' (aD gP fk) fun jc=>au' (aD gP fk) fun iD=>au' (tN N a9 iD) fun jq=>if !jq then au' (aD (cD.set ((cI:Int).toNat) gP) cI) fun hI=>au' (aD (cD.set ((cI:Int).toNat) gP) cI) fun jd=>au' (aD jd fk) fun gg=>au' (aD jd fk) fun j4=>au' (ck dt ([j4]:List Int)) fun jA=>au6 (((cD.set ((cI:Int).toNat) gP).set ((cI:Int).toNat) jd),jA) else au6 ((cD.set ((cI:Int).toNat) gP),dt)
def Bn (N:Nat) (a9:List Int) (cI:Int):Nat->(List (List Int))->(List Int)->Int->Option (List (List Int)×List Int)|0,_,_,_=>au8|n+1,cD,dt,fk=>au' (aD cD cI) fun gO=>au' (aD cD cI) fun gf=>if decide (fk<(gf.length:Int)) then au' (Hl N a9 (cD.set ((cI:Int).toNat) gf) cI dt fk) fun mu=>av.lt (avc .i64 (fk+1)) fun h4=>Bn N a9 cI n mu.1 mu.2 h4 else au6 ((cD.set ((cI:Int).toNat) gf),dt)
def Bm (N:Nat) (a9:List Int):Nat->(List (List Int))->Int->Option (List (List Int))|0,_,_=>au8|n+1,cD,cI=>if decide (cI<(cD.length:Int)) then au' (Bn N a9 cI N cD ([]:List Int) 0) fun ll=>au' (aD ll.1 cI) fun fg=>au' (aD ll.1 cI) fun ln=>av.lt (avc .i64 (cI+1)) fun oc=>Bm N a9 n (ll.1.set ((cI:Int).toNat) ll.2) oc else au6 cD
def Hm (N:Nat) (x0:bw) (cD:List (List Int)) (ff:Bool) (eT:Int):Option (List (List Int)×Bool):=if ff then au' (aD x0.e.aP eT) fun sa=>au' (aD cD sa) fun C7=>au' (aD cD sa) fun xQ=>av.lt ((xQ.length:Int)==0) fun sb=>au6 ((cD.set ((sa:Int).toNat) xQ),sb) else au6 (cD,ava)
def Bo (N:Nat) (x0:bw):Nat->(List (List Int))->Bool->Int->Option (List (List Int)×Bool)|0,_,_,_=>au8|n+1,cD,ff,eT=>if decide (eT<(x0.e.aP.length:Int)) then au' (Hm N (xU x0) cD ff eT) fun tG=>av.lt (avc .i64 (eT+1)) fun xR=>Bo N x0 n tG.1 tG.2 xR else au6 (cD,ff)
def Bp (N:Nat) (a9:List Int):Nat->bw->Int->(List dj)->Option (bw×List dj)|0,_,_,_=>au8|n+1,x0,pS,cr=>if decide (pS<(a9.length:Int)) then au' (aD a9 pS) fun Rn=>au' (aD a9 pS) fun Ro=>au' (KG N (fR x0) Ro x0.e.bC cr) fun Ku=>av.lt (avc .i64 (pS+1)) fun C8=>Bp N a9 n (fR Ku.2.2) C8 Ku.2.1 else au6 ((fR x0),cr)
def KS (N:Nat) (x0:bw) (cr:List dj) (lk:List da):Option (Int×bw):=av.lt (!x0.y.dF) fun aR=>if aR then au6 (16,(bw.mk x0.c x0.y x0.e (ef.mk x0.r.err cr x0.r.proof lk x0.r.final x0.r.ey x0.r.place))) else au' (KP N (bw.mk x0.c x0.y x0.e (ef.mk x0.r.err cr x0.r.proof lk x0.r.final x0.r.ey x0.r.place))) fun a2=>av.lt (!a2) fun a6=>if a6 then au6 (2,(bw.mk x0.c x0.y x0.e (ef.mk x0.r.err cr x0.r.proof lk x0.r.final x0.r.ey x0.r.place))) else au' (Ld N (bw.mk x0.c x0.y x0.e (ef.mk x0.r.err cr x0.r.proof lk x0.r.final x0.r.ey x0.r.place))) fun bk=>av.lt (!bk) fun bq=>if bq then au6 (17,(bw.mk x0.c x0.y x0.e (ef.mk x0.r.err cr x0.r.proof lk x0.r.final x0.r.ey x0.r.place))) else au' (LU N x0.y.cv x0.y.aP x0.y.cH x0.y.bJ.cv) fun bx=>if decide (96<(bx.2.length:Int)) then au6 (3,(bw.mk x0.c x0.y x0.e (ef.mk x0.r.err cr x0.r.proof lk x0.r.final x0.r.ey x0.r.place))) else au' (Ly N bx.1) fun bM=>if (bM.1.length:Int)==0 then au' (KF N (bw.mk x0.c x0.y x0.e (ef.mk x0.r.err cr x0.r.proof lk x0.r.final x0.r.ey x0.r.place))) fun b1=>au6 (0,b1) else au' (Bk N bx.2 bM.1 N (xU x0) 0 lk) fun cy=>au' (L0 N bx.1 bM.1 cy.1.e.cE) fun dR=>au' (Bl N bx.2 dR.2.1 N [] 0) fun fQ=>au' (x3 N cy.1.y.aP) fun fX=>au' (Bm N fQ N fX 0) fun qR=>au' (aD qR cy.1.e.bC) fun lo=>au' (aD qR cy.1.e.bC) fun r9=>av.lt ((r9.length:Int)==0) fun vQ=>au' (Bo N (xU cy.1) N (qR.set ((cy.1.e.bC:Int).toNat) r9) vQ 0) fun xS=>if !xS.2 then au6 (17,(bw.mk cy.1.c cy.1.y cy.1.e (ef.mk cy.1.r.err cr cy.1.r.proof cy.2 cy.1.r.final cy.1.r.ey cy.1.r.place))) else au' (DD N cy.1.y fQ) fun Rl=>au' (aD cy.1.c.aP cy.1.e.bC) fun Rm=>if decide (Rm.length<Rl) then au6 (14,(bw.mk cy.1.c cy.1.y cy.1.e (ef.mk cy.1.r.err cr cy.1.r.proof cy.2 cy.1.r.final cy.1.r.ey cy.1.r.place))) else au' (DA N dR.1) fun vR=>if vR.2 !=0 then au6 (vR.2,(bw.mk cy.1.c cy.1.y cy.1.e (ef.mk cy.1.r.err cr cy.1.r.proof cy.2 cy.1.r.final cy.1.r.ey cy.1.r.place))) else au' (DE N cy.1.c cy.1.y dR.1 vR.1.fJ cy.1.e.aP (List.map (fun (z:List Int)=>z) xS.1)) fun Kt=>if !Kt then au6 (14,(bw.mk cy.1.c cy.1.y cy.1.e (ef.mk cy.1.r.err cr cy.1.r.proof cy.2 cy.1.r.final cy.1.r.ey cy.1.r.place))) else au' (Bp N fQ N (bw.mk cy.1.c cy.1.y cy.1.e (ef.mk cy.1.r.err [] cy.1.r.proof cy.2 cy.1.r.final cy.1.r.ey cy.1.r.place)) 0 cr) fun o2=>au' (Di N (bw.mk o2.1.c o2.1.y o2.1.e (ef.mk o2.1.r.err o2.2 o2.1.r.proof o2.1.r.gk o2.1.r.final o2.1.r.ey o2.1.r.place)) fQ dR.1 vR.1) fun jr=>au6 (0,(bw.mk jr.2.2.2.c (bN.mk jr.2.2.2.y.cv jr.2.2.2.y.aP jr.2.2.2.y.cH jr.2.2.2.y.busy (gi.mk jr.2.2.2.y.bJ.cv jr.2.2.2.y.bJ.ir jr.2.2.2.y.bJ.proof jr.2.2.2.y.bJ.lead jr.1 jr.2.2.2.y.bJ.iW) jr.2.2.2.y.dF) jr.2.2.2.e (ef.mk jr.2.2.2.r.err jr.2.2.2.r.vJ (g7.mk (e4.mk jr.2.2.2.r.proof.fJ.steps jr.2.1) jr.2.2.1) jr.2.2.2.r.gk jr.2.2.2.r.final jr.2.2.2.r.ey jr.2.2.2.r.place)))
def Iz (N:Nat) (x0:List (List Int)) (J:Int) (al:Int):Option Bool:=if decide (J<0) then au6 au7 else if decide ((x0.length:Int)<=J) then au6 au7 else if decide (al<0) then au6 au7 else if decide ((x0.length:Int)<=al) then au6 au7 else au6 (J==al)
def IA (N:Nat) (x0:List (List Int)) (J:Int) (ak:Int):Option Bool:=if decide (ak<0) then au6 au7 else au' (aD x0 J) fun a2=>au6 (decide ((a2.length:Int)<ak))
def A9 (N:Nat) (x0:List (List Int)) (J:Int) (al:Int):Nat->(List dj)->Int->Option (List dj)|0,_,_=>au8|n+1,aV,bc=>au' (aD x0 J) fun bx=>if decide (bc<(bx.length:Int)) then au' (aD x0 J) fun bM=>au' (aD bM bc) fun b1=>au' (ck aV ([(dj.mk b1 J al ava)]:List dj)) fun cg=>av.lt (avc .i64 (bc+1)) fun ca=>A9 N x0 J al n cg ca else au6 aV
def Lp (N:Nat) (x0:List (List Int)) (J:Int) (al:Int) (ak:Int):Option (List dj×Int):=au' (Iz N x0 J al) fun aR=>if aR then au6 ([],2) else au' (IA N x0 J ak) fun a6=>if a6 then au6 ([],13) else au' (aD x0 J) fun bk=>av.lt (avc .i64 ((bk.length:Int) - ak)) fun bq=>au' (A9 N x0 J al N [] bq) fun cx=>au6 (cx,0)
def KC (N:Nat) (x0:bw) (J:Int) (al:Int) (cr:List dj):Option (Bool×List dj×bw):=au' (pV N x0.y.aP J) fun aR=>au' (tK N x0.y.cv) fun a2=>au' (tL N x0.c.aP a2 x0.y.aP (dj.mk J aR.1 al ava)) fun a6=>if a6.2 !=0 then au6 (ava,cr,(fR x0)) else au' (ck cr ([(dj.mk J aR.1 al ava)]:List dj)) fun bk=>au6 (au7,bk,(bw.mk x0.c (bN.mk x0.y.cv a6.1 x0.y.cH x0.y.busy x0.y.bJ x0.y.dF) x0.e (ef.mk x0.r.err [] x0.r.proof x0.r.gk x0.r.final x0.r.ey x0.r.place)))
def I2 (N:Nat) (x0:bw):Option Bool:=au' (pW N x0.c x0.e.bC) fun aR=>if !aR then au6 au7 else au' (pW N x0.c x0.e.to) fun a2=>av.lt (!a2) fun a6=>au6 a6
def I3 (N:Nat) (x0:bw):Option Bool:=if x0.e.bC==x0.e.to then au6 au7 else au' (qT N x0.y x0.e.bC) fun bq=>if bq then au6 au7 else au' (qT N x0.y x0.e.to) fun bx=>au6 bx
def Ia (N:Nat) (x0:bw):Option Bool:=if decide (x0.e.count<1) then au6 au7 else au' (aD x0.y.aP x0.e.bC) fun b1=>av.lt (decide ((b1.length:Int)<x0.e.count)) fun cg=>au6 cg
def BF (N:Nat) (ak:List dj):Nat->bw->Int->(List dj)->Option (Sum (bw×List dj) (bw×Int×List dj))|0,_,_,_=>au8|n+1,x0,ah,cr=>if decide (ah<(ak.length:Int)) then au' (aD ak ah) fun cK=>au' (aD ak ah) fun dd=>au' (KC N (fR x0) dd.oV x0.e.to cr) fun dg=>if !dg.1 then au6 (avg ((fR dg.2.2),14,dg.2.1)) else av.lt (avc .i64 (ah+1)) fun dm=>BF N ak n (fR dg.2.2) dm dg.2.1 else au6 (avh ((fR x0),cr))
def Lf (N:Nat) (x0:bw) (cr:List dj):Option (Int×List dj×bw):=if x0.y.busy then au6 (25,cr,(fR x0)) else au' (I2 N (fR x0)) fun bk=>if bk then au6 (2,cr,(fR x0)) else au' (I3 N (fR x0)) fun bM=>if bM then au6 (17,cr,(fR x0)) else au' (Ia N (fR x0)) fun ca=>if ca then au6 (13,cr,(fR x0)) else au' (Lp N x0.y.aP x0.e.bC x0.e.to x0.e.count) fun cx=>au' (BF N cx.1 N (fR x0) 0 cr) fun dv=>match dv with|avh c0=>au6 (0,c0.2,(fR c0.1))|avg cy=>au6 (cy.2.1,cy.2.2,(fR cy.1))
def LH (N:Nat) (x0:dx) (J:bX) (al:List cb):Option Int:=au' (Dc N x0) fun aR=>if aR !=0 then au6 aR else au' (De N x0 J) fun a2=>if !a2 then au6 1 else au' (vT N al) fun a6=>au6 a6
def A8 (N:Nat) (J:List cb) (al:bX):Nat->(List Int)->Int->Option (Sum (List Int) (Int×Int))|0,_,_=>au8|n+1,aB,aG=>if decide (aG<(J.length:Int)) then au' (aD J aG) fun aR=>au' (vZ N al aR.dest) fun a2=>if decide (a2<0) then au6 (avg (aG,7)) else au' (ck aB ([a2]:List Int)) fun a6=>av.lt (avc .i64 (aG+1)) fun bk=>A8 N J al n a6 bk else au6 (avh aB)
def Lo (N:Nat) (x0:bX) (J:List cb):Option (List Int×Int×Int):=au' (A8 N J x0 N [] 0) fun bq=>match bq with|avh bx=>au6 (bx,(-1),0)|avg bM=>au6 ([],bM.1,bM.2)
def AJ (N:Nat) (x0:List cb):Nat->Int->Int->Int->Int->Option (Int×Int×Int)|0,_,_,_,_=>au8|n+1,al,ak,an,aB=>if decide (aB<(x0.length:Int)) then au' (aD x0 aB) fun a2=>av.lt (avc .i64 (al+a2.length)) fun a6=>au' (aD x0 aB) fun bk=>av.lt (avc .i64 (ak+bk.h0)) fun bq=>au' (aD x0 aB) fun bx=>av.lt (avc .i64 (an+bx.jM)) fun bM=>av.lt (avc .i64 (aB+1)) fun b1=>AJ N x0 n a6 bq bM b1 else au6 (al,ak,an)
def Lv (N:Nat) (x0:List cb):Option (Int×Int×Int×Int):=au' (vT N x0) fun aR=>if aR !=0 then au6 (0,0,0,aR) else au' (AJ N x0 N 0 0 0 0) fun cg=>au6 (cg.1,cg.2.1,cg.2.2,0)
def BR (N:Nat) (x0:List Int) (J:Int):Nat->Int->Option (Sum (Unit) (Bool))|0,_=>au8|n+1,ah=>if decide (ah<(x0.length:Int)) then au' (aD x0 ah) fun aR=>if aR==J then au6 (avg au7) else av.lt (avc .i64 (ah+1)) fun a2=>BR N x0 J n a2 else au6 (avh ())
def x6 (N:Nat) (x0:List Int) (J:Int):Option Bool:=au' (BR N x0 J N 0) fun a6=>match a6 with|avh bk=>au6 ava|avg bq=>au6 bq
def Ln (N:Nat) (x0:Int):Option Int:=if decide (x0<=5000) then au6 100 else if decide (7000<x0) then au6 80 else av.lt (avc .i64 (100 - (avc .i64 (av6 (avc .i64 ((avc .i64 (x0 - 5000))+99)) 100)))) fun aR=>au6 aR
def JT (N:Nat) (x0:List cb) (J:List Int) (aV:Int):Option Bool:=au' (aD J aV) fun a2=>if decide (a2<0) then au6 au7 else au' (aD J aV) fun a6=>au6 (decide ((x0.length:Int)<=a6))
def Cx (N:Nat) (x0:List cb) (J:List Int):Nat->fz->Int->Option (Sum (fz) (fz×Int))|0,_,_=>au8|n+1,an,aV=>if decide (aV<(J.length:Int)) then au' (JT N x0 J aV) fun bk=>if bk then au6 (avg ((fz.mk 0 0 0 0 0 0 0),2)) else av.lt (avc .i64 (aV+1)) fun bq=>Cx N x0 J n an bq else au6 (avh an)
def Cy (N:Nat) (J:List Int):Nat->fz->Int->Option (Sum (fz) (fz×Int))|0,_,_=>au8|n+1,an,bc=>if decide (bc<(J.length:Int)) then au' (ho J 0 bc) fun b1=>au' (aD J bc) fun cg=>au' (x6 N b1 cg) fun ca=>if ca then au6 (avg ((fz.mk 0 0 0 0 0 0 0),8)) else av.lt (avc .i64 (bc+1)) fun cx=>Cy N J n an cx else au6 (avh an)
def JU (N:Nat) (x0:List cb) (J:List Int) (a9:fz) (de:Int):Option fz:=au' (x6 N J de) fun dg=>if !dg then au' (aD x0 de) fun dm=>au6 (fz.mk a9.length a9.jM a9.h0 (avc .i64 (a9.m8+dm.pb)) a9.kV a9.required a9.oI) else au6 a9
def Cz (N:Nat) (x0:List cb) (J:List Int):Nat->fz->Int->Option fz|0,_,_=>au8|n+1,a9,de=>if decide (de<(x0.length:Int)) then au' (JU N x0 J a9 de) fun dv=>av.lt (avc .i64 (de+1)) fun c0=>Cz N x0 J n dv c0 else au6 a9
def JV (N:Nat) (aB:Int) (a9:fz) (Kr:Bool):Option fz:=if Kr then au' (ub (avc .i64 (100*a9.m8)) aB) fun eI=>au6 (fz.mk a9.length a9.jM a9.h0 a9.m8 (avc .i64 (eI)) a9.required a9.oI) else au6 a9
def xZ (N:Nat) (x0:List cb) (J:List Int):Option (fz×Int):=au' (Lv N x0) fun aR=>if aR.2.2.2 !=0 then au6 ((fz.mk 0 0 0 0 0 0 0),aR.2.2.2) else au' (Cx N x0 J N (fz.mk 0 0 0 0 0 0 0) 0) fun bx=>match bx with|avh bM=>(au' (Cy N J N bM 0) fun cK=>match cK with|avh dd=>au' (Cz N x0 J N (fz.mk aR.1 aR.2.2.1 aR.2.1 0 0 0 0) 0) fun cy=>au' (Ln N aR.1) fun dR=>au' (JV N aR.2.1 (fz.mk cy.length cy.jM cy.h0 (avc .i64 (av6 (avc .i64 (cy.m8*dR)) 100)) cy.kV cy.required cy.oI) (decide (0<aR.2.1))) fun fl=>au6 (fl,0)|avg dT=>au6 (dT.1,dT.2))|avg e1=>au6 (e1.1,e1.2)
def Jy (N:Nat) (x0:List gw) (J:Int) (al:Int) (aG:Int) (a3:Bool) (aV:Int):Option Bool:=au' (aD x0 aV) fun aR=>if decide (J<=aR.speed) then au' (aD x0 aV) fun a2=>if decide (al<=a2.kR) then if !a3 then au6 au7 else au' (aD x0 aV) fun a6=>au6 (decide (a6.kV<aG)) else au6 ava else au6 ava
def Jx (N:Nat) (x0:List gw) (J:Int) (al:Int) (aG:Int) (a3:Bool) (aV:Int):Option (Int×Bool):=au' (Jy N x0 J al aG a3 aV) fun bk=>if bk then au' (aD x0 aV) fun bq=>au6 (bq.kV,au7) else au6 (aG,a3)
def B7 (N:Nat) (x0:List gw) (J:Int) (al:Int):Nat->Int->Bool->Int->Option (Int×Bool)|0,_,_,_=>au8|n+1,aG,a3,aV=>if decide (aV<(x0.length:Int)) then au' (Jx N x0 J al aG a3 aV) fun bx=>av.lt (avc .i64 (aV+1)) fun bM=>B7 N x0 J al n bx.1 bx.2 bM else au6 (aG,a3)
def LR (N:Nat) (x0:List gw) (J:Int) (al:Int):Option (Int×Bool):=au' (B7 N x0 J al N 0 ava 0) fun b1=>au6 (b1.1,b1.2)
def IJ (N:Nat) (J:Int) (al:Int):Option Bool:=if decide (J<1) then au6 au7 else if decide (200<J) then au6 au7 else if decide (al<0) then au6 au7 else au6 (decide (500<al))
def KZ (N:Nat) (x0:List gw) (J:Int) (al:Int):Option (Int×Int):=au' (Dd N x0) fun aR=>if !aR then au6 (0,1) else au' (IJ N J al) fun a2=>if a2 then au6 (0,2) else au' (LR N x0 J al) fun a6=>if !a6.2 then au6 (0,15) else au6 (a6.1,0)
def LB (N:Nat) (x0:List cb) (J:List Int) (al:List gw) (ak:Int) (an:Int):Option (fz×Int):=au' (xZ N x0 J) fun aR=>if aR.2 !=0 then au6 ((fz.mk 0 0 0 0 0 0 0),aR.2) else au' (KZ N al ak an) fun a2=>if a2.2 !=0 then au6 ((fz.mk 0 0 0 0 0 0 0),a2.2) else au6 ((fz.mk aR.1.length aR.1.jM aR.1.h0 aR.1.m8 aR.1.kV a2.1 (max 0 (avc .i64 ((avc .i64 (av6 (avc .i64 ((avc .i64 (a2.1*aR.1.h0))+99)) 100)) - aR.1.m8)))),0)
def LS (N:Nat) (x0:Int) (J:cb):Option Int:=av.lt (x0==1) fun aR=>if aR then au6 J.length else av.lt (x0==2) fun a2=>if a2 then au6 J.jM else au6 J.h0
def IU (N:Nat) (al:Int) (ak:Int) (an:cb) (ah:cb):Option Bool:=if an.mb==al then if ah.mb==ak then au6 au7 else if an.mb==ak then av.lt (ah.mb==al) fun aR=>au6 aR else au6 ava else if an.mb==ak then av.lt (ah.mb==al) fun a2=>au6 a2 else au6 ava
def La (N:Nat) (x0:cb) (J:cb) (al:Int) (ak:Int):Option Bool:=au' (IU N al ak x0 J) fun a6=>au6 a6
def Iv (N:Nat) (a9:Int) (de:Bool):Option Bool:=if de then au6 de else av.lt (a9==2) fun a2=>if a2 then au6 a2 else av.lt (a9==3) fun a6=>au6 a6
def A5 (N:Nat) (J:List cb) (al:Int) (ak:ep):Nat->Int->Int->Option Int|0,_,_=>au8|n+1,aB,aG=>if decide (aG<=al) then au' (aD J aG) fun bq=>au' (LS N ak.kind bq) fun bx=>av.lt (avc .i64 (aB+bx)) fun bM=>av.lt (avc .i64 (aG+1)) fun b1=>A5 N J al ak n bM b1 else au6 aB
def Iw (N:Nat) (J:List cb) (al:Int) (ak:ep) (a3:Int):Option Bool:=au' (aD J a3) fun cK=>au' (aD J al) fun dd=>au' (La N cK dd ak.a ak.b) fun dg=>if dg then au6 (decide ((avc .i64 ((avc .i64 (al - a3)) - 1))<ak.c)) else au6 ava
def A6 (N:Nat) (J:List cb) (al:Int) (ak:ep):Nat->Int->Option (Sum (Unit) (Bool))|0,_=>au8|n+1,a3=>if decide (a3<al) then au' (Iw N J al ak a3) fun dm=>if dm then au6 (avg au7) else av.lt (avc .i64 (a3+1)) fun dv=>A6 N J al ak n dv else au6 (avh ())
def Ix (N:Nat) (J:List cb) (al:Int) (ak:ep):Option Bool:=au' (aD J al) fun fl=>if fl.mb==ak.a then av.lt (decide (al<ak.b)) fun dT=>au6 dT else au6 ava
def A7 (N:Nat) (J:List cb):Nat->Int->Int->Option Int|0,_,_=>au8|n+1,aB,aV=>if decide (aV<(J.length:Int)) then au' (aD J aV) fun hH=>av.lt (avc .i64 (aB+hH.h0)) fun gP=>av.lt (avc .i64 (aV+1)) fun jc=>A7 N J n gP jc else au6 aB
def Iy (N:Nat) (J:List cb) (al:Int) (ak:ep) (aB:Int):Option Bool:=au' (aD J al) fun jq=>if decide (jq.h0<=ak.a) then av.lt (decide (ak.b<aB)) fun hI=>au6 hI else au6 ava
def Iu (N:Nat) (J:List cb) (al:Int) (ak:ep) (aB:Int) (a9:Int):Option (Sum (Unit) (Bool)):=av.lt (a9==1) fun aR=>au' (Iv N a9 aR) fun bk=>if bk then au' (A5 N J al ak N aB 0) fun cg=>av.lt (decide (ak.a<cg)) fun ca=>au6 (avg ca) else av.lt (a9==5) fun cx=>if cx then au' (A6 N J al ak N 0) fun c0=>match c0 with|avh cy=>au6 (avh ())|avg dR=>au6 (avg dR) else av.lt (a9==6) fun eI=>if eI then au' (Ix N J al ak) fun e1=>au6 (avg e1) else av.lt (a9==8) fun fP=>if fP then au' (aD J al) fun fs=>au' (aD J al) fun fQ=>av.lt (decide ((avc .i64 (ak.a*fQ.jM))<fs.h0)) fun fX=>au6 (avg fX) else av.lt (a9==9) fun gO=>if gO then av.lt (avc .i64 (al+1)) fun gf=>au' (A7 N J N aB gf) fun iD=>au' (Iy N J al ak iD) fun jd=>au6 (avg jd) else au6 (avh ())
def m1 (N:Nat) (x0:ep) (J:List cb) (al:Int):Option Bool:=au' (Iu N J al x0 0 x0.kind) fun gg=>match gg with|avh j4=>au6 ava|avg jA=>au6 jA
def JW (N:Nat) (ak:ep) (aB:Int) (aG:fz):Option Bool:=if decide (0<aB) then au6 (decide (aG.kV<ak.a)) else au6 ava
def JY (N:Nat) (J:List cb) (al:List Int) (a9:Int):Option Bool:=au' (aD J a9) fun b1=>if decide (0<b1.pb) then au' (x6 N al a9) fun cg=>au6 (!cg) else au6 ava
def JX (N:Nat) (J:List cb) (al:List Int) (bc:Int) (a9:Int):Option Int:=au' (JY N J al a9) fun ca=>if ca then av.lt (avc .i64 (bc+1)) fun cx=>au6 cx else au6 bc
def CD (N:Nat) (J:List cb) (al:List Int) (aB:Int):Nat->Int->Int->Option Int|0,_,_=>au8|n+1,bc,a9=>if decide (a9<aB) then au' (JX N J al bc a9) fun cK=>av.lt (avc .i64 (a9+1)) fun dd=>CD N J al aB n cK dd else au6 bc
def CE (N:Nat) (J:List cb) (ak:ep) (aB:Int):Nat->Int->Option (Sum (Unit) (Int))|0,_=>au8|n+1,de=>if decide (de<aB) then au' (m1 N ak J de) fun dm=>if dm then au6 (avg de) else av.lt (avc .i64 (de+1)) fun dv=>CE N J ak aB n dv else au6 (avh ())
def LD (N:Nat) (x0:ep) (J:List cb) (al:List Int):Option Int:=av.lt (J.length:Int) fun aR=>av.lt (x0.kind==4) fun a2=>if a2 then au' (xZ N J al) fun a6=>au' (JW N x0 aR a6.1) fun bk=>if bk then au6 aR else au6 (-1) else av.lt (x0.kind==7) fun bq=>if bq then av.lt (min x0.a aR) fun bx=>av.lt (avc .i64 (aR - bx)) fun bM=>au' (CD N J al aR N 0 bM) fun dg=>if decide (dg<(min x0.b bx)) then au6 aR else au6 (-1) else au' (CE N J x0 aR N 0) fun c0=>match c0 with|avh cy=>au6 (-1)|avg dR=>au6 dR
def CA (N:Nat) (x0:List ep) (J:List cb) (al:List Int):Nat->Int->Option (Sum (Unit) (Int×Int×Int))|0,_=>au8|n+1,a9=>if decide (a9<(x0.length:Int)) then au' (aD x0 a9) fun a6=>au' (LD N a6 J al) fun bk=>if decide (0<=bk) then au' (aD x0 a9) fun bq=>au6 (avg (bq.number,bk,0)) else av.lt (avc .i64 (a9+1)) fun bx=>CA N x0 J al n bx else au6 (avh ())
def LC (N:Nat) (x0:List ep) (J:List cb) (al:List Int):Option (Int×Int×Int):=au' (Dx N x0) fun aR=>if aR !=0 then au6 (0,0,aR) else au' (xZ N J al) fun a2=>if a2.2 !=0 then au6 (0,0,a2.2) else au' (CA N x0 J al N 0) fun bM=>match bM with|avh b1=>au6 (0,(-1),0)|avg cg=>au6 (cg.1,cg.2.1,cg.2.2)
def It (N:Nat) (x0:List Int) (J:Int) (ah:Int):Option Bool:=au' (aD x0 ah) fun aR=>if decide (aR<0) then au6 au7 else au' (aD x0 ah) fun a2=>au6 (decide (J<=a2))
def A4 (N:Nat) (x0:List Int) (J:Int):Nat->Int->Option (Sum (Unit) (Bool))|0,_=>au8|n+1,ah=>if decide (ah<(x0.length:Int)) then au' (It N x0 J ah) fun a6=>if a6 then au6 (avg ava) else av.lt (avc .i64 (ah+1)) fun bk=>A4 N x0 J n bk else au6 (avh ())
def Lm (N:Nat) (x0:List Int) (J:Int):Option Bool:=au' (A4 N x0 J N 0) fun bq=>match bq with|avh bx=>au6 au7|avg bM=>au6 bM
def Kb (N:Nat) (ah:Int) (Rg:Bool):Option Int:=if Rg then av.lt (avc .i64 (ah+1)) fun bk=>au6 bk else au6 ah
def Ka (N:Nat) (x0:List Int) (J:Int) (an:Int) (ah:Int) (ax:Bool) (aB:Int):Option (Int×Int×Bool):=au' (aD x0 aB) fun aR=>av.lt (aR==J) fun a2=>if a2 then av.lt (avc .i64 (an+1)) fun a6=>au' (Kb N ah (!ax)) fun bq=>au6 (a6,bq,au7) else au' (aD x0 aB) fun bx=>av.lt (decide (J<bx)) fun bM=>if bM then au6 (an,ah,ava) else au6 (an,ah,ax)
def CM (N:Nat) (x0:List Int) (J:Int):Nat->Int->Int->Bool->Int->Option (Int×Int)|0,_,_,_,_=>au8|n+1,an,ah,ax,aB=>if decide (aB<(x0.length:Int)) then au' (Ka N x0 J an ah ax aB) fun b1=>av.lt (avc .i64 (aB+1)) fun cg=>CM N x0 J n b1.1 b1.2.1 b1.2.2 cg else au6 (an,ah)
def L3 (N:Nat) (x0:List Int) (J:Int):Option (Int×Int):=au' (CM N x0 J N 0 0 ava 0) fun ca=>au6 (ca.1,ca.2)
def Jv (N:Nat) (J:Int):Option Bool:=if decide (J<0) then au6 au7 else au6 (decide (16<J))
def Jw (N:Nat) (x0:List Int) (ax:List jB) (aB:Int):Option (List jB):=au' (L3 N x0 aB) fun a6=>if decide (0<a6.1) then au' (ck ax ([(jB.mk aB a6.1 a6.2)]:List jB)) fun bk=>au6 bk else au6 ax
def B6 (N:Nat) (x0:List Int) (J:Int):Nat->(List jB)->Int->Option (List jB)|0,_,_=>au8|n+1,ax,aB=>if decide (aB<J) then au' (Jw N x0 ax aB) fun bq=>av.lt (avc .i64 (aB+1)) fun bx=>B6 N x0 J n bq bx else au6 ax
def LQ (N:Nat) (x0:List Int) (J:Int):Option (List jB×Int):=au' (Jv N J) fun aR=>if aR then au6 ([],2) else if decide (96<(x0.length:Int)) then au6 ([],3) else au' (Lm N x0 J) fun a2=>if !a2 then au6 ([],2) else au' (B6 N x0 J N [] 0) fun bM=>au6 (bM,0)
def J1 (N:Nat) (bc:List Int) (cI:Int):Option Bool:=if decide (0<cI) then au' (aD bc cI) fun a6=>au' (aD bc cI) fun bk=>au' (aD bc (avc .i64 (cI - 1))) fun bq=>au' (aD bc (avc .i64 (cI - 1))) fun bx=>au6 (decide (bk<bx)) else au6 ava
def CG (N:Nat) (an:bX) (bc:List Int):Nat->js->(List Int)->Int->Option (Sum (js×List Int) (js×Int×Int×Int))|0,_,_,_=>au8|n+1,ax,cD,cI=>if decide (cI<(bc.length:Int)) then au' (J1 N bc cI) fun bM=>if bM then au6 (avg ((js.mk [] [] (fz.mk 0 0 0 0 0 0 0) []),0,cI,12)) else au' (aD bc cI) fun b1=>au' (aD bc cI) fun cg=>au' (ck cD ([(avc .i64 ((avc .i64 ((an.cw.length:Int) - 1)) - cg))]:List Int)) fun ca=>av.lt (avc .i64 (cI+1)) fun cx=>CG N an bc n ax ca cx else au6 (avh (ax,cD))
def LG (N:Nat) (x0:dx) (J:bX) (al:List cb):Option (js×Int×Int×Int):=au' (LH N x0 J al) fun aR=>if aR !=0 then au6 ((js.mk [] [] (fz.mk 0 0 0 0 0 0 0) []),0,0,aR) else if (al.length:Int)==0 then au6 ((js.mk [] [] (fz.mk 0 0 0 0 0 0 0) []),0,0,13) else au' (Lo N J al) fun a2=>if a2.2.2 !=0 then au6 ((js.mk [] [] (fz.mk 0 0 0 0 0 0 0) []),0,a2.2.1,a2.2.2) else au' (CG N J a2.1 N (js.mk [] [] (fz.mk 0 0 0 0 0 0 0) []) [] 0) fun cK=>match cK with|avh dd=>au' (LB N al [] x0.table x0.speed x0.kR) fun dg=>if dg.2 !=0 then au6 ((js.mk [] [] (fz.mk 0 0 0 0 0 0 0) []),0,0,dg.2) else au' (LC N x0.rules al []) fun dm=>if dm.1 !=0 then au6 ((js.mk [] [] (fz.mk 0 0 0 0 0 0 0) []),dm.1,dm.2.1,20) else if dg.1.oI !=0 then av.lt (al.length:Int) fun dv=>au6 ((js.mk [] [] (fz.mk 0 0 0 0 0 0 0) []),0,dv,20) else au' (ck ([]:List cb) al) fun c0=>au' (LQ N dd.2 (J.cw.length:Int)) fun cy=>au6 ((js.mk J.name c0 dg.1 cy.1),0,0,0)|avg dR=>au6 (dR.1,dR.2.1,dR.2.2.1,dR.2.2.2)
def Kz (N:Nat) (x0:bw) (J:Int) (al:Int) (cr:List dj):Option (Bool×List dj×bw):=au' (pV N x0.y.aP J) fun aR=>au' (tK N x0.y.cv) fun a2=>au' (tL N x0.c.aP a2 x0.y.aP (dj.mk J aR.1 al ava)) fun a6=>if a6.2 !=0 then au6 (ava,cr,(fR x0)) else au' (ck cr ([(dj.mk J aR.1 al ava)]:List dj)) fun bk=>au6 (au7,bk,(bw.mk x0.c (bN.mk x0.y.cv a6.1 x0.y.cH x0.y.busy x0.y.bJ x0.y.dF) x0.e (ef.mk x0.r.err [] x0.r.proof x0.r.gk x0.r.final x0.r.ey x0.r.place)))
def As (N:Nat) (x0:bw) (ax:List Int):Nat->(List cb)->Int->Option (List cb)|0,_,_=>au8|n+1,ah,aB=>if decide (aB<(ax.length:Int)) then au' (aD ax aB) fun bx=>au' (aD ax aB) fun bM=>au' (aD x0.y.cv bM) fun b1=>au' (ck ah ([b1]:List cb)) fun cg=>av.lt (avc .i64 (aB+1)) fun ca=>As N x0 ax n cg ca else au6 ah
def At (N:Nat) (ax:List Int):Nat->bw->Int->(List dj)->Option (bw×List dj)|0,_,_,_=>au8|n+1,x0,a9,cr=>if decide (a9<(ax.length:Int)) then au' (aD ax a9) fun dd=>au' (aD ax a9) fun dg=>au' (Kz N (fR x0) dg (-1) cr) fun dm=>av.lt (avc .i64 (a9+1)) fun dv=>At N ax n (fR dm.2.2) dv dm.2.1 else au6 ((fR x0),cr)
def Ar (N:Nat):Nat->bw->Int->(List bX)->(List dj)->Option (Sum (bw×List bX×List dj) (bw×Int×List dj))|0,_,_,_,_=>au8|n+1,x0,ak,gC,cr=>if decide (ak<(gC.length:Int)) then au' (aD gC ak) fun aR=>au' (aD gC ak) fun a2=>if !(a2.name==x0.e.name) then av.lt (avc .i64 (ak+1)) fun a6=>Ar N n (C9 x0) a6 gC cr else au' (aD x0.y.aP a2.bC) fun bk=>au' (ck ([]:List Int) bk) fun bq=>au' (As N (C9 x0) bq N [] 0) fun cx=>au' (LG N x0.c a2 cx) fun cK=>if cK.2.2.2 !=0 then au6 (avg ((bw.mk x0.c (bN.mk x0.y.cv x0.y.aP gC x0.y.busy x0.y.bJ x0.y.dF) x0.e (ef.mk x0.r.err [] x0.r.proof x0.r.gk x0.r.final cK.2.1 cK.2.2.1)),cK.2.2.2,cr)) else au' (At N bq N (bw.mk x0.c (bN.mk x0.y.cv x0.y.aP gC x0.y.busy x0.y.bJ x0.y.dF) x0.e (ef.mk x0.r.err [] x0.r.proof x0.r.gk cK.1 x0.r.ey x0.r.place)) 0 cr) fun c0=>au' (xv c0.1.y.cH ak ak) fun cy=>au' (ho c0.1.y.cH (avc .i64 (ak+1)) (c0.1.y.cH.length:Int)) fun dR=>au' (ck cy dR) fun eI=>if dR.isEmpty then au6 (avg ((bw.mk c0.1.c (bN.mk c0.1.y.cv c0.1.y.aP eI c0.1.y.busy c0.1.y.bJ c0.1.y.dF) c0.1.e (ef.mk c0.1.r.err [] c0.1.r.proof c0.1.r.gk c0.1.r.final c0.1.r.ey c0.1.r.place)),0,c0.2)) else au6 (avg ((bw.mk c0.1.c (bN.mk c0.1.y.cv c0.1.y.aP eI c0.1.y.busy c0.1.y.bJ c0.1.y.dF) c0.1.e (ef.mk c0.1.r.err [] c0.1.r.proof c0.1.r.gk c0.1.r.final c0.1.r.ey c0.1.r.place)),0,c0.2)) else au6 (avh ((C9 x0),gC,cr))
def KN (N:Nat) (x0:bw) (gC:List bX) (cr:List dj):Option (Int×List dj×bw):=if x0.y.busy then au6 (25,cr,(bw.mk x0.c (bN.mk x0.y.cv x0.y.aP gC x0.y.busy x0.y.bJ x0.y.dF) x0.e (ef.mk x0.r.err [] x0.r.proof x0.r.gk x0.r.final x0.r.ey x0.r.place))) else au' (Ar N N (C9 x0) 0 gC cr) fun fl=>match fl with|avh dT=>au6 (7,dT.2.2,(bw.mk dT.1.c (bN.mk dT.1.y.cv dT.1.y.aP dT.2.1 dT.1.y.busy dT.1.y.bJ dT.1.y.dF) dT.1.e (ef.mk dT.1.r.err [] dT.1.r.proof dT.1.r.gk dT.1.r.final dT.1.r.ey dT.1.r.place)))|avg e1=>au6 (e1.2.1,e1.2.2,(fR e1.1))
def I4 (N:Nat) (aG:bw) (a3:Int) (fk:Int) (oX:List cb) (oY:List bX) (pQ:List dj) (pR:List da):Option (bw×Int):=av.lt (fk==1) fun a2=>if a2 then au' (KM N (bw.mk aG.c (bN.mk [] aG.y.aP oY aG.y.busy aG.y.bJ aG.y.dF) aG.e (ef.mk aG.r.err [] aG.r.proof pR aG.r.final aG.r.ey aG.r.place)) oX pQ) fun a6=>au6 ((bw.mk a6.2.2.c a6.2.2.y a6.2.2.e (ef.mk a6.2.2.r.err a6.2.1 a6.2.2.r.proof a6.2.2.r.gk a6.2.2.r.final a6.2.2.r.ey a6.2.2.r.place)),a6.1) else av.lt (fk==2) fun bk=>if bk then au' (K2 N (bw.mk aG.c (bN.mk oX aG.y.aP [] aG.y.busy aG.y.bJ aG.y.dF) aG.e (ef.mk aG.r.err pQ aG.r.proof pR aG.r.final aG.r.ey aG.r.place)) oY) fun bq=>au6 ((bw.mk bq.2.2.c (bN.mk bq.2.2.y.cv bq.2.2.y.aP bq.2.1 bq.2.2.y.busy bq.2.2.y.bJ bq.2.2.y.dF) bq.2.2.e bq.2.2.r),bq.1) else av.lt (fk==3) fun bx=>if bx then au' (Lg N (bw.mk aG.c (bN.mk oX aG.y.aP oY aG.y.busy aG.y.bJ aG.y.dF) aG.e (ef.mk aG.r.err pQ aG.r.proof pR aG.r.final aG.r.ey aG.r.place))) fun bM=>au6 (bM.2,bM.1) else av.lt (fk==4) fun b1=>if b1 then au' (Lh N (bw.mk aG.c (bN.mk oX aG.y.aP oY aG.y.busy aG.y.bJ aG.y.dF) aG.e (ef.mk aG.r.err [] aG.r.proof pR aG.r.final aG.r.ey aG.r.place)) pQ) fun cg=>au6 (cg.2,cg.1) else av.lt (fk==5) fun ca=>if ca then au' (KS N (bw.mk aG.c (bN.mk oX aG.y.aP oY aG.y.busy aG.y.bJ aG.y.dF) aG.e (ef.mk aG.r.err [] aG.r.proof [] aG.r.final aG.r.ey aG.r.place)) pQ pR) fun cx=>au6 (cx.2,cx.1) else av.lt (fk==6) fun cK=>if cK then au' (Lf N (bw.mk aG.c (bN.mk oX aG.y.aP oY aG.y.busy aG.y.bJ aG.y.dF) aG.e (ef.mk aG.r.err [] aG.r.proof pR aG.r.final aG.r.ey aG.r.place)) pQ) fun dd=>au6 ((bw.mk dd.2.2.c dd.2.2.y dd.2.2.e (ef.mk dd.2.2.r.err dd.2.1 dd.2.2.r.proof dd.2.2.r.gk dd.2.2.r.final dd.2.2.r.ey dd.2.2.r.place)),dd.1) else av.lt (fk==7) fun dg=>if dg then au' (KN N (bw.mk aG.c (bN.mk oX aG.y.aP [] aG.y.busy aG.y.bJ aG.y.dF) aG.e (ef.mk aG.r.err [] aG.r.proof pR aG.r.final aG.r.ey aG.r.place)) oY pQ) fun dm=>au6 ((bw.mk dm.2.2.c dm.2.2.y dm.2.2.e (ef.mk dm.2.2.r.err dm.2.1 dm.2.2.r.proof dm.2.2.r.gk dm.2.2.r.final dm.2.2.r.ey dm.2.2.r.place)),dm.1) else au6 ((bw.mk aG.c (bN.mk oX aG.y.aP oY aG.y.busy aG.y.bJ aG.y.dF) aG.e (ef.mk aG.r.err pQ aG.r.proof pR aG.r.final aG.r.ey aG.r.place)),a3)
def DC (N:Nat) (x0:dx) (J:bN) (al:bj):Option (bN×ef):=au' (DB N J) fun aR=>au' (I4 N (bw.mk x0 (bN.mk [] aR.1.aP [] aR.1.busy aR.1.bJ aR.1.dF) al (ef.mk 0 [] (g7.mk (e4.mk 0 []) []) [] (js.mk [] [] (fz.mk 0 0 0 0 0 0 0) []) 0 0)) 1 al.kind aR.2.1 aR.2.2 [] []) fun dv=>if dv.2 !=0 then au' (DB N J) fun c0=>au6 ((bN.mk c0.2.1 c0.1.aP c0.2.2 c0.1.busy c0.1.bJ c0.1.dF),(ef.mk dv.2 [] (g7.mk (e4.mk 0 []) []) [] (js.mk [] [] (fz.mk 0 0 0 0 0 0 0) []) dv.1.r.ey dv.1.r.place)) else au6 (dv.1.y,dv.1.r)
def HH (N:Nat) (al:Int) (aV:Int):Option Bool:=if decide (aV<3) then au6 (decide (3<al)) else au6 ava
def AG (N:Nat) (al:Int) (an:dx):Nat->cA->bN->(List bj)->Int->Option (cA×bN×List bj)|0,_,_,_,_=>au8|n+1,x0,aB,a3,aV=>au' (HH N al aV) fun a2=>if a2 then au' (Dh N x0 an aB (aB.cv.length:Int)) fun a6=>au' (aD [(bj.mk 2 0 0 0 0 [] [] (bX.mk [120,49] (avc .i64 ((an.aP.length:Int) - 1)) ([[98],[97]]:List (List UInt8))) [] []),(bj.mk 2 0 0 0 0 [] [] (bX.mk [120,50] (avc .i64 ((an.aP.length:Int) - 2)) ([[99],[100]]:List (List UInt8))) [] []),a6.1] aV) fun bk=>au' (DC N an aB bk) fun bq=>au' (ck a3 ([bk]:List bj)) fun bx=>av.lt (avc .i64 (aV+1)) fun bM=>AG N al an n a6.2 bq.1 bx bM else au6 (x0,aB,a3)
def AH (N:Nat) (an:dx):Nat->cA->bN->(List bj)->Int->Option (cA×List bj)|0,_,_,_,_=>au8|n+1,x0,aB,a3,a9=>if decide (0<a9) then au' (Dh N x0 an aB (aB.cv.length:Int)) fun ca=>au' (DC N an aB ca.1) fun cx=>au' (ck a3 ([ca.1]:List bj)) fun cK=>av.lt (avc .i64 (a9 - 1)) fun dd=>AH N an n ca.2 cx.1 cK dd else au6 (x0,a3)
def KJ (N:Nat) (x0:cA) (J:dx) (al:Int):Option (List bj×cA):=au' (L1 N J) fun aR=>if aR.2 !=0 then au6 ([],x0) else au' (AG N al J N x0 aR.1 [] 0) fun b1=>au' (eW N b1.1 (avc .i64 (al+1))) fun cg=>au' (AH N J N cg.2 b1.2.1 b1.2.2 cg.1) fun dg=>au6 (dg.2,dg.1)
def Jd (N:Nat) (aB:Int) (dt:Bool):Option Bool:=if dt then au6 dt else av.lt (aB==5) fun bk=>au6 bk
def Jc (N:Nat) (ak:bj) (aB:Int):Option (Sum (bj) (Bool)):=av.lt (aB==1) fun aR=>if aR then au6 (avh (bj.mk ak.kind 0 ak.to ak.count ak.cE ak.aP ak.cQ ak.order ak.name [])) else av.lt (aB==2) fun a2=>if a2 then au6 (avh (bj.mk ak.kind ak.bC ak.to ak.count ak.cE ak.aP ak.cQ (bX.mk [] 0 []) ak.name ak.data)) else av.lt (aB==3) fun a6=>au' (Jd N aB a6) fun bq=>if bq then au6 (avh (bj.mk ak.kind 0 ak.to ak.count 0 [] ak.cQ ak.order ak.name ak.data)) else av.lt (aB==4) fun bx=>if bx then au6 (avh (bj.mk ak.kind ak.bC ak.to ak.count ak.cE ak.aP [] ak.order ak.name ak.data)) else av.lt (aB==6) fun bM=>if bM then au6 (avh (bj.mk ak.kind 0 0 0 ak.cE ak.aP ak.cQ ak.order ak.name ak.data)) else av.lt (aB==7) fun b1=>if b1 then au6 (avh (bj.mk ak.kind ak.bC ak.to ak.count ak.cE ak.aP ak.cQ ak.order [] ak.data)) else au6 (avg ava)
def J4 (N:Nat) (ak:bj) (an:bX):Option Bool:=if ak.bC==0 then if ak.to==0 then if ak.count==0 then if ak.cE==0 then if (ak.aP.length:Int)==0 then if (ak.cQ.length:Int)==0 then if an.name==[] then if an.bC==0 then if (an.cw.length:Int)==0 then if ak.name==[] then av.lt ((ak.data.length:Int)==0) fun cx=>au6 cx else au6 ava else au6 ava else au6 ava else au6 ava else au6 ava else au6 ava else au6 ava else au6 ava else au6 ava else au6 ava
def LX (N:Nat) (x0:bj):Option Bool:=au' (Jc N x0 x0.kind) fun cg=>match cg with|avh ca=>au' (J4 N ca ca.order) fun cK=>au6 cK|avg dd=>au6 dd
def J8 (N:Nat) (x0:Int):Option Bool:=if decide (0<=x0) then av.lt (decide (x0<=65535)) fun aR=>au6 aR else au6 ava
def pX (N:Nat) (x0:Int):Option Bool:=au' (J8 N x0) fun a2=>au6 a2
def I7 (N:Nat) (J:bj):Option Bool:=au' (pX N J.bC) fun aR=>if aR then au' (pX N J.to) fun a2=>if a2 then au' (pX N J.count) fun a6=>if a6 then au' (pX N J.cE) fun bk=>if bk then if decide ((J.aP.length:Int)<=255) then if decide ((J.cQ.length:Int)<=255) then if decide ((J.name.length:Int)<=255) then if decide ((J.data.length:Int)<=8000) then au' (pX N J.order.bC) fun bq=>if bq then if decide ((J.order.name.length:Int)<=255) then av.lt (decide ((J.order.cw.length:Int)<=255)) fun bx=>au6 bx else au6 ava else au6 ava else au6 ava else au6 ava else au6 ava else au6 ava else au6 ava else au6 ava else au6 ava else au6 ava
def I8 (N:Nat) (J:bj) (ak:Bool) (an:Int):Option Bool:=if ak then au6 (decide (an<(J.aP.length:Int))) else au6 ava
def BK (N:Nat) (J:bj):Nat->Bool->Int->Option Bool|0,_,_=>au8|n+1,ak,an=>au' (I8 N J ak an) fun b1=>if b1 then au' (aD J.aP an) fun cg=>au' (pX N cg) fun ca=>av.lt (avc .i64 (an+1)) fun cx=>BK N J n ca cx else au6 ak
def I9 (N:Nat) (J:bj) (ak:Bool) (ah:Int):Option Bool:=if ak then au6 (decide (ah<(J.cQ.length:Int))) else au6 ava
def Ja (N:Nat) (J:bj) (ah:Int):Option Bool:=au' (aD J.cQ ah) fun dg=>au' (pX N dg.place) fun dm=>if dm then au' (aD J.cQ ah) fun dv=>au' (pX N dv.bC) fun c0=>au6 c0 else au6 ava
def BL (N:Nat) (J:bj):Nat->Bool->Int->Option Bool|0,_,_=>au8|n+1,ak,ah=>au' (I9 N J ak ah) fun dd=>if dd then au' (Ja N J ah) fun cy=>av.lt (avc .i64 (ah+1)) fun dR=>BL N J n cy dR else au6 ak
def Jb (N:Nat) (J:bj) (ak:Bool) (ax:Int):Option Bool:=if ak then au6 (decide (ax<(J.order.cw.length:Int))) else au6 ava
def BM (N:Nat) (J:bj):Nat->Bool->Int->Option Bool|0,_,_=>au8|n+1,ak,ax=>au' (Jb N J ak ax) fun fl=>if fl then au' (aD J.order.cw ax) fun dT=>av.lt (decide ((dT.length:Int)<=255)) fun e1=>av.lt (avc .i64 (ax+1)) fun fP=>BM N J n e1 fP else au6 ak
def LW (N:Nat) (x0:bj):Option Bool:=au' (I7 N x0) fun bM=>au' (BK N x0 N bM 0) fun cK=>au' (BL N x0 N cK 0) fun eI=>au' (BM N x0 N eI 0) fun fs=>au6 fs
def nE (N:Nat) (x0:Int):Option (List UInt8):=au' (fp (avc .u8 ((Int.fdiv x0 256)))) fun aR=>au' (fp (avc .u8 x0)) fun a2=>au6 ([aR,a2]:List UInt8)
def x5 (N:Nat) (x0:List UInt8):Option (List UInt8):=au' (fp (avc .u8 ((x0.length:Int)))) fun aR=>au' (ck ([aR]:List UInt8) x0) fun a2=>au6 a2
def Be (N:Nat) (J:bj):Nat->(List UInt8)->Int->Option (List UInt8)|0,_,_=>au8|n+1,an,ah=>if decide (ah<(J.order.cw.length:Int)) then au' (aD J.order.cw ah) fun c0=>au' (x5 N c0) fun cy=>au' (ck an cy) fun dR=>av.lt (avc .i64 (ah+1)) fun eI=>Be N J n dR eI else au6 an
def H5 (N:Nat) (eT:Int) (C4:Bool):Option Bool:=if C4 then au6 C4 else av.lt (eT==5) fun e1=>au6 e1
def Bf (N:Nat) (J:bj):Nat->(List UInt8)->Int->Option (List UInt8)|0,_,_=>au8|n+1,an,ax=>if decide (ax<(J.aP.length:Int)) then au' (aD J.aP ax) fun gP=>au' (nE N gP) fun jc=>au' (ck an jc) fun iD=>av.lt (avc .i64 (ax+1)) fun jq=>Bf N J n iD jq else au6 an
def Bg (N:Nat) (J:bj):Nat->(List UInt8)->Int->Option (List UInt8)|0,_,_=>au8|n+1,an,aB=>if decide (aB<(J.cQ.length:Int)) then au' (aD J.cQ aB) fun jA=>au' (nE N jA.place) fun mu=>au' (ck an mu) fun h4=>au' (aD J.cQ aB) fun ll=>au' (nE N ll.bC) fun fg=>au' (ck h4 fg) fun ln=>av.lt (avc .i64 (aB+1)) fun oc=>Bg N J n ln oc else au6 an
def H4 (N:Nat) (J:bj) (an:List UInt8) (eT:Int):Option (List UInt8):=av.lt (eT==1) fun bk=>if bk then au' (nE N J.bC) fun bq=>au' (ck an bq) fun bx=>au' (nE N (J.data.length:Int)) fun bM=>au' (ck bx bM) fun b1=>au' (ck b1 J.data) fun cg=>au6 cg else av.lt (eT==2) fun ca=>if ca then au' (x5 N J.order.name) fun cx=>au' (ck an cx) fun cK=>au' (nE N J.order.bC) fun dd=>au' (ck cK dd) fun dg=>au' (fp (avc .u8 ((J.order.cw.length:Int)))) fun dm=>au' (ck dg ([dm]:List UInt8)) fun dv=>au' (Be N J N dv 0) fun fl=>au6 fl else av.lt (eT==3) fun dT=>au' (H5 N eT dT) fun fP=>if fP then au' (nE N J.bC) fun fs=>au' (ck an fs) fun fQ=>au' (nE N J.cE) fun fX=>au' (ck fQ fX) fun gO=>au' (fp (avc .u8 ((J.aP.length:Int)))) fun gf=>au' (ck gO ([gf]:List UInt8)) fun hH=>au' (Bf N J N hH 0) fun hI=>au6 hI else av.lt (eT==4) fun jd=>if jd then au' (fp (avc .u8 ((J.cQ.length:Int)))) fun gg=>au' (ck an ([gg]:List UInt8)) fun j4=>au' (Bg N J N j4 0) fun qR=>au6 qR else av.lt (eT==6) fun lo=>if lo then au' (nE N J.bC) fun r9=>au' (ck an r9) fun vQ=>au' (nE N J.to) fun sa=>au' (ck vQ sa) fun C7=>au' (nE N J.count) fun xQ=>au' (ck C7 xQ) fun sb=>au6 sb else au' (x5 N J.name) fun tG=>au' (ck an tG) fun xR=>au6 xR
def Dq (N:Nat) (x0:bj):Option (List UInt8×Int):=au' (LX N x0) fun aR=>if !aR then au6 ([],1) else au' (LW N x0) fun a2=>if !a2 then au6 ([],2) else au' (fp (avc .u8 (x0.kind))) fun a6=>au' (H4 N x0 ([a6]:List UInt8) x0.kind) fun xS=>au6 (xS,0)
def IK (N:Nat) (x0:Int):Option Bool:=if decide (1<=x0) then av.lt (decide (x0<=7)) fun aR=>au6 aR else au6 ava
def K0 (N:Nat) (x0:Int):Option Bool:=au' (IK N x0) fun a2=>au6 a2
def IY (N:Nat) (an:Int) (de:Bool):Option Bool:=if de then au6 de else av.lt (an==5) fun bk=>au6 bk
def IX (N:Nat) (J:bj) (an:Int):Option bj:=av.lt (an==1) fun aR=>if aR then au6 (bj.mk J.kind 0 J.to J.count J.cE J.aP J.cQ J.order J.name []) else av.lt (an==2) fun a2=>if a2 then au6 (bj.mk J.kind J.bC J.to J.count J.cE J.aP J.cQ (bX.mk [] 0 []) J.name J.data) else av.lt (an==3) fun a6=>au' (IY N an a6) fun bq=>if bq then au6 (bj.mk J.kind 0 J.to J.count 0 [] J.cQ J.order J.name J.data) else av.lt (an==4) fun bx=>if bx then au6 (bj.mk J.kind J.bC J.to J.count J.cE J.aP [] J.order J.name J.data) else av.lt (an==6) fun bM=>if bM then au6 (bj.mk J.kind 0 0 0 J.cE J.aP J.cQ J.order J.name J.data) else av.lt (an==7) fun b1=>if b1 then au6 (bj.mk J.kind J.bC J.to J.count J.cE J.aP J.cQ J.order [] J.data) else au6 J
def Lb (N:Nat) (x0:bj):Option bj:=au' (IX N x0 x0.kind) fun cg=>au6 cg
def IZ (N:Nat) (ak:bX):Option Bool:=if ak.name==[] then if ak.bC==0 then av.lt ((ak.cw.length:Int)==0) fun aR=>au6 aR else au6 ava else au6 ava
def I0 (N:Nat) (J:bj) (an:Bool):Option Bool:=if J.bC==0 then if J.to==0 then if J.count==0 then if J.cE==0 then if (J.aP.length:Int)==0 then if (J.cQ.length:Int)==0 then if an then if J.name==[] then av.lt ((J.data.length:Int)==0) fun a6=>au6 a6 else au6 ava else au6 ava else au6 ava else au6 ava else au6 ava else au6 ava else au6 ava else au6 ava
def Lc (N:Nat) (x0:bj):Option Bool:=au' (IZ N x0.order) fun a2=>au' (I0 N x0 a2) fun bk=>au6 bk
def KE (N:Nat) (x0:cF) (J:Int):Option cF:=if x0.bad then au6 (cF.mk [] au7) else if decide (J<0) then au6 (cF.mk [] au7) else au6 (cF.mk [] (decide (255<J)))
def tI (N:Nat) (x0:cF) (J:Int) (fE:List UInt8):Option (List UInt8×cF):=au' (KE N (cF.mk [] x0.bad) J) fun aR=>au' (fp (avc .u8 J)) fun a2=>au' (ck fE ([a2]:List UInt8)) fun a6=>au6 (a6,(cF.mk [] aR.bad))
def KB (N:Nat) (x0:cF) (ah:Int):Option cF:=if x0.bad then au6 (cF.mk [] au7) else if decide (ah<0) then au6 (cF.mk [] au7) else au6 (cF.mk [] (decide (65535<ah)))
def Db (N:Nat) (ax:List Int) (aB:Int):Nat->cF->Int->(List UInt8)->Option (cF×List UInt8)|0,_,_,_=>au8|n+1,x0,aG,fE=>if decide (aG<aB) then au' (aD ax aG) fun aR=>au' (KB N (cF.mk [] x0.bad) aR) fun a2=>au' (fp (avc .u8 ((Int.fdiv aR 256)))) fun a6=>au' (fp (avc .u8 aR)) fun bk=>au' (ck fE ([a6,bk]:List UInt8)) fun bq=>Db N ax aB n (cF.mk [] a2.bad) (avc .i64 (aG+1)) bq else au6 ((cF.mk [] x0.bad),fE)
def tH (N:Nat) (x0:cF) (J:List Int) (fE:List UInt8):Option (List UInt8×cF):=au' (Db N J (J.length:Int) N (cF.mk [] x0.bad) 0 fE) fun bx=>au6 (bx.2,(cF.mk [] bx.1.bad))
def Dg (N:Nat) (x0:cF) (J:List UInt8) (fE:List UInt8):Option (List UInt8×cF):=au' (tI N (cF.mk [] x0.bad) (J.length:Int) fE) fun aR=>au' (ck aR.1 J) fun a2=>au6 (a2,(cF.mk [] aR.2.bad))
def HB (N:Nat) (x0:cF) (J:Int):Option cF:=if x0.bad then au6 (cF.mk [] au7) else if decide (J<0) then au6 (cF.mk [] au7) else au6 (cF.mk [] (decide (255<J)))
def KD (N:Nat) (x0:cF) (J:Int) (fE:List UInt8):Option (List UInt8×cF):=au' (HB N (cF.mk [] x0.bad) J) fun aR=>au' (fp (avc .u8 J)) fun a2=>au' (ck fE ([a2]:List UInt8)) fun a6=>au6 (a6,(cF.mk [] aR.bad))
def KH (N:Nat) (x0:cF) (J:List UInt8) (fE:List UInt8):Option (List UInt8×cF):=au' (KD N (cF.mk [] x0.bad) (J.length:Int) fE) fun aR=>au' (ck aR.1 J) fun a2=>au6 (a2,(cF.mk [] aR.2.bad))
def Ht (N:Nat) (x0:cF) (ah:Int):Option cF:=if x0.bad then au6 (cF.mk [] au7) else if decide (ah<0) then au6 (cF.mk [] au7) else au6 (cF.mk [] (decide (65535<ah)))
def Ay (N:Nat) (ax:List Int) (aB:Int):Nat->cF->Int->(List UInt8)->Option (cF×List UInt8)|0,_,_,_=>au8|n+1,x0,aG,fE=>if decide (aG<aB) then au' (aD ax aG) fun aR=>au' (Ht N (cF.mk [] x0.bad) aR) fun a2=>au' (fp (avc .u8 ((Int.fdiv aR 256)))) fun a6=>au' (fp (avc .u8 aR)) fun bk=>au' (ck fE ([a6,bk]:List UInt8)) fun bq=>Ay N ax aB n (cF.mk [] a2.bad) (avc .i64 (aG+1)) bq else au6 ((cF.mk [] x0.bad),fE)
def KA (N:Nat) (x0:cF) (J:List Int) (fE:List UInt8):Option (List UInt8×cF):=au' (Ay N J (J.length:Int) N (cF.mk [] x0.bad) 0 fE) fun bx=>au6 (bx.2,(cF.mk [] bx.1.bad))
def HN (N:Nat) (J:bj):Option Bool:=au' (K0 N J.kind) fun aR=>if !aR then au6 au7 else au' (Lb N J) fun a2=>au' (Lc N a2) fun a6=>au6 (!a6)
def Am (N:Nat) (nB:List (List UInt8)) (tF:Int):Nat->cF->Int->(List UInt8)->Option (cF×List UInt8)|0,_,_,_=>au8|n+1,an,o1,iK=>if decide (o1<tF) then au' (aD nB o1) fun dd=>au' (KH N (cF.mk [] an.bad) dd iK) fun dg=>Am N nB tF n (cF.mk [] dg.2.bad) (avc .i64 (o1+1)) dg.1 else au6 ((cF.mk [] an.bad),iK)
def HP (N:Nat) (iC:Int) (C5:Bool):Option Bool:=if C5 then au6 C5 else av.lt (iC==5) fun c0=>au6 c0
def An (N:Nat) (tB:List er) (tC:Int):Nat->cF->Int->(List UInt8)->Option (cF×List UInt8)|0,_,_,_=>au8|n+1,an,oW,iK=>if decide (oW<tC) then au' (aD tB oW) fun fP=>au' (KA N (cF.mk [] an.bad) ([fP.place,fP.bC]:List Int) iK) fun fs=>An N tB tC n (cF.mk [] fs.2.bad) (avc .i64 (oW+1)) fs.1 else au6 ((cF.mk [] an.bad),iK)
def HO (N:Nat) (J:bj) (an:cF) (iC:Int) (iK:List UInt8):Option (cF×List UInt8):=av.lt (iC==1) fun bx=>if bx then au' (tH N (cF.mk [] (decide (8000<(J.data.length:Int)))) ([J.bC,(J.data.length:Int)]:List Int) iK) fun bM=>au' (ck bM.1 J.data) fun b1=>au6 ((cF.mk [] bM.2.bad),b1) else av.lt (iC==2) fun cg=>if cg then au' (Dg N (cF.mk [] an.bad) J.order.name iK) fun ca=>au' (tH N (cF.mk [] ca.2.bad) ([J.order.bC]:List Int) ca.1) fun cx=>au' (tI N (cF.mk [] cx.2.bad) (J.order.cw.length:Int) cx.1) fun cK=>au' (Am N J.order.cw (J.order.cw.length:Int) N (cF.mk [] cK.2.bad) 0 cK.1) fun dm=>au6 ((cF.mk [] dm.1.bad),dm.2) else av.lt (iC==3) fun dv=>au' (HP N iC dv) fun cy=>if cy then au' (tH N (cF.mk [] an.bad) ([J.bC,J.cE]:List Int) iK) fun dR=>au' (tI N (cF.mk [] dR.2.bad) (J.aP.length:Int) dR.1) fun eI=>au' (tH N (cF.mk [] eI.2.bad) J.aP eI.1) fun fl=>au6 ((cF.mk [] fl.2.bad),fl.1) else av.lt (iC==4) fun dT=>if dT then au' (tI N (cF.mk [] an.bad) (J.cQ.length:Int) iK) fun e1=>au' (An N J.cQ (J.cQ.length:Int) N (cF.mk [] e1.2.bad) 0 e1.1) fun fQ=>au6 ((cF.mk [] fQ.1.bad),fQ.2) else av.lt (iC==6) fun fX=>if fX then au' (tH N (cF.mk [] an.bad) ([J.bC,J.to,J.count]:List Int) iK) fun gO=>au6 ((cF.mk [] gO.2.bad),gO.1) else av.lt (iC==7) fun gf=>if gf then au' (Dg N (cF.mk [] an.bad) J.name iK) fun hH=>au6 ((cF.mk [] hH.2.bad),hH.1) else au6 ((cF.mk [] an.bad),iK)
def KL (N:Nat) (x0:bj):Option (List UInt8×Int):=au' (HN N x0) fun bk=>if bk then au6 ([],1) else au' (tI N (cF.mk [] ava) x0.kind []) fun bq=>au' (HO N x0 (cF.mk [] bq.2.bad) x0.kind bq.1) fun gP=>if gP.1.bad then au6 ([],2) else au6 (gP.2,0)
def e0 (n:Nat) (b:List UInt8):Option (List UInt8×List UInt8):=if n<=b.length then au6 (b.take n,b.drop n) else au8
def kZ:List UInt8->Option (Nat×List UInt8)|x::r=>au6 (x.toNat,r)|[]=>au8
def eo:List UInt8->Option (Int×List UInt8)|x::y::r=>au6 (((x.toNat*256+y.toNat:Nat):Int),r)|_=>au8
def kG (b:List UInt8):Option (List UInt8×List UInt8):=au' (kZ b) fun p=>e0 p.1 p.2
def lj (b:List UInt8):Option (er×List UInt8):=au' (eo b) fun p=>au' (eo p.2) fun q=>au6 (er.mk p.1 q.1,q.2)
def hb {aA:Type} (f:List UInt8->Option (aA×List UInt8)):Nat->List UInt8->Option (List aA×List UInt8)|0,b=>au6 ([],b)|n+1,b=>au' (f b) fun p=>au' (hb f n p.2) fun q=>au6 (p.1::q.1,q.2)
def kQ (k:Int):bj:=bj.mk k 0 0 0 0 [] [] (bX.mk [] 0 []) [] []
def eM (k:Int) (b:List UInt8):Option (bj×List UInt8):=
 if k=1 then au' (eo b) fun t=>au' (eo t.2) fun n=>au' (e0 n.1.toNat n.2) fun d=>au6 (bj.mk k t.1 0 0 0 [] [] (bX.mk [] 0 []) [] d.1,d.2)
 else if k=2 then au' (kG b) fun n=>au' (eo n.2) fun t=>au' (kZ t.2) fun c=>au' (hb kG c.1 c.2) fun d=>au6 (bj.mk k 0 0 0 0 [] [] (bX.mk n.1 t.1 d.1) [] [],d.2)
 else if k=3\/k=5 then au' (eo b) fun t=>au' (eo t.2) fun w=>au' (kZ w.2) fun c=>au' (hb eo c.1 c.2) fun d=>au6 (bj.mk k t.1 0 0 w.1 d.1 [] (bX.mk [] 0 []) [] [],d.2)
 else if k=4 then au' (kZ b) fun c=>au' (hb lj c.1 c.2) fun d=>au6 (bj.mk k 0 0 0 0 [] d.1 (bX.mk [] 0 []) [] [],d.2)
 else if k=6 then au' (eo b) fun t=>au' (eo t.2) fun o=>au' (eo o.2) fun c=>au6 (bj.mk k t.1 o.1 c.1 0 [] [] (bX.mk [] 0 []) [] [],c.2)
 else au' (kG b) fun n=>au6 (bj.mk k 0 0 0 0 [] [] (bX.mk [] 0 []) n.1 [],n.2)
def gS (b:List UInt8):bj×Int:=
 match kZ b with
 |none=>(kQ 0,10)
 |some (k,r)=>if 1<=k/\k<=7 then match eM k r with
   |none=>(kQ 0,10)
   |some (e,r)=>if 0<r.length then (kQ 0,11) else if 8000<e.data.length then (kQ 0,2) else (e,0)
  else (kQ 0,11)
def tJ (N:Nat) (x0:List UInt8):Option (bj×Int):=if x0.length<4294967296 then au6 (gS x0) else au8
def IW (N:Nat) (x0:eO) (J:Int):Option Bool:=if x0.short then au6 au7 else au6 (decide ((avc .i64 ((x0.b.length:Int) - x0.at_))<J))
def vV (N:Nat) (x0:eO) (J:Int):Option (List UInt8×eO):=au' (IW N x0 J) fun aR=>if aR then au' (iG 0 J) fun a2=>au6 (a2,(eO.mk x0.b x0.at_ au7)) else au' (ho x0.b x0.at_ (avc .i64 (x0.at_+J))) fun a6=>au' (ck ([]:List UInt8) a6) fun bk=>au6 (bk,(eO.mk x0.b (avc .i64 (x0.at_+J)) x0.short))
def nD (N:Nat) (x0:eO):Option (Int×eO):=au' (vV N x0 2) fun aR=>au' (aD aR.1 0) fun a2=>au' (aD aR.1 0) fun a6=>au' (aD aR.1 1) fun bk=>au' (aD aR.1 1) fun bq=>av.lt (lg .or .i64 (avc .i64 ((avc .i64 ((avs a6:Int)))*256)) (avc .i64 ((avs bq:Int)))) fun bx=>au6 (bx,aR.2)
def vU (N:Nat) (x0:eO):Option (Int×eO):=au' (vV N x0 1) fun aR=>au' (aD aR.1 0) fun a2=>au' (aD aR.1 0) fun a6=>av.lt (avc .i64 ((avs a6:Int))) fun bk=>au6 (bk,aR.2)
def xW (N:Nat) (x0:eO):Option (List UInt8×eO):=au' (vU N x0) fun aR=>au' (vV N aR.2 aR.1) fun a2=>au6 (a2.1,a2.2)
def HZ (N:Nat) (ah:eO) (ax:Int):Option Bool:=if decide (0<ax) then au6 (!ah.short) else au6 ava
def Bb (N:Nat):Nat->bj->eO->Int->(List (List UInt8))->Option (bj×eO×List (List UInt8))|0,_,_,_,_=>au8|n+1,an,ah,ax,lW=>au' (HZ N ah ax) fun ca=>if ca then au' (xW N ah) fun cx=>au' (ck lW ([cx.1]:List (List UInt8))) fun cK=>av.lt (avc .i64 (ax - 1)) fun dd=>Bb N n (je an) cx.2 dd cK else au6 ((je an),ah,lW)
def H0 (N:Nat) (jH:Int) (C3:Bool):Option Bool:=if C3 then au6 C3 else av.lt (jH==5) fun dv=>au6 dv
def H2 (N:Nat) (ah:eO) (aB:Int):Option Bool:=if decide (0<aB) then au6 (!ah.short) else au6 ava
def Bc (N:Nat):Nat->bj->eO->Int->(List Int)->Option (bj×eO×List Int)|0,_,_,_,_=>au8|n+1,an,ah,aB,lU=>au' (H2 N ah aB) fun fl=>if fl then au' (nD N ah) fun dT=>au' (ck lU ([dT.1]:List Int)) fun e1=>av.lt (avc .i64 (aB - 1)) fun fP=>Bc N n (je an) dT.2 fP e1 else au6 ((je an),ah,lU)
def H3 (N:Nat) (ah:eO) (aG:Int):Option Bool:=if decide (0<aG) then au6 (!ah.short) else au6 ava
def Bd (N:Nat):Nat->bj->eO->Int->(List er)->Option (bj×eO×List er)|0,_,_,_,_=>au8|n+1,an,ah,aG,lV=>au' (H3 N ah aG) fun gO=>if gO then au' (nD N ah) fun gf=>au' (nD N gf.2) fun hH=>au' (ck lV ([(er.mk gf.1 hH.1)]:List er)) fun gP=>av.lt (avc .i64 (aG - 1)) fun jc=>Bd N n (je an) hH.2 jc gP else au6 ((je an),ah,lV)
def IB (N:Nat) (al:bj) (an:bj) (ah:eO) (jH:Int) (lU:List Int) (lV:List er) (lW:List (List UInt8)) (tD:List UInt8):Option (Sum (bj×bj×eO×List Int×List er×List (List UInt8)×List UInt8) (bj×Int)):=av.lt (jH==1) fun a2=>if a2 then au' (nD N ah) fun a6=>au' (nD N a6.2) fun bk=>au' (vV N bk.2 bk.1) fun bq=>au6 (avh (al,(bj.mk an.kind a6.1 an.to an.count an.cE [] [] (bX.mk an.order.name an.order.bC []) an.name []),bq.2,lU,lV,lW,bq.1)) else av.lt (jH==2) fun bx=>if bx then au' (xW N ah) fun bM=>au' (nD N bM.2) fun b1=>au' (vU N b1.2) fun cg=>au' (Bb N N (bj.mk an.kind an.bC an.to an.count an.cE [] [] (bX.mk bM.1 b1.1 []) an.name []) cg.2 cg.1 lW) fun dg=>au6 (avh (al,(je dg.1),dg.2.1,lU,lV,dg.2.2,tD)) else av.lt (jH==3) fun dm=>au' (H0 N jH dm) fun c0=>if c0 then au' (nD N ah) fun cy=>au' (nD N cy.2) fun dR=>au' (vU N dR.2) fun eI=>au' (Bc N N (bj.mk an.kind cy.1 an.to an.count dR.1 [] [] (bX.mk an.order.name an.order.bC []) an.name []) eI.2 eI.1 lU) fun fs=>au6 (avh (al,(je fs.1),fs.2.1,fs.2.2,lV,lW,tD)) else av.lt (jH==4) fun fQ=>if fQ then au' (vU N ah) fun fX=>au' (Bd N N (je an) fX.2 fX.1 lV) fun iD=>au6 (avh (al,(je iD.1),iD.2.1,lU,iD.2.2,lW,tD)) else av.lt (jH==6) fun jq=>if jq then au' (nD N ah) fun hI=>au' (nD N hI.2) fun jd=>au' (nD N jd.2) fun gg=>au6 (avh (al,(bj.mk an.kind hI.1 jd.1 gg.1 an.cE [] [] (bX.mk an.order.name an.order.bC []) an.name []),gg.2,lU,lV,lW,tD)) else av.lt (jH==7) fun j4=>if j4 then au' (xW N ah) fun jA=>au6 (avh (al,(bj.mk an.kind an.bC an.to an.count an.cE [] [] (bX.mk an.order.name an.order.bC []) jA.1 []),jA.2,lU,lV,lW,tD)) else au6 (avg ((bj.mk 0 0 0 0 0 [] [] (bX.mk [] 0 []) [] []),11))
def Lr (N:Nat) (x0:List UInt8):Option (bj×Int):=if (x0.length:Int)==0 then au6 ((bj.mk 0 0 0 0 0 [] [] (bX.mk [] 0 []) [] []),10) else au' (aD x0 0) fun aR=>au' (IB N (bj.mk 0 0 0 0 0 [] [] (bX.mk [] 0 []) [] []) (bj.mk (avc .i64 ((avs aR:Int))) 0 0 0 0 [] [] (bX.mk [] 0 []) [] []) (eO.mk x0 1 ava) (avc .i64 ((avs aR:Int))) [] [] [] []) fun mu=>match mu with|avh h4=>if h4.2.2.1.short then au6 ((bj.mk 0 0 0 0 0 [] [] (bX.mk [] 0 []) [] []),10) else av.lt (decide (h4.2.2.1.at_<(x0.length:Int))) fun ll=>if ll then au6 ((bj.mk 0 0 0 0 0 [] [] (bX.mk [] 0 []) [] []),11) else av.lt (decide (8000<(h4.2.2.2.2.2.2.length:Int))) fun fg=>if fg then au6 ((bj.mk 0 0 0 0 0 [] [] (bX.mk [] 0 []) [] []),2) else au6 ((bj.mk h4.2.1.kind h4.2.1.bC h4.2.1.to h4.2.1.count h4.2.1.cE h4.2.2.2.1 h4.2.2.2.2.1 (bX.mk h4.2.1.order.name h4.2.1.order.bC h4.2.2.2.2.2.1) h4.2.1.name h4.2.2.2.2.2.2),0)|avg ln=>au6 (ln.1,ln.2)
def Bh (N:Nat) (x0:List UInt8) (J:List UInt8):Nat->Int->Option (Sum (Unit) (Bool))|0,_=>au8|n+1,ah=>if decide (ah<(x0.length:Int)) then au' (aD x0 ah) fun aR=>au' (aD J ah) fun a2=>if (avs aR:Int) !=(avs a2:Int) then au6 (avg ava) else av.lt (avc .i64 (ah+1)) fun a6=>Bh N x0 J n a6 else au6 (avh ())
def Dr (N:Nat) (x0:List UInt8) (J:List UInt8):Option Bool:=if (x0.length:Int) !=(J.length:Int) then au6 ava else au' (Bh N x0 J N 0) fun bk=>match bk with|avh bq=>au6 au7|avg bx=>au6 bx
def BY (N:Nat) (x0:List Int) (J:List Int):Nat->Int->Option (Sum (Unit) (Bool))|0,_=>au8|n+1,ah=>if decide (ah<(x0.length:Int)) then au' (aD x0 ah) fun aR=>au' (aD J ah) fun a2=>if aR !=a2 then au6 (avg ava) else av.lt (avc .i64 (ah+1)) fun a6=>BY N x0 J n a6 else au6 (avh ())
def LL (N:Nat) (x0:List Int) (J:List Int):Option Bool:=if (x0.length:Int) !=(J.length:Int) then au6 ava else au' (BY N x0 J N 0) fun bk=>match bk with|avh bq=>au6 au7|avg bx=>au6 bx
def Bz (N:Nat) (x0:List (List UInt8)) (J:List (List UInt8)):Nat->Int->Option (Sum (Unit) (Bool))|0,_=>au8|n+1,ah=>if decide (ah<(x0.length:Int)) then au' (aD x0 ah) fun aR=>au' (aD J ah) fun a2=>if !(aR==a2) then au6 (avg ava) else av.lt (avc .i64 (ah+1)) fun a6=>Bz N x0 J n a6 else au6 (avh ())
def K8 (N:Nat) (x0:List (List UInt8)) (J:List (List UInt8)):Option Bool:=if (x0.length:Int) !=(J.length:Int) then au6 ava else au' (Bz N x0 J N 0) fun bk=>match bk with|avh bq=>au6 au7|avg bx=>au6 bx
def Hs (N:Nat) (x0:List bX) (J:List bX) (ah:Int):Option Bool:=au' (aD x0 ah) fun aR=>au' (aD J ah) fun a2=>if !(aR.name==a2.name) then au6 au7 else au' (aD x0 ah) fun a6=>au' (aD J ah) fun bk=>if a6.bC !=bk.bC then au6 au7 else au' (aD x0 ah) fun bq=>au' (aD J ah) fun bx=>au' (K8 N bq.cw bx.cw) fun bM=>au6 (!bM)
def Ax (N:Nat) (x0:List bX) (J:List bX):Nat->Int->Option (Sum (Unit) (Bool))|0,_=>au8|n+1,ah=>if decide (ah<(x0.length:Int)) then au' (Hs N x0 J ah) fun b1=>if b1 then au6 (avg ava) else av.lt (avc .i64 (ah+1)) fun cg=>Ax N x0 J n cg else au6 (avh ())
def Ky (N:Nat) (x0:List bX) (J:List bX):Option Bool:=if (x0.length:Int) !=(J.length:Int) then au6 ava else au' (Ax N x0 J N 0) fun ca=>match ca with|avh cx=>au6 au7|avg cK=>au6 cK
def Hr (N:Nat) (al:bj) (ak:bj):Option Bool:=if al.kind !=ak.kind then au6 au7 else if al.bC !=ak.bC then au6 au7 else if al.to !=ak.to then au6 au7 else if al.count !=ak.count then au6 au7 else if al.cE !=ak.cE then au6 au7 else au' (LL N al.aP ak.aP) fun aR=>if !aR then au6 au7 else if (al.cQ.length:Int) !=(ak.cQ.length:Int) then au6 au7 else if !(al.name==ak.name) then au6 au7 else au' (Dr N al.data ak.data) fun a2=>au6 (!a2)
def Aw (N:Nat) (al:bj) (ak:bj):Nat->Int->Option (Sum (Unit) (Bool))|0,_=>au8|n+1,ah=>if decide (ah<(al.cQ.length:Int)) then au' (aD al.cQ ah) fun bk=>au' (aD ak.cQ ah) fun bq=>if !(decide (bk=bq)) then au6 (avg ava) else av.lt (avc .i64 (ah+1)) fun bx=>Aw N al ak n bx else au6 (avh ())
def Kx (N:Nat) (x0:bj) (J:bj):Option Bool:=au' (Hr N x0 J) fun a6=>if a6 then au6 ava else au' (Aw N x0 J N 0) fun bM=>match bM with|avh b1=>au' (Ky N ([x0.order]:List bX) ([J.order]:List bX)) fun cg=>au6 cg|avg ca=>au6 ca
def H6 (N:Nat) (ah:List UInt8) (ax:Int) (aB:List UInt8) (aG:Int) (a3:bj) (aV:Int) (bc:bj) (a9:Int):Option Bool:=au' (Dr N ah aB) fun bq=>if bq then if ax==aG then au' (Kx N a3 bc) fun bx=>if bx then av.lt (aV==a9) fun bM=>au6 bM else au6 ava else au6 ava else au6 ava
def xY (N:Nat) (x0:bj) (J:List UInt8):Option Bool:=au' (KL N x0) fun aR=>au' (Dq N x0) fun a2=>au' (tJ N J) fun a6=>au' (Lr N J) fun bk=>au' (H6 N aR.1 aR.2 a2.1 a2.2 a6.1 a6.2 bk.1 bk.2) fun b1=>au6 b1
def Dy (N:Nat):Option Bool:=au6 au7
def Hu (N:Nat) (aB:cA) (bc:bj) (xP:Int):Option (cA×bj):=av.lt (xP==0) fun cg=>if cg then au' (h5 N aB ([bc.bC,65535,65536,(-1)]:List Int)) fun ca=>au' (h5 N ca.2 ([bc.cE,65536]:List Int)) fun cx=>au6 (cx.2,(bj.mk bc.kind ca.1 bc.to bc.count cx.1 bc.aP bc.cQ bc.order bc.name bc.data)) else av.lt (xP==1) fun cK=>if cK then au' (Dj N aB bc.name) fun dd=>au6 (dd.2,(bj.mk bc.kind bc.bC bc.to bc.count bc.cE bc.aP bc.cQ bc.order dd.1 bc.data)) else av.lt (xP==2) fun dg=>if dg then au' (ck ([]:List Int) bc.aP) fun dm=>au' (h5 N aB ([0,65535,65536,(-1)]:List Int)) fun dv=>au' (ck dm ([dv.1]:List Int)) fun c0=>au6 (dv.2,(bj.mk bc.kind bc.bC bc.to bc.count bc.cE c0 bc.cQ bc.order bc.name bc.data)) else av.lt (xP==3) fun cy=>if cy then au' (eW N aB 10) fun dR=>au6 (dR.2,(bj.mk (avc .i64 (dR.1 - 1)) bc.bC bc.to bc.count bc.cE bc.aP bc.cQ bc.order bc.name bc.data)) else au' (ck ([]:List (List UInt8)) bc.order.cw) fun eI=>au' (ck eI ([[113]]:List (List UInt8))) fun fl=>au' (ck ([]:List er) bc.cQ) fun dT=>au' (h5 N aB ([0,(-1),65536]:List Int)) fun e1=>au' (ck dT ([(er.mk e1.1 3)]:List er)) fun fP=>au6 (e1.2,(bj.mk bc.kind bc.bC bc.to bc.count bc.cE bc.aP fP (bX.mk bc.order.name bc.order.bC fl) bc.name bc.data))
def Az (N:Nat) (a3:List bj):Nat->cA->Int->Option (Sum (Unit) (Bool))|0,_,_=>au8|n+1,aB,aV=>if decide (aV<(a3.length:Int)) then au' (aD a3 aV) fun bk=>au' (aD a3 aV) fun bq=>au' (Dq N bq) fun bx=>au' (xY N bq bx.1) fun bM=>if !bM then au6 (avg ava) else au' (eW N aB 5) fun b1=>au' (Hu N b1.2 bq b1.1) fun fs=>au' (Da N fs.1 bx.1) fun fQ=>au' (xY N fs.2 fQ.1) fun fX=>if !fX then au6 (avg ava) else av.lt (avc .i64 (aV+1)) fun gO=>Az N a3 n fQ.2 gO else au6 (avh ())
def Hv (N:Nat) (al:List UInt8) (an:bj):Option Bool:=if decide (9000<(al.length:Int)) then au6 au7 else if decide (400<(an.aP.length:Int)) then au6 au7 else if decide (400<(an.cQ.length:Int)) then au6 au7 else au6 (decide (400<(an.order.cw.length:Int)))
def Hw (N:Nat) (al:List UInt8) (an:bj):Option Bool:=au' (xY N an al) fun iD=>if iD then au' (Dy N) fun jq=>au6 jq else au6 ava
def xV (N:Nat) (x0:List Int) (J:bj) (al:List UInt8):Option Bool:=au' (LY N x0) fun aR=>au' (KI N aR au7) fun a2=>au' (KJ N a2.2 a2.1 8) fun a6=>au' (Az N a6.1 N a6.2 0) fun gf=>match gf with|avh hH=>au' (Hv N al J) fun gP=>if gP then au' (Dy N) fun jc=>au6 jc else au' (Hw N al J) fun hI=>au6 hI|avg jd=>au6 jd
end
end Go.W
end
section
namespace Go.av
section
variable {P:avd} {af:avf->au9} {o:Oper}
def nd (af:avf->au9) (d:Nat):Option avf->Option Nat
 |none=>au6 d
 |some y=>match af y with
  | .int _ (.ofNat n)=>au6 n
  |_=>au8
theorem zP {bD:Option avf} {n:Nat} (h:nd af 0 bD=au6 n):n4 af bD n:=by
 cases bD with
 |none=>cases h;rfl
 |some y=>
  simp only[nd] at h;split at h
  ·rename_i k m hm;cases h;exact ⟨k,hm⟩
  ·cases h
theorem zO {aj:Option avf} {l n:Nat} (h:nd af l aj=au6 n):lO af aj l n:=by
 cases aj with
 |none=>cases h;rfl
 |some y=>
  simp only[nd] at h;split at h
  ·rename_i k m hm;cases h;exact ⟨k,hm⟩
  ·cases h
def fD {aA:Type} (b:Bool) (x:Option aA):Option aA:=match b with|true=>x|false=>au8
theorem fK {aA:Type} {b:Bool} {x:Option aA} {y:aA} (h:fD b x=au6 y):b=au7/\x=au6 y:=by
 cases b
 ·cases h
 ·exact ⟨rfl,h⟩
def Oj (op:BinOp) (k:avb) (a b:Int):Option au9:=match op with| .add=>au6 (.int k (k.wrap (a+b)))| .sub=>au6 (.int k (k.wrap (a - b)))| .mul=>au6 (.int k (k.wrap (a*b)))| .quo=>fD (decide (b≠0)) (au6 (.int k (k.wrap (a.tdiv b))))| .rem=>fD (decide (b≠0)) (au6 (.int k (a.tmod b)))| .and=>au6 (.int k (lg .and k a b))| .or=>au6 (.int k (lg .or k a b))| .xor=>au6 (.int k (lg .xor k a b))| .eql=>au6 (.bool (a==b))| .neq=>au6 (.bool (a !=b))| .lss=>au6 (.bool (decide (a<b)))| .leq=>au6 (.bool (decide (a<=b)))| .gtr=>au6 (.bool (decide (b<a)))| .geq=>au6 (.bool (decide (b<=a)))|_=>au8
theorem alA {op:BinOp} {t u:ave} {x y:avf} {k:avb} {a b:Int} {v:au9} (h:o.op= .binOp op t x y u) (ae:af x= .int k a) (aI:af y= .int k b) (ab:Oj op k a b=au6 v):cW P af o v:=by
 cases op with
 |add=>obtain rfl:=avl.inj ab;exact VX h ae aI
 |sub=>obtain rfl:=avl.inj ab;exact V9 h ae aI
 |mul=>obtain rfl:=avl.inj ab;exact V4 h ae aI
 |and=>obtain rfl:=avl.inj ab;exact VY h ae aI
 |or=>obtain rfl:=avl.inj ab;exact V8 h ae aI
 |xor=>obtain rfl:=avl.inj ab;exact Wa h ae aI
 |eql=>obtain rfl:=avl.inj ab;exact VZ h ae aI
 |neq=>obtain rfl:=avl.inj ab;exact V6 h ae aI
 |lss=>obtain rfl:=avl.inj ab;exact V3 h ae aI
 |leq=>obtain rfl:=avl.inj ab;exact V2 h ae aI
 |gtr=>obtain rfl:=avl.inj ab;exact V1 h ae aI
 |geq=>obtain rfl:=avl.inj ab;exact V0 h ae aI
 |quo=>obtain ⟨ag,ab⟩:=fK ab;obtain rfl:=avl.inj ab;exact OE h ae aI (of_decide_eq_true ag)
 |rem=>obtain ⟨ag,ab⟩:=fK ab;obtain rfl:=avl.inj ab;exact OF h ae aI (of_decide_eq_true ag)
 |_=>exact absurd ab (by simp[Oj])
def Q7 (op:BinOp) (s r:List UInt8):Option au9:=match op with| .add=>fD (avp (s.length+r.length) 9223372036854775807) (au6 (str (s++r)))| .eql=>au6 (.bool (s==r))| .neq=>au6 (.bool (!(s==r)))| .lss=>au6 (.bool (oS s r))| .leq=>au6 (.bool (oS s r||(s==r)))| .gtr=>au6 (.bool (!(oS s r||(s==r))))| .geq=>au6 (.bool (!oS s r))|_=>au8
theorem aqO {op:BinOp} {t u:ave} {x y:avf} {s r:List UInt8} {v:au9} (h:o.op= .binOp op t x y u) (ae:af x=str s) (aI:af y=str r) (ab:Q7 op s r=au6 v):cW P af o v:=by
 cases op with
 |eql=>obtain rfl:=avl.inj ab;exact ZW h ae aI
 |neq=>obtain rfl:=avl.inj ab;exact ZD h ae aI
 |lss=>obtain rfl:=avl.inj ab;exact Zz h ae aI
 |leq=>obtain rfl:=avl.inj ab;exact Z1 h ae aI
 |gtr=>obtain rfl:=avl.inj ab;exact ZZ h ae aI
 |geq=>obtain rfl:=avl.inj ab;exact ZY h ae aI
 |add=>obtain ⟨az,ab⟩:=fK ab;obtain rfl:=avl.inj ab;exact ZT h ae aI (avq az)
 |_=>exact absurd ab (by simp[Q7])
theorem rP (b:ByteArray):str b.data.toList= .string b:=by
 cases b with
 |mk d=>simp[str]
def QS (P:avd) (t:ave) (x y:au9):Option Bool:=match P.underlying t,x,y with|some (.int _), .int k a, .int cM b=>if k=cM then au6 (decide (a=b)) else au8|some .bool, .bool a, .bool b=>au6 (decide (a=b))|some .string, .string s, .string r=>au6 (decide (s.data.toList=r.data.toList))|_,_,_=>au8
def GK (P:avd):List Field->Nat->List au9->List au9->Option Bool
 |[],_,[],[]=>au6 au7
 | f :: bm, i, x :: xs, y :: b7 => fD (avj f.offset i && !(f.name == "_")) (match QS P f.type x y, GK P bm (i + 1) xs b7 with
  |some a,au6 b=>au6 (a&&b)
  |_,_=>au8)
 |_,_,_,_=>au8
theorem akr {t:ave} {x y:au9} {r:Bool} (h:QS P t x y=au6 r):yh P t x y/\(r=au7↔x=y):=by
 unfold QS at h;split at h
 ·rename_i cM k a cc b hu;split at h
  ·rename_i au;subst au;obtain rfl:=avl.inj h;exact ⟨.inl ⟨k,cM,a,b,hu,rfl,rfl⟩,by simp⟩
  ·cases h
 ·rename_i a b hu;obtain rfl:=avl.inj h;exact ⟨.inr (.inl ⟨a,b,hu,rfl,rfl⟩),by simp⟩
 ·rename_i s r1 hu;obtain rfl:=avl.inj h;refine ⟨.inr (.inr ⟨s.data.toList,r1.data.toList,hu,(rP s).symm,(rP r1).symm⟩), ?_⟩;rw[decide_eq_true_iff];constructor
  ·intro he;rw[<-rP s,<-rP r1,he]
  ·intro he;cases he;rfl
 ·cases h
theorem OW:∀{bm:List Field} {i:Nat} {xs b7:List au9} {r:Bool},GK P bm i xs b7=au6 r->p0 P bm i xs b7/\(r=au7↔xs=b7)
 |[],i,[],[],r,h=>by obtain rfl:=avl.inj h;exact ⟨trivial,by simp⟩
 |[],_,_::_,_,_,h=>by cases h
 |[],_,[],_::_,_,h=>by cases h
 |_::_,_,[],_,_,h=>by cases h
 |_::_,_,_::_,[],_,h=>by cases h
 |f::bm,i,x::xs,y::b7,r,h=>by
  simp only[GK] at h
  replace h:=fK h
  obtain ⟨g,h⟩:=h;rw[avk] at g;split at h
  ·rename_i a b aY ag;obtain rfl:=avl.inj h;obtain ⟨s1,s2⟩:=akr aY;obtain ⟨t1,t2⟩:=OW ag;refine ⟨⟨avn g.1,by simpa using g.2,s1,t1⟩, ?_⟩;rw[avk,s2,t2];simp
  ·cases h
def My (P:avd) (op:BinOp) (t:ave) (a b:au9):Option au9:=
 match a,b with
 | .int k a, .int cc b=>(match op with
  | .shl=>fD (decide (0<=b)) (au6 (.int k (k.wrap (a*2 ^ (min b.toNat k.bits)))))
  | .shr=>fD (decide (0<=b)) (au6 (.int k (a.fdiv (2 ^ (min b.toNat k.bits)))))
  |op=>if k=cc then Oj op k a b else au8)
 | .string s, .string r=>Q7 op s.data.toList r.data.toList
 | .bool a, .bool b=>(match P.underlying t,op with
  |some .bool, .eql=>au6 (.bool (a==b))
  |some .bool, .neq=>au6 (.bool (!(a==b)))
  |_,_=>au8)
 | .agg xs, .agg b7=>(match P.underlying t with
  |some (.struct bm)=>fD (!P.stoodInHeld t&& !P.eqGuardType P.depth t) (match GK P bm.toList 0 xs.toList b7.toList,op with
   |some r, .eql=>au6 (.bool r)
   |some r, .neq=>au6 (.bool (!r))
   |_,_=>au8)
  |_=>au8)
 | .slice au8 0 0, .slice au8 0 0=>(match P.underlying t,op with
  |some (.slice _), .eql=>au6 (.bool au7)
  |some (.slice _), .neq=>au6 (.bool ava)
  |_,_=>au8)
 | .slice (au6 _) _ _, .slice au8 0 0=>(match P.underlying t,op with
  |some (.slice _), .eql=>au6 (.bool ava)
  |some (.slice _), .neq=>au6 (.bool au7)
  |_,_=>au8)
 |_,_=>au8
theorem akL {op:BinOp} {t u:ave} {x y:avf} {v:au9} (h:o.op= .binOp op t x y u) (ab:My P op t (af x) (af y)=au6 v):cW P af o v:=by
 unfold My at ab;split at ab
 ·rename_i k a cc b ae aI;split at ab
  ·obtain ⟨ag,ab⟩:=fK ab;obtain rfl:=avl.inj ab;have:=Qg (P:=P) (op:= .shl) h ae aI (of_decide_eq_true ag) (.inl rfl);simpa using this
  ·obtain ⟨ag,ab⟩:=fK ab;obtain rfl:=avl.inj ab;have:=Qg (P:=P) (op:= .shr) h ae aI (of_decide_eq_true ag) (.inr rfl);simpa using this
  ·split at ab
   ·rename_i au;subst au;exact alA h ae aI ab
   ·cases ab
 ·rename_i s r ae aI;exact aqO h (ae.trans (rP s).symm) (aI.trans (rP r).symm) ab
 ·rename_i a b ae aI;split at ab
  ·rename_i aw;cases ab;exact ZV h aw ae aI
  ·rename_i aw;cases ab;exact ZC h aw ae aI
  ·cases ab
 ·rename_i xs b7 ae aI;split at ab
  ·rename_i bm aw
   replace ab:=fK ab
   obtain ⟨g,ab⟩:=ab;simp only[avk,awR] at g;split at ab
   ·rename_i r aC;obtain ⟨s1,s2⟩:=OW aC;obtain rfl:=avl.inj ab;exact FB ava h aw g.1 g.2 s1 (by rw[ae]) (by rw[aI]) s2
   ·rename_i r aC;obtain ⟨s1,s2⟩:=OW aC;obtain rfl:=avl.inj ab;exact FB au7 h aw g.1 g.2 s1 (by rw[ae]) (by rw[aI]) s2
   ·cases ab
  ·cases ab
 ·rename_i ae aI;split at ab
  ·rename_i e aw;cases ab;exact xn ava h aw ae aI
  ·rename_i e aw;cases ab;exact xn au7 h aw ae aI
  ·cases ab
 ·rename_i ch l c ae aI;split at ab
  ·rename_i e aw;cases ab;exact .ud ava x y t u e _ l c h aw ae aI
  ·rename_i e aw;cases ab;exact .ud au7 x y t u e _ l c h aw ae aI
  ·cases ab
 ·cases ab
def Qj (P:avd) (c:Call) (af:avf->au9):Option au9:=
 match c.callee with
 | .builtin .len=>(match c.args.toList,c.argTypes.toList with
  |[x],[t]=>(match af x,P.underlying t with
   | .slice _ l _,au6 (.slice _)=>au6 (.int .i64 l)
   | .string s,au6 .string=>au6 (.int .i64 s.data.toList.length)
   |_,_=>au8)
  |_,_=>au8)
 | .builtin .cap=>(match c.args.toList,c.argTypes.toList with
  |[x],[t]=>(match af x,P.underlying t with
   | .slice au8 0 0,au6 (.slice _)=>au6 (.int .i64 0)
   |_,_=>au8)
  |_,_=>au8)
 | .builtin .max=>(match c.args.toList with
  |[x,y]=>(match af x,af y with
   | .int k a, .int cc b=>if k=cc then au6 (.int k (max a b)) else au8
   |_,_=>au8)
  |_=>au8)
 | .builtin .min=>(match c.args.toList with
  |[x,y]=>(match af x,af y with
   | .int k a, .int cc b=>if k=cc then au6 (.int k (min a b)) else au8
   |_,_=>au8)
  |_=>au8)
 |_=>au8
theorem tY {aA:Type} {a:Array aA} {x:aA} (h:a.toList=[x]):a=#[x]:=by
 cases a;simp at h;subst h;rfl
theorem D6 {aA:Type} {a:Array aA} {x y:aA} (h:a.toList=[x,y]):a=#[x,y]:=by
 cases a;simp at h;subst h;rfl
theorem aj6 {c:Call} {v:au9} (h:o.op= .call c) (ab:Qj P c af=au6 v):cW P af o v:=by
 obtain ⟨ce,T7,ts⟩:=c;unfold Qj at ab;dsimp only at ab;split at ab
 ·split at ab
  ·rename_i x t aY aw;obtain rfl:=tY aY;obtain rfl:=tY aw;split at ab
   ·rename_i a l c e ae hu;cases ab;exact .len x t e a l c h hu ae
   ·rename_i s ae hu;cases ab;exact Z0 (t:=t) h rfl hu (ae.trans (rP s).symm)
   ·cases ab
  ·cases ab
 ·split at ab
  ·rename_i x t aY aw;obtain rfl:=tY aY;obtain rfl:=tY aw;split at ab
   ·rename_i e ae hu;cases ab;exact .yu x t e h hu ae
   ·cases ab
  ·cases ab
 ·split at ab
  ·rename_i x y aY;obtain rfl:=D6 aY;split at ab
   ·rename_i k a cc b ae aI;split at ab
    ·rename_i au;subst au;cases ab;exact ZA h ae aI
    ·cases ab
   ·cases ab
  ·cases ab
 ·split at ab
  ·rename_i x y aY;obtain rfl:=D6 aY;split at ab
   ·rename_i k a cc b ae aI;split at ab
    ·rename_i au;subst au;cases ab;exact ZB h ae aI
    ·cases ab
   ·cases ab
  ·cases ab
 ·cases ab
end
end Go.av
end
section
namespace Go.av
inductive Trie (aA:Type) where
 |e
 |n (l:Trie aA) (v:Option aA) (r:Trie aA)
def Trie.get {aA:Type}:Trie aA->Nat->Option aA
 | .e,_=>au8
 | .n l v r,k=>match avj k 0 with
  |true=>v
  |false=>match avj (k%2) 1 with
   |true=>l.get (k / 2)
   |false=>r.get (k / 2 - 1)
def Trie.set {aA:Type}:Nat->Trie aA->Nat->aA->Trie aA
 |0,t,_,_=>t
 |f+1, .e,k,x=>match avj k 0 with
  |true=> .n .e (au6 x) .e
  |false=>match avj (k%2) 1 with
   |true=> .n (Trie.set f .e (k / 2) x) au8 .e
   |false=> .n .e au8 (Trie.set f .e (k / 2 - 1) x)
 |f+1, .n l v r,k,x=>match avj k 0 with
  |true=> .n l (au6 x) r
  |false=>match avj (k%2) 1 with
   |true=> .n (Trie.set f l (k / 2) x) v r
   |false=> .n l v (Trie.set f r (k / 2 - 1) x)
theorem wh {a b:Nat} (h:¬a=b):avj a b=ava:=by
 cases ag:avj a b with
 |false=>rfl
 |true=>exact absurd (avn ag) h
theorem Mx {a b:Nat} (h:a=b):avj a b=au7:=by
 subst h;exact Nat.beq_refl a
theorem Trie.yA {aA:Type} {l r:Trie aA} {v:Option aA} {k:Nat}:(Trie.n l v r).get k=if k=0 then v else if k%2=1 then l.get (k / 2) else r.get (k / 2 - 1):=by
 simp only[Trie.get];by_cases bf:k=0
 ·subst bf;rfl
 ·rw[if_neg bf,wh bf];by_cases U:k%2=1
  ·rw[if_pos U,Mx U]
  ·rw[if_neg U,wh U]
theorem Trie.ac0 {aA:Type} {k:Nat}:(Trie.e:Trie aA).get k=au8:=rfl
theorem Trie.aay {aA:Type} {f:Nat} {l r:Trie aA} {v:Option aA} {k:Nat} {x:aA}:Trie.set (f+1) (Trie.n l v r) k x=if k=0 then .n l (au6 x) r else if k%2=1 then .n (Trie.set f l (k / 2) x) v r else .n l v (Trie.set f r (k / 2 - 1) x):=by
 simp only[Trie.set];by_cases bf:k=0
 ·subst bf;rfl
 ·rw[if_neg bf,wh bf];by_cases U:k%2=1
  ·rw[if_pos U,Mx U]
  ·rw[if_neg U,wh U]
theorem Trie.ary {aA:Type} {f k:Nat} {x:aA}:∀j,(Trie.set (f+1) (Trie.e:Trie aA) k x).get j=(Trie.set (f+1) (Trie.n .e au8 .e) k x).get j:=by
 intro j;rw[Trie.aay];simp only[Trie.set];by_cases bf:k=0
 ·subst bf;rfl
 ·rw[if_neg bf,wh bf];by_cases U:k%2=1
  ·rw[if_pos U,Mx U]
  ·rw[if_neg U,wh U]
theorem Trie.ac2 {aA:Type} {x:aA}:∀(f:Nat) (t:Trie aA) (k j:Nat),k+1<2 ^ f->(Trie.set f t k x).get j=if j=k then au6 x else t.get j:=by
 intro f;induction f with
 |zero=>intro t k j h;omega
 |succ f ar=>
  intro t k j h;have core:∀(l r:Trie aA) (v:Option aA),(Trie.set (f+1) (Trie.n l v r) k x).get j=if j=k then au6 x else (Trie.n l v r).get j:=by
   intro l r v;rw[Trie.aay,Trie.yA];rw[Nat.pow_succ] at h;by_cases bf:k=0
   ·subst bf;rw[if_pos rfl,Trie.yA];by_cases aZ:j=0
    ·subst aZ;simp
    ·rw[if_neg aZ,if_neg aZ,if_neg aZ]
   ·rw[if_neg bf];by_cases U:k%2=1
    ·rw[if_pos U,Trie.yA];by_cases aZ:j=0
     ·subst aZ;rw[if_pos rfl,if_pos rfl,if_neg (by omega)]
     ·rw[if_neg aZ,if_neg aZ];by_cases pj:j%2=1
      ·rw[if_pos pj,if_pos pj,ar _ _ _ (by omega)];by_cases yW:j=k
       ·subst yW;simp
       ·rw[if_neg yW,if_neg (by omega)]
      ·rw[if_neg pj,if_neg pj,if_neg (by omega)]
    ·rw[if_neg U,Trie.yA];by_cases aZ:j=0
     ·subst aZ;rw[if_pos rfl,if_pos rfl,if_neg (by omega)]
     ·rw[if_neg aZ,if_neg aZ];by_cases pj:j%2=1
      ·rw[if_pos pj,if_pos pj,if_neg (by omega)]
      ·rw[if_neg pj,if_neg pj,ar _ _ _ (by omega)];by_cases yW:j=k
       ·subst yW;simp
       ·rw[if_neg yW,if_neg (by omega)]
  cases t with
  |n l v r=>exact core l r v
  |e=>
   rw[Trie.ary,core,Trie.yA];congr 1;rw[Trie.ac0];split
   ·rfl
   ·split<;>rfl
def Trie.put {aA:Type} (t:Trie aA) (k:Nat) (x:aA):Option (Trie aA):=fD (avA k 1000000000) (au6 (Trie.set 31 t k x))
theorem Trie.sZ {aA:Type} {t ec:Trie aA} {k:Nat} {x:aA} (h:t.put k x=au6 ec) (j:Nat):ec.get j=if j=k then au6 x else t.get j:=by
 obtain ⟨U,aa⟩:=fK h;obtain rfl:=avl.inj aa;have:k<1000000000:=avq U;exact Trie.ac2 31 t k j (by omega)
structure dP where
 next:Nat
 t:Trie bo
def dP.mem (c:dP):Mem:=⟨c.next,fun b=>(c.t.get b).getD .dead⟩
def dP.aS (c:dP) (b:Nat):bo:=(c.t.get b).getD .dead
def dP.put (c:dP) (b:Nat) (x:bo):Option dP:=match c.t.put b x with|some t=>au6 ⟨c.next,t⟩|none=>au8
def dP.push (c:dP) (x:bo):Option dP:=match c.t.put c.next x with|some t=>au6 ⟨c.next+1,t⟩|none=>au8
theorem dP.w2 {c bQ:dP} {b:Nat} {x:bo} (h:c.put b x=au6 bQ):bQ.mem=c.mem.put b x:=by
 unfold dP.put at h;split at h
 ·rename_i t aw;obtain rfl:=avl.inj h;simp only[dP.mem,Mem.put];congr 1;funext i;rw[Trie.sZ aw];split<;>rfl
 ·cases h
theorem dP.FE {c bQ:dP} {x:bo} (h:c.push x=au6 bQ):bQ.mem=c.mem.push x:=by
 unfold dP.push at h;split at h
 ·rename_i t aw;obtain rfl:=avl.inj h;have U:∀i,(dP.mem ⟨c.next+1,t⟩).aS i=(c.mem.push x).aS i:=fun i=>by
   show (t.get i).getD .dead=if i=c.next then x else (c.t.get i).getD .dead
   rw[Trie.sZ aw];by_cases aj:i=c.next
   ·rw[if_pos aj,if_pos aj];rfl
   ·rw[if_neg aj,if_neg aj]
  show Mem.mk _ _=Mem.mk _ _;congr 1;exact funext U
 ·cases h
abbrev dE:=Trie au9
def dE.fr (c:dE) (i:Nat):au9:=(c.get i).getD undef
def dE.set (c:dE) (d:Option Tmp) (v:au9):Option dE:=match d with|some t=>c.put t v|none=>au6 c
theorem dE.qN {c bQ:dE} {d:Option Tmp} {v:au9} (h:dE.set c d v=au6 bQ):dE.fr bQ=av.set (dE.fr c) d v:=by
 cases d with
 |none=>obtain rfl:=avl.inj h;rfl
 |some t=>funext i;simp only[dE.fr,av.set];rw[Trie.sZ h];split<;>rfl
end Go.av
end
section
namespace Go.av
section
variable {P:avd} {af:avf->au9} {o:Oper}
theorem aj4 {aA:Type} {l:List (Option aA)} (h:l.all axs=au7):∀x∈l,x.isSome=au7:=fun x ae=>avt.1 h x ae
def PW (P:avd) (af:avf->au9) (t:ave) (cn:Array (Nat×avf)):Option au9:=
 match P.underlying t,P.info? t with
 |some (.struct bm),au6 i=>(match i.zero with
  |some z=>fD (z.cells.toList.all cP&&(mn P bm).all axs) (match jm (fun k=>((mn P bm)[k]?).join) z.cells.toList (cn.toList.map fun p=>(p.1,af p.2)) with
   |some cs=>au6 (.agg cs.toArray)
   |none=>au8)
  |none=>au8)
 |some (.array n e),au6 i=>(match i.zero,P.info? e with
  |some z,au6 k=>fD (z.cells.toList.all cP) (match jm (fun j=>au6 (j*k.size,k.size)) z.cells.toList (cn.toList.map fun p=>(p.1,af p.2)) with
   |some cs=>au6 (.agg cs.toArray)
   |none=>au8)
  |_,_=>au8)
 |_,_=>au8
theorem aiJ {t:ave} {cn:Array (Nat×avf)} {v:au9} (h:o.op= .build t cn) (ab:PW P af t cn=au6 v):cW P af o v:=by
 unfold PW at ab;split at ab
 ·rename_i bm i hu aj;split at ab
  ·rename_i z a4;obtain ⟨U,ab⟩:=fK ab;rw[avk] at U;split at ab
   ·rename_i cs ai;obtain rfl:=avl.inj ab;exact .build t cn bm i z cs h hu aj a4 U.1 (aj4 U.2) ai
   ·cases ab
  ·cases ab
 ·rename_i n e i hu aj;split at ab
  ·rename_i z k a4 au;obtain ⟨U,ab⟩:=fK ab;split at ab
   ·rename_i cs ai;obtain rfl:=avl.inj ab;exact .yt t cn n e i k z cs h hu aj a4 U au ai
   ·cases ab
  ·cases ab
 ·cases ab
def Og (P:avd) (t:ave) (a b:au9):Option au9:=
 match P.underlying t,a,b with
 |some (.slice e), .slice (au6 ⟨hl,off,au8⟩) l c, .int k n=>(match P.info? e with
  |some i=>fD (decide (0<=n)&&decide (n<l)) (au6 (.pointer (au6 ⟨hl,off+n.toNat*i.size,au8⟩)))
  |none=>au8)
 |some (.array l e), .pointer (au6 ⟨hl,off,au8⟩), .int k n=>(match P.info? e with
  |some i=>fD (decide (0<=n)&&decide (n<l)) (au6 (.pointer (au6 ⟨hl,off+n.toNat*i.size,au8⟩)))
  |none=>au8)
 |_,_,_=>au8
theorem alz {t:ave} {x y:avf} {v:au9} (h:o.op= .indexAddr t x y) (ab:Og P t (af x) (af y)=au6 v):cW P af o v:=by
 unfold Og at ab;split at ab
 ·rename_i e hl off l c k n hu ae aI;split at ab
  ·rename_i i aj;obtain ⟨U,ab⟩:=fK ab;rw[avk] at U;obtain rfl:=avl.inj ab;exact .indexAddr t x y e i hl off l c k n h hu aj ae aI (of_decide_eq_true U.1) (of_decide_eq_true U.2)
  ·cases ab
 ·rename_i l e hl off k n hu ae aI;split at ab
  ·rename_i i aj;obtain ⟨U,ab⟩:=fK ab;rw[avk] at U;obtain rfl:=avl.inj ab;exact .za t x y e i hl off l k n h hu aj ae aI (of_decide_eq_true U.1) (of_decide_eq_true U.2)
  ·cases ab
 ·cases ab
def M4 (P:avd) (t:ave) (i:Nat) (a:au9):Option au9:=
 match P.underlying t,a with
 |some (.struct bm), .pointer (au6 ⟨b,off,au8⟩)=>(match bm[i]? with
  |some f=>(match P.info? f.type with
   |some k=>fD (!Nat.beq k.size 0) (au6 (.pointer (au6 ⟨b,off+f.offset,au8⟩)))
   |none=>au8)
  |none=>au8)
 |_,_=>au8
theorem alr {t:ave} {x:avf} {i:Nat} {v:au9} (h:o.op= .fieldAddr t x i) (ab:M4 P t i (af x)=au6 v):cW P af o v:=by
 unfold M4 at ab;split at ab
 ·rename_i bm b off hu ae;split at ab
  ·rename_i f bb;split at ab
   ·rename_i k au;obtain ⟨U,ab⟩:=fK ab;obtain rfl:=avl.inj ab;refine .fieldAddr t x i bm f k b off h hu bb au (fun bf=> ?_) ae;rw[bf] at U;cases U
   ·cases ab
  ·cases ab
 ·cases ab
def HW (l c k:Nat):Bool:=match avj c cJ with|true=>avp k l|false=>avA c cJ&&avp k c
theorem XE {l c k:Nat} (h:HW l c k=au7):(c<cJ/\k<=c)\/(c=cJ/\k<=l):=by
 unfold HW at h;split at h
 ·rename_i ai;exact .inr ⟨avn ai,avq h⟩
 ·rw[avk] at h;exact .inl ⟨avq h.1,avq h.2⟩
def MK (P:avd) (af:avf->au9) (t:ave) (a:au9) (bD aj:Option avf) (fv:avf):Option au9:=
 match P.underlying t,a,bD,aj with
 |some (.slice e), .slice (au6 ⟨b,off,au8⟩) l c,au8,au6 y=>(match P.info? e,af y,af fv with
  |some i, .int _ (.ofNat cu), .int _ (.ofNat cM)=>fD (HW l c cM&&avp cu cM) (au6 (.slice (au6 ⟨b,off,au8⟩) cu cM))
  |_,_,_=>au8)
 |some (.slice e), .slice au8 0 0,au8,au6 y=>(match P.info? e,af y,af fv with
  |some i, .int _ (.ofNat 0), .int _ (.ofNat 0)=>au6 (.slice au8 0 0)
  |_,_,_=>au8)
 |some (.slice e), .slice (au6 ⟨b,off,au8⟩) l c,au6 x0,au6 y=>(match P.info? e,af x0,af y,af fv with
  |some i, .int _ (.ofNat n), .int _ (.ofNat cu), .int _ (.ofNat cM)=>fD (HW l c cM&&(avp n cu&&avp cu cM)) (au6 (.chan au8))
  |_,_,_,_=>au8)
 |_,_,_,_=>au8
theorem akA {t:ave} {x fv:avf} {bD aj:Option avf} {v:au9} (h:o.op= .slice t x bD aj (au6 fv)) (ab:MK P af t (af x) bD aj fv=au6 v):cW P af o v:=by
 unfold MK at ab;split at ab
 ·rename_i e b off l c y hu ae;split at ab
  ·rename_i i uP cu kA cM eh aI hm
   replace ab:=fK ab
   obtain ⟨g,ab⟩:=ab;rw[avk] at g;obtain rfl:=avl.inj ab;exact .slice3 t x fv (au6 y) e i b off l c cu cM kA h hu eh ae (XE g.1) ⟨y,uP,rfl,aI⟩ hm (avq g.2)
  ·cases ab
 ·rename_i e y hu ae;split at ab
  ·rename_i i uP kA eh aI hm;obtain rfl:=avl.inj ab;exact .CV t x fv (au6 y) e i kA h hu eh ae ⟨y,uP,rfl,aI⟩ hm
  ·cases ab
 ·rename_i e b off l c x0 y hu ae;split at ab
  ·rename_i i jU n uP cu kA cM eh bf aI hm
   replace ab:=fK ab
   obtain ⟨g,ab⟩:=ab;simp only[avk] at g;obtain rfl:=avl.inj ab;exact .Kh t x x0 y fv e i b off l c n cu cM jU uP kA h hu eh ae (XE g.1) bf aI hm (avq g.2.1) (avq g.2.2)
  ·cases ab
 ·cases ab
def ML (P:avd) (af:avf->au9) (t:ave) (a:au9) (bD aj fv:Option avf):Option au9:=
 match fv with
 |some m=>MK P af t a bD aj m
 |none=>
  match P.underlying t,a with
  |some (.slice e), .slice (au6 ⟨b,off,au8⟩) l c=>(match P.info? e,nd af 0 bD,nd af l aj with
   |some i,au6 n,au6 cu=>fD (avA c cJ&&(avp n cu&&avp cu c)) (au6 (.slice (au6 ⟨b,if c=n then off else off+n*i.size,au8⟩) (cu - n) (c - n)))
   |_,_,_=>au8)
  |some (.slice e), .slice au8 0 0=>(match P.info? e,nd af 0 bD,nd af 0 aj with
   |some i,au6 0,au6 0=>au6 (.slice au8 0 0)
   |_,_,_=>au8)
  |some .string, .string s=>(match nd af 0 bD,nd af s.data.toList.length aj with
   |some a,au6 b=>fD (avp a b&&avp b s.data.toList.length) (au6 (str ((s.data.toList.take b).drop a)))
   |_,_=>au8)
  |_,_=>au8
theorem akB {t:ave} {x:avf} {bD aj fv:Option avf} {v:au9} (h:o.op= .slice t x bD aj fv) (ab:ML P af t (af x) bD aj fv=au6 v):cW P af o v:=by
 unfold ML at ab;split at ab
 ·exact akA h ab
 ·split at ab
  ·rename_i e b off l c hu ae;split at ab
   ·rename_i i n cu eh dZ dy;obtain ⟨U,ab⟩:=fK ab;obtain rfl:=avl.inj ab;simp only[avk] at U;exact .slice t x bD aj e i b off l c n cu h hu eh ae (avq U.1) (zP dZ) (zO dy) (avq U.2.1) (avq U.2.2) (fun _=>trivial)
   ·cases ab
  ·rename_i e hu ae;split at ab
   ·rename_i i eh dZ dy;obtain rfl:=avl.inj ab;exact .kH t x bD aj e i h hu eh ae (zP dZ) (zO dy)
   ·cases ab
  ·rename_i s hu ae;split at ab
   ·rename_i a b dZ dy;obtain ⟨U,ab⟩:=fK ab;obtain rfl:=avl.inj ab;simp only[avk] at U;exact YK h hu (ae.trans (rP s).symm) (zP dZ) (zO dy) (avq U.1) (avq U.2)
   ·cases ab
  ·cases ab
end
end Go.av
end
section
namespace Go.av
section
variable {P:avd} {af:avf->au9} {o:Oper} {C:FuncId->Array au9->Mem->au9->Mem->Prop} {c bQ:dP}
def HT (P:avd) (af:avf->au9) (op:Op):Option au9:=
 match op with
 | .move x| .assign x=>au6 (af x)
 | .pick a x y=>(match af a with
  | .bool au7=>au6 (af x)
  | .bool ava=>au6 (af y)
  |_=>au8)
 | .extract x i=>(match af x with
  | .tuple vs=>vs[i]?
  |_=>au8)
 | .build t cn=>PW P af t cn
 | .nilCheck x=>(match af x with
  | .pointer (au6 a)=>au6 (.pointer (au6 a))
  |_=>au8)
 | .fieldAddr t x i=>M4 P t i (af x)
 | .indexAddr t x y=>Og P t (af x) (af y)
 | .index t x y=>(match P.underlying t,af x,af y with
  |some .string, .string s, .int _ n=>fD (decide (0<=n)) (match s.data.toList[n.toNat]? with
   |some u=>au6 (.int .u8 u.toNat)
   |none=>au8)
  |_,_,_=>au8)
 | .slice t x bD aj fv=>ML P af t (af x) bD aj fv
 | .call c=>Qj P c af
 | .makeFunc fn bm cs=>fD ((bm.toList++cs.toList).all fun x=>storable (af x)) (au6 (.func fn (bm.map af) (cs.map af)))
 | .unOp .not _ x=>(match af x with
  | .bool b=>au6 (.bool (!b))
  |_=>au8)
 | .unOp .neg _ x=>(match af x with
  | .int k a=>au6 (.int k (k.wrap (0 - a)))
  |_=>au8)
 | .convert s t x=>(match P.underlying s,P.underlying t,af x with
  |some _,au6 (.int cM), .int k a=>au6 (.int cM (cM.wrap a))
  |_,_,_=>au8)
 | .binOp b t x y u=>My P b t (af x) (af y)
 |_=>au8
theorem Xz {v:au9} (ab:HT P af o.op=au6 v):cW P af o v:=by
 generalize ao:o.op=op at ab;unfold HT at ab;split at ab
 ·obtain rfl:=avl.inj ab;exact .move _ (.inl ao)
 ·obtain rfl:=avl.inj ab;exact .move _ (.inr ao)
 ·split at ab
  ·rename_i ae;obtain rfl:=avl.inj ab;exact .pick _ _ _ au7 ao ae
  ·rename_i ae;obtain rfl:=avl.inj ab;exact .pick _ _ _ ava ao ae
  ·cases ab
 ·split at ab
  ·rename_i ae;exact .extract _ _ _ v ao ae ab
  ·cases ab
 ·exact aiJ ao ab
 ·split at ab
  ·rename_i ae;obtain rfl:=avl.inj ab;exact .nilCheck _ _ ao ae
  ·cases ab
 ·exact alr ao ab
 ·exact alz ao ab
 ·split at ab
  ·rename_i s k n hu ae aI;obtain ⟨U,ab⟩:=fK ab;split at ab
   ·rename_i u ai;obtain rfl:=avl.inj ab;exact YJ ao hu (ae.trans (rP s).symm) aI (of_decide_eq_true U) ai
   ·cases ab
  ·cases ab
 ·exact akB ao ab
 ·exact aj6 ao ab
 ·obtain ⟨U,ab⟩:=fK ab;obtain rfl:=avl.inj ab;exact .func _ _ _ ao fun x ae=>avt.1 U x ae
 ·split at ab
  ·rename_i ae;obtain rfl:=avl.inj ab;exact V7 ao ae
  ·cases ab
 ·split at ab
  ·rename_i ae;obtain rfl:=avl.inj ab;exact V5 ao ae
  ·cases ab
 ·split at ab
  ·rename_i aC aw ae;obtain rfl:=avl.inj ab;exact ZU ao aC aw ae
  ·cases ab
 ·exact akL ao ab
 ·cases ab
def zc (c:dP) (b o:Nat):Option au9:=match c.aS b with| .own L _=>L[o]?|_=>au8
theorem P5 {b n:Nat} {v:au9} (h:zc c b n=au6 v):c.mem.load b n=au6 v:=by
 unfold zc at h;unfold Mem.load;show (match c.aS b with| .ro rd=>rd n| .own L _=>L[n]? | .map _ _=>au8| .lock _ _ _ _=>au8| .dead=>au8)=au6 v;split at h
 ·rename_i L e ag;rw[ag];exact h
 ·cases h
def xE (c:dP) (b o n:Nat):Option (List au9):=match c.aS b with| .own L _=>fD (avp (o+n) L.length) (au6 ((L.drop o).take n))|_=>au8
theorem YT {b:Nat} {L:List au9} {e:ave} (ag:c.mem.aS b= .own L e):∀(n off:Nat),off+n<=L.length->eo c.mem b off n=au6 ((L.drop off).take n)
 |0,off,_=>by simp[eo]
 |n+1,off,h=>by
  have ar:=YT ag n (off+1) (by omega);have bf:c.mem.load b off=au6 (L[off]'(by omega)):=by unfold Mem.load;rw[ag];simp[show off<L.length by omega]
  simp only[eo,bf,ar];rw[List.drop_eq_getElem_cons (show off<L.length by omega),List.take_succ_cons]
theorem Ga {b off n:Nat} {cs:List au9} (h:xE c b off n=au6 cs):eo c.mem b off n=au6 cs:=by
 unfold xE at h;split at h
 ·rename_i L e ag;obtain ⟨U,h⟩:=fK h;obtain rfl:=avl.inj h;exact YT (L:=L) (e:=e) ag n off (avq U)
 ·cases h
def zS:List au9->Option (List UInt8)
 |[]=>au6 []
 | .int .u8 n::l=>(match n with
  | .ofNat k=>fD (avA k 256) (match zS l with
   |some l6=>au6 (awv k::l6)
   |none=>au8)
  |_=>au8)
 |_=>au8
theorem WE:∀{l:List au9} {l6:List UInt8},zS l=au6 l6->l=l6.map fun u=> .int .u8 u.toNat
 |[],l6,h=>by simp only[zS] at h;obtain rfl:=avl.inj h;rfl
 |v::l,l6,h=>by
  unfold zS at h;split at h
  ·rename_i bf;cases bf
  ·rename_i n lL bf;cases bf;split at h
   ·rename_i k;obtain ⟨U,h⟩:=fK h;split at h
    ·rename_i atb qd;obtain rfl:=avl.inj h;rw[WE qd];have:k<256:=avq U;simp[Nat.mod_eq_of_lt this]
    ·cases h
   ·cases h
  ·cases h
def QQ (P:avd) (af:avf->au9) (op:Op) (c:dP):Option au9:=
 match op with
 | .load t x=>(match af x,P.underlying t with
  | .pointer (au6 ⟨b,off,au8⟩),au6 d=>(match jK d with
   |false=>zc c b off
   |true=>(match P.info? t with
    |some i=>(match xE c b off i.size with
     |some cs=>au6 (.agg cs.toArray)
     |none=>au8)
    |none=>au8))
  |_,_=>au8)
 | .slice t x bD (au6 aj) au8=>(match P.underlying t,af x with
  |some (.slice e), .slice (au6 ⟨b,off,au8⟩) l ga=>fD (!Nat.blt ga cJ) (match P.info? e,c.aS b,nd af 0 bD,nd af l (au6 aj) with
   |some i, .own L e2,au6 n,au6 cu=>(match (match avj ga cJ with|true=>l|false=>ga - cJ) with
    |k=>fD (avj e2 e&&(avp n cu&&(avp cu k&&(avA n k&&(avj ga cJ||avj ga (cJ+k)))))) (au6 (.slice (au6 ⟨b,off+n*i.size,au8⟩) (cu - n) (cJ+(k - n)))))
   |_,_,_,_=>au8)
  |_,_=>au8)
 | .slice t x bD au8 au8=>(match P.underlying t,af x with
  |some (.slice e), .slice (au6 ⟨b,off,au8⟩) l ga=>fD (avj ga cJ) (match P.info? e,c.aS b,nd af 0 bD,nd af l au8 with
   |some i, .own L e2,au6 n,au6 cu=>fD (avj e2 e&&(avp n cu&&(avp cu l&&avp (off+l*i.size) L.length))) (au6 (.slice (au6 ⟨b,off+n*i.size,au8⟩) (cu - n) cJ))
   |_,_,_,_=>au8)
  |_,_=>au8)
 | .convert s t x=>(match P.underlying s,P.underlying t,af x with
  |some (.slice e),au6 .string, .slice (au6 ⟨b,off,au8⟩) l _=>(match P.underlying e,xE c b off l with
   |some (.int .u8),au6 cs=>(match zS cs with
    |some l6=>au6 (.string ⟨l6.toArray⟩)
    |none=>au8)
   |_,_=>au8)
  |some (.slice e),au6 .string, .slice au8 _ _=>(match P.underlying e with
   |some (.int .u8)=>au6 (.string .empty)
   |_=>au8)
  |_,_,_=>au8)
 |_=>au8
theorem akn {v:au9} (ab:QQ P af o.op c=au6 v):eJ P af o c.mem v:=by
 generalize ao:o.op=op at ab;unfold QQ at ab;split at ab
 ·split at ab
  ·rename_i b off d ae hu;split at ab
   ·rename_i aO;exact .load _ _ b off d v ao ae hu aO (P5 ab)
   ·rename_i aO;split at ab
    ·rename_i i aj;split at ab
     ·rename_i cs ai;obtain rfl:=avl.inj ab;exact .sT _ _ b off d i cs ao ae hu aO aj (Ga ai)
     ·cases ab
    ·cases ab
  ·cases ab
 ·split at ab
  ·rename_i e b off l ga hu ae;obtain ⟨bf,ru⟩:=fK ab;clear ab;split at ru
   ·rename_i i L e2 n cu aj ag dZ dy;dsimp only at ru;generalize au:(match avj ga cJ with|true=>l|false=>ga - cJ)=k at ru;obtain ⟨U,ab⟩:=fK ru;simp only[avk] at U;obtain ⟨aU,aQ,bT,cT,eL⟩:=U;obtain rfl:=avl.inj ab;obtain rfl:=avn aU;refine .vK _ _ _ _ e2 i L b off l ga k n cu ao hu aj ae ?_ ag (zP dZ) (zO dy) (avq aQ) (avq bT) (avq cT);by_cases ai:ga=cJ
    ·rw[ai,Nat.beq_refl] at au;exact .inl ⟨ai,au.symm⟩
    ·rw[awl] at eL;rcases eL with eL|eL
     ·exact absurd (avn eL) ai
     ·exact .inr (avn eL)
   ·cases ru
  ·cases ab
 ·split at ab
  ·rename_i e b off l ga hu ae;obtain ⟨bf,ru⟩:=fK ab;clear ab;split at ru
   ·rename_i i L e2 n cu aj ag dZ dy;obtain ⟨U,ab⟩:=fK ru;simp only[avk] at U;obtain rfl:=avn bf;obtain rfl:=avl.inj ab;obtain rfl:=avn U.1;exact .slice _ _ _ _ e2 i L b off l n cu ao hu aj ae ag (zP dZ) (zO dy) (avq U.2.1) (avq U.2.2.1) (avq U.2.2.2)
   ·cases ru
  ·cases ab
 ·split at ab
  ·rename_i e b off l ga aC aw ae;split at ab
   ·rename_i cs he ai;split at ab
    ·rename_i l6 qd;obtain rfl:=avl.inj ab;exact .str _ _ _ e b off l ga l6 ao aC he aw ae (by rw[Ga ai,WE qd])
    ·cases ab
   ·cases ab
  ·rename_i e l ga aC aw ae;split at ab
   ·rename_i he;obtain rfl:=avl.inj ab;exact .vL _ _ _ e l ga ao aC he aw ae
   ·cases ab
  ·cases ab
 ·cases ab
end
end Go.av
end
section
namespace Go.av
section
variable {P:avd} {af:avf->au9} {o:Oper} {C:FuncId->Array au9->Mem->au9->Mem->Prop} {c bQ:dP}
def tu (i:TypeInfo):Option au9:=match i.zero with|some z=>fD (z.cells.toList.all cP&&avj z.cells.size i.size) (au6 z)|none=>au8
theorem w9 {i:TypeInfo} {z:au9} (h:tu i=au6 z):i.zero=au6 z/\z.cells.toList.all cP=au7/\z.cells.size=i.size:=by
 unfold tu at h;split at h
 ·rename_i z' a4;obtain ⟨U,h⟩:=fK h;obtain rfl:=avl.inj h;rw[avk] at U;exact ⟨a4,U.1,avn U.2⟩
 ·cases h
def Fu (P:avd) (af:avf->au9) (n:Nat) (op:Op):Option (bo×au9):=
 match op with
 | .alloc t=>(match P.info? t with
  |some i=>(match tu i with
   |some z=>au6 (.own z.cells.toList t, .pointer (au6 ⟨n,0,au8⟩))
   |none=>au8)
  |none=>au8)
 | .box t x=>(match P.info? t with
  |some i=>fD (storable (af x)&&avj (af x).cells.size i.size) (au6 (.own (af x).cells.toList t, .pointer (au6 ⟨n,0,au8⟩)))
  |none=>au8)
 | .buildSlice t l cn=>(match P.underlying t with
  |some (.slice e)=>(match P.info? e with
   |some i=>(match tu i with
    |some z=>fD (avp (l*i.size) 16777216&&avA l 9223372036854775808) (match jm (fun k=>au6 (k*i.size,i.size)) (avw l z.cells.toList).flatten (cn.toList.map fun p=>(p.1,af p.2)) with
     |some cs=>au6 (.own cs e, .slice (au6 ⟨n,0,au8⟩) l l)
     |none=>au8)
    |none=>au8)
   |none=>au8)
  |_=>au8)
 | .makeSlice t x y=>(match P.underlying t,af x,af y with
  |some (.slice e), .int _ (.ofNat l), .int _ (.ofNat k)=>(match P.info? e with
   |some i=>(match tu i with
    |some z=>fD (avp l k&&(avp (i.bytes*k) 140737488355328&&avA k 9223372036854775808)) (au6 (.own (avw k z.cells.toList).flatten e, .slice (au6 ⟨n,0,au8⟩) l k))
    |none=>au8)
   |none=>au8)
  |_,_,_=>au8)
 | .convert s t x=>(match P.underlying s,P.underlying t,af x with
  |some .string,au6 (.slice e), .string b=>(match P.underlying e,P.info? e with
   |some (.int .u8),au6 i=>fD (avj i.size 1&&avA b.size 9223372036854775807) (au6 (.own (b.data.toList.map fun u=> .int .u8 u.toNat) e, .slice (au6 ⟨n,0,au8⟩) b.size cJ))
   |_,_=>au8)
  |_,_,_=>au8)
 | .makeMap t au8=>(match P.underlying t with
  |some (.map _ _)=>au6 (.map [] t, .map (au6 n))
  |_=>au8)
 |_=>au8
theorem Yk {n:Nat} {X:bo} {v:au9} (ab:Fu P af n o.op=au6 (X,v)):iy P af o n X v:=by
 generalize ao:o.op=op at ab;unfold Fu at ab;split at ab
 ·split at ab
  ·rename_i i aj;split at ab
   ·rename_i z a4;obtain ⟨b4,cZ,hJ⟩:=w9 a4;cases ab;exact .alloc _ i z ao aj b4 cZ hJ
   ·cases ab
  ·cases ab
 ·split at ab
  ·rename_i i aj
   replace ab:=fK ab
   obtain ⟨U,ab⟩:=ab;rw[avk] at U;cases ab;exact .box _ _ i ao aj U.1 (avn U.2)
  ·cases ab
 ·split at ab
  ·rename_i e hu;split at ab
   ·rename_i i aj;split at ab
    ·rename_i z a4;obtain ⟨b4,cZ,hJ⟩:=w9 a4
     replace ab:=fK ab
     obtain ⟨U,ab⟩:=ab;rw[avk] at U;split at ab
     ·rename_i cs ai;cases ab;exact .buildSlice _ _ _ e i z cs ao hu aj b4 cZ hJ (avq U.1) (avq U.2) ai
     ·cases ab
    ·cases ab
   ·cases ab
  ·cases ab
 ·split at ab
  ·rename_i e b6 l cc k hu ae aI;split at ab
   ·rename_i i aj;split at ab
    ·rename_i z a4;obtain ⟨b4,cZ,hJ⟩:=w9 a4
     replace ab:=fK ab
     obtain ⟨U,ab⟩:=ab;simp only[avk] at U;cases ab;exact .makeSlice _ _ _ l k b6 cc e i z ao hu aj b4 cZ hJ ae aI (avq U.1) (avq U.2.1) (avq U.2.2)
    ·cases ab
   ·cases ab
  ·cases ab
 ·split at ab
  ·rename_i e b aC aw ae;split at ab
   ·rename_i i he aj
    replace ab:=fK ab
    obtain ⟨U,ab⟩:=ab;rw[avk] at U;cases ab;exact .bytes _ _ _ e i b ao aC aw he aj (avn U.1) ae (avq U.2)
   ·cases ab
  ·cases ab
 ·split at ab
  ·rename_i bi bg hu;cases ab;exact .makeMap _ bi bg ao hu
  ·cases ab
 ·cases ab
def GM (c:dP) (a7:Nat):au9->Option (List au9)| .slice (au6 ⟨b,off,au8⟩) l _=>xE c b off (l*a7)| .slice au8 _ _=>au6 []| .string s=>fD (avj a7 1) (au6 (s.data.toList.map fun u=> .int .u8 u.toNat))|_=>au8
theorem O0 {a7:Nat} {v:au9} {cs:List au9} (h:GM c a7 v=au6 cs):ji c.mem a7 v=au6 cs:=by
 unfold GM at h;split at h
 ·exact Ga h
 ·exact h
 ·obtain ⟨U,h⟩:=fK h;simp only[ji];rw[if_pos (avn U)];exact h
 ·cases h
def Mr (P:avd) (c:dP) (u:ave) (i:TypeInfo) (v:au9):Option (Nat×List au9):=
 match P.underlying u with
 |some (.slice _)|some .string=>(match GM c i.size v with
  |some cs=>au6 (hZ v,cs)
  |none=>au8)
 |some (.int _)=>(match v with
  | .int _ (.ofNat n)=>(match tu i with
   |some z=>fD (avA 0 i.size&&(avp (n*i.bytes) 140737488355328&&avA n 9223372036854775807)) (au6 (n,(avw n z.cells.toList).flatten))
   |none=>au8)
  |_=>au8)
 |_=>au8
theorem akF {u:ave} {i:TypeInfo} {v:au9} {n:Nat} {new:List au9} (h:Mr P c u i v=au6 (n,new)):qV P c.mem u i v n new:=by
 unfold Mr at h;split at h
 ·rename_i e hu;split at h
  ·rename_i cs ai;cases h;exact .el (.inl ⟨_,hu⟩) rfl (O0 ai)
  ·cases h
 ·rename_i hu;split at h
  ·rename_i cs ai;cases h;exact .el (.inr hu) rfl (O0 ai)
  ·cases h
 ·rename_i kk hu;split at h
  ·rename_i k n';split at h
   ·rename_i z a4;obtain ⟨b4,cZ,hJ⟩:=w9 a4;obtain ⟨U,h⟩:=fK h;simp only[avk] at U;cases h;exact .mk kk k z hu rfl b4 cZ hJ (avq U.1) (avq U.2.1) (avq U.2.2) rfl
   ·cases h
  ·cases h
 ·cases h
def rZ {aA:Type} (v:aA) (m:Option dP):Option (aA×dP):=match m with|some c=>au6 (v,c)|none=>au8
theorem s4 {aA:Type} {v w:aA} {m:Option dP} {c:dP} (h:rZ v m=au6 (w,c)):v=w/\m=au6 c:=by
 cases m with
 |none=>cases h
 |some d=>cases h;exact ⟨rfl,rfl⟩
def Qp (P:avd) (t u:ave) (a b:au9) (c:dP):Option (au9×dP):=
 match P.underlying t,a with
 |some (.slice e), .slice ch l ga=>(match P.info? e with
  |some i=>(match tu i,Mr P c u i b with
   |some z,au6 (n,new)=>fD (avj new.length (n*i.size)&&(avA 0 i.size&&(avp ((l+n)*i.bytes) 140737488355328&&avA (l+n) 9223372036854775807))) (match avA ga cJ with
    |true=>(match avj n 0 with
     |true=>fD (avp l ga) (au6 (a,c))
     |false=>(match avp (l+n) ga,ch with
      |true,au6 ⟨hl,off,au8⟩=>(match c.aS hl with
       | .own L e2=>fD (avj e2 e&&avp (off+(l+n)*i.size) L.length) (rZ (.slice (au6 ⟨hl,off,au8⟩) (l+n) ga) (c.put hl (.own (e9 L (off+l*i.size) new) e)))
       |_=>au8)
      |false,_=>(match GM c i.size a with
       |some dN=>fD (avj dN.length (l*i.size)) (rZ (.slice (au6 ⟨c.next,0,au8⟩) (l+n) cJ) (c.push (.own (dN++new) e)))
       |none=>au8)
      |_,_=>au8))
    |false=>(match ch with
     |some ⟨hl,off,au8⟩=>(match c.aS hl with
      | .own L e2=>(match avj ga cJ with
       |false=>fD (avj e2 e&&(avj ga (cJ+(ga - cJ))&&(avA 0 (ga - cJ)&&(avp (l+n) (ga - cJ)&&avp (off+(l+n)*i.size) L.length)))) (rZ (.slice (au6 ⟨hl,off,au8⟩) (l+n) ga) (c.put hl (.own (e9 L (off+l*i.size) new) e)))
       |true=>fD (avj e2 e&&avp (off+l*i.size) L.length) (match c.put hl .dead with
       |some c1=>rZ (.slice (au6 ⟨c.next,0,au8⟩) (l+n) cJ) (c1.push (.own ((L.drop off).take (l*i.size)++new) e))
       |none=>au8))
      |_=>au8)
     |_=>au8))
   |_,_=>au8)
  |none=>au8)
 |_,_=>au8
theorem aj5 {t u:ave} {x y:avf} {v:au9} (h:o.op= .call {callee:= .builtin .append,args:=#[x,y],argTypes:=#[t,u]}) (ab:Qp P t u (af x) (af y) c=au6 (v,bQ)):gR P C af o c.mem v bQ.mem:=by
 unfold Qp at ab;split at ab
 ·rename_i e ch l ga hu ae;split at ab
  ·rename_i i aj;split at ab
   ·rename_i z n new a4 aY;obtain ⟨b4,cZ,hJ⟩:=w9 a4;have uo:=akF aY
    replace ab:=fK ab
    obtain ⟨U,ab⟩:=ab;simp only[avk] at U;obtain ⟨aU,aQ,bT,cT⟩:=U;have aU:=avn aU;have aQ:0<i.size:=avq aQ;have bT:=avq bT;have cT:l+n<9223372036854775807:=avq cT;split at ab
    ·rename_i yO;have yO:ga<cJ:=avq yO;split at ab
     ·rename_i a1;obtain rfl:=avn a1
      replace ab:=fK ab
      obtain ⟨aa,ab⟩:=ab;cases ab;obtain rfl:new=[]:=List.eq_nil_of_length_eq_zero (by rw[aU];simp);exact .su x y t u e i ch l ga h hu aj ae yO (avq aa) uo
     ·split at ab
      ·rename_i hl off hle;split at ab
       ·rename_i L e2 ag
        replace ab:=fK ab
        obtain ⟨aa,ab⟩:=ab;rw[avk] at aa;obtain ⟨rfl,hm⟩:=s4 ab;obtain rfl:=avn aa.1;rw[dP.w2 hm];exact .tX x y t u e2 i hl off l ga n L new h hu aj ae yO (avq hle) ag uo aU (avq aa.2)
       ·cases ab
      ·rename_i hle;split at ab
       ·rename_i dN k7
        replace ab:=fK ab
        obtain ⟨aa,ab⟩:=ab;obtain ⟨rfl,hm⟩:=s4 ab;rw[dP.FE hm];have bS:ga<l+n:=by
         cases Nat.lt_or_ge ga (l+n) with
         |inl h=>exact h
         |inr h=>rw[Nat.ble_eq_true_of_le h] at hle;cases hle
        exact .p5 x y t u e i z _ l ga n dN new h hu aj b4 cZ hJ aQ ae bS (O0 k7) (avn aa) uo aU bT cT
       ·cases ab
      ·cases ab
    ·rename_i yO;split at ab
     ·rename_i hl off;split at ab
      ·rename_i L e2 ag;split at ab
       ·replace ab:=fK ab
        obtain ⟨aa,ab⟩:=ab;simp only[avk] at aa;obtain ⟨b6,cc,eF,jk,qs⟩:=aa;obtain ⟨rfl,hm⟩:=s4 ab;obtain rfl:=avn b6;rw[dP.w2 hm];exact .we x y t u e2 i hl off l ga (ga - cJ) n L new h hu aj ae (avn cc) (avq eF) (avq jk) ag uo aU (avq qs)
       rename_i adH;obtain rfl:=avn adH
       replace ab:=fK ab
       obtain ⟨aa,ab⟩:=ab;rw[avk] at aa;split at ab
       ·rename_i c1 mI;obtain ⟨rfl,hm⟩:=s4 ab;obtain rfl:=avn aa.1;rw[dP.FE hm,dP.w2 mI];exact .append x y t u e2 i z hl off l n L new h hu aj b4 cZ hJ aQ ae ag (avq aa.2) uo aU bT cT
       ·cases ab
      ·cases ab
     ·cases ab
   ·cases ab
  ·cases ab
 ·cases ab
end
end Go.av
end
section
namespace Go.av
section
variable {P:avd} {af:avf->au9} {o:Oper} {C:FuncId->Array au9->Mem->au9->Mem->Prop} {c bQ:dP}
def mN (d:TypeDesc) (v:au9):Bool:=match d,v with| .int k, .int cM _=>decide (k=cM)| .string, .string _=>au7|_,_=>ava
theorem O8 {bi:ave} {d:TypeDesc} (h:P.underlying bi=au6 d):Keyed P bi fun v=>mN d v=au7:=
 ajL h fun v ab=>by
  unfold mN at ab;split at ab
  ·rw[<-of_decide_eq_true ab];simp[axt]
  ·simp[axt]
  ·cases ab
theorem FV {d:TypeDesc} {v:au9} (ab:mN d v=au7):av.flat v=au7/\cP v=au7/\v.cells=#[v]/\storable v=au7:=by
 unfold mN at ab;split at ab
 ·exact ⟨rfl,rfl,rfl,rfl⟩
 ·exact ⟨rfl,rfl,rfl,rfl⟩
 ·cases ab
def uN (a b:au9):Bool:=match a,b with| .int k a, .int cM b=>decide (k=cM)&&decide (a=b)| .string s, .string r=>decide (s.data.toList=r.data.toList)|_,_=>ava
theorem Zg {a b:au9} (h:uN a b=au7):a=b:=by
 unfold uN at h;split at h
 ·rw[avk] at h;rw[of_decide_eq_true h.1,of_decide_eq_true h.2]
 ·rename_i s r;have U:=of_decide_eq_true h;cases s with
  |mk s=>cases r with
   |mk r=>
    have:s=r:=by cases s;cases r;simp at U;rw[U]
    rw[this]
 ·cases h
theorem Zf {d:TypeDesc} {a b:au9} (aY:mN d a=au7) (h:uN a b=ava):a≠b:=by
 rintro rfl;unfold mN at aY;split at aY
 ·simp[uN] at h
 ·simp[uN] at h
 ·cases aY
def zU:List au9->Option (List (au9×au9))
 |[]=>au6 []
 |a::b::l=>match zU l with
  |some r=>au6 ((a,b)::r)
  |none=>au8
 |[_]=>au8
def ow (E:List (au9×au9)):List (List au9×List au9):=E.map fun p=>([p.1],[p.2])
theorem O7:∀{L:List au9} {E:List (au9×au9)},zU L=au6 E->L=(ow E).flatMap fun p=>p.1++p.2
 |[],E,h=>by cases h;rfl
 |[_],E,h=>by cases h
 |a::b::l,E,h=>by
  simp only[zU] at h;split at h
  ·rename_i r aE;cases h;simp[ow];have:=O7 aE;simpa[ow] using this
  ·cases h
def vn (key z:au9):List (au9×au9)->au9×Bool
 |[]=>(z,ava)
 |p::E=>match uN p.1 key with
  |true=>(p.2,au7)
  |false=>vn key z E
theorem XY {d:TypeDesc} {key z:au9}:∀{E:List (au9×au9)},(E.all fun p=>mN d p.1)=au7->q2 ava ava key z (ow E) (vn key z E).1 (vn key z E).2
 |[],_=> .nf
 |p::E,h=>by
  simp only[av0,avk] at h;unfold vn;split
  ·rename_i au;exact .oB _ _ (Zg au)
  ·rename_i au;exact .next _ _ _ _ (Zf h.1 au) (XY h.2)
def CZ (key val:au9):List (au9×au9)->List (au9×au9)
 |[]=>[(key,val)]
 |p::E=>match uN p.1 key with
  |true=>(p.1,val)::E
  |false=>p::CZ key val E
theorem YE {d:TypeDesc} {key val:au9}:∀{E:List (au9×au9)},(E.all fun p=>mN d p.1)=au7->q4 ava [key] [val] (ow E) (ow (CZ key val E))
 |[],_=> .nf
 |p::E,h=>by
  simp only[av0,avk] at h;unfold CZ;split
  ·rename_i au;exact .oB _ _ (Zg au)
  ·rename_i au;exact .next _ _ _ (Zf h.1 au) (YE h.2)
def Fm (P:avd) (bi bg:ave):Option (TypeDesc×au9):=match P.underlying bi,P.info? bi,P.underlying bg,P.info? bg with
 |some d,au6 i,au6 Uv,au6 rA=>(match rA.zero with
  |some z=>fD ((match d with| .int _| .string=>au7|_=>ava)&&(avj i.size 1&&(avj rA.size 1&&(!jK Uv&&iX z)))) (au6 (d,z))
  |none=>au8)
 |_,_,_,_=>au8
structure aaZ (P:avd) (bi bg:ave) (d:TypeDesc) (z:au9):Prop where
 aO:P.underlying bi=au6 d
 ke:dG P bi=ava
 gB:dG P bg=ava
 ks:P.cellsOf bi=1
 vs:P.cellsOf bg=1
 rA:∃i,P.info? bg=au6 i/\i.zero=au6 z
 a4:iX z=au7
theorem Yh {bi bg:ave} {d:TypeDesc} {z:au9} (h:Fm P bi bg=au6 (d,z)):aaZ P bi bg d z:=by
 unfold Fm at h;split at h
 ·rename_i p8 i Uv rA U aa ap aN;split at h
  ·rename_i z' a4
   replace h:=fK h
   obtain ⟨g,h⟩:=h;simp only[avk,awR] at g;cases h;obtain ⟨aU,aQ,bT,cT,eL⟩:=g;refine ⟨U,Zj U ?_,Zj ap cT, ?_, ?_,⟨rA,aN,a4⟩,eL⟩
   ·cases d<;>first|rfl|cases aU
   ·simp[awg,aa,avn aQ]
   ·simp[awg,aN,avn bT]
  ·cases h
 ·cases h
def Qx (P:avd) (af:avf->au9) (op:Op) (c:dP):Option au9:=
 match op with
 | .lookup fq x cL ok=>(match P.underlying fq with
  |some (.map bi bg)=>(match Fm P bi bg with
   |some (d,z)=>fD (mN d (af cL)) (match af x with
    | .map (au6 b)=>(match c.aS b with
     | .map L u=>(match P.underlying u,zU L with
      |some (.map hN hP),au6 E=>fD (avj hN bi&&(avj hP bg&&E.all fun p=>mN d p.1)) (au6 (match ok with
       |true=> .tuple #[(vn (af cL) z E).1, .bool (vn (af cL) z E).2]
       |false=>(vn (af cL) z E).1))
      |_,_=>au8)
     |_=>au8)
    | .map au8=>au6 (match ok with
     |true=> .tuple #[z, .bool ava]
     |false=>z)
    |_=>au8)
   |none=>au8)
  |_=>au8)
 |_=>au8
theorem ajQ {v:au9} (ab:Qx P af o.op c=au6 v):eJ P af o c.mem v:=by
 generalize ao:o.op=op at ab;unfold Qx at ab;split at ab
 ·rename_i fq x cL ok;split at ab
  ·rename_i bi bg g9;split at ab
   ·rename_i d z iR;have T:=Yh iR;obtain ⟨rA,U8,g1⟩:=T.rA
    replace ab:=fK ab
    obtain ⟨au,ab⟩:=ab;split at ab
    ·rename_i b ae;split at ab
     ·rename_i L u ag;split at ab
      ·rename_i hN hP E hu a0
       replace ab:=fK ab
       obtain ⟨g,ab⟩:=ab;simp only[avk] at g;obtain ⟨aU,aQ,bT⟩:=g;obtain rfl:=avn aU;obtain rfl:=avn aQ;have Ny:nH (P.cellsOf hN) (P.cellsOf hP) L (ow E):=⟨O7 a0,fun p aM=>by
        obtain ⟨q,_,rfl⟩:=avy.1 aM;rw[T.ks,T.vs];exact ⟨rfl,rfl⟩⟩
       have az:=XY (d:=d) (key:=af cL) (z:=z) bT;have:=eJ.lookup (P:=P) (af:=af) (o:=o) (m:=c.mem) fq x cL ok u hN hP b L (ow E) rA z _ _ (fun v=>mN d v=au7) ao g9 hu (.inl ⟨ae,ag,Ny⟩) (by rw[T.ks];exact Nat.one_pos) (fun _=>T.vs) (O8 T.aO) (FV au).1 au
        (fun p aM=>by
         obtain ⟨q,bd,rfl⟩:=avy.1 aM;rw[T.ke];exact avt.1 bT q bd) U8 g1 T.a4 (by rw[T.ke,T.gB];exact az)
       cases ab;cases ok<;>exact this
      ·cases ab
     ·cases ab
    ·rename_i ae;have:=eJ.lookup (P:=P) (af:=af) (o:=o) (m:=c.mem) fq x cL ok fq bi bg 0 [] [] rA z z ava (fun v=>mN d v=au7) ao g9 g9 (.inr ⟨ae,rfl⟩) (by rw[T.ks];exact Nat.one_pos) (fun _=>T.vs) (O8 T.aO) (FV au).1 au
      (fun p aM=>by cases aM) U8 g1 T.a4 .nf
     cases ab;cases ok<;>exact this
    ·cases ab
   ·cases ab
  ·cases ab
 ·cases ab
def Fs (P:avd) (af:avf->au9) (fq:ave) (x gI gp:avf) (c:dP):Option dP:=
 match P.underlying fq with
 |some (.map bi bg)=>(match Fm P bi bg with
  |some (d,z)=>fD (mN d (af gI)&&(match af gp with| .int _ _| .bool _| .string _=>au7|_=>ava)) (match af x with
   | .map (au6 b)=>(match c.aS b with
    | .map L u=>(match P.underlying u,zU L with
     |some (.map hN hP),au6 E=>fD (avj hN bi&&(avj hP bg&&E.all fun p=>mN d p.1)) (c.put b (.map ((ow (CZ (af gI) (af gp) E)).flatMap fun p=>p.1++p.2) u))
     |_,_=>au8)
    |_=>au8)
   |_=>au8)
  |none=>au8)
 |_=>au8
theorem Yj {fq:ave} {x gI gp:avf} (ao:o.op= .mapUpdate fq x gI gp\/o.op= .insert fq x gI gp) (ab:Fs P af fq x gI gp c=au6 bQ):gR P C af o c.mem undef bQ.mem:=by
 unfold Fs at ab;split at ab
 ·rename_i bi bg g9;split at ab
  ·rename_i d z iR;have T:=Yh iR
   replace ab:=fK ab
   obtain ⟨au,ab⟩:=ab;rw[avk] at au;split at ab
   ·rename_i b ae;split at ab
    ·rename_i L u ag;split at ab
     ·rename_i hN hP E hu a0
      replace ab:=fK ab
      obtain ⟨g,ab⟩:=ab;simp only[avk] at g;obtain ⟨aU,aQ,bT⟩:=g;obtain rfl:=avn aU;obtain rfl:=avn aQ;have Ny:nH (P.cellsOf hN) (P.cellsOf hP) L (ow E):=⟨O7 a0,fun p aM=>by
       obtain ⟨q,_,rfl⟩:=avy.1 aM;rw[T.ks,T.vs];exact ⟨rfl,rfl⟩⟩
      have pr:storable (af gp)=au7/\(af gp).cells=#[af gp]:=by have:=au.2;cases h:af gp<;>rw[h] at this<;>first|exact ⟨rfl,rfl⟩|cases this
      rw[dP.w2 ab];exact .mapUpdate fq x gI gp u hN hP b L [af gI] [af gp] (ow E) (ow (CZ (af gI) (af gp) E)) (fun v=>mN d v=au7) ao g9 hu ae ag Ny (by rw[T.ks];exact Nat.one_pos) (O8 T.aO) (by rw[T.ke];rfl) (by rw[T.ks];rfl)
       (by simp[(FV au.1).2.1]) (FV au.1).1 au.1 (fun p aM=>by
        obtain ⟨q,bd,rfl⟩:=avy.1 aM;rw[T.ke];exact avt.1 bT q bd) pr.1 (by rw[T.gB];rfl) (by rw[T.vs];rfl) (fun v ab=>by rw[pr.2];simpa using ab) (by rw[T.ke];exact YE bT)
     ·cases ab
    ·cases ab
   ·cases ab
  ·cases ab
 ·cases ab
def Au (P:avd) (af:avf->au9) (op:Op) (c:dP):Option au9:=match QQ P af op c with|some v=>au6 v|none=>Qx P af op c
theorem Pt {v:au9} (ab:Au P af o.op c=au6 v):eJ P af o c.mem v:=by
 unfold Au at ab;split at ab
 ·rename_i u hu;cases ab;exact akn hu
 ·exact ajQ ab
end
end Go.av
end
section
namespace Go.av
section
variable {P:avd} {af:avf->au9} {o:Oper} {C:FuncId->Array au9->Mem->au9->Mem->Prop} {c bQ:dP}
abbrev qX:=FuncId->Array au9->dP->Option (au9×dP)
def Eo (P:avd) (gW:qX) (af:avf->au9) (op:Op) (c:dP):Option (au9×dP):=
 match op with
 | .store t x y=>(match af x,P.info? t with
  | .pointer (au6 ⟨b,off,au8⟩),au6 i=>(match c.aS b with
   | .own L e=>fD (storable (af y)&&(avj (af y).cells.size i.size&&avp (off+i.size) L.length)) (rZ undef (c.put b (.own (e9 L off (af y).cells.toList) e)))
   |_=>au8)
  |_,_=>au8)
 | .mapUpdate fq x gI gp=>rZ undef (Fs P af fq x gI gp c)
 | .insert fq x gI gp=>rZ undef (Fs P af fq x gI gp c)
 | .call kn=>(match kn.callee with
  | .builtin .append=>(match kn.args.toList,kn.argTypes.toList with
   |[x,y],[t,u]=>Qp P t u (af x) (af y) c
   |_,_=>au8)
  | .builtin .clear=>(match kn.args.toList,kn.argTypes.toList with
   |[x],[t]=>(match P.underlying t,af x with
    |some (.slice e), .slice (au6 ⟨b,off,au8⟩) l _=>(match P.info? e,c.aS b with
     |some i, .own L e2=>(match tu i with
      |some z=>fD (avj e2 e&&(avA 0 l&&avp (off+l*i.size) L.length)) (rZ (.tuple #[]) (c.put b (.own (e9 L off (avw l z.cells.toList).flatten) e)))
      |none=>au8)
     |_,_=>au8)
    |_,_=>au8)
   |_,_=>au8)
  | .value f=>(match af f with
   | .func (.func g) first captured=>gW g (first++kn.args.map af++captured) c
   |_=>au8)
  |_=>au8)
 |_=>au8
theorem Yo {gW:qX} (jD:∀f args c v bQ,gW f args c=au6 (v,bQ)->C f args c.mem v bQ.mem) {v:au9} (ab:Eo P gW af o.op c=au6 (v,bQ)):gR P C af o c.mem v bQ.mem:=by
 generalize ao:o.op=op at ab;unfold Eo at ab;split at ab
 ·rename_i t x y;split at ab
  ·rename_i b off i ae aj;split at ab
   ·rename_i L e ag
    replace ab:=fK ab
    obtain ⟨U,ab⟩:=ab;simp only[avk] at U;obtain ⟨rfl,hm⟩:=s4 ab;rw[dP.w2 hm];exact .store t x y b off i L e ao ae aj ag U.1 (avn U.2.1) (avq U.2.2)
   ·cases ab
  ·cases ab
 ·obtain ⟨rfl,hm⟩:=s4 ab;exact Yj (.inl ao) hm
 ·obtain ⟨rfl,hm⟩:=s4 ab;exact Yj (.inr ao) hm
 ·rename_i kn;obtain ⟨ce,T7,ts⟩:=kn;dsimp only at ab;split at ab
  ·split at ab
   ·rename_i x y t u aY aw;obtain rfl:=D6 aY;obtain rfl:=D6 aw;exact aj5 ao ab
   ·cases ab
  ·split at ab
   ·rename_i x t aY aw;obtain rfl:=tY aY;obtain rfl:=tY aw;split at ab
    ·rename_i e b off l ga hu ae;split at ab
     ·rename_i i L e2 aj ag;split at ab
      ·rename_i z a4;obtain ⟨b4,cZ,hJ⟩:=w9 a4
       replace ab:=fK ab
       obtain ⟨g,ab⟩:=ab;simp only[avk] at g;obtain ⟨rfl,hm⟩:=s4 ab;obtain rfl:=avn g.1;rw[dP.w2 hm];exact .clear x t e2 i z b off l ga L ao hu aj b4 cZ hJ ae ag (avq g.2.1) (avq g.2.2)
      ·cases ab
     ·cases ab
    ·cases ab
   ·cases ab
  ·rename_i f;split at ab
   ·rename_i g first captured bb
    exact .call g _ v _ ⟨f,T7,ts,first,captured,ao,bb,rfl⟩ (jD _ _ _ _ _ ab)
   ·cases ab
  ·cases ab
 ·cases ab
def Ep:Option Addr->Option Addr->Bool|none,au8=>au7|some ⟨b,o,au8⟩,au6 ⟨cB,o',au8⟩=>avj b cB&&avj o o'|_,_=>ava
theorem Yr {a b:Option Addr} (h:Ep a b=au7):a=b:=by
 unfold Ep at h;split at h
 ·rfl
 ·rw[avk] at h;rw[avn h.1,avn h.2]
 ·cases h
def q9 (f:au9->au9->Bool):List au9->List au9->Bool|[],[]=>au7|a::l,b::k=>f a b&&q9 f l k|_,_=>ava
theorem vf {f:au9->au9->Bool} (bb:∀a b,f a b=au7->a=b):∀{l k:List au9},q9 f l k=au7->l=k
 |[],[],_=>rfl
 |[],_::_,h=>by cases h
 |_::_,[],h=>by cases h
 |a::l,b::k,h=>by simp only[q9,avk] at h;rw[bb a b h.1,vf bb h.2]
def qa:Nat->au9->au9->Bool
 |0,_,_=>ava
 |n+1,a,b=>match a,b with
  | .int k a, .int cM b=>decide (k=cM)&&decide (a=b)
  | .bool a, .bool b=>decide (a=b)
  | .string s, .string r=>decide (s.data.toList=r.data.toList)
  | .pointer a, .pointer b=>Ep a b
  | .slice a l c, .slice b lL bQ=>Ep a b&&(avj l lL&&avj c bQ)
  | .map au8, .map au8=>au7
  | .map (au6 r), .map (au6 q)=>avj r q
  | .nilFunc, .nilFunc=>au7
  | .nilIface, .nilIface=>au7
  | .agg a, .agg b=>q9 (qa n) a.toList b.toList
  | .tuple a, .tuple b=>q9 (qa n) a.toList b.toList
  | .func (.func f) x y, .func (.func g) z w=>avj f g&&(q9 (qa n) x.toList z.toList&&q9 (qa n) y.toList w.toList)
  |_,_=>ava
theorem zR {aA:Type} {a b:Array aA} (h:a.toList=b.toList):a=b:=by cases a;cases b;simp at h;rw[h]
theorem GN:∀(n:Nat) (a b:au9),qa n a b=au7->a=b:=by
 intro n;induction n with
 |zero=>intro a b h;cases h
 |succ n ar=>
  intro a b h;unfold qa at h;split at h
  ·rw[avk] at h;rw[of_decide_eq_true h.1,of_decide_eq_true h.2]
  ·rw[of_decide_eq_true h]
  ·rename_i s r;cases s with
   |mk d=>cases r with
    |mk e=>have aa:d=e:=zR (of_decide_eq_true h);rw[aa]
  ·rw[Yr h]
  ·simp only[avk] at h;rw[Yr h.1,avn h.2.1,avn h.2.2]
  ·rfl
  ·rw[avn h]
  ·rfl
  ·rfl
  ·rw[zR (vf ar h)]
  ·rw[zR (vf ar h)]
  ·simp only[avk] at h;rw[avn h.1,zR (vf ar h.2.1),zR (vf ar h.2.2)]
  ·cases h
def M1:bo->bo->Bool| .dead, .dead=>au7| .own L t, .own K u=>avj t u&&q9 (qa 20) L K| .map L t, .map K u=>avj t u&&q9 (qa 20) L K|_,_=>ava
theorem aqt {a b:bo} (h:M1 a b=au7):a=b:=by
 unfold M1 at h;split at h
 ·rfl
 ·rw[avk] at h;rw[avn h.1,vf (GN 20) h.2]
 ·rw[avk] at h;rw[avn h.1,vf (GN 20) h.2]
 ·cases h
def tz (P:avd) (gW:qX) (ops:List Oper):List Oper->dE->dP->Option (dE×dP)
 |[],fr,c=>au6 (fr,c)
 |o::os,fr,c=>match wanted ops (dE.fr fr) o with
  |false=>(match dE.set fr o.dst undef with
   |some cX=>tz P gW ops os cX c
   |none=>au8)
  |true=>(match HT P (a8 (dE.fr fr)) o.op with
   |some v=>(match dE.set fr o.dst v with
    |some cX=>tz P gW ops os cX c
    |none=>au8)
   |none=>match Au P (a8 (dE.fr fr)) o.op c with
    |some v=>(match dE.set fr o.dst v with
     |some cX=>tz P gW ops os cX c
     |none=>au8)
    |none=>match Fu P (a8 (dE.fr fr)) c.next o.op with
     |some (X,v)=>(match dE.set fr o.dst v,c.push X with
      |some cX,au6 c1=>tz P gW ops os cX c1
      |_,_=>au8)
     |none=>match Eo P gW (a8 (dE.fr fr)) o.op c with
      |some (v,c1)=>(match dE.set fr o.dst v with
       |some cX=>tz P gW ops os cX c1
       |none=>au8)
      |none=>au8)
theorem xi {gW:qX} (jD:∀f args c v bQ,gW f args c=au6 (v,bQ)->C f args c.mem v bQ.mem) {ops:List Oper}:∀(os:List Oper) (fr bB:dE) (c bQ:dP),tz P gW ops os fr c=au6 (bB,bQ)->jy P C ops os (dE.fr fr) c.mem (dE.fr bB) bQ.mem
 |[],fr,bB,c,bQ,h=>by cases h;exact ⟨rfl,rfl⟩
 |o::os,fr,bB,c,bQ,h=>by
  unfold tz at h;unfold jy;split at h
  ·rename_i hw;rw[if_neg (by rw[hw];simp)];split at h
   ·rename_i cX aC;rw[<-dE.qN aC];exact xi jD os _ _ _ _ h
   ·cases h
  ·rename_i hw;rw[if_pos hw];split at h
   ·rename_i v aM;split at h
    ·rename_i cX aC;exact ⟨v,_, .pure (Xz aM),by rw[<-dE.qN aC];exact xi jD os _ _ _ _ h⟩
    ·cases h
   ·split at h
    ·rename_i v aM;split at h
     ·rename_i cX aC;exact ⟨v,_, .read (Pt aM),by rw[<-dE.qN aC];exact xi jD os _ _ _ _ h⟩
     ·cases h
    ·split at h
     ·rename_i X v aM;split at h
      ·rename_i cX c1 aC ai;refine ⟨v,_, .new (Yk aM), ?_⟩;rw[<-dE.qN aC,show c.mem.push X=c1.mem from (dP.FE ai).symm];exact xi jD os _ _ _ _ h
      ·cases h
     ·split at h
      ·rename_i v c1 aM;split at h
       ·rename_i cX aC;exact ⟨v,_, .fb (Yo jD aM),by rw[<-dE.qN aC];exact xi jD os _ _ _ _ h⟩
       ·cases h
      ·cases h
end
end Go.av
end
section
namespace Go.av
end Go.av
end
section
namespace Go.av
section
variable {P:avd} {C:FuncId->Array au9->Mem->au9->Mem->Prop}
structure qU where
 reads:List (Nat×dE×Op×au9)
 gm:List (Nat×dP)
 news:List (Nat×Nat)
def zV (P:avd) (fr:dE) (op:Op) (v:au9) (c:dP):Bool:=match Au P (a8 (dE.fr fr)) op c with|some u=>qa 20 u v|none=>ava
theorem WW {fr:dE} {o:Oper} {v:au9} {c:dP} (h:zV P fr o.op v c=au7):eJ P (a8 (dE.fr fr)) o c.mem v:=by
 unfold zV at h;split at h
 ·rename_i u hu;rw[<-GN 20 u v h];exact Pt hu
 ·cases h
inductive m2 (P:avd):qU->Acc->Prop where
 |nil:m2 P ⟨[],[],[]⟩ ⟨[],[],[]⟩
 |read {A:qU} {B:Acc} (i:Nat) (fr:dE) (o:Oper) (v:au9) (h:m2 P A B):m2 P {A with reads:=(i,fr,o.op,v)::A.reads} {B with reads:=(i,fun m=>eJ P (a8 (dE.fr fr)) o m v)::B.reads}
 |fb {A:qU} {B:Acc} (i:Nat) (c:dP) (h:m2 P A B):m2 P {A with gm:=(i,c)::A.gm} {B with gm:=(i,c.mem)::B.gm}
 |new {A:qU} {B:Acc} (i n:Nat) (h:m2 P A B):m2 P {A with news:=(i,n)::A.news} {B with news:=(i,n)::B.news}
theorem m2.gm {A:qU} {B:Acc} (h:m2 P A B):B.gm=A.gm.map fun x=>(x.1,x.2.mem):=by
 induction h with
 |nil=>rfl
 |read i fr o v h ar=>exact ar
 |fb i c h ar=>simp only[List.map_cons,ar]
 |new i n h ar=>exact ar
theorem m2.news {A:qU} {B:Acc} (h:m2 P A B):B.news=A.news:=by
 induction h with
 |nil=>rfl
 |read i fr o v h ar=>exact ar
 |fb i c h ar=>exact ar
 |new i n h ar=>simp only[ar]
theorem m2.reads {A:qU} {B:Acc} (h:m2 P A B) {m7:Array Nat} {i:Nat} {c:dP} (aE:(A.reads.all fun x=>fA m7 i x.1||zV P x.2.1 x.2.2.1 x.2.2.2 c)=au7):∀x∈B.reads,fA m7 i x.1=ava->x.2 c.mem:=by
 induction h with
 |nil=>intro x ae;cases ae
 |read j fr o v h ar=>
  simp only[av0,avk] at aE;intro x ae aY;rcases List.mem_cons.1 ae with rfl|ae
  ·have U:=aE.1;rw[awl] at U;rcases U with U|U
   ·rw[U] at aY;cases aY
   ·exact WW U
  ·exact ar aE.2 x ae aY
 |fb j bQ h ar=>exact ar aE
 |new j n h ar=>exact ar aE
def tm (P:avd) (gW:qX) (ops:List Oper) (m7:Array Nat):Nat->List Oper->qU->dE->dP->Option (dE×dP)
 |_,[],_,fr,c=>au6 (fr,c)
 |i,o::os,A,fr,c=>match wanted ops (dE.fr fr) o with
  |false=>(match dE.set fr o.dst undef with
   |some cX=>tm P gW ops m7 (i+1) os A cX c
   |none=>au8)
  |true=>(match HT P (a8 (dE.fr fr)) o.op with
   |some v=>(match dE.set fr o.dst v with
    |some cX=>tm P gW ops m7 (i+1) os A cX c
    |none=>au8)
   |none=>match Au P (a8 (dE.fr fr)) o.op c with
    |some v=>(match dE.set fr o.dst v with
     |some cX=>fD (A.gm.all fun x=>fA m7 i x.1||zV P fr o.op v x.2) (tm P gW ops m7 (i+1) os {A with reads:=(i,fr,o.op,v)::A.reads} cX c)
     |none=>au8)
    |none=>match Fu P (a8 (dE.fr fr)) c.next o.op with
     |some (X,v)=>(match dE.set fr o.dst v,c.push X with
      |some cX,au6 c1=>tm P gW ops m7 (i+1) os {A with news:=(i,c.next)::A.news} cX c1
      |_,_=>au8)
     |none=>match Eo P gW (a8 (dE.fr fr)) o.op c with
      |some (v,c1)=>(match dE.set fr o.dst v with
       |some cX=>fD ((A.reads.all fun x=>fA m7 i x.1||zV P x.2.1 x.2.2.1 x.2.2.2 c1)&&(A.news.all fun x=>fA m7 i x.1||M1 (c1.aS x.2) (c.aS x.2))) (tm P gW ops m7 (i+1) os {A with gm:=(i,c)::A.gm} cX c1)
       |none=>au8)
      |none=>au8)
theorem xc {gW:qX} (jD:∀f args c v bQ,gW f args c=au6 (v,bQ)->C f args c.mem v bQ.mem) {ops:List Oper} {m7:Array Nat}:∀(os:List Oper) (i:Nat) (A:qU) (B:Acc) (fr bB:dE) (c bQ:dP),m2 P A B->tm P gW ops m7 i os A fr c=au6 (bB,bQ)->g3 P C ops m7 i os B (dE.fr fr) c.mem (dE.fr bB) bQ.mem
 |[],i,A,B,fr,bB,c,bQ,dY,h=>by cases h;exact ⟨rfl,rfl⟩
 |o::os,i,A,B,fr,bB,c,bQ,dY,h=>by
  unfold tm at h;unfold g3;split at h
  ·rename_i hw;rw[if_neg (by rw[hw];simp)];split at h
   ·rename_i cX aC;rw[<-dE.qN aC];exact xc jD os _ _ _ _ _ _ _ dY h
   ·cases h
  ·rename_i hw;rw[if_pos hw];split at h
   ·rename_i v aM;split at h
    ·rename_i cX aC;exact .inl ⟨v,Xz aM,by rw[<-dE.qN aC];exact xc jD os _ _ _ _ _ _ _ dY h⟩
    ·cases h
   ·split at h
    ·rename_i v aM;split at h
     ·rename_i cX aC
      replace h:=fK h
      obtain ⟨U,h⟩:=h;refine .inr (.inl ⟨v,Pt aM,fun x ae aY=> ?_,by rw[<-dE.qN aC];exact xc jD os _ _ _ _ _ _ _ (.read i fr o v dY) h⟩);rw[dY.gm] at ae;obtain ⟨y,aI,rfl⟩:=avy.1 ae;have aa:=avt.1 U y aI;rw[awl] at aa;rcases aa with aa|aa
      ·rw[aa] at aY;cases aY
      ·exact WW aa
     ·cases h
    ·split at h
     ·rename_i X v aM;split at h
      ·rename_i cX c1 aC ai;refine .inr (.inr (.inl ⟨X,v,Yk aM, ?_⟩));rw[<-dE.qN aC,show c.mem.push X=c1.mem from (dP.FE ai).symm];exact xc jD os _ _ _ _ _ _ _ (.new i c.next dY) h
      ·cases h
     ·split at h
      ·rename_i v c1 aM;split at h
       ·rename_i cX aC
        replace h:=fK h
        obtain ⟨U,h⟩:=h;rw[avk] at U;refine .inr (.inr (.inr ⟨v,_,Yo jD aM,dY.reads U.1,fun x ae aY=> ?_,by rw[<-dE.qN aC];exact xc jD os _ _ _ _ _ _ _ (.fb i c dY) h⟩));rw[dY.news] at ae;have aa:=avt.1 U.2 x ae;rw[awl] at aa;rcases aa with aa|aa
        ·rw[aa] at aY;cases aY
        ·exact aqt aa
       ·cases h
      ·cases h
def pL (P:avd) (gW:qX):Nat->Code->dE->dP->Option (eY×dE×dP)
 |0,_,_,_=>au8
 |n+1,k,fr,c=>match k with
  | .skip=>au6 (.normal,fr,c)
  | .label _=>au6 (.normal,fr,c)
  | .exit id=>au6 (.exit id,fr,c)
  | .ret=>au6 (.ret,fr,c)
  | .region _ ops ava=>(match tz P gW ops.toList ops.toList fr c with
   |some (cX,c1)=>au6 (.normal,cX,c1)
   |none=>au8)
  | .region _ ops au7=>(match tm P gW ops.toList (Region.before ops) 0 ops.toList ⟨[],[],[]⟩ fr c with
   |some (cX,c1)=>au6 (.normal,cX,c1)
   |none=>au8)
  | .seq a b=>(match pL P gW n a fr c with
   |some (.normal,cX,c1)=>pL P gW n b cX c1
   |some (e,cX,c1)=>au6 (e,cX,c1)
   |none=>au8)
  | .cond x a b=>(match a8 (dE.fr fr) x with
   | .bool au7=>pL P gW n a fr c
   | .bool ava=>pL P gW n b fr c
   |_=>au8)
  | .scope a=>pL P gW n a fr c
  | .block id a=>(match pL P gW n a fr c with
   |some (.exit j,cX,c1)=>(match avj j id with
    |true=>au6 (.normal,cX,c1)
    |false=>au6 (.exit j,cX,c1))
   |some (e,cX,c1)=>au6 (e,cX,c1)
   |none=>au8)
  | .loop a=>(match pL P gW n a fr c with
   |some (.normal,cX,c1)=>pL P gW n (.loop a) cX c1
   |some (e,cX,c1)=>au6 (e,cX,c1)
   |none=>au8)
  |_=>au8
theorem XK {gW:qX} (jD:∀f args c v bQ,gW f args c=au6 (v,bQ)->C f args c.mem v bQ.mem):∀(n:Nat) (k:Code) (fr bB:dE) (c bQ:dP) (e:eY),pL P gW n k fr c=au6 (e,bB,bQ)->kh P C n k (dE.fr fr) c.mem e (dE.fr bB) bQ.mem
 |0,k,fr,bB,c,bQ,e,h=>by cases h
 |n+1,k,fr,bB,c,bQ,e,h=>by
  have ar:=XK jD n;unfold pL at h;split at h
  ·cases h;exact ⟨rfl,rfl,rfl⟩
  ·cases h;exact ⟨rfl,rfl,rfl⟩
  ·cases h;exact ⟨rfl,rfl,rfl⟩
  ·cases h;exact ⟨rfl,rfl,rfl⟩
  ·split at h
   ·rename_i cX c1 aC;cases h;exact ⟨rfl,xi jD _ _ _ _ _ aC⟩
   ·cases h
  ·split at h
   ·rename_i cX c1 aC;cases h;exact ⟨rfl,xc jD _ _ _ _ _ _ _ _ .nil aC⟩
   ·cases h
  ·split at h
   ·rename_i cX c1 aC;exact .inl ⟨.normal,_,_,ar _ _ _ _ _ _ aC,by rw[if_pos rfl];exact ar _ _ _ _ _ _ h⟩
   ·rename_i bu cX c1 ev aC;cases h;exact .inl ⟨e,_,_,ar _ _ _ _ _ _ aC,by rw[if_neg ev];exact ⟨rfl,rfl,rfl⟩⟩
   ·cases h
  ·split at h
   ·rename_i ae;exact ⟨au7,ae,ar _ _ _ _ _ _ h⟩
   ·rename_i ae;exact ⟨ava,ae,ar _ _ _ _ _ _ h⟩
   ·cases h
  ·exact ar _ _ _ _ _ _ h
  ·split at h
   ·rename_i j cX c1 aC;split at h
    ·rename_i aZ;cases h;exact ⟨_,ar _ _ _ _ _ _ aC,by rw[avn aZ,if_pos rfl]⟩
    ·rename_i aZ;cases h;exact ⟨_,ar _ _ _ _ _ _ aC,by rw[if_neg (fun bL=>by cases bL;rw[Nat.beq_refl] at aZ;cases aZ)]⟩
   ·rename_i bu cX c1 ev aC;cases h;exact ⟨e,ar _ _ _ _ _ _ aC,by rw[if_neg (fun bL=>ev _ bL)]⟩
   ·cases h
  ·split at h
   ·rename_i cX c1 aC;exact ⟨.normal,_,_,ar _ _ _ _ _ _ aC,by rw[if_pos rfl];exact ar _ _ _ _ _ _ h⟩
   ·rename_i bu cX c1 ev aC;cases h;exact ⟨e,_,_,ar _ _ _ _ _ _ aC,by rw[if_neg ev];exact ⟨rfl,rfl,rfl⟩⟩
   ·cases h
  ·cases h
def zZ:List au9->Nat->dE->Option dE
 |[],_,t=>au6 t
 |v::l,i,t=>match t.put i v with
  |some ec=>zZ l (i+1) ec
  |none=>au8
theorem W5:∀(l:List au9) (i:Nat) (t ec:dE),zZ l i t=au6 ec->∀j,dE.fr ec j=if i<=j/\j<i+l.length then l.getD (j - i) undef else dE.fr t j
 |[],i,t,ec,h,j=>by cases h;rw[if_neg (by simp)]
 |v::l,i,t,ec,h,j=>by
  unfold zZ at h;split at h
  ·rename_i t1 U;rw[W5 l (i+1) t1 ec h j];have aa:=Trie.sZ U j;have ap:dE.fr t1 j=if j=i then v else dE.fr t j:=by
    simp only[dE.fr,aa];split<;>rfl
   rw[ap];simp only[awh];by_cases aZ:j=i
   ·subst aZ;rw[if_neg (by omega),if_pos rfl,if_pos (by omega)];simp
   ·rw[if_neg aZ];by_cases au:i+1<=j/\j<i+1+l.length
    ·rw[if_pos au,if_pos (by omega),show j - i=(j - (i+1))+1 by omega];simp
    ·rw[if_neg au,if_neg (by omega)]
  ·cases h
theorem ajm {args:Array au9} {t:dE} {N:Nat} (h:zZ args.toList 0 .e=au6 t):dE.fr t=fun i=>(args++Array.replicate (N - args.size) undef).getD i undef:=by
 funext j;rw[W5 _ _ _ _ h j];simp only[Nat.zero_le,true_and,Nat.zero_add,Nat.sub_zero,Array.length_toList];have eK:dE.fr (.e:dE) j=undef:=rfl;rw[eK,Array.getD_eq_getD_getElem?,Array.getElem?_append];by_cases aZ:j<args.size
 ·rw[if_pos aZ,if_pos aZ];simp[List.getD_eq_getElem?_getD]
 ·rw[if_neg aZ,if_neg aZ];rw[Array.getElem?_replicate];split<;>rfl
def QZ (P:avd) (fr:dE) (c:dP):ResultVar->Option au9
 | .tmp t=>au6 (dE.fr fr t)
 | .cell a t=>match dE.fr fr a,P.underlying t with
  | .pointer (au6 ⟨b,off,au8⟩),au6 d=>(match jK d with
   |true=>(match P.info? t with
    |some i=>(match xE c b off i.size with
     |some cs=>au6 (.agg cs.toArray)
     |none=>au8)
    |none=>au8)
   |false=>zc c b off)
  |_,_=>au8
theorem aqK {fr:dE} {c:dP} {r:ResultVar} {v:au9} (h:QZ P fr c r=au6 v):zI P (dE.fr fr) c.mem r v:=by
 cases r with
 |tmp t=>cases h;rfl
 |cell a t=>
  simp only[QZ] at h;split at h
  ·rename_i b off d aY hu;split at h
   ·rename_i aO;split at h
    ·rename_i i aj;split at h
     ·rename_i cs ai;cases h;exact ⟨b,off,aY,d,hu,by rw[if_pos aO];exact ⟨i,cs,aj,Ga ai,rfl⟩⟩
     ·cases h
    ·cases h
   ·rename_i aO;exact ⟨b,off,aY,d,hu,by rw[if_neg (by rw[aO];simp)];exact P5 h⟩
  ·cases h
def HV (P:avd) (fr:dE) (c:dP):List ResultVar->Option (List au9)
 |[]=>au6 []
 |r::rs=>match QZ P fr c r,HV P fr c rs with
  |some v,au6 vs=>au6 (v::vs)
  |_,_=>au8
theorem XD {fr:dE} {c:dP}:∀{rs:List ResultVar} {vs:List au9},HV P fr c rs=au6 vs->oP P (dE.fr fr) c.mem rs vs
 |[],vs,h=>by cases h;trivial
 |r::rs,vs,h=>by
  simp only[HV] at h;split at h
  ·rename_i v vs' U aa;cases h;exact ⟨aqK U,XD aa⟩
  ·cases h
structure DV (P:avd) where
 w0:List Nat
 ok:∀f∈w0,la P f=au7
 MM:List (Nat×Code)
 Us:∀x∈MM,∀fn,P.funcs[x.1]? =au6 fn->qC P fn x.2
 xs:FuncId->Array au9->dP->Option au9
 aaH:∀f args c v,xs f args c=au6 v->nL P f args c.mem v c.mem
def Ei:List (Nat×Code)->Nat->Option Code
 |[],_=>au8
 |x::l,f=>match avj x.1 f with
  |true=>au6 x.2
  |false=>Ei l f
theorem X0:∀{l:List (Nat×Code)} {f:Nat} {k:Code},Ei l f=au6 k->(f,k)∈l
 |[],_,_,h=>by cases h
 |x::l,f,k,h=>by
  unfold Ei at h;split at h
  ·rename_i ag;cases h;obtain rfl:=avn ag;exact List.mem_cons_self
  ·exact List.mem_cons_of_mem _ (X0 h)
def afC (l:List Nat) (f:Nat):Bool:=l.any fun x=>avj x f
def z9 (P:avd) (R:DV P):Nat->qX
 |0,_,_,_=>au8
 |n+1,f,args,c=>fD (afC R.w0 f) (match R.xs f args c with
  |some v=>au6 (v,c)
  |none=>match P.funcs[f]? with
  |some fn=>(match (match Ei R.MM f with|some k=>au6 k|none=>fn.body) with
   |some k=>fD (avp args.size fn.ntmps) (match zZ args.toList 0 .e with
    |some fr=>(match pL P (z9 P R n) n k fr c with
     |some (e,cX,c1)=>(match e,HV P cX c1 fn.results.toList with
      | .exit _,_=>au8
      |_,au6 vs=>fD (avj vs.length 1||vs.all storable) (au6 (pack vs,c1))
      |_,au8=>au8)
     |none=>au8)
    |none=>au8)
   |none=>au8)
  |none=>au8)
theorem Xg (R:DV P):∀(n:Nat) (f:FuncId) (args:Array au9) (c:dP) (v:au9) (bQ:dP),z9 P R n f args c=au6 (v,bQ)->iA P n f args c.mem v bQ.mem
 |0,f,args,c,v,bQ,h=>by cases h
 |n+1,f,args,c,v,bQ,h=>by
  have ar:=Xg R n;unfold z9 at h
  replace h:=fK h
  obtain ⟨hm,h⟩:=h;obtain ⟨x,ae,afg⟩:=List.any_eq_true.1 hm;obtain rfl:=avn afg;have ew:=R.ok _ ae;split at h
  ·rename_i bI ab;cases h;exact .inl ⟨ew,R.aaH _ _ _ _ ab⟩
  split at h
  ·rename_i fn bb;split at h
   ·rename_i k au;have kb:qC P fn k:=by
     split at au
     ·rename_i cM aO;cases au;exact R.Us _ (X0 aO) fn bb
     ·exact .inl au
    replace h:=fK h
    obtain ⟨aC,h⟩:=h;split at h
    ·rename_i fr hq;split at h
     ·rename_i e cX c1 ai;have UZ:=XK ar n k fr cX c c1 e ai;rw[ajm (N:=fn.ntmps) hq] at UZ;split at h
      ·cases h
      ·rename_i vs ev oF
       replace h:=fK h
       obtain ⟨U,h⟩:=h;cases h;refine .inr ⟨fn,k,_,_,_,vs,bb,kb,ew,avq aC,UZ, ?_,XD oF,rfl, ?_, .inl rfl⟩
       ·rename_i bu _ _;cases bu with
        |normal=>exact .inl rfl
        |ret=>exact .inr rfl
        |exit id=>exact absurd rfl (ev id)
       ·rw[awl] at U;rcases U with U|U
        ·exact .inl (avn U)
        ·exact .inr fun x ae=>avt.1 U x ae
      ·cases h
     ·cases h
    ·cases h
   ·cases h
  ·cases h
end
end Go.av
end
section
namespace Go.av
theorem Km:WF (dP.mem ⟨0, .e⟩):=⟨fun b _=>rfl,fun b=>trivial⟩
theorem aij {P:avd} (w:World) (aw:l1 P w):Rel P (fun _=>au8) (dP.mem ⟨0, .e⟩) w:=⟨⟨fun b e h=>(by cases h),fun b e h=>(by cases h),fun b cB e b2 h=>(by cases h)⟩,aw,fun b e h=>(by cases h)⟩
theorem aix {P:avd} (nY:P.follows .mixedOrders=au7) (R:DV P) {n:Nat} {f:FuncId} {v:au9} {bQ:dP} (h:z9 P R n f #[] ⟨0, .e⟩=au6 (v,bQ)) (ab:av.flat v=au7) (w:World) (aw:l1 P w):
  Calls P f #[] w fun e w'=>e= .returned v/\Grown w w':=by
 obtain ⟨_,aa⟩:=(Wu nY n).2 _ _ _ _ _ (Xg R n f #[] ⟨0, .e⟩ v bQ h) (fun _=>au8) w #[] Km (aij w aw) True.intro;refine aa.mono ?_;rintro e w' ⟨ba,b0,rfl,aM,Vz⟩;rw[xj ab Vz];exact ⟨rfl,aM.e6.os,aM.e6.tape,aM.e6.output,aM.e6.size,fun c ai=>aM.e6.block c ai fun b e ag=>by cases ag⟩
noncomputable section
variable {P:avd} {D:Nat->Type} {X:ez P D}
def fm.kn (D:Nat->Type) (f s:Nat):fm D:=⟨f,0,[],[],au8,0,[.v s .bool],[],[.tmp s],au7⟩
theorem akz {f s:Nat} {b:Bool} (ew:la P f=au7) (ae:∀w,l1 P w->Calls P f #[] w fun e w'=>e= .returned (.bool b)/\Grown w w') (ai:∀{af:Type} (y:Bool) (O:List (aT D)) (K:aX D->List (aT D)->Option af),fm.call X (fm.kn D f s) (fun _ _=>au6 y) [] O K=K (.c (.bool y)) O) (F:(fm.kn D f s).F) (dQ:∀r x,F r x=au8\/F r x=au6 b):ix X (fm.kn D f s) F:=by
 intro cq O af K r z e m k vs args ay cU h;have aC:cq=[]:=by
  cases cq with
  |nil=>rfl
  |cons _ _=>cases h
 subst aC;have aY:args=[]:=by
  cases args with
  |nil=>rfl
  |cons _ _=>exact cU.elim
 subst aY;have h:au' (F () ()) (fun y=>fm.call (X:=X) (fm.kn D f s) (fun _ _=>au6 y) [] O K)=au6 r:=by
  rcases dQ () () with bf|bf
  ·exfalso;have:fm.call (X:=X) (fm.kn D f s) F [] O K=au8:=by
    have e:F=fun _ _=>F () ():=by funext r x;rfl
    rw[e,bf];rfl
   rw[this] at h;cases h
  ·rw[bf];have e:F=fun _ _=>F () ():=by funext r x;rfl
   rw[e,bf] at h;exact h
 obtain ⟨y,aI,h⟩:=bind_some h;have ag:y=b:=by
  rcases dQ () () with bf|bf<;>rw[bf] at aI<;>cases aI
  rfl
 subst ag;have h:K (.c (.bool y)) O=au6 r:=(ai y O K).symm.trans h;exact hs.sort ew (.flat (.bool y) rfl rfl ae) ⟨dk.here ay (dh:= .c (.bool y)) rfl h,fun _=>rfl,au8,gh.refl _, .inl rfl⟩
end
end Go.av
end
section
namespace Go.W
open Go.av
def eA (n:Int):UInt8:=awv (n%256).toNat
def gq (n:Int):List UInt8:=[eA (n / 256),eA n]
def j0 (s:List UInt8):List UInt8:=eA s.length::s
def oU (s:er):List UInt8:=gq s.place++gq s.bC
def jW (n:Int):Bool:=decide (n<0)||decide (255<n)
def fe (n:Int):Bool:=decide (n<0)||decide (65535<n)
def rF (s:List UInt8):Bool:=jW s.length
def ni (s:er):Bool:=fe s.place||fe s.bC
def kY (k:Int) (e:bj):List UInt8:=
 if k=1 then gq e.bC++(gq e.data.length++e.data)
 else if k=2 then j0 e.order.name++(gq e.order.bC++(eA e.order.cw.length::e.order.cw.flatMap j0))
 else if k=3\/k=5 then gq e.bC++(gq e.cE++(eA e.aP.length::e.aP.flatMap gq))
 else if k=4 then eA e.cQ.length::e.cQ.flatMap oU
 else if k=6 then gq e.bC++(gq e.to++gq e.count)
 else j0 e.name
def mr (k:Int) (e:bj):Bool:=
 if k=1 then fe e.bC||fe e.data.length
 else if k=2 then jW e.order.name.length||fe e.order.bC||jW e.order.cw.length||e.order.cw.any rF
 else if k=3\/k=5 then fe e.bC||fe e.cE||jW e.aP.length||e.aP.any fe
 else if k=4 then jW e.cQ.length||e.cQ.any ni
 else if k=6 then fe e.bC||fe e.to||fe e.count
 else jW e.name.length
def ly (k:Int) (e:bj):Bool:=mr k e||(decide (k=1)&&decide (8000<e.data.length))
def tZ (k:Int) (e:bj):bj:=
 if k=1 then bj.mk k e.bC 0 0 0 [] [] (bX.mk [] 0 []) [] e.data
 else if k=2 then bj.mk k 0 0 0 0 [] [] e.order [] []
 else if k=3\/k=5 then bj.mk k e.bC 0 0 e.cE e.aP [] (bX.mk [] 0 []) [] []
 else if k=4 then bj.mk k 0 0 0 0 [] e.cQ (bX.mk [] 0 []) [] []
 else if k=6 then bj.mk k e.bC e.to e.count 0 [] [] (bX.mk [] 0 []) [] []
 else bj.mk k 0 0 0 0 [] [] (bX.mk [] 0 []) e.name []
def kU (e:bj):Prop:=1<=e.kind/\e.kind<=7/\tZ e.kind e=e
def enc (e:bj):List UInt8:=eA e.kind::kY e.kind e
theorem T8 {n:Int} (h:0<=n) (k:n<=255):(eA n).toNat=n.toNat:=by
 unfold eA;rw[UInt8.toNat_ofNat'];omega
theorem T9 (x:UInt8):eA x.toNat=x:=by
 unfold eA;have:=x.toNat_lt;rw[show (((x.toNat:Nat):Int)%256).toNat=x.toNat by omega,UInt8.ofNat_toNat]
theorem uU {n:Int}:jW n=ava↔0<=n/\n<=255:=by unfold jW;simp
theorem uT {n:Int}:fe n=ava↔0<=n/\n<=65535:=by unfold fe;simp
theorem nu {n:Int} (h:fe n=ava) (r:List UInt8):eo (gq n++r)=au6 (n,r):=by
 have h:=uT.1 h;have cz:(eA (n / 256)).toNat=(n / 256).toNat:=T8 (by omega) (by omega);have dw:(eA n).toNat=(n%256).toNat:=by unfold eA;rw[UInt8.toNat_ofNat'];omega
 show au6 ((((eA (n / 256)).toNat*256+(eA n).toNat:Nat):Int),r)=_;rw[cz,dw];congr 2;omega
theorem nv {b r:List UInt8} {n:Int} (h:eo b=au6 (n,r)):b=gq n++r/\fe n=ava:=by
 match b,h with
 |x::y::b,h=>
  cases h;have U:=x.toNat_lt;have aa:=y.toNat_lt;refine ⟨?_,uT.2 (by omega)⟩;unfold gq;rw[show ((((x.toNat*256+y.toNat:Nat):Int)) / 256)=(x.toNat:Int) by omega,T9];have:eA ((x.toNat*256+y.toNat:Nat):Int)=y:=by unfold eA;rw[show ((((x.toNat*256+y.toNat:Nat):Int))%256).toNat=y.toNat by omega,UInt8.ofNat_toNat]
  rw[this];rfl
 |[],h=>cases h
 |[_],h=>cases h
theorem xB {n:Int} (h:jW n=ava) (r:List UInt8):kZ (eA n::r)=au6 (n.toNat,r):=by
 have h:=uU.1 h;show au6 ((eA n).toNat,r)=_;rw[T8 h.1 h.2]
theorem xC {b r:List UInt8} {k:Nat} (h:kZ b=au6 (k,r)):b=eA k::r/\jW k=ava:=by
 match b,h with
 |x::b,h=>cases h;have:=x.toNat_lt;exact ⟨by rw[T9],uU.2 (by omega)⟩
 |[],h=>cases h
theorem aao (s r:List UInt8):e0 s.length (s++r)=au6 (s,r):=by
 unfold e0;simp
theorem aap {n:Nat} {b s r:List UInt8} (h:e0 n b=au6 (s,r)):b=s++r/\s.length=n:=by
 unfold e0 at h;split at h
 ·cases h;exact ⟨(List.take_append_drop n b).symm,List.length_take_of_le (by assumption)⟩
 ·cases h
theorem n6 {s:List UInt8} (h:jW s.length=ava) (r:List UInt8):kG (j0 s++r)=au6 (s,r):=by
 unfold kG j0;rw[List.cons_append,xB h];exact aao s r
theorem QW {b s r:List UInt8} (h:kG b=au6 (s,r)):b=j0 s++r/\jW s.length=ava:=by
 unfold kG at h;obtain ⟨⟨k,q⟩,U,cu⟩:=avI.1 h;obtain ⟨rfl,aa⟩:=xC U;obtain ⟨ap,aN⟩:=aap (n:=k) cu;simp only at ap;subst ap aN;exact ⟨rfl,aa⟩
theorem arh {s:er} (h:ni s=ava) (r:List UInt8):lj (oU s++r)=au6 (s,r):=by
 unfold ni at h;simp only[axT] at h;unfold lj oU;rw[awX,nu h.1];simp only[avv];rw[nu h.2];rfl
theorem ari {b r:List UInt8} {s:er} (h:lj b=au6 (s,r)):b=oU s++r/\ni s=ava:=by
 unfold lj at h;obtain ⟨⟨k,q⟩,U,h⟩:=avI.1 h;obtain ⟨⟨l,iJ⟩,aa,h⟩:=avI.1 h;cases h;obtain ⟨rfl,ap⟩:=nv U;obtain ⟨rfl,aN⟩:=nv aa;exact ⟨by unfold oU;rw[awX],by simp[ni,ap,aN]⟩
theorem CN {aA:Type} {f:List UInt8->Option (aA×List UInt8)} {w:aA->List UInt8} {o:aA->Bool} (a:∀x r,o x=ava->f (w x++r)=au6 (x,r)):∀(l:List aA) (r:List UInt8),l.any o=ava->hb f l.length (l.flatMap w++r)=au6 (l,r)
 |[],r,_=>rfl
 |x::l,r,h=>by simp only[List.any_cons,axT] at h;show au' (f ((w x++l.flatMap w)++r)) _=_;rw[awX,a x _ h.1];simp only[avv];rw[CN a l r h.2];rfl
theorem CO {aA:Type} {f:List UInt8->Option (aA×List UInt8)} {w:aA->List UInt8} {o:aA->Bool} (a:∀b x r,f b=au6 (x,r)->b=w x++r/\o x=ava):∀(n:Nat) (b r:List UInt8) (l:List aA),hb f n b=au6 (l,r)->b=l.flatMap w++r/\l.length=n/\l.any o=ava
 |0,b,r,l,h=>by cases h;exact ⟨rfl,rfl,rfl⟩
 |n+1,b,r,l,h=>by obtain ⟨⟨x,q⟩,U,h⟩:=avI.1 h;obtain ⟨⟨lL,iJ⟩,aa,h⟩:=avI.1 h;cases h;obtain ⟨rfl,ap⟩:=a _ _ _ U;obtain ⟨aN,bK,ed⟩:=CO a n _ _ _ aa;simp only at aN;subst aN;exact ⟨by simp,by simp[bK],by simp[ap,ed]⟩
theorem zb {k:Int} (U:1<=k) (aa:k<=7):k=1\/k=2\/k=3\/k=4\/k=5\/k=6\/k=7:=by omega
theorem tv {e:bj} {k:Int} (U:1<=k) (aa:k<=7) (h:mr k e=ava) (r:List UInt8):eM k (kY k e++r)=au6 (tZ k e,r):=by
 rcases zb U aa with rfl|rfl|rfl|rfl|rfl|rfl|rfl<;>simp[mr,and_assoc] at h<;>simp only[eM,kY,tZ,awX,List.cons_append,avF,if_true,if_false,or_true,true_or,or_self]
 ·rw[nu h.1];simp only[avv];rw[nu h.2];simp only[avv];rw[av',aao];rfl
 ·rw[n6 h.1];simp only[avv];rw[nu h.2.1];simp only[avv];rw[xB h.2.2.1];simp only[avv];rw[av',CN (o:=rF) (fun x r h=>n6 h r) _ _ (by simpa using h.2.2.2)];rfl
 ·rw[nu h.1];simp only[avv];rw[nu h.2.1];simp only[avv];rw[xB h.2.2.1];simp only[avv];rw[av',CN (o:=fe) (fun x r h=>nu h r) _ _ (by simpa using h.2.2.2)];rfl
 ·rw[xB h.1];simp only[avv];rw[av',CN (o:=ni) (fun x r h=>arh h r) _ _ (by simpa using h.2)];rfl
 ·rw[nu h.1];simp only[avv];rw[nu h.2.1];simp only[avv];rw[xB h.2.2.1];simp only[avv];rw[av',CN (o:=fe) (fun x r h=>nu h r) _ _ (by simpa using h.2.2.2)];rfl
 ·rw[nu h.1];simp only[avv];rw[nu h.2.1];simp only[avv];rw[nu h.2.2];rfl
 ·rw[n6 h];rfl
theorem aaq {b r:List UInt8} {e:bj} {k:Int} (U:1<=k) (aa:k<=7) (h:eM k b=au6 (e,r)):b=kY k e++r/\mr k e=ava/\e.kind=k/\tZ k e=e:=by
 rcases zb U aa with rfl|rfl|rfl|rfl|rfl|rfl|rfl<;>simp only[eM,avF,if_true,if_false,or_true,true_or,or_self] at h
 ·obtain ⟨⟨t,q⟩,cz,h⟩:=avI.1 h;obtain ⟨⟨n,dn⟩,dw,h⟩:=avI.1 h;obtain ⟨⟨d,dA⟩,ft,h⟩:=avI.1 h;cases h;obtain ⟨rfl,c1⟩:=nv cz;obtain ⟨rfl,c2⟩:=nv dw;obtain ⟨ap,c3⟩:=aap ft;simp only at ap c3;subst ap;have:=uT.1 c2;have bu:((d.length:Nat):Int)=n:=by omega
  exact ⟨by simp[kY,bu],by simp[mr,c1,bu,c2],rfl,rfl⟩
 ·obtain ⟨⟨t,q⟩,cz,h⟩:=avI.1 h;obtain ⟨⟨n,dn⟩,dw,h⟩:=avI.1 h;obtain ⟨⟨c,dA⟩,ft,h⟩:=avI.1 h;obtain ⟨⟨l,ea⟩,hK,h⟩:=avI.1 h;cases h;obtain ⟨rfl,c1⟩:=QW cz;obtain ⟨rfl,c2⟩:=nv dw;obtain ⟨rfl,c3⟩:=xC ft;obtain ⟨ap,rfl,c4⟩:=CO (w:=j0) (o:=rF) (fun _ _ _ h=>QW h) _ _ _ _ hK;simp only at ap;subst ap;exact ⟨by simp[kY],by simp[mr,c1,c2,c3];simpa using c4,rfl,rfl⟩
 ·obtain ⟨⟨t,q⟩,cz,h⟩:=avI.1 h;obtain ⟨⟨n,dn⟩,dw,h⟩:=avI.1 h;obtain ⟨⟨c,dA⟩,ft,h⟩:=avI.1 h;obtain ⟨⟨l,ea⟩,hK,h⟩:=avI.1 h;cases h;obtain ⟨rfl,c1⟩:=nv cz;obtain ⟨rfl,c2⟩:=nv dw;obtain ⟨rfl,c3⟩:=xC ft;obtain ⟨ap,rfl,c4⟩:=CO (w:=gq) (o:=fe) (fun _ _ _ h=>nv h) _ _ _ _ hK;simp only at ap;subst ap;exact ⟨by simp[kY],by simp[mr,c1,c2,c3];simpa using c4,rfl,rfl⟩
 ·obtain ⟨⟨c,dA⟩,ft,h⟩:=avI.1 h;obtain ⟨⟨l,ea⟩,hK,h⟩:=avI.1 h;cases h;obtain ⟨rfl,c3⟩:=xC ft;obtain ⟨ap,rfl,c4⟩:=CO (w:=oU) (o:=ni) (fun _ _ _ h=>ari h) _ _ _ _ hK;simp only at ap;subst ap;exact ⟨by simp[kY],by simp[mr,c3];simpa using c4,rfl,rfl⟩
 ·obtain ⟨⟨t,q⟩,cz,h⟩:=avI.1 h;obtain ⟨⟨n,dn⟩,dw,h⟩:=avI.1 h;obtain ⟨⟨c,dA⟩,ft,h⟩:=avI.1 h;obtain ⟨⟨l,ea⟩,hK,h⟩:=avI.1 h;cases h;obtain ⟨rfl,c1⟩:=nv cz;obtain ⟨rfl,c2⟩:=nv dw;obtain ⟨rfl,c3⟩:=xC ft;obtain ⟨ap,rfl,c4⟩:=CO (w:=gq) (o:=fe) (fun _ _ _ h=>nv h) _ _ _ _ hK;simp only at ap;subst ap;exact ⟨by simp[kY],by simp[mr,c1,c2,c3];simpa using c4,rfl,rfl⟩
 ·obtain ⟨⟨t,q⟩,cz,h⟩:=avI.1 h;obtain ⟨⟨n,dn⟩,dw,h⟩:=avI.1 h;obtain ⟨⟨c,dA⟩,ft,h⟩:=avI.1 h;cases h;obtain ⟨rfl,c1⟩:=nv cz;obtain ⟨rfl,c2⟩:=nv dw;obtain ⟨rfl,c3⟩:=nv ft;exact ⟨by simp[kY],by simp[mr,c1,c2,c3],rfl,rfl⟩
 ·obtain ⟨⟨t,q⟩,cz,h⟩:=avI.1 h;cases h;obtain ⟨rfl,c1⟩:=QW cz;exact ⟨by simp[kY],by simp[mr,c1],rfl,rfl⟩
theorem acr {k:Int} {r:List UInt8} (U:1<=k) (aa:k<=7):gS (eA k::r)=match eM k r with
  |none=>(kQ 0,10)
  |some (e,r)=>if 0<r.length then (kQ 0,11) else if 8000<e.data.length then (kQ 0,2) else (e,0):=by
 unfold gS;rw[xB (uU.2 (by omega))];simp only;rw[if_pos (by omega),show ((k.toNat:Nat):Int)=k by omega];try rfl
theorem Mw {k:Int} {e:bj} (h:ly k e=ava):mr k e=ava/\(k=1->e.data.length<=8000):=by
 unfold ly at h;simp only[axT,Bool.and_eq_false_iff,decide_eq_false_iff_not] at h;exact ⟨h.1,fun k=>by rcases h.2 with h|h<;>omega⟩
theorem acq {e:bj} {n:Nat} (h:kU e) (b:ly e.kind e=ava) (a1:n<(enc e).length):gS ((enc e).take n)=(kQ 0,10):=by
 obtain ⟨U,aa,ap⟩:=h;cases n with
 |zero=>rfl
 |succ n=>
  unfold enc at a1⊢;rw[List.take_succ_cons,acr U aa];cases he:eM e.kind ((kY e.kind e).take n) with
  |none=>rfl
  |some p=>exfalso;obtain ⟨b2,r⟩:=p;obtain ⟨c1,c2,_,_⟩:=aaq U aa he;have cz:=tv U aa (Mw b).1 [];rw[List.append_nil,<-List.take_append_drop n (kY e.kind e),c1,awX,tv U aa c2] at cz;simp only[avl.injEq,Prod.mk.injEq,List.append_eq_nil_iff] at cz;have:=cz.2.2;rw[List.drop_eq_nil_iff] at this;simp only[awh] at a1;omega
theorem acp {b:List UInt8} {e:bj} (h:gS b=(e,0)):kU e/\ly e.kind e=ava/\enc e=b:=by
 unfold gS at h;split at h
 ·cases h
 ·rename_i k r au;obtain ⟨rfl,_⟩:=xC au;split at h
  ·rename_i EU;split at h
   ·cases h
   ·rename_i b2 r1 he;split at h
    ·cases h
    ·rename_i aE;split at h
     ·cases h
     ·rename_i aO;cases h;obtain ⟨c1,c2,c3,c4⟩:=aaq (by omega) (by omega) he;obtain rfl:r1=[]:=List.length_eq_zero_iff.1 (by omega);rw[List.append_nil] at c1;refine ⟨⟨by omega,by omega,by rw[c3];exact c4⟩, ?_, ?_⟩
      ·unfold ly;rw[c3,c2];simp only[Bool.false_or,Bool.and_eq_false_iff,decide_eq_false_iff_not];exact .inr (by omega)
      ·unfold enc;rw[c3,c1]
  ·cases h
def vr (k:Int) (e:bj):bj:=
 if k=1 then bj.mk e.kind 0 e.to e.count e.cE e.aP e.cQ e.order e.name []
 else if k=2 then bj.mk e.kind e.bC e.to e.count e.cE e.aP e.cQ (bX.mk [] 0 []) e.name e.data
 else if k=3\/k=5 then bj.mk e.kind 0 e.to e.count 0 [] e.cQ e.order e.name e.data
 else if k=4 then bj.mk e.kind e.bC e.to e.count e.cE e.aP [] e.order e.name e.data
 else if k=6 then bj.mk e.kind 0 0 0 e.cE e.aP e.cQ e.order e.name e.data
 else if k=7 then bj.mk e.kind e.bC e.to e.count e.cE e.aP e.cQ e.order [] e.data
 else e
def vm (e:bj):Prop:=e.bC=0/\e.to=0/\e.count=0/\e.cE=0/\e.aP=[]/\e.cQ=[]/\e.order.name=[]/\e.order.bC=0/\e.order.cw=[]/\e.name=[]/\e.data=[]
theorem Ke {e:bj} (U:1<=e.kind) (aa:e.kind<=7):vm (vr e.kind e)↔kU e:=by
 obtain ⟨k,t,o,c,w,ts,oT,⟨n,kD,ds⟩,kC,nQ⟩:=e;simp only at U aa;rcases zb U aa with rfl|rfl|rfl|rfl|rfl|rfl|rfl<;>simp[vm,vr,kU,tZ]<;>grind
def yb (e:bj):Prop:=fe e.bC=ava/\fe e.to=ava/\fe e.count=ava/\fe e.cE=ava/\e.aP.length<=255/\e.cQ.length<=255/\e.name.length<=255/\e.data.length<=8000/\fe e.order.bC=ava/\e.order.name.length<=255/\e.order.cw.length<=255/\e.aP.any fe=ava/\e.cQ.any ni=ava/\e.order.cw.any rF=ava
theorem aaV {e:bj} (k:Int) (h:yb e):ly k e=ava:=by
 obtain ⟨U,aa,ap,aN,bK,ed,hg,jP,nS,b6,cc,eF,jk,qs⟩:=h;have cz:∀n:Nat,n<=255->jW n=ava:=fun n h=>uU.2 (by omega);have dw:fe (e.data.length:Int)=ava:=uT.2 (by omega);unfold ly mr;rw[decide_eq_false (show ¬(8000<e.data.length) by omega),Bool.and_false,Bool.or_false]
 repeat' split
 all_goals simp only[U,aa,ap,aN,nS,eF,jk,qs,dw,cz _ bK,cz _ ed,cz _ hg,cz _ b6,cz _ cc,Bool.or_false]
theorem aaW {e:bj} (h:kU e) (b:ly e.kind e=ava):yb e:=by
 obtain ⟨U,aa,ap⟩:=h;obtain ⟨eA,hE⟩:=Mw b;obtain ⟨k,t,o,c,w,ts,oT,⟨n,kD,ds⟩,kC,nQ⟩:=e;simp only at U aa ap eA hE;rcases zb U aa with rfl|rfl|rfl|rfl|rfl|rfl|rfl<;>simp[tZ] at ap<;>simp[mr,uU,uT] at eA<;>simp_all [yb,uT]<;>omega
end Go.W
end
