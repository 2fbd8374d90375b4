import Derived.Recover
import Derived.Test.YtfmpkhcaifbonaaGreatDoorMc
set_option linter.unusedSimpArgs false
set_option linter.unusedVariables false
open Bool renaming and_eq_true->ati,not_eq_true'->auQ,or_eq_false_iff->avS,or_eq_true->auj,false->as9,true->as5
open Go renaming IntKind->as',Operand->atd,Program->atb,TypeId->atc,Value->as7
open Go.IntKind renaming wrap->ata
open Go.MapKept renaming IsKey->avt
open Go.Program renaming cellsOf->auv
open Int renaming reduceEq->atH,tdiv->at5,tmod->atT,toNat_natCast->auc
open List renaming all_cons->atX,all_eq_true->atq,append_assoc->auX,append_nil->auY,cons_append->avE,length_cons->aun,mem_map->atw,replicate->att
open Nat renaming beq->ath,ble->atn,blt->aty,eq_of_beq_eq_true->atl,le_of_ble_eq_true->ato
open Option renaming bind->as8,bind_eq_some_iff->atF,bind_some->atr,isSome->avs,some->atj,none->as6,some->as4
open Sum renaming inl->atf,inr->ate
open UInt8 renaming ofNat->auu,toNat->atv
section
set_option maxRecDepth 100000
set_option maxHeartbeats 1000000
namespace Go.W
open Go.ay
noncomputable section
structure cx where
 l:(List Int)
 n:Int
deriving DecidableEq
structure hI where
 name:(List UInt8)
 length:Int
deriving DecidableEq
structure en where
 number:Int
 kind:Int
 a:Int
 b:Int
 c:Int
deriving DecidableEq
structure gp where
 speed:Int
 kA:Int
 kG:Int
deriving DecidableEq
structure du where
 aP:(List hI)
 rules:(List en)
 table:(List gp)
 speed:Int
 kA:Int
deriving DecidableEq
structure b8 where
 number:(List UInt8)
 length:Int
 jB:Int
 hQ:Int
 oR:Int
 lI:Int
 tE:Bool
 dest:(List UInt8)
deriving DecidableEq
structure cb where
 name:(List UInt8)
 bQ:Int
 cH:(List (List UInt8))
deriving DecidableEq
structure eV where
 ft:Int
 block:Int
 round:Int
 length:Int
deriving DecidableEq
structure cS where
 items:(List eV)
 c0:Int
deriving DecidableEq
structure eW where
 steps:Int
 hL:(List Int)
deriving DecidableEq
structure gY where
 fA:eW
 chain:(List Int)
deriving DecidableEq
structure fZ where
 cu:(List Int)
 ia:cS
 proof:gY
 lead:Int
 aP:(List Int)
 iQ:Int
deriving DecidableEq
structure bL where
 cu:(List b8)
 aP:(List (List Int))
 cE:(List cb)
 busy:Bool
 bF:fZ
 dF:Bool
deriving DecidableEq
structure fI where
 place:Int
 bQ:Int
deriving DecidableEq
structure bw where
 kind:Int
 bQ:Int
 to:Int
 count:Int
 c0:Int
 aP:(List Int)
 dd:(List fI)
 order:cb
 name:(List UInt8)
 data:(List UInt8)
deriving DecidableEq
structure xJ where
 g5:bw
 cG:bw
 dE:bw
deriving DecidableEq
structure dh where
 oD:Int
 from_:Int
 to:Int
 front:Bool
deriving DecidableEq
structure cZ where
 item:Int
 reason:Int
 kx:Int
 round:Int
deriving DecidableEq
structure fp where
 length:Int
 jB:Int
 hQ:Int
 mJ:Int
 kG:Int
 required:Int
 oq:Int
deriving DecidableEq
structure jr where
 stop:Int
 cu:Int
 TX:Int
deriving DecidableEq
structure jh where
 name:(List UInt8)
 cu:(List b8)
 gr:fp
 xa:(List jr)
deriving DecidableEq
structure ec where
 err:Int
 vd:(List dh)
 proof:gY
 gb:(List cZ)
 final:jh
 er:Int
 place:Int
deriving DecidableEq
structure bu where
 c:du
 y:bL
 e:bw
 r:ec
deriving DecidableEq
structure cO where
 items:(List eV)
 homes:(List Int)
 aP:(List (List Int))
deriving DecidableEq
structure eD where
 bQ:Int
 place:Int
deriving DecidableEq
structure cC where
 b:(List UInt8)
 bad:Bool
deriving DecidableEq
def xm (x:bL):bL:=(bL.mk x.cu [] x.cE x.busy x.bF x.dF)
def ku (x:bw):bw:=(bw.mk x.kind x.bQ x.to x.count x.c0 [] [] x.order x.name [])
def QC (x:bL):bL:=(bL.mk [] [] x.cE x.busy x.bF x.dF)
def JX (x:bu):bu:=(bu.mk x.c (bL.mk [] x.y.aP x.y.cE x.y.busy x.y.bF x.y.dF) x.e (ec.mk x.r.err [] x.r.proof x.r.gb x.r.final x.r.er x.r.place))
def fG (x:bu):bu:=(bu.mk x.c x.y x.e (ec.mk x.r.err [] x.r.proof x.r.gb x.r.final x.r.er x.r.place))
def vm (x:bu):bu:=(bu.mk x.c (bL.mk x.y.cu x.y.aP [] x.y.busy x.y.bF x.y.dF) x.e x.r)
def xn (x:bu):bu:=(bu.mk x.c x.y x.e (ec.mk x.r.err [] x.r.proof [] x.r.final x.r.er x.r.place))
def Cy (x:bu):bu:=(bu.mk x.c (bL.mk x.y.cu x.y.aP [] x.y.busy x.y.bF x.y.dF) x.e (ec.mk x.r.err [] x.r.proof x.r.gb x.r.final x.r.er x.r.place))
def Ln (N:Nat) (x0:List Int):Option cx:=
 as4 (cx.mk x0 0)
def HK (N:Nat) (x0:cx) (ai:Int) (bk:Bool):Option Int:=
 if bk=as5 then
  as8 (nG x0.n (x0.l.length:Int)) fun aT=>
  as8 (aD x0.l aT) fun a3=>
  as8 (tx x0.n (x0.l.length:Int)) fun a7=>
  ay.lt (ata .i64 (a3+(ata .i64 ((ata .i64 (a7))*7919)))) fun bj=>
  as4 bj
 else
  as4 ai
def HL (N:Nat) (J:Int) (ai:Int) (s9:Bool):Option Int:=
 if s9=as5 then
  ay.lt (ata .i64 (ai+J)) fun bO=>
  as4 bO
 else
  as4 ai
def fN (N:Nat) (x0:cx) (J:Int):Option (Int×cx):=
 as8 (HK N x0 0 (decide (0<(x0.l.length:Int)))) fun bq=>
 as8 (nG bq J) fun bz=>
 as8 (HL N J bz (decide (bz<0))) fun b3=>
 as4 (b3,(cx.mk x0.l (ata .i64 (x0.n+1))))
def iE (N:Nat) (x0:cx) (J:List Int):Option (Int×cx):=
 as8 (fN N x0 (J.length:Int)) fun aT=>
 as8 (aD J aT.1) fun a3=>
 as4 (a3,aT.2)
def Kx (N:Nat) (x0:Int):Option (List UInt8):=
 as8 (e7 112) fun aT=>
 as8 (e7 (ata .u8 ((ata .i64 (48+(atT (ata .i64 (at5 x0 10)) 10)))))) fun a3=>
 as8 (e7 (ata .u8 ((ata .i64 (48+(atT x0 10)))))) fun a7=>
 ay.lt ([aT,a3,a7]:List UInt8) fun bj=>
 as4 bj
def AW (N:Nat):Nat->cx->(List gp)->Int->Option (cx×List gp)
 |0,_,_,_=>as6
 |n+1,x0,ak,av=>
  if (decide (0<av))=as5 then
   as8 (iE N x0 ([60,80,100,120,200]:List Int)) fun a3=>
   as8 (iE N a3.2 ([0,50,100,250,500]:List Int)) fun a7=>
   as8 (iE N a7.2 ([0,10,30,50,65,100]:List Int)) fun bj=>
   as8 (cl ak ([(gp.mk a3.1 a7.1 bj.1)]:List gp)) fun bq=>
   ay.lt (ata .i64 (av - 1)) fun bz=>
   AW N n bj.2 bq bz
  else
   as4 (x0,ak)
def Kn (N:Nat) (x0:cx):Option (List gp×cx):=
 as8 (fN N x0 5) fun aT=>
 as8 (AW N N aT.2 [] aT.1) fun bO=>
 as4 (bO.2,bO.1)
def Ig (N:Nat) (x0:cx) (ai:en) (a8:Int):Option (cx×en):=
 ay.lt (a8==1) fun a3=>
 if a3=as5 then
  as8 (iE N x0 ([0,262,700,1500,10000]:List Int)) fun a7=>
  as4 (a7.2,(en.mk ai.number ai.kind a7.1 ai.b ai.c))
 else
  ay.lt (a8==2) fun bj=>
  if bj=as5 then
   as8 (iE N x0 ([3,8,16,40]:List Int)) fun bq=>
   as4 (bq.2,(en.mk ai.number ai.kind bq.1 ai.b ai.c))
  else
   ay.lt (a8==3) fun bz=>
   if bz=as5 then
    as8 (iE N x0 ([400,1600,4000,20000]:List Int)) fun bO=>
    as4 (bO.2,(en.mk ai.number ai.kind bO.1 ai.b ai.c))
   else
    ay.lt (a8==4) fun b3=>
    if b3=as5 then
     as8 (iE N x0 ([0,30,50,80]:List Int)) fun cf=>
     as4 (cf.2,(en.mk ai.number ai.kind cf.1 ai.b ai.c))
    else
     ay.lt (a8==5) fun b9=>
     if b9=as5 then
      as8 (iE N x0 ([1,3,9]:List Int)) fun cA=>
      as8 (iE N cA.2 ([0,1,3]:List Int)) fun cI=>
      as8 (fN N cI.2 4) fun dg=>
      as4 (dg.2,(en.mk ai.number ai.kind cA.1 cI.1 dg.1))
     else
      ay.lt (a8==6) fun dm=>
      if dm=as5 then
       as8 (iE N x0 ([0,1,3]:List Int)) fun dq=>
       as8 (fN N dq.2 4) fun dx=>
       as4 (dx.2,(en.mk ai.number ai.kind dq.1 dx.1 ai.c))
      else
       ay.lt (a8==7) fun c9=>
       if c9=as5 then
        as8 (fN N x0 5) fun cz=>
        as8 (fN N cz.2 4) fun dT=>
        as4 (dT.2,(en.mk ai.number ai.kind cz.1 dT.1 ai.c))
       else
        ay.lt (a8==8) fun eN=>
        if eN=as5 then
         as8 (iE N x0 ([50,200,500]:List Int)) fun fi=>
         as4 (fi.2,(en.mk ai.number ai.kind fi.1 ai.b ai.c))
        else
         as8 (iE N x0 ([100,400]:List Int)) fun ea=>
         as8 (iE N ea.2 ([0,800,3000]:List Int)) fun fe=>
         as4 (fe.2,(en.mk ai.number ai.kind ea.1 fe.1 ai.c))
def Kv (N:Nat) (x0:cx) (J:Int):Option (en×cx):=
 as8 (fN N x0 9) fun aT=>
 as8 (Ig N aT.2 (en.mk J (ata .i64 (1+aT.1)) 0 0 0) (ata .i64 (1+aT.1))) fun fQ=>
 as4 (fQ.2,fQ.1)
def AV (N:Nat):Nat->cx->(List en)->Int->Option (cx×List en)
 |0,_,_,_=>as6
 |n+1,x0,ai,az=>
  if (decide (0<az))=as5 then
   as8 (fN N x0 9) fun a3=>
   as8 (Kv N a3.2 (ata .i64 ((ata .i64 ((ata .i64 (10*(ai.length:Int)))+1))+a3.1))) fun a7=>
   as8 (cl ai ([a7.1]:List en)) fun bj=>
   ay.lt (ata .i64 (az - 1)) fun bq=>
   AV N n a7.2 bj bq
  else
   as4 (x0,ai)
def Km (N:Nat) (x0:cx) (J:Int):Option (List en×cx):=
 as8 (fN N x0 (ata .i64 (J+1))) fun aT=>
 as8 (AV N N aT.2 [] aT.1) fun bz=>
 as4 (bz.2,bz.1)
def z6 (N:Nat):Nat->cx->du->Int->(List hI)->Option (cx×du×List hI)
 |0,_,_,_,_=>as6
 |n+1,x0,ai,az,nc=>
  if (decide (0<az))=as5 then
   as8 (Kx N (nc.length:Int)) fun bz=>
   as8 (iE N x0 ([500,1500,3000,8000,100000]:List Int)) fun bO=>
   as8 (cl nc ([(hI.mk bz bO.1)]:List hI)) fun b3=>
   ay.lt (ata .i64 (az - 1)) fun cf=>
   z6 N n bO.2 (du.mk [] ai.rules [] ai.speed ai.kA) cf b3
  else
   as4 (x0,(du.mk [] ai.rules [] ai.speed ai.kA),nc)
def G3 (N:Nat) (x0:cx) (J:Bool):Option (cx×Bool):=
 if (!J)=as5 then
  as4 (x0,as5)
 else
  as8 (fN N x0 3) fun dg=>
  as4 (dg.2,(dg.1==0))
def G4 (N:Nat) (x0:cx) (ai:du) (s9:Bool) (nc:List hI) (j9:List gp):Option (cx×du×List hI×List gp):=
 if s9=as5 then
  as8 (Km N x0 3) fun dq=>
  as4 (dq.2,(du.mk [] dq.1 [] ai.speed ai.kA),nc,j9)
 else
  as4 (x0,(du.mk [] ai.rules [] ai.speed ai.kA),nc,j9)
def J9 (N:Nat) (x0:cx) (J:Bool):Option (du×cx):=
 as8 (iE N x0 ([60,80,100]:List Int)) fun aT=>
 as8 (iE N aT.2 ([0,50,100]:List Int)) fun a3=>
 as8 (iE N a3.2 ([0,0,10,40]:List Int)) fun a7=>
 as8 (fN N a7.2 5) fun bj=>
 ay.lt (ata .i64 (4+bj.1)) fun bq=>
 as8 (z6 N N bj.2 (du.mk [] [] [] aT.1 a3.1) bq []) fun b9=>
 as8 (Kn N b9.1) fun cA=>
 as8 (cl ([(gp.mk 200 500 a7.1)]:List gp) cA.1) fun cI=>
 as8 (G3 N cA.2 J) fun dm=>
 as8 (G4 N dm.1 (du.mk [] b9.2.1.rules [] b9.2.1.speed b9.2.1.kA) dm.2 b9.2.2 cI) fun dx=>
 as4 ((du.mk dx.2.2.1 dx.2.1.rules dx.2.2.2 dx.2.1.speed dx.2.1.kA),dx.1)
def Jz (N:Nat) (x0:List UInt8) (ak:Int):Option Bool:=
 as8 (aD x0 ak) fun aT=>
 if (decide (97<=(atv aT:Int)))=as5 then
  as8 (aD x0 ak) fun a3=>
  if (decide ((atv a3:Int)<=122))=as5 then
   as4 (!as5)
  else
   as8 (aD x0 ak) fun a7=>
   if (decide (48<=(atv a7:Int)))=as5 then
    as8 (aD x0 ak) fun bj=>
    as4 (!(decide ((atv bj:Int)<=57)))
   else
    as4 (!as9)
 else
  as8 (aD x0 ak) fun bq=>
  if (decide (48<=(atv bq:Int)))=as5 then
   as8 (aD x0 ak) fun bz=>
   as4 (!(decide ((atv bz:Int)<=57)))
  else
   as4 (!as9)
def Cd (N:Nat) (x0:List UInt8):Nat->Int->Option (Sum (Unit) (Bool))
 |0,_=>as6
 |n+1,ak=>
  if (decide (ak<(x0.length:Int)))=as5 then
   as8 (Jz N x0 ak) fun bO=>
   if bO=as5 then
    as4 (ate as9)
   else
    ay.lt (ata .i64 (ak+1)) fun b3=>
    Cd N x0 n b3
  else
   as4 (atf ())
def JA (N:Nat) (x0:List UInt8):Option Bool:=
 if (decide (1<=(x0.length:Int)))=as5 then
  ay.lt (decide ((x0.length:Int)<=12)) fun cA=>
  as4 cA
 else
  as4 as9
def vt (N:Nat) (x0:List UInt8):Option Bool:=
 as8 (Cd N x0 N 0) fun cf=>
 match cf with
 |atf b9=>
  as8 (JA N x0) fun cI=>
  as4 cI
 |ate dg=>
  as4 dg
def Jl (N:Nat) (J:en):Option Bool:=
 if (decide (J.number<1))=as5 then
  as4 as5
 else
  if (decide (9999<J.number))=as5 then
   as4 as5
  else
   if (decide (J.kind<1))=as5 then
    as4 as5
   else
    as4 (decide (9<J.kind))
def Jm (N:Nat) (J:en):Option Bool:=
 if (decide (0<=J.a))=as5 then
  if (decide (J.a<=1000000))=as5 then
   if (decide (0<=J.b))=as5 then
    if (decide (J.b<=1000000))=as5 then
     if (decide (0<=J.c))=as5 then
      ay.lt (decide (J.c<=1000000)) fun a3=>
      as4 a3
     else
      as4 as9
    else
     as4 as9
   else
    as4 as9
  else
   as4 as9
 else
  as4 as9
def K5 (N:Nat) (x0:en):Option Bool:=
 as8 (Jl N x0) fun aT=>
 if aT=as5 then
  as4 as9
 else
  as8 (Jm N x0) fun a7=>
  as4 a7
def B0 (N:Nat) (x0:List en) (ak:Int):Nat->Int->Option (Sum (Unit) (Int))
 |0,_=>as6
 |n+1,av=>
  if (decide (av<ak))=as5 then
   as8 (aD x0 av) fun a7=>
   as8 (aD x0 ak) fun bj=>
   if (a7.number==bj.number)=as5 then
    as4 (ate 8)
   else
    ay.lt (ata .i64 (av+1)) fun bq=>
    B0 N x0 ak n bq
  else
   as4 (atf ())
def BZ (N:Nat) (x0:List en):Nat->Int->Option (Sum (Unit) (Int))
 |0,_=>as6
 |n+1,ak=>
  if (decide (ak<(x0.length:Int)))=as5 then
   as8 (aD x0 ak) fun aT=>
   as8 (K5 N aT) fun a3=>
   if (!a3)=as5 then
    as4 (ate 1)
   else
    as8 (B0 N x0 ak N 0) fun bz=>
    match bz with
    |atf bO=>
     ay.lt (ata .i64 (ak+1)) fun b3=>
     BZ N x0 n b3
    |ate cf=>
     as4 (ate cf)
  else
   as4 (atf ())
def CS (N:Nat) (x0:List en):Option Int:=
 if (decide (32<(x0.length:Int)))=as5 then
  as4 3
 else
  as8 (BZ N x0 N 0) fun b9=>
  match b9 with
  |atf cA=>
   as4 0
  |ate cI=>
   as4 cI
def G0 (N:Nat) (x0:List gp) (ak:Int):Option Bool:=
 as8 (aD x0 ak) fun aT=>
 if (decide (aT.speed<1))=as5 then
  as4 as5
 else
  as8 (aD x0 ak) fun a3=>
  if (decide (200<a3.speed))=as5 then
   as4 as5
  else
   as8 (aD x0 ak) fun a7=>
   if (decide (a7.kA<0))=as5 then
    as4 as5
   else
    as8 (aD x0 ak) fun bj=>
    if (decide (500<bj.kA))=as5 then
     as4 as5
    else
     as8 (aD x0 ak) fun bq=>
     if (decide (bq.kG<0))=as5 then
      as4 as5
     else
      as8 (aD x0 ak) fun bz=>
      as4 (decide (250<bz.kG))
def z4 (N:Nat) (x0:List gp):Nat->Int->Option (Sum (Unit) (Bool))
 |0,_=>as6
 |n+1,ak=>
  if (decide (ak<(x0.length:Int)))=as5 then
   as8 (G0 N x0 ak) fun bO=>
   if bO=as5 then
    as4 (ate as9)
   else
    ay.lt (ata .i64 (ak+1)) fun b3=>
    z4 N x0 n b3
  else
   as4 (atf ())
def CC (N:Nat) (x0:List gp):Option Bool:=
 if (decide (64<(x0.length:Int)))=as5 then
  as4 as9
 else
  as8 (z4 N x0 N 0) fun cf=>
  match cf with
  |atf b9=>
   as4 as5
  |ate cA=>
   as4 cA
def GV (N:Nat) (J:du):Option Bool:=
 if (decide (1<=(J.aP.length:Int)))=as5 then
  if (decide ((J.aP.length:Int)<=24))=as5 then
   if (decide (1<=J.speed))=as5 then
    if (decide (J.speed<=200))=as5 then
     if (decide (0<=J.kA))=as5 then
      ay.lt (decide (J.kA<=500)) fun aT=>
      as4 aT
     else
      as4 as9
    else
     as4 as9
   else
    as4 as9
  else
   as4 as9
 else
  as4 as9
def GW (N:Nat) (J:du) (ak:Bool) (av:Int):Option Bool:=
 if ak=as5 then
  as4 (decide (av<(J.aP.length:Int)))
 else
  as4 as9
def GX (N:Nat) (J:du) (av:Int):Option Bool:=
 as8 (aD J.aP av) fun bj=>
 as8 (vt N bj.name) fun bq=>
 if bq=as5 then
  as8 (aD J.aP av) fun bz=>
  if (decide (1<=bz.length))=as5 then
   as8 (aD J.aP av) fun bO=>
   ay.lt (decide (bO.length<=100000)) fun b3=>
   as4 b3
  else
   as4 as9
 else
  as4 as9
def GY (N:Nat) (J:du) (ak:Bool) (av:Int) (ai:Int):Option Bool:=
 if ak=as5 then
  as8 (aD J.aP ai) fun b9=>
  as8 (aD J.aP av) fun cA=>
  ay.lt (!(b9.name==cA.name)) fun cI=>
  as4 cI
 else
  as4 as9
def z3 (N:Nat) (J:du) (av:Int):Nat->Bool->Int->Option Bool
 |0,_,_=>as6
 |n+1,ak,ai=>
  if (decide (ai<av))=as5 then
   as8 (GY N J ak av ai) fun dg=>
   ay.lt (ata .i64 (ai+1)) fun dm=>
   z3 N J av n dg dm
  else
   as4 ak
def z2 (N:Nat) (J:du):Nat->Bool->Int->Option Bool
 |0,_,_=>as6
 |n+1,ak,av=>
  as8 (GW N J ak av) fun a7=>
  if a7=as5 then
   as8 (GX N J av) fun cf=>
   as8 (z3 N J av N cf 0) fun dq=>
   ay.lt (ata .i64 (av+1)) fun dx=>
   z2 N J n dq dx
  else
   as4 ak
def CB (N:Nat) (x0:du):Option Int:=
 as8 (GV N x0) fun a3=>
 as8 (z2 N x0 N a3 0) fun c9=>
 if (!c9)=as5 then
  as4 1
 else
  as8 (CS N x0.rules) fun cz=>
  if (cz !=0)=as5 then
   as4 cz
  else
   as8 (CC N x0.table) fun dT=>
   if (!dT)=as5 then
    as4 1
   else
    as4 0
def Bl (N:Nat) (J:du):Nat->bL->Int->(List (List Int))->Option (bL×List (List Int))
 |0,_,_,_=>as6
 |n+1,ai,az,vi=>
  if (decide (az<(J.aP.length:Int)))=as5 then
   as8 (cl vi ([([]:List Int)]:List (List Int))) fun a3=>
   ay.lt (ata .i64 (az+1)) fun a7=>
   Bl N J n (xm ai) a7 a3
  else
   as4 ((xm ai),vi)
def Lq (N:Nat) (x0:du):Option (bL×Int):=
 as8 (CB N x0) fun aT=>
 if (aT !=0)=as5 then
  as4 ((bL.mk [] [] [] as9 (fZ.mk [] (cS.mk [] 0) (gY.mk (eW.mk 0 []) []) 0 [] 0) as9),aT)
 else
  as8 (Bl N x0 N (bL.mk [] [] [] as9 (fZ.mk [] (cS.mk [] 0) (gY.mk (eW.mk 0 []) []) 0 [] 0) as9) 0 []) fun bj=>
  as4 ((bL.mk bj.1.cu bj.2 bj.1.cE bj.1.busy bj.1.bF bj.1.dF),0)
def Ii (N:Nat) (J:bL) (ai:Int) (az:Bool) (aA:Int):Option Bool:=
 if az=as5 then
  as4 as5
 else
  as8 (aD J.cE aA) fun aT=>
  ay.lt (aT.bQ==ai) fun a3=>
  as4 a3
def A1 (N:Nat) (J:bL) (ai:Int):Nat->Bool->Int->Option Bool
 |0,_,_=>as6
 |n+1,az,aA=>
  if (decide (aA<(J.cE.length:Int)))=as5 then
   as8 (Ii N J ai az aA) fun a7=>
   ay.lt (ata .i64 (aA+1)) fun bj=>
   A1 N J ai n a7 bj
  else
   as4 az
def Ij (N:Nat) (J:bL) (ai:Int) (az:Bool):Option Bool:=
 if (!az)=as5 then
  as8 (aD J.aP ai) fun bz=>
  as4 ((bz.length:Int)==0)
 else
  as4 as9
def Ih (N:Nat) (J:bL) (ak:List Int) (av:List Int) (ai:Int):Option (List Int×List Int):=
 as8 (A1 N J ai N as9 0) fun bq=>
 as8 (Ij N J ai bq) fun bO=>
 if bO=as5 then
  as8 (cl ak ([ai]:List Int)) fun b3=>
  as4 (b3,av)
 else
  if (!bq)=as5 then
   as8 (cl av ([ai]:List Int)) fun cf=>
   as4 (ak,cf)
  else
   as4 (ak,av)
def A0 (N:Nat) (J:bL):Nat->(List Int)->(List Int)->Int->Option (List Int×List Int)
 |0,_,_,_=>as6
 |n+1,ak,av,ai=>
  if (decide (ai<(J.aP.length:Int)))=as5 then
   as8 (Ih N J ak av ai) fun b9=>
   ay.lt (ata .i64 (ai+1)) fun cA=>
   A0 N J n b9.1 b9.2 cA
  else
   as4 (ak,av)
def Kw (N:Nat) (x0:bL):Option (List Int):=
 as8 (A0 N x0 N [] [] 0) fun cI=>
 as8 (cl cI.1 cI.2) fun dg=>
 as4 dg
def AX (N:Nat) (J:Int):Nat->cx->(List UInt8)->Int->Option (cx×List UInt8)
 |0,_,_,_=>as6
 |n+1,x0,ai,az=>
  if (decide (az<J))=as5 then
   as8 (fN N x0 10) fun a3=>
   as8 (aD ai az) fun a7=>
   as8 (aD ai az) fun bj=>
   as8 (e7 (ata .u8 ((ata .i64 (48+a3.1))))) fun bq=>
   ay.lt (ai.set ((az:Int).toNat) bq) fun bz=>
   ay.lt (ata .i64 (az+1)) fun bO=>
   AX N J n a3.2 bz bO
  else
   as4 (x0,ai)
def Ko (N:Nat) (x0:cx) (J:Int):Option (List UInt8×cx):=
 as8 (iM 0 J) fun aT=>
 as8 (AX N J N x0 aT 0) fun b3=>
 as4 (b3.2,b3.1)
def HM (N:Nat) (x0:List UInt8) (ai:Int):Option Bool:=
 as8 (aD x0 ai) fun aT=>
 if (decide ((atv aT:Int)<48))=as5 then
  as4 as5
 else
  as8 (aD x0 ai) fun a3=>
  as4 (decide (57<(atv a3:Int)))
def Aq (N:Nat) (x0:List UInt8) (J:Int):Nat->Int->Option (Sum (Unit) (Bool))
 |0,_=>as6
 |n+1,ai=>
  if (decide (ai<J))=as5 then
   as8 (HM N x0 ai) fun a7=>
   if a7=as5 then
    as4 (ate as9)
   else
    ay.lt (ata .i64 (ai+1)) fun bj=>
    Aq N x0 J n bj
  else
   as4 (atf ())
def CK (N:Nat) (x0:List UInt8) (J:Int):Option Bool:=
 if ((x0.length:Int) !=J)=as5 then
  as4 as9
 else
  as8 (Aq N x0 J N 0) fun bq=>
  match bq with
  |atf bz=>
   as4 as5
  |ate bO=>
   as4 bO
def IC (N:Nat) (aA:Int) (iV:Bool):Option Int:=
 if iV=as5 then
  ay.lt (ata .i64 (aA*2)) fun a7=>
  if (decide (9<a7))=as5 then
   ay.lt (ata .i64 (a7 - 9)) fun bj=>
   as4 bj
  else
   as4 a7
 else
  as4 aA
def BL (N:Nat) (x0:List UInt8) (J:Int):Nat->Int->Int->Option Int
 |0,_,_=>as6
 |n+1,ai,az=>
  if (decide (az<J))=as5 then
   as8 (aD x0 az) fun aT=>
   ay.lt (ata .i64 ((ata .u8 ((atv aT:Int) - 48)))) fun a3=>
   as8 (IC N a3 ((atT az 2)==0)) fun bq=>
   ay.lt (ata .i64 (ai+bq)) fun bz=>
   ay.lt (ata .i64 (az+1)) fun bO=>
   BL N x0 J n bz bO
  else
   as4 ai
def C0 (N:Nat) (x0:List UInt8) (J:Int):Option Int:=
 as8 (BL N x0 J N 0 0) fun b3=>
 as4 b3
def KU (N:Nat) (x0:List UInt8):Option (Int×Int):=
 as8 (CK N x0 11) fun aT=>
 if (!aT)=as5 then
  as4 (0,11)
 else
  as8 (C0 N x0 11) fun a3=>
  ay.lt (atT (ata .i64 (10 - (atT a3 10))) 10) fun a7=>
  as4 (a7,0)
def Kp (N:Nat) (x0:cx) (J:Int):Option (List UInt8×cx):=
 as8 (Ko N x0 11) fun aT=>
 as8 (cl aT.1 []) fun a3=>
 as8 (aD a3 8) fun a7=>
 as8 (aD a3 8) fun bj=>
 as8 (e7 (ata .u8 ((ata .i64 (48+(atT (ata .i64 (at5 J 100)) 10)))))) fun bq=>
 ay.lt (a3.set ((8:Int).toNat) bq) fun bz=>
 as8 (aD bz 9) fun bO=>
 as8 (aD bz 9) fun b3=>
 as8 (e7 (ata .u8 ((ata .i64 (48+(atT (ata .i64 (at5 J 10)) 10)))))) fun cf=>
 ay.lt (bz.set ((9:Int).toNat) cf) fun b9=>
 as8 (aD b9 10) fun cA=>
 as8 (aD b9 10) fun cI=>
 as8 (e7 (ata .u8 ((ata .i64 (48+(atT J 10)))))) fun dg=>
 ay.lt (b9.set ((10:Int).toNat) dg) fun dm=>
 as8 (KU N dm) fun dq=>
 as8 (e7 (ata .u8 ((ata .i64 (48+dq.1))))) fun dx=>
 as8 (cl dm ([dx]:List UInt8)) fun c9=>
 as4 (c9,aT.2)
def KK (N:Nat) (x0:cx):Option (List UInt8×cx):=
 as8 (fN N x0 10) fun aT=>
 as8 (aD ([[97],[98],[99],[100],[101],[110,111,114,116,104],[115,111,117,116,104],[112,111,114,116,49],[120,57],[97,98,99,100,101,102,103,104,105,106,107,108]]:List (List UInt8)) aT.1) fun a3=>
 as8 (aD ([[97],[98],[99],[100],[101],[110,111,114,116,104],[115,111,117,116,104],[112,111,114,116,49],[120,57],[97,98,99,100,101,102,103,104,105,106,107,108]]:List (List UInt8)) aT.1) fun a7=>
 as4 (a7,aT.2)
def Il (N:Nat) (iv:Int) (JP:Bool):Option Bool:=
 if JP=as5 then
  as4 JP
 else
  ay.lt (iv==52) fun cf=>
  as4 cf
def Ik (N:Nat) (ai:b8) (iv:Int):Option b8:=
 ay.lt (iv==50) fun b3=>
 as8 (Il N iv b3) fun b9=>
 if b9=as5 then
  as4 (b8.mk ai.number ai.length 2 ai.hQ ai.oR ai.lI ai.tE ai.dest)
 else
  ay.lt (iv==57) fun cA=>
  if cA=as5 then
   as4 (b8.mk ai.number (max ai.length 120) 6 ai.hQ ai.oR ai.lI ai.tE ai.dest)
  else
   as4 ai
def Kz (N:Nat) (x0:cx) (J:Int):Option (b8×cx):=
 as8 (Kp N x0 J) fun aT=>
 as8 (iE N aT.2 ([80,120,142,199,262,400]:List Int)) fun a3=>
 as8 (iE N a3.2 ([50,120,400,800,2000]:List Int)) fun a7=>
 as8 (iE N a7.2 ([0,0,0,1,3,9]:List Int)) fun bj=>
 as8 (fN N bj.2 5) fun bq=>
 as8 (KK N bq.2) fun bz=>
 as8 (aD aT.1 4) fun bO=>
 as8 (Ik N (b8.mk aT.1 a3.1 4 a7.1 0 bj.1 (bq.1==0) bz.1) (atv bO:Int)) fun cI=>
 as8 (fN N bz.2 5) fun dg=>
 as4 ((b8.mk cI.number cI.length cI.jB cI.hQ (ata .i64 (at5 (ata .i64 (cI.hQ*dg.1)) 4)) cI.lI cI.tE cI.dest),dg.2)
def KV (N:Nat) (x0:List UInt8):Option Int:=
 as8 (CK N x0 12) fun aT=>
 if (!aT)=as5 then
  as4 11
 else
  as8 (C0 N x0 11) fun a3=>
  as8 (aD x0 11) fun a7=>
  if ((atT (ata .i64 (a3+(ata .i64 ((ata .u8 ((atv a7:Int) - 48)))))) 10) !=0)=as5 then
   as4 9
  else
   as4 0
def Jx (N:Nat) (bk:Int) (a8:Bool):Option Bool:=
 if a8=as5 then
  as4 a8
 else
  ay.lt (bk==56) fun bj=>
  as4 bj
def Jy (N:Nat) (bk:Int) (cy:Bool):Option Bool:=
 if cy=as5 then
  as4 cy
 else
  ay.lt (bk==52) fun bO=>
  as4 bO
def Lc (N:Nat) (x0:List UInt8):Option (Int×Int):=
 as8 (KV N x0) fun aT=>
 if (aT !=0)=as5 then
  as4 (0,aT)
 else
  as8 (aD x0 4) fun a3=>
  ay.lt ((atv a3:Int)==55) fun a7=>
  as8 (Jx N (atv a3:Int) a7) fun bq=>
  if bq=as5 then
   as4 (1,0)
  else
   ay.lt ((atv a3:Int)==50) fun bz=>
   as8 (Jy N (atv a3:Int) bz) fun b3=>
   if b3=as5 then
    as4 (2,0)
   else
    ay.lt ((atv a3:Int)==57) fun cf=>
    if cf=as5 then
     as4 (3,0)
    else
     as4 (0,0)
def H5 (N:Nat) (ai:Int) (az:Int) (di:Int):Option (Int×Int):=
 ay.lt (di==2) fun a3=>
 if a3=as5 then
  as4 (2,az)
 else
  ay.lt (di==3) fun a7=>
  if a7=as5 then
   as4 (6,120)
  else
   as4 (ai,az)
def H6 (N:Nat) (J:b8) (az:Int):Option Bool:=
 if (decide (J.length<az))=as5 then
  as4 as5
 else
  if (decide (400<J.length))=as5 then
   as4 as5
  else
   if (decide (J.hQ<50))=as5 then
    as4 as5
   else
    if (decide (2000<J.hQ))=as5 then
     as4 as5
    else
     if (decide (J.oR<0))=as5 then
      as4 as5
     else
      if (decide (J.hQ<J.oR))=as5 then
       as4 as5
      else
       if (decide (J.lI<0))=as5 then
        as4 as5
       else
        ay.lt (decide (9<J.lI)) fun bz=>
        as4 bz
def KX (N:Nat) (x0:b8):Option Int:=
 as8 (Lc N x0.number) fun aT=>
 if (aT.2 !=0)=as5 then
  as4 aT.2
 else
  as8 (H5 N 4 80 aT.1) fun bj=>
  ay.lt (x0.jB !=bj.1) fun bq=>
  if bq=as5 then
   as4 1
  else
   as8 (H6 N x0 bj.2) fun bO=>
   if bO=as5 then
    as4 2
   else
    as8 (vt N x0.dest) fun b3=>
    ay.lt (!b3) fun cf=>
    if cf=as5 then
     as4 7
    else
     as4 0
def Aa (N:Nat) (x0:List b8) (ak:Int):Nat->Int->Option (Sum (Unit) (Int))
 |0,_=>as6
 |n+1,ai=>
  if (decide (ai<ak))=as5 then
   as8 (aD x0 ai) fun a7=>
   as8 (aD x0 ak) fun bj=>
   if (a7.number==bj.number)=as5 then
    as4 (ate 8)
   else
    ay.lt (ata .i64 (ai+1)) fun bq=>
    Aa N x0 ak n bq
  else
   as4 (atf ())
def z9 (N:Nat) (x0:List b8):Nat->Int->Option (Sum (Unit) (Int))
 |0,_=>as6
 |n+1,ak=>
  if (decide (ak<(x0.length:Int)))=as5 then
   as8 (aD x0 ak) fun aT=>
   as8 (KX N aT) fun a3=>
   if (a3 !=0)=as5 then
    as4 (ate a3)
   else
    as8 (Aa N x0 ak N 0) fun bz=>
    match bz with
    |atf bO=>
     ay.lt (ata .i64 (ak+1)) fun b3=>
     z9 N x0 n b3
    |ate cf=>
     as4 (ate cf)
  else
   as4 (atf ())
def vn (N:Nat) (x0:List b8):Option Int:=
 if (decide (96<(x0.length:Int)))=as5 then
  as4 3
 else
  as8 (z9 N x0 N 0) fun b9=>
  match b9 with
  |atf cA=>
   as4 0
  |ate cI=>
   as4 cI
def AJ (N:Nat) (x0:List UInt8):Nat->Int->Int->Option Int
 |0,_,_=>as6
 |n+1,ak,av=>
  if (decide (av<(x0.length:Int)))=as5 then
   as8 (aD x0 av) fun aT=>
   ay.lt (atT (ata .i64 (ak+(ata .i64 ((atT (ata .i64 (av+1)) 65521)*(ata .i64 ((atv aT:Int))))))) 65521) fun a3=>
   ay.lt (ata .i64 (av+1)) fun a7=>
   AJ N x0 n a3 a7
  else
   as4 ak
def CN (N:Nat) (x0:List UInt8):Option Int:=
 as8 (AJ N x0 N 0 0) fun bj=>
 as4 bj
def Au (N:Nat) (aA:b8):Nat->(List UInt8)->Int->Option (List UInt8)
 |0,_,_=>as6
 |n+1,ai,aC=>
  if (decide (aC<12))=as5 then
   as8 (aD aA.number aC) fun bj=>
   as8 (aD aA.number (ata .i64 (aC+1))) fun bq=>
   as8 (e7 (ata .u8 ((ata .u8 ((ata .u8 ((ata .u8 ((atv bj:Int) - 48))*16))+(atv bq:Int))) - 48))) fun bz=>
   as8 (cl ai ([bz]:List UInt8)) fun bO=>
   ay.lt (ata .i64 (aC+2)) fun b3=>
   Au N aA n bO b3
  else
   as4 ai
def HP (N:Nat) (aZ:Int) (Qv:Bool):Option Int:=
 if Qv=as5 then
  ay.lt (ata .u8 (aZ+16)) fun cA=>
  as4 cA
 else
  as4 aZ
def At (N:Nat) (x0:List b8):Nat->(List UInt8)->Int->Option (List UInt8)
 |0,_,_=>as6
 |n+1,ai,az=>
  if (decide (az<(x0.length:Int)))=as5 then
   as8 (aD x0 az) fun a7=>
   as8 (Au N a7 N ai 0) fun cf=>
   ay.lt (ata .u8 (a7.lI)) fun b9=>
   as8 (HP N b9 a7.tE) fun cI=>
   as8 (e7 (ata .u8 ((ata .i64 (at5 a7.length 256))))) fun dg=>
   as8 (e7 (ata .u8 ((atT a7.length 256)))) fun dm=>
   as8 (e7 (ata .u8 (a7.jB))) fun dq=>
   as8 (e7 (ata .u8 ((ata .i64 (at5 a7.hQ 256))))) fun dx=>
   as8 (e7 (ata .u8 ((atT a7.hQ 256)))) fun c9=>
   as8 (e7 (ata .u8 ((ata .i64 (at5 a7.oR 256))))) fun cz=>
   as8 (e7 (ata .u8 ((atT a7.oR 256)))) fun dT=>
   as8 (e7 cI) fun eN=>
   as8 (e7 (ata .u8 ((a7.dest.length:Int)))) fun fi=>
   as8 (cl cf ([dg,dm,dq,dx,c9,cz,dT,eN,fi]:List UInt8)) fun ea=>
   as8 (cl ea a7.dest) fun fe=>
   ay.lt (ata .i64 (az+1)) fun fQ=>
   At N x0 n fe fQ
  else
   as4 ai
def KL (N:Nat) (x0:List b8):Option (List UInt8×Int):=
 as8 (vn N x0) fun aT=>
 if (aT !=0)=as5 then
  as4 ([],aT)
 else
  as8 (e7 (ata .u8 ((x0.length:Int)))) fun a3=>
  as8 (At N x0 N ([a3]:List UInt8) 0) fun fM=>
  as8 (CN N fM) fun fX=>
  as8 (e7 (ata .u8 ((ata .i64 (at5 fX 256))))) fun gk=>
  as8 (e7 (ata .u8 ((atT fX 256)))) fun gW=>
  as8 (cl fM ([gk,gW]:List UInt8)) fun gy=>
  as4 (gy,0)
def Ky (N:Nat) (x0:cx) (J:List UInt8):Option (List UInt8×cx):=
 if (J==[])=as5 then
  as8 (fN N x0 256) fun aT=>
  as8 (e7 (ata .u8 (aT.1))) fun a3=>
  ay.lt ([a3]:List UInt8) fun a7=>
  as4 (a7,aT.2)
 else
  as8 (fN N x0 (J.length:Int)) fun bj=>
  as8 (fN N bj.2 4) fun bq=>
  ay.lt (bq.1==0) fun bz=>
  if bz=as5 then
   as8 (hj J 0 bj.1) fun bO=>
   as8 (hj J (ata .i64 (bj.1+1)) (J.length:Int)) fun b3=>
   as8 (cl bO b3) fun cf=>
   as4 (cf,bq.2)
  else
   ay.lt (bq.1==1) fun b9=>
   if b9=as5 then
    as8 (hj J 0 bj.1) fun cA=>
    as8 (fN N bq.2 256) fun cI=>
    as8 (e7 (ata .u8 (cI.1))) fun dg=>
    as8 (cl cA ([dg]:List UInt8)) fun dm=>
    as8 (hj J bj.1 (J.length:Int)) fun dq=>
    as8 (cl dm dq) fun dx=>
    as4 (dx,cI.2)
   else
    ay.lt (bq.1==2) fun c9=>
    if c9=as5 then
     as8 (hj J 0 bj.1) fun cz=>
     as8 (fN N bq.2 10) fun dT=>
     as8 (e7 (ata .u8 ((ata .i64 (48+dT.1))))) fun eN=>
     as8 (cl cz ([eN]:List UInt8)) fun fi=>
     as8 (hj J (ata .i64 (bj.1+1)) (J.length:Int)) fun ea=>
     as8 (cl fi ea) fun fe=>
     as4 (fe,dT.2)
    else
     as8 (hj J 0 bj.1) fun fQ=>
     as8 (fN N bq.2 256) fun fM=>
     as8 (e7 (ata .u8 (fM.1))) fun fX=>
     as8 (cl fQ ([fX]:List UInt8)) fun gk=>
     as8 (hj J (ata .i64 (bj.1+1)) (J.length:Int)) fun gW=>
     as8 (cl gk gW) fun gy=>
     as4 (gy,fM.2)
def Cz (N:Nat) (x0:cx) (J:List UInt8):Option (List UInt8×cx):=
 as8 (Ky N x0 J) fun aT=>
 as8 (cl aT.1 []) fun a3=>
 as4 (a3,aT.2)
def GU (N:Nat) (x0:cx) (ai:cb) (az:Int) (j9:List (List UInt8)):Option (cx×cb×List (List UInt8)):=
 as8 (fN N x0 2) fun bq=>
 if (bq.1==0)=as5 then
  as8 (fN N bq.2 2) fun bz=>
  as8 (aD n6 (atT (ata .i64 (az+bz.1)) 4)) fun bO=>
  as8 (cl j9 ([bO]:List (List UInt8))) fun b3=>
  as4 (bz.2,(cb.mk ai.name ai.bQ []),b3)
 else
  as4 (bq.2,(cb.mk ai.name ai.bQ []),j9)
def AU (N:Nat):Nat->cx->cb->Int->(List (List UInt8))->Option (cx×cb×List (List UInt8))
 |0,_,_,_,_=>as6
 |n+1,x0,ai,az,j9=>
  if (decide (az<4))=as5 then
   as8 (GU N x0 (cb.mk ai.name ai.bQ []) az j9) fun cf=>
   ay.lt (ata .i64 (az+1)) fun b9=>
   AU N n cf.1 (cb.mk cf.2.1.name cf.2.1.bQ []) b9 cf.2.2
  else
   as4 (x0,(cb.mk ai.name ai.bQ []),j9)
def H9 (N:Nat) (x0:cx) (ak:du) (ai:cb) (Qu:Bool):Option (cx×cb):=
 if Qu=as5 then
  as8 (iE N x0 ([(-1),(ak.aP.length:Int)]:List Int)) fun dg=>
  as4 (dg.2,(cb.mk ai.name dg.1 []))
 else
  as4 (x0,(cb.mk ai.name ai.bQ []))
def Kk (N:Nat) (x0:cx) (J:du):Option (cb×cx):=
 as8 (fN N x0 4) fun aT=>
 as8 (aD ([[120,49],[120,50],[120,51],[120,52]]:List (List UInt8)) aT.1) fun a3=>
 as8 (aD ([[120,49],[120,50],[120,51],[120,52]]:List (List UInt8)) aT.1) fun a7=>
 as8 (fN N aT.2 (J.aP.length:Int)) fun bj=>
 as8 (AU N N bj.2 (cb.mk a7 bj.1 []) 0 []) fun cA=>
 as8 (fN N cA.1 9) fun cI=>
 as8 (H9 N cI.2 J (cb.mk cA.2.1.name cA.2.1.bQ []) (cI.1==0)) fun dm=>
 as4 ((cb.mk dm.2.name dm.2.bQ cA.2.2),dm.1)
def CL (N:Nat) (x0:bL):Option Int:=
 if (x0.bF.iQ==0)=as5 then
  as4 x0.bF.lead
 else
  as8 (aD x0.bF.aP (ata .i64 (x0.bF.iQ - 1))) fun aT=>
  as4 aT
def AD (N:Nat) (al:Int) (av:List Int):Nat->Int->Option (Sum (Unit) (Int))
 |0,_=>as6
 |n+1,bk=>
  if (decide (bk<(av.length:Int)))=as5 then
   as8 (nR .i64 (ata .u64 bk)) fun aT=>
   if ((nL .and .i64 (Int.fdiv al ((2 ^ aT:Nat):Int)) 1)==1)=as5 then
    as8 (aD av bk) fun a3=>
    as4 (ate a3)
   else
    ay.lt (ata .i64 (bk+1)) fun a7=>
    AD N al av n a7
  else
   as4 (atf ())
def mD (N:Nat) (x0:List cb) (J:eV) (al:Int) (ak:Int) (av:List Int):Option Int:=
 as8 (AD N al av N ak) fun bj=>
 match bj with
 |atf bq=>
  as8 (aD x0 J.ft) fun bz=>
  as4 bz.bQ
 |ate bO=>
  as4 bO
def Io (N:Nat) (J:List Int) (al:bL) (ai:List Int) (az:fZ) (aA:Int) (aC:Int):Option (List Int):=
 as8 (aD az.cu aC) fun aT=>
 as8 (aD J aA) fun a3=>
 if (aT==a3)=as5 then
  as8 (aD az.ia.items aC) fun a7=>
  as8 (aD az.proof.fA.hL aC) fun bj=>
  as8 (mD N al.cE a7 bj az.iQ az.aP) fun bq=>
  as8 (cl ai ([bq]:List Int)) fun bz=>
  as4 bz
 else
  as4 ai
def A6 (N:Nat) (J:List Int) (al:bL) (az:fZ) (aA:Int):Nat->(List Int)->Int->Option (List Int)
 |0,_,_=>as6
 |n+1,ai,aC=>
  if (decide (aC<(az.cu.length:Int)))=as5 then
   as8 (Io N J al ai az aA aC) fun bO=>
   ay.lt (ata .i64 (aC+1)) fun b3=>
   A6 N J al az aA n bO b3
  else
   as4 ai
def A5 (N:Nat) (J:List Int) (al:bL) (az:fZ):Nat->(List Int)->Int->Option (List Int)
 |0,_,_=>as6
 |n+1,ai,aA=>
  if (decide (aA<(J.length:Int)))=as5 then
   as8 (A6 N J al az aA N ai 0) fun cf=>
   ay.lt (ata .i64 (aA+1)) fun b9=>
   A5 N J al az n cf b9
  else
   as4 ai
def CI (N:Nat) (x0:bL) (J:List Int):Option (List Int):=
 as8 (A5 N J x0 x0.bF N [] 0) fun cA=>
 as4 cA
def IZ (N:Nat) (J:bL):Option Bool:=
 if (!J.busy)=as5 then
  as4 as5
 else
  as4 J.dF
def Lk (N:Nat) (x0:bL):Option (Int×List Int×List Int×Int):=
 as8 (IZ N x0) fun aT=>
 if aT=as5 then
  as4 (0,[],[],16)
 else
  as8 (CL N x0) fun a3=>
  as8 (aD x0.aP a3) fun a7=>
  as8 (cl ([]:List Int) a7) fun bj=>
  as8 (CI N x0 bj) fun bq=>
  as4 (a3,bj,bq,0)
def GL (N:Nat) (x0:cx) (az:bL):Option (cx×Bool):=
 if az.dF=as5 then
  as8 (fN N x0 6) fun a7=>
  ay.lt (decide (0<a7.1)) fun bj=>
  as4 (a7.2,bj)
 else
  as4 (x0,as9)
def GM (N:Nat) (x0:cx) (az:bL):Option (cx×Bool):=
 if az.busy=as5 then
  as8 (fN N x0 5) fun bz=>
  ay.lt (decide (0<bz.1)) fun bO=>
  as4 (bz.2,bO)
 else
  as4 (x0,as9)
def GK (N:Nat) (x0:cx) (az:bL) (aX:bw):Option (cx×bw):=
 as8 (GL N x0 az) fun bq=>
 if bq.2=as5 then
  as4 (bq.1,(bw.mk 5 aX.bQ aX.to aX.count aX.c0 [] [] aX.order aX.name []))
 else
  as8 (GM N bq.1 az) fun b3=>
  if b3.2=as5 then
   as4 (b3.1,(bw.mk 4 aX.bQ aX.to aX.count aX.c0 [] [] aX.order aX.name []))
  else
   as4 (b3.1,(ku aX))
def GO (N:Nat) (x0:cx) (aZ:List Int):Option (cx×Bool):=
 if (decide (0<(aZ.length:Int)))=as5 then
  as8 (fN N x0 4) fun cI=>
  as4 (cI.2,(decide (0<cI.1)))
 else
  as4 (x0,as9)
def GP (N:Nat) (x0:cx) (aZ:List Int) (aX:bw) (JQ:Bool):Option (cx×bw):=
 if JQ=as5 then
  as8 (fN N x0 (aZ.length:Int)) fun dm=>
  as8 (aD aZ dm.1) fun dq=>
  as8 (aD aZ dm.1) fun dx=>
  as4 (dm.2,(bw.mk aX.kind dx aX.to aX.count aX.c0 [] [] aX.order aX.name []))
 else
  as4 (x0,(ku aX))
def AT (N:Nat) (ak:Int):Nat->cx->(List b8)->Int->Option (cx×List b8)
 |0,_,_,_=>as6
 |n+1,x0,bk,a8=>
  if (decide (0<a8))=as5 then
   as8 (Kz N x0 (ata .i64 (ak+(bk.length:Int)))) fun dT=>
   as8 (fN N dT.2 4) fun eN=>
   as8 (aD n6 eN.1) fun fi=>
   as8 (cl bk ([(b8.mk dT.1.number dT.1.length dT.1.jB dT.1.hQ dT.1.oR dT.1.lI dT.1.tE fi)]:List b8)) fun ea=>
   ay.lt (ata .i64 (a8 - 1)) fun fe=>
   AT N ak n eN.2 ea fe
  else
   as4 (x0,bk)
def GQ (N:Nat) (x0:cx) (aZ:List Int):Option (cx×Bool):=
 if (decide (0<(aZ.length:Int)))=as5 then
  as8 (fN N x0 4) fun hT=>
  as4 (hT.2,(decide (0<hT.1)))
 else
  as4 (x0,as9)
def GR (N:Nat) (nT:Int) (JN:Bool):Option Bool:=
 if JN=as5 then
  as4 JN
 else
  ay.lt (nT==5) fun h5=>
  as4 h5
def GS (N:Nat) (aZ:List Int) (aX:bw):Option Bool:=
 if (aX.kind==3)=as5 then
  as4 (decide (0<(aZ.length:Int)))
 else
  as4 as9
def Ga (N:Nat) (aZ:List Int) (aX:bw) (JO:Bool):Option bw:=
 if JO=as5 then
  as8 (aD aZ (ata .i64 ((aZ.length:Int) - 1))) fun nf=>
  as8 (aD aZ (ata .i64 ((aZ.length:Int) - 1))) fun mB=>
  as4 (bw.mk aX.kind mB aX.to aX.count aX.c0 [] [] aX.order aX.name [])
 else
  if (decide (0<(aZ.length:Int)))=as5 then
   as8 (aD aZ 0) fun lZ=>
   as8 (aD aZ 0) fun fj=>
   as4 (bw.mk aX.kind fj aX.to aX.count aX.c0 [] [] aX.order aX.name [])
  else
   as4 (ku aX)
def Gb (N:Nat) (aZ:List Int) (cw:Int) (hy:List Int):Option Bool:=
 if (decide (cw<(aZ.length:Int)))=as5 then
  as4 (decide ((hy.length:Int)<4))
 else
  as4 as9
def F0 (N:Nat) (aZ:List Int) (aX:bw) (cw:Int) (hy:List Int):Option (bw×List Int):=
 as8 (aD aZ cw) fun qw=>
 as8 (aD aZ cw) fun kY=>
 if (kY !=aX.bQ)=as5 then
  as8 (aD aZ cw) fun rQ=>
  as8 (aD aZ cw) fun vk=>
  as8 (cl hy ([vk]:List Int)) fun rR=>
  as4 ((ku aX),rR)
 else
  as4 ((ku aX),hy)
def zx (N:Nat) (aZ:List Int):Nat->bw->Int->(List Int)->Option (bw×List Int)
 |0,_,_,_=>as6
 |n+1,aX,cw,hy=>
  as8 (Gb N aZ cw hy) fun nU=>
  if nU=as5 then
   as8 (F0 N aZ (ku aX) cw hy) fun Cw=>
   ay.lt (ata .i64 (cw+1)) fun xj=>
   zx N aZ n (ku Cw.1) xj Cw.2
  else
   as4 ((ku aX),hy)
def zy (N:Nat) (ai:du) (di:List Int):Nat->cx->bw->Int->(List fI)->Option (cx×bw×List fI)
 |0,_,_,_,_=>as6
 |n+1,x0,aX,eF,ka=>
  if (decide (0<eF))=as5 then
   as8 (fN N x0 (ata .i64 ((di.length:Int)+1))) fun JU=>
   as8 (fN N JU.2 (ai.aP.length:Int)) fun QA=>
   as8 (cl ka ([(fI.mk JU.1 QA.1)]:List fI)) fun QB=>
   ay.lt (ata .i64 (eF - 1)) fun JV=>
   zy N ai di n QA.2 (ku aX) JV QB
  else
   as4 (x0,(ku aX),ka)
def GN (N:Nat) (x0:cx) (ak:Int) (ai:du) (az:bL) (aZ:List Int) (aX:bw) (nT:Int) (hy:List Int) (ka:List fI) (oI:List UInt8):Option (cx×bw×List Int×List fI×List UInt8):=
 ay.lt (nT==1) fun b9=>
 if b9=as5 then
  as8 (fN N x0 (ai.aP.length:Int)) fun cA=>
  as8 (GO N cA.2 aZ) fun dg=>
  as8 (GP N dg.1 aZ (bw.mk aX.kind cA.1 aX.to aX.count aX.c0 [] [] aX.order aX.name []) dg.2) fun c9=>
  as8 (fN N c9.1 7) fun cz=>
  as8 (AT N ak N cz.2 [] cz.1) fun fQ=>
  as8 (KL N fQ.2) fun fM=>
  as8 (fN N fQ.1 15) fun fX=>
  if (fX.1==0)=as5 then
   as8 (Cz N fX.2 fM.1) fun gk=>
   as4 (gk.2,(ku c9.2),hy,ka,gk.1)
  else
   as4 (fX.2,(ku c9.2),hy,ka,fM.1)
 else
  ay.lt (nT==2) fun gW=>
  if gW=as5 then
   as8 (Kk N x0 ai) fun gy=>
   as8 (GQ N gy.2 aZ) fun gL=>
   if gL.2=as5 then
    as8 (aD aZ 0) fun jf=>
    as8 (aD aZ 0) fun jq=>
    as4 (gL.1,(bw.mk aX.kind aX.bQ aX.to aX.count aX.c0 [] [] (cb.mk gy.1.name jq gy.1.cH) aX.name []),hy,ka,oI)
   else
    as4 (gL.1,(bw.mk aX.kind aX.bQ aX.to aX.count aX.c0 [] [] gy.1 aX.name []),hy,ka,oI)
  else
   ay.lt (nT==3) fun jw=>
   as8 (GR N nT jw) fun jQ=>
   if jQ=as5 then
    as8 (fN N x0 (ai.aP.length:Int)) fun gd=>
    as8 (iE N gd.2 ([12,12,12,1,2,0]:List Int)) fun jR=>
    as8 (GS N aZ (bw.mk aX.kind gd.1 aX.to aX.count jR.1 [] [] aX.order aX.name [])) fun jx=>
    as8 (Ga N aZ (bw.mk aX.kind gd.1 aX.to aX.count jR.1 [] [] aX.order aX.name []) jx) fun mC=>
    as8 (zx N aZ N (ku mC) 0 hy) fun rS=>
    as8 (fN N jR.2 8) fun tb=>
    if (tb.1==0)=as5 then
     as8 (iE N tb.2 ([(-1),0,rS.1.bQ,(ai.aP.length:Int)]:List Int)) fun xk=>
     as8 (cl rS.2 ([xk.1]:List Int)) fun xl=>
     as4 (xk.2,(ku rS.1),xl,ka,oI)
    else
     as4 (tb.2,(ku rS.1),rS.2,ka,oI)
   else
    ay.lt (nT==4) fun Qy=>
    if Qy=as5 then
     as8 (Lk N az) fun Qz=>
     as8 (iE N x0 ([0,0,0,1,2]:List Int)) fun vl=>
     as8 (zy N ai Qz.2.1 N vl.2 (ku aX) vl.1 ka) fun Cx=>
     as4 (Cx.1,(ku Cx.2.1),hy,Cx.2.2,oI)
    else
     ay.lt (nT==6) fun oK=>
     if oK=as5 then
      as8 (fN N x0 (ai.aP.length:Int)) fun jg=>
      as8 (fN N jg.2 (ai.aP.length:Int)) fun ZJ=>
      as8 (fN N ZJ.2 4) fun ZK=>
      as4 (ZK.2,(bw.mk aX.kind jg.1 ZJ.1 ZK.1 aX.c0 [] [] aX.order aX.name []),hy,ka,oI)
     else
      ay.lt (nT==7) fun aq0=>
      if aq0=as5 then
       if (decide (0<(az.cE.length:Int)))=as5 then
        as8 (fN N x0 (az.cE.length:Int)) fun ZL=>
        as8 (aD az.cE ZL.1) fun aq1=>
        as4 (ZL.2,(bw.mk aX.kind aX.bQ aX.to aX.count aX.c0 [] [] aX.order aq1.name []),hy,ka,oI)
       else
        as4 (x0,(bw.mk aX.kind aX.bQ aX.to aX.count aX.c0 [] [] aX.order [120,49] []),hy,ka,oI)
      else
       as4 (x0,(ku aX),hy,ka,oI)
def CG (N:Nat) (x0:cx) (J:du) (al:bL) (ak:Int):Option (bw×cx):=
 as8 (Kw N al) fun aT=>
 as8 (fN N x0 7) fun a3=>
 as8 (GK N a3.2 al (bw.mk (ata .i64 (1+a3.1)) 0 0 0 0 [] [] (cb.mk [] 0 []) [] [])) fun cf=>
 as8 (GN N cf.1 ak J al aT (ku cf.2) cf.2.kind [] [] []) fun py=>
 as4 ((bw.mk py.2.1.kind py.2.1.bQ py.2.1.to py.2.1.count py.2.1.c0 py.2.2.1 py.2.2.2.1 py.2.1.order py.2.1.name py.2.2.2.2),py.1)
def Bw (N:Nat) (x0:List (List Int)):Nat->(List (List Int))->Int->Option (List (List Int))
 |0,_,_=>as6
 |n+1,ak,av=>
  if (decide (av<(x0.length:Int)))=as5 then
   as8 (aD x0 av) fun aT=>
   as8 (cl ([]:List Int) aT) fun a3=>
   as8 (cl ak (([[]]:List (List Int)).set ((0:Int).toNat) a3)) fun a7=>
   ay.lt (ata .i64 (av+1)) fun bj=>
   Bw N x0 n a7 bj
  else
   as4 ak
def xx (N:Nat) (x0:List (List Int)):Option (List (List Int)):=
 as8 (Bw N x0 N ([]:List (List Int)) 0) fun bq=>
 as4 bq
def Bx (N:Nat) (J:bL):Nat->(List cb)->Int->(List (List Int))->Option (List cb×List (List Int))
 |0,_,_,_=>as6
 |n+1,ak,av,xh=>
  if (decide (av<(J.cE.length:Int)))=as5 then
   as8 (aD J.cE av) fun a7=>
   as8 (cl ([]:List (List UInt8)) a7.cH) fun bj=>
   as8 (cl ak ([(cb.mk a7.name a7.bQ bj)]:List cb)) fun bq=>
   ay.lt (ata .i64 (av+1)) fun bz=>
   Bx N J n bq bz xh
  else
   as4 (ak,xh)
def CW (N:Nat) (x0:bL):Option (bL×List b8×List cb):=
 as8 (cl ([]:List b8) x0.cu) fun aT=>
 as8 (xx N x0.aP) fun a3=>
 as8 (Bx N (QC x0) N [] 0 a3) fun bO=>
 as8 (cl ([]:List Int) x0.bF.cu) fun b3=>
 as8 (cl ([]:List Int) x0.bF.aP) fun cf=>
 as8 (cl ([]:List eV) x0.bF.ia.items) fun b9=>
 as8 (cl ([]:List Int) x0.bF.proof.fA.hL) fun cA=>
 as8 (cl ([]:List Int) x0.bF.proof.chain) fun cI=>
 as4 ((bL.mk [] (List.map (fun (z:List Int)=>z) bO.2) [] x0.busy (fZ.mk b3 (cS.mk b9 x0.bF.ia.c0) (gY.mk (eW.mk x0.bF.proof.fA.steps cA) cI) x0.bF.lead cf x0.bF.iQ) x0.dF),aT,bO.1)
def Jw (N:Nat) (J:Int) (al:du):Option Bool:=
 if (decide (0<=J))=as5 then
  ay.lt (decide (J<(al.aP.length:Int))) fun aT=>
  as4 aT
 else
  as4 as9
def pB (N:Nat) (x0:du) (J:Int):Option Bool:=
 as8 (Jw N J x0) fun a3=>
 as4 a3
def Bk (N:Nat) (x0:List Int) (J:Int):Nat->Int->Option (Sum (Unit) (Bool))
 |0,_=>as6
 |n+1,ai=>
  if (decide (ai<(x0.length:Int)))=as5 then
   as8 (aD x0 ai) fun aT=>
   if (aT==J)=as5 then
    as4 (ate as5)
   else
    ay.lt (ata .i64 (ai+1)) fun a3=>
    Bk N x0 J n a3
  else
   as4 (atf ())
def th (N:Nat) (x0:List Int) (J:Int):Option Bool:=
 as8 (Bk N x0 J N 0) fun a7=>
 match a7 with
 |atf bj=>
  as4 as9
 |ate bq=>
  as4 bq
def A4 (N:Nat) (J:Int) (al:bL):Nat->Int->Option (Sum (Unit) (Bool))
 |0,_=>as6
 |n+1,ai=>
  if (decide (ai<(al.cE.length:Int)))=as5 then
   as8 (aD al.cE ai) fun aT=>
   if (aT.bQ==J)=as5 then
    as4 (ate as5)
   else
    ay.lt (ata .i64 (ai+1)) fun a3=>
    A4 N J al n a3
  else
   as4 (atf ())
def qy (N:Nat) (x0:bL) (J:Int):Option Bool:=
 as8 (A4 N J x0 N 0) fun a7=>
 match a7 with
 |atf bj=>
  as4 as9
 |ate bq=>
  as4 bq
def BM (N:Nat) (x0:List UInt8):Nat->Int->Int->Option (Sum (Int) (Int))
 |0,_,_=>as6
 |n+1,ak,av=>
  as8 (aD x0 0) fun aT=>
  if (decide (av<(ata .i64 ((atv aT:Int)))))=as5 then
   if (decide ((x0.length:Int)<(ata .i64 (ak+15))))=as5 then
    as4 (ate (-1))
   else
    as8 (aD x0 (ata .i64 (ak+14))) fun a3=>
    ay.lt (ata .i64 (ak+(ata .i64 (15+(ata .i64 ((atv a3:Int))))))) fun a7=>
    if (decide ((x0.length:Int)<a7))=as5 then
     as4 (ate (-1))
    else
     ay.lt (ata .i64 (av+1)) fun bj=>
     BM N x0 n a7 bj
  else
   as4 (atf ak)
def Lo (N:Nat) (x0:List UInt8):Option Int:=
 if ((x0.length:Int)==0)=as5 then
  as4 (-1)
 else
  as8 (BM N x0 N 1 0) fun bq=>
  match bq with
  |atf bz=>
   if (decide ((x0.length:Int)<(ata .i64 (bz+2))))=as5 then
    as4 (-1)
   else
    ay.lt (ata .i64 (bz+2)) fun bO=>
    as4 bO
  |ate b3=>
   as4 b3
def vu (N:Nat) (x0:List UInt8):Option Int:=
 as8 (aD x0 0) fun aT=>
 as8 (aD x0 1) fun a3=>
 ay.lt (ata .i64 ((ata .i64 ((ata .i64 ((atv aT:Int)))*256))+(ata .i64 ((atv a3:Int))))) fun a7=>
 as4 a7
def HN (N:Nat) (aC:List UInt8) (aX:Int):Option Bool:=
 as8 (aD aC aX) fun cA=>
 if (decide (9<(ata .u8 (at5 (atv cA:Int) 16))))=as5 then
  as4 as5
 else
  as8 (aD aC aX) fun cI=>
  as4 (decide (9<(atT (atv cI:Int) 16)))
def As (N:Nat) (aC:List UInt8):Nat->(List UInt8)->Int->Option (Sum (List UInt8) (Int))
 |0,_,_=>as6
 |n+1,aZ,aX=>
  if (decide (aX<6))=as5 then
   as8 (HN N aC aX) fun dg=>
   if dg=as5 then
    as4 (ate 11)
   else
    as8 (aD aC aX) fun dm=>
    as8 (aD aC aX) fun dq=>
    as8 (e7 (ata .u8 (48+(ata .u8 (at5 (atv dm:Int) 16))))) fun dx=>
    as8 (e7 (ata .u8 (48+(atT (atv dq:Int) 16)))) fun c9=>
    as8 (cl aZ ([dx,c9]:List UInt8)) fun cz=>
    ay.lt (ata .i64 (aX+1)) fun dT=>
    As N aC n cz dT
  else
   as4 (atf aZ)
def HO (N:Nat) (aC:List UInt8):Option Bool:=
 as8 (aD aC 13) fun ea=>
 if (decide (25<(atv ea:Int)))=as5 then
  as4 as5
 else
  as8 (aD aC 13) fun fe=>
  if (decide (10<=(atv fe:Int)))=as5 then
   as8 (aD aC 13) fun fQ=>
   as4 (decide ((atv fQ:Int)<=15))
  else
   as4 as9
def Ar (N:Nat) (x0:List UInt8):Nat->(List b8)->Int->Int->Option (Sum (List b8) (Int))
 |0,_,_,_=>as6
 |n+1,ai,az,aA=>
  as8 (aD x0 0) fun cf=>
  if (decide (aA<(ata .i64 ((atv cf:Int)))))=as5 then
   as8 (hj x0 az (x0.length:Int)) fun b9=>
   as8 (As N b9 N [] 0) fun eN=>
   match eN with
   |atf fi=>
    as8 (HO N b9) fun fM=>
    if fM=as5 then
     as4 (ate 11)
    else
     as8 (aD b9 14) fun fX=>
     ay.lt (ata .i64 ((atv fX:Int))) fun gk=>
     as8 (hj b9 6 (b9.length:Int)) fun gW=>
     as8 (vu N gW) fun gy=>
     as8 (aD b9 8) fun hT=>
     as8 (hj b9 9 (b9.length:Int)) fun gL=>
     as8 (vu N gL) fun jf=>
     as8 (hj b9 11 (b9.length:Int)) fun jq=>
     as8 (vu N jq) fun jw=>
     as8 (aD b9 13) fun h5=>
     as8 (aD b9 13) fun jQ=>
     as8 (hj b9 15 (ata .i64 (15+gk))) fun gd=>
     as8 (cl ai ([(b8.mk fi gy (ata .i64 ((atv hT:Int))) jf jw (ata .i64 ((atT (atv h5:Int) 16))) (decide (16<=(atv jQ:Int))) gd)]:List b8)) fun jR=>
     ay.lt (ata .i64 (az+(ata .i64 (15+gk)))) fun jx=>
     ay.lt (ata .i64 (aA+1)) fun nf=>
     Ar N x0 n jR jx nf
   |ate mB=>
    as4 (ate mB)
  else
   as4 (atf ai)
def nV (N:Nat) (x0:List UInt8):Option (List b8×Int):=
 as8 (Lo N x0) fun aT=>
 ay.lt (decide (aT<0)) fun a3=>
 if a3=as5 then
  as4 ([],10)
 else
  ay.lt (decide (aT<(x0.length:Int))) fun a7=>
  if a7=as5 then
   as4 ([],11)
  else
   as8 (hj x0 (ata .i64 (aT - 2)) (x0.length:Int)) fun bj=>
   as8 (vu N bj) fun bq=>
   as8 (hj x0 0 (ata .i64 (aT - 2))) fun bz=>
   as8 (CN N bz) fun bO=>
   ay.lt (bq !=bO) fun b3=>
   if b3=as5 then
    as4 ([],9)
   else
    as8 (Ar N x0 N [] 1 0) fun lZ=>
    match lZ with
    |atf fj=>
     as8 (vn N fj) fun mC=>
     if (mC !=0)=as5 then
      as4 ([],mC)
     else
      as4 (fj,0)
    |ate nU=>
     as4 ([],nU)
def B9 (N:Nat) (x0:List (List Int)) (J:Int) (az:Int):Nat->Int->Option (Sum (Unit) (Int×Int))
 |0,_=>as6
 |n+1,aA=>
  as8 (aD x0 az) fun aT=>
  if (decide (aA<(aT.length:Int)))=as5 then
   as8 (aD x0 az) fun a3=>
   as8 (aD a3 aA) fun a7=>
   if (a7==J)=as5 then
    as4 (ate (az,aA))
   else
    ay.lt (ata .i64 (aA+1)) fun bj=>
    B9 N x0 J az n bj
  else
   as4 (atf ())
def B8 (N:Nat) (x0:List (List Int)) (J:Int):Nat->Int->Option (Sum (Unit) (Int×Int))
 |0,_=>as6
 |n+1,az=>
  if (decide (az<(x0.length:Int)))=as5 then
   as8 (B9 N x0 J az N 0) fun bq=>
   match bq with
   |atf bz=>
    ay.lt (ata .i64 (az+1)) fun bO=>
    B8 N x0 J n bO
   |ate b3=>
    as4 (ate (b3.1,b3.2))
  else
   as4 (atf ())
def pA (N:Nat) (x0:List (List Int)) (J:Int):Option (Int×Int):=
 as8 (B8 N x0 J N 0) fun cf=>
 match cf with
 |atf b9=>
  as4 ((-1),(-1))
 |ate cA=>
  as4 (cA.1,cA.2)
def A3 (N:Nat) (x0:List b8):Nat->(List Int)->Int->Option (List Int)
 |0,_,_=>as6
 |n+1,ak,av=>
  if (decide (av<(x0.length:Int)))=as5 then
   as8 (aD x0 av) fun aT=>
   as8 (cl ak ([aT.length]:List Int)) fun a3=>
   ay.lt (ata .i64 (av+1)) fun a7=>
   A3 N x0 n a3 a7
  else
   as4 ak
def te (N:Nat) (x0:List b8):Option (List Int):=
 as8 (A3 N x0 N [] 0) fun bj=>
 as4 bj
def Bj (N:Nat) (x0:List Int) (J:List Int):Nat->Int->Int->Option Int
 |0,_,_=>as6
 |n+1,ai,az=>
  if (decide (az<(J.length:Int)))=as5 then
   as8 (aD J az) fun aT=>
   as8 (aD x0 aT) fun a3=>
   ay.lt (ata .i64 (ai+a3)) fun a7=>
   ay.lt (ata .i64 (az+1)) fun bj=>
   Bj N x0 J n a7 bj
  else
   as4 ai
def C1 (N:Nat) (x0:List Int) (J:List Int):Option Int:=
 as8 (Bj N x0 J N 0 0) fun bq=>
 as4 bq
def Js (N:Nat) (x0:List hI) (J:List Int) (al:List (List Int)):Option Bool:=
 if ((al.length:Int) !=(x0.length:Int))=as5 then
  as4 as5
 else
  if (decide (24<(x0.length:Int)))=as5 then
   as4 as5
  else
   as4 (decide (192<(J.length:Int)))
def Jt (N:Nat) (J:List Int) (aA:Int):Option Bool:=
 as8 (aD J aA) fun a3=>
 if (decide (a3<1))=as5 then
  as4 as5
 else
  as8 (aD J aA) fun a7=>
  as4 (decide (400<a7))
def B5 (N:Nat) (J:List Int):Nat->Int->Option (Sum (Unit) (Bool))
 |0,_=>as6
 |n+1,aA=>
  if (decide (aA<(J.length:Int)))=as5 then
   as8 (Jt N J aA) fun bj=>
   if bj=as5 then
    as4 (ate as9)
   else
    ay.lt (ata .i64 (aA+1)) fun bq=>
    B5 N J n bq
  else
   as4 (atf ())
def Ju (N:Nat) (J:List Int) (aC:List Bool) (bk:Int):Option Bool:=
 if (decide (bk<0))=as5 then
  as4 as5
 else
  if (decide ((J.length:Int)<=bk))=as5 then
   as4 as5
  else
   as8 (aD aC bk) fun cI=>
   as8 (aD aC bk) fun dg=>
   as4 dg
def B7 (N:Nat) (J:List Int) (al:List (List Int)) (aZ:Int):Nat->(List Bool)->Int->Option (Sum (List Bool) (Bool))
 |0,_,_=>as6
 |n+1,aC,aX=>
  as8 (aD al aZ) fun cf=>
  if (decide (aX<(cf.length:Int)))=as5 then
   as8 (aD al aZ) fun b9=>
   as8 (aD b9 aX) fun cA=>
   as8 (Ju N J aC cA) fun dm=>
   if dm=as5 then
    as4 (ate as9)
   else
    as8 (aD aC cA) fun dq=>
    as8 (aD aC cA) fun dx=>
    ay.lt (aC.set ((cA:Int).toNat) as5) fun c9=>
    ay.lt (ata .i64 (aX+1)) fun cz=>
    B7 N J al aZ n c9 cz
  else
   as4 (atf aC)
def Jv (N:Nat) (x0:List hI) (J:List Int) (al:List (List Int)) (aZ:Int):Option Bool:=
 as8 (aD x0 aZ) fun fi=>
 if (decide (fi.length<0))=as5 then
  as4 as5
 else
  as8 (aD x0 aZ) fun ea=>
  if (decide (100000<ea.length))=as5 then
   as4 as5
  else
   as8 (aD al aZ) fun fe=>
   as8 (C1 N J fe) fun fQ=>
   as8 (aD x0 aZ) fun fM=>
   as4 (decide (fM.length<fQ))
def B6 (N:Nat) (x0:List hI) (J:List Int) (al:List (List Int)):Nat->(List Bool)->Int->Option (Sum (Unit) (Bool))
 |0,_,_=>as6
 |n+1,aC,aZ=>
  if (decide (aZ<(al.length:Int)))=as5 then
   as8 (B7 N J al aZ N aC 0) fun dT=>
   match dT with
   |atf eN=>
    as8 (Jv N x0 J al aZ) fun fX=>
    if fX=as5 then
     as4 (ate as9)
    else
     ay.lt (ata .i64 (aZ+1)) fun gk=>
     B6 N x0 J al n eN gk
   |ate gW=>
    as4 (ate gW)
  else
   as4 (atf ())
def K8 (N:Nat) (x0:List hI) (J:List Int) (al:List (List Int)):Option Bool:=
 as8 (Js N x0 J al) fun aT=>
 if aT=as5 then
  as4 as9
 else
  as8 (B5 N J N 0) fun bz=>
  match bz with
  |atf bO=>
   as8 (iM as9 (J.length:Int)) fun b3=>
   as8 (B6 N x0 J al N b3 0) fun gy=>
   match gy with
   |atf hT=>
    as4 as5
   |ate gL=>
    as4 gL
  |ate jf=>
   as4 jf
def Jo (N:Nat) (J:List Int) (al:List (List Int)) (aA:dh):Option Bool:=
 if (decide (aA.oD<0))=as5 then
  as4 as5
 else
  if (decide ((J.length:Int)<=aA.oD))=as5 then
   as4 as5
  else
   if (decide (aA.from_<(-1)))=as5 then
    as4 as5
   else
    if (decide ((al.length:Int)<=aA.from_))=as5 then
     as4 as5
    else
     if (decide (aA.to<(-1)))=as5 then
      as4 as5
     else
      as4 (decide ((al.length:Int)<=aA.to))
def Jp (N:Nat) (aA:dh) (aX:Int):Option Bool:=
 if (aX !=aA.from_)=as5 then
  as4 as5
 else
  if (decide (aX<0))=as5 then
   as4 (decide (aA.to<0))
  else
   as4 as9
def Jq (N:Nat) (aX:Int) (bk:Int) (a8:List (List Int)) (nd:Bool):Option (List (List Int)):=
 if nd=as5 then
  as8 (aD a8 aX) fun bz=>
  as8 (aD a8 aX) fun bO=>
  as8 (hj bO 0 bk) fun b3=>
  as8 (aD a8 aX) fun cf=>
  if aX=aX then
   as8 (hj bO (ata .i64 (bk+1)) (bO.length:Int)) fun b9=>
   as8 (cl (List.take (Int.toNat bk) bO) (List.drop (Int.toNat (ata .i64 (bk+1))) (List.take (Int.toNat (bO.length:Int)) bO))) fun cA=>
   as8 (aD a8 aX) fun cI=>
   if aX=aX then
    as8 (aD a8 aX) fun dg=>
    as4 (a8.set ((aX:Int).toNat) cA)
   else
    as6
  else
   as6
 else
  as4 a8
def Jr (N:Nat) (aA:dh) (a8:List (List Int)) (Qw:Bool):Option (List (List Int)):=
 if Qw=as5 then
  as8 (aD a8 aA.to) fun dq=>
  as8 (aD a8 aA.to) fun dx=>
  as8 (cl ([aA.oD]:List Int) dx) fun c9=>
  as8 (aD a8 aA.to) fun cz=>
  if aA.to=aA.to then
   as8 (aD a8 aA.to) fun dT=>
   as4 (a8.set ((aA.to:Int).toNat) c9)
  else
   as6
 else
  as8 (aD a8 aA.to) fun eN=>
  as8 (aD a8 aA.to) fun fi=>
  as8 (cl fi ([aA.oD]:List Int)) fun ea=>
  as8 (aD a8 aA.to) fun fe=>
  if aA.to=aA.to then
   as8 (aD a8 aA.to) fun fQ=>
   as4 (a8.set ((aA.to:Int).toNat) ea)
  else
   as6
def tf (N:Nat) (x0:List hI) (J:List Int) (al:List (List Int)) (ak:dh):Option (List (List Int)×Int):=
 as8 (K8 N x0 J al) fun aT=>
 if (!aT)=as5 then
  as4 ([],1)
 else
  as8 (Jo N J al ak) fun a3=>
  if a3=as5 then
   as4 ([],2)
  else
   as8 (pA N al ak.oD) fun a7=>
   as8 (Jp N ak a7.1) fun bj=>
   if bj=as5 then
    as4 ([],17)
   else
    as8 (xx N al) fun bq=>
    as8 (Jq N a7.1 a7.2 bq (decide (0<=a7.1))) fun dm=>
    if (decide (ak.to<0))=as5 then
     as4 ((List.map (fun (z:List Int)=>z) dm),0)
    else
     as8 (Jr N ak dm ak.front) fun fM=>
     as8 (aD fM ak.to) fun fX=>
     as8 (aD fM ak.to) fun gk=>
     as8 (C1 N J gk) fun gW=>
     as8 (aD x0 ak.to) fun gy=>
     if (decide (gy.length<gW))=as5 then
      as4 ([],14)
     else
      as4 ((List.map (fun (z:List Int)=>z) (fM.set ((ak.to:Int).toNat) gk)),0)
def Ku (N:Nat) (x0:bu) (J:Int) (al:Int) (cq:List dh):Option (Bool×List dh×bu):=
 as8 (pA N x0.y.aP J) fun aT=>
 as8 (te N x0.y.cu) fun a3=>
 as8 (tf N x0.c.aP a3 x0.y.aP (dh.mk J aT.1 al as9)) fun a7=>
 if (a7.2 !=0)=as5 then
  as4 (as9,cq,(fG x0))
 else
  as8 (cl cq ([(dh.mk J aT.1 al as9)]:List dh)) fun bj=>
  as4 (as5,bj,(bu.mk x0.c (bL.mk x0.y.cu a7.1 x0.y.cE x0.y.busy x0.y.bF x0.y.dF) x0.e (ec.mk x0.r.err [] x0.r.proof x0.r.gb x0.r.final x0.r.er x0.r.place)))
def He (N:Nat) (x0:bu) (ak:Int) (av:fZ):Option Bool:=
 if x0.y.dF=as5 then
  as4 as5
 else
  if x0.y.busy=as5 then
   if (ak==av.lead)=as5 then
    as4 as5
   else
    as8 (th N av.aP ak) fun a7=>
    as4 a7
  else
   as4 as9
def Hf (N:Nat) (ai:List b8) (aC:Int) (aZ:Int) (aX:Int) (hs:List b8):Option Bool:=
 if (decide (0<=aX))=as5 then
  as8 (aD hs aZ) fun cf=>
  as8 (aD hs aZ) fun b9=>
  as8 (aD ai aC) fun cA=>
  as8 (aD ai aC) fun cI=>
  as4 (b9.number==cI.number)
 else
  as4 as9
def zN (N:Nat) (x0:bu) (ai:List b8) (aA:Int) (aC:Int) (hs:List b8):Nat->Int->Option (Sum (Unit) (Int))
 |0,_=>as6
 |n+1,aZ=>
  if (decide (aZ<aA))=as5 then
   as8 (pA N x0.y.aP aZ) fun b3=>
   as8 (Hf N ai aC aZ b3.1 hs) fun dg=>
   if dg=as5 then
    as4 (ate 8)
   else
    ay.lt (ata .i64 (aZ+1)) fun dm=>
    zN N x0 ai aA aC hs n dm
  else
   as4 (atf ())
def Ad (N:Nat) (x0:bu) (ai:List b8) (aA:Int) (hs:List b8):Nat->Int->Option (Sum (Unit) (Int))
 |0,_=>as6
 |n+1,aC=>
  if (decide (aC<(ai.length:Int)))=as5 then
   as8 (zN N (JX x0) ai aA aC hs N 0) fun dq=>
   match dq with
   |atf dx=>
    ay.lt (ata .i64 (aC+1)) fun c9=>
    Ad N x0 ai aA hs n c9
   |ate cz=>
    as4 (ate cz)
  else
   as4 (atf ())
def zO (N:Nat) (ak:Int) (ai:List b8) (aA:Int):Nat->bu->Int->(List dh)->Option (Sum (bu×List dh) (bu×Int×List dh))
 |0,_,_,_=>as6
 |n+1,x0,a8,cq=>
  if (decide (a8<(ai.length:Int)))=as5 then
   as8 (Ku N (fG x0) (ata .i64 (aA+a8)) ak cq) fun ea=>
   if (!ea.1)=as5 then
    as4 (ate ((fG ea.2.2),14,ea.2.1))
   else
    ay.lt (ata .i64 (a8+1)) fun fe=>
    zO N ak ai aA n (fG ea.2.2) fe ea.2.1
  else
   as4 (atf ((fG x0),cq))
def Kc (N:Nat) (x0:bu) (hs:List b8) (cq:List dh):Option (Int×List dh×bu):=
 as8 (pB N x0.c x0.e.bQ) fun aT=>
 ay.lt (!aT) fun a3=>
 if a3=as5 then
  as4 (2,cq,(bu.mk x0.c (bL.mk hs x0.y.aP x0.y.cE x0.y.busy x0.y.bF x0.y.dF) x0.e (ec.mk x0.r.err [] x0.r.proof x0.r.gb x0.r.final x0.r.er x0.r.place)))
 else
  as8 (He N (JX x0) x0.e.bQ x0.y.bF) fun bj=>
  if bj=as5 then
   as4 (25,cq,(bu.mk x0.c (bL.mk hs x0.y.aP x0.y.cE x0.y.busy x0.y.bF x0.y.dF) x0.e (ec.mk x0.r.err [] x0.r.proof x0.r.gb x0.r.final x0.r.er x0.r.place)))
  else
   as8 (qy N (bL.mk hs x0.y.aP x0.y.cE x0.y.busy x0.y.bF x0.y.dF) x0.e.bQ) fun bq=>
   if bq=as5 then
    as4 (17,cq,(bu.mk x0.c (bL.mk hs x0.y.aP x0.y.cE x0.y.busy x0.y.bF x0.y.dF) x0.e (ec.mk x0.r.err [] x0.r.proof x0.r.gb x0.r.final x0.r.er x0.r.place)))
   else
    as8 (nV N x0.e.data) fun bz=>
    if (bz.2 !=0)=as5 then
     as4 (bz.2,cq,(bu.mk x0.c (bL.mk hs x0.y.aP x0.y.cE x0.y.busy x0.y.bF x0.y.dF) x0.e (ec.mk x0.r.err [] x0.r.proof x0.r.gb x0.r.final x0.r.er x0.r.place)))
    else
     ay.lt (hs.length:Int) fun bO=>
     as8 (Ad N (JX x0) bz.1 bO hs N 0) fun dT=>
     match dT with
     |atf eN=>
      if (decide (192<(ata .i64 (bO+(bz.1.length:Int)))))=as5 then
       as4 (3,cq,(bu.mk x0.c (bL.mk hs x0.y.aP x0.y.cE x0.y.busy x0.y.bF x0.y.dF) x0.e (ec.mk x0.r.err [] x0.r.proof x0.r.gb x0.r.final x0.r.er x0.r.place)))
      else
       as8 (cl hs bz.1) fun fi=>
       as8 (zO N x0.e.bQ bz.1 bO N (bu.mk x0.c (bL.mk fi x0.y.aP x0.y.cE x0.y.busy x0.y.bF x0.y.dF) x0.e (ec.mk x0.r.err [] x0.r.proof x0.r.gb x0.r.final x0.r.er x0.r.place)) 0 cq) fun fQ=>
       match fQ with
       |atf fM=>
        as4 (0,fM.2,(fG fM.1))
       |ate fX=>
        as4 (fX.2.1,fX.2.2,(fG fX.1))
     |ate gk=>
      as4 (gk,cq,(bu.mk x0.c (bL.mk hs x0.y.aP x0.y.cE x0.y.busy x0.y.bF x0.y.dF) x0.e (ec.mk x0.r.err [] x0.r.proof x0.r.gb x0.r.final x0.r.er x0.r.place)))
def B3 (N:Nat) (J:List UInt8) (al:cb):Nat->Int->Option (Sum (Unit) (Int))
 |0,_=>as6
 |n+1,ai=>
  if (decide (ai<(al.cH.length:Int)))=as5 then
   as8 (aD al.cH ai) fun aT=>
   if (aT==J)=as5 then
    as4 (ate ai)
   else
    ay.lt (ata .i64 (ai+1)) fun a3=>
    B3 N J al n a3
  else
   as4 (atf ())
def vr (N:Nat) (x0:cb) (J:List UInt8):Option Int:=
 as8 (B3 N J x0 N 0) fun a7=>
 match a7 with
 |atf bj=>
  as4 (-1)
 |ate bq=>
  as4 bq
def G1 (N:Nat) (al:du) (ak:cb):Option Bool:=
 as8 (vt N ak.name) fun aT=>
 if (!aT)=as5 then
  as4 as5
 else
  if (decide (ak.bQ<0))=as5 then
   as4 as5
  else
   if (decide ((al.aP.length:Int)<=ak.bQ))=as5 then
    as4 as5
   else
    if (decide ((ak.cH.length:Int)<1))=as5 then
     as4 as5
    else
     as4 (decide (16<(ak.cH.length:Int)))
def G2 (N:Nat) (ak:cb) (ai:Int):Option Bool:=
 as8 (aD ak.cH ai) fun a7=>
 as8 (vt N a7) fun bj=>
 if (!bj)=as5 then
  as4 as5
 else
  as8 (aD ak.cH ai) fun bq=>
  as8 (vr N ak bq) fun bz=>
  as4 (bz !=ai)
def z5 (N:Nat) (ak:cb):Nat->Int->Option (Sum (Unit) (Bool))
 |0,_=>as6
 |n+1,ai=>
  if (decide (ai<(ak.cH.length:Int)))=as5 then
   as8 (G2 N ak ai) fun bO=>
   if bO=as5 then
    as4 (ate as9)
   else
    ay.lt (ata .i64 (ai+1)) fun b3=>
    z5 N ak n b3
  else
   as4 (atf ())
def CD (N:Nat) (x0:du) (J:cb):Option Bool:=
 as8 (G1 N x0 J) fun a3=>
 if a3=as5 then
  as4 as9
 else
  as8 (z5 N J N 0) fun cf=>
  match cf with
  |atf b9=>
   as4 as5
  |ate cA=>
   as4 cA
def Ie (N:Nat) (ak:cb) (ai:cb):Option Bool:=
 if (ai.name==ak.name)=as5 then
  as4 as5
 else
  as4 (ai.bQ==ak.bQ)
def AZ (N:Nat) (ak:cb) (ai:cb):Nat->Int->Option (Sum (Unit) (Int))
 |0,_=>as6
 |n+1,az=>
  if (decide (az<(ak.cH.length:Int)))=as5 then
   as8 (aD ak.cH az) fun bq=>
   as8 (vr N ai bq) fun bz=>
   if (decide (0<=bz))=as5 then
    as4 (ate 8)
   else
    ay.lt (ata .i64 (az+1)) fun bO=>
    AZ N ak ai n bO
  else
   as4 (atf ())
def AY (N:Nat) (ak:cb) (gx:List cb):Nat->Int->Option (Sum (Unit) (Int))
 |0,_=>as6
 |n+1,av=>
  if (decide (av<(gx.length:Int)))=as5 then
   as8 (aD gx av) fun a3=>
   as8 (aD gx av) fun a7=>
   as8 (Ie N ak a7) fun bj=>
   if bj=as5 then
    as4 (ate 8)
   else
    as8 (AZ N ak a7 N 0) fun b3=>
    match b3 with
    |atf cf=>
     ay.lt (ata .i64 (av+1)) fun b9=>
     AY N ak gx n b9
    |ate cA=>
     as4 (ate cA)
  else
   as4 (atf ())
def Kt (N:Nat) (x0:bu) (gx:List cb):Option (Int×List cb×bu):=
 if x0.y.busy=as5 then
  as4 (25,gx,(vm x0))
 else
  as8 (CD N x0.c x0.e.order) fun aT=>
  if (!aT)=as5 then
   as4 (1,gx,(vm x0))
  else
   as8 (AY N x0.e.order gx N 0) fun cI=>
   match cI with
   |atf dg=>
    if ((gx.length:Int)==8)=as5 then
     as4 (18,gx,(vm x0))
    else
     as8 (aD x0.y.aP x0.e.order.bQ) fun dm=>
     if (decide (0<(dm.length:Int)))=as5 then
      as4 (17,gx,(vm x0))
     else
      as8 (cl ([]:List (List UInt8)) x0.e.order.cH) fun dq=>
      as8 (cl gx ([(cb.mk x0.e.order.name x0.e.order.bQ dq)]:List cb)) fun dx=>
      as4 (0,dx,(vm x0))
   |ate c9=>
    as4 (c9,gx,(vm x0))
def Kg (N:Nat) (x0:bu):Option Bool:=
 as8 (pB N x0.c x0.e.bQ) fun aT=>
 if aT=as5 then
  if (decide (0<=x0.e.c0))=as5 then
   ay.lt (decide (x0.e.c0<=12)) fun a3=>
   as4 a3
  else
   as4 as9
 else
  as4 as9
def Kh (N:Nat) (x0:bu) (ak:Bool) (av:Int):Option Bool:=
 if ak=as5 then
  as8 (aD x0.e.aP av) fun bj=>
  as8 (pB N x0.c bj) fun bq=>
  as4 bq
 else
  as4 as9
def CE (N:Nat) (x0:bu):Nat->Bool->Int->Option Bool
 |0,_,_=>as6
 |n+1,ak,av=>
  if (decide (av<(x0.e.aP.length:Int)))=as5 then
   as8 (Kh N x0 ak av) fun bz=>
   ay.lt (ata .i64 (av+1)) fun bO=>
   CE N x0 n bz bO
  else
   as4 ak
def Ks (N:Nat) (x0:bu):Option Bool:=
 as8 (Kg N x0) fun a7=>
 as8 (CE N x0 N a7 0) fun b3=>
 as4 b3
def KG (N:Nat) (x0:bu) (ak:Bool) (av:Int):Option Bool:=
 if ak=as5 then
  as8 (aD x0.e.aP av) fun a7=>
  if (a7 !=x0.e.bQ)=as5 then
   as8 (hj x0.e.aP 0 av) fun bj=>
   as8 (aD x0.e.aP av) fun bq=>
   as8 (th N bj bq) fun bz=>
   if (!bz)=as5 then
    as8 (aD x0.e.aP av) fun bO=>
    as8 (qy N x0.y bO) fun b3=>
    ay.lt (!b3) fun cf=>
    as4 cf
   else
    as4 as9
  else
   as4 as9
 else
  as4 as9
def CJ (N:Nat) (x0:bu):Nat->Bool->Int->Option Bool
 |0,_,_=>as6
 |n+1,ak,av=>
  if (decide (av<(x0.e.aP.length:Int)))=as5 then
   as8 (KG N x0 ak av) fun b9=>
   ay.lt (ata .i64 (av+1)) fun cA=>
   CJ N x0 n b9 cA
  else
   as4 ak
def KS (N:Nat) (x0:bu):Option Bool:=
 as8 (qy N x0.y x0.e.bQ) fun aT=>
 ay.lt (!aT) fun a3=>
 as8 (CJ N x0 N a3 0) fun cI=>
 as4 cI
def Cb (N:Nat) (x0:List cb) (J:List UInt8):Nat->Int->Option (Sum (Unit) (Int×Int))
 |0,_=>as6
 |n+1,az=>
  if (decide (az<(x0.length:Int)))=as5 then
   as8 (aD x0 az) fun aT=>
   as8 (vr N aT J) fun a3=>
   if (decide (0<=a3))=as5 then
    as4 (ate (az,a3))
   else
    ay.lt (ata .i64 (az+1)) fun a7=>
    Cb N x0 J n a7
  else
   as4 (atf ())
def La (N:Nat) (x0:List cb) (J:List UInt8):Option (Int×Int):=
 as8 (Cb N x0 J N 0) fun bj=>
 match bj with
 |atf bq=>
  as4 ((-1),(-1))
 |ate bz=>
  as4 (bz.1,bz.2)
def xy (N:Nat) (x0:List cb) (J:b8):Option eV:=
 as8 (La N x0 J.dest) fun aT=>
 as4 (eV.mk aT.1 aT.2 0 J.length)
def H7 (N:Nat) (J:cS):Option Bool:=
 if (decide (J.c0<0))=as5 then
  as4 as5
 else
  as4 (decide (12<J.c0))
def H8 (N:Nat) (av:eV):Option Bool:=
 if (decide (av.ft<0))=as5 then
  as4 as5
 else
  if (decide (16<=av.ft))=as5 then
   as4 as5
  else
   if (decide (av.block<0))=as5 then
    as4 as5
   else
    if (decide (32<=av.block))=as5 then
     as4 as5
    else
     if (decide (av.round<0))=as5 then
      as4 as5
     else
      if (decide (13<=av.round))=as5 then
       as4 as5
      else
       if (decide (av.length<1))=as5 then
        as4 as5
       else
        as4 (decide (400<av.length))
def Hz (N:Nat) (J:cS) (ak:Int) (av:eV):Option Bool:=
 if (decide (0<ak))=as5 then
  as8 (aD J.items (ata .i64 (ak - 1))) fun bj=>
  as4 (decide (av.round<bj.round))
 else
  as4 as9
def AL (N:Nat) (J:cS):Nat->Int->Option (Sum (Unit) (Int))
 |0,_=>as6
 |n+1,ak=>
  if (decide (ak<(J.items.length:Int)))=as5 then
   as8 (aD J.items ak) fun a3=>
   as8 (H8 N a3) fun a7=>
   if a7=as5 then
    as4 (ate 2)
   else
    as8 (Hz N J ak a3) fun bq=>
    if bq=as5 then
     as4 (ate 12)
    else
     ay.lt (ata .i64 (ak+1)) fun bz=>
     AL N J n bz
  else
   as4 (atf ())
def KY (N:Nat) (x0:cS):Option Int:=
 if (decide (96<(x0.items.length:Int)))=as5 then
  as4 3
 else
  as8 (H7 N x0) fun aT=>
  if aT=as5 then
   as4 2
  else
   as8 (AL N x0 N 0) fun bO=>
   match bO with
   |atf b3=>
    as4 0
   |ate cf=>
    as4 cf
def IM (N:Nat) (aA:eV) (aC:eV):Option Bool:=
 if (aA.ft !=aC.ft)=as5 then
  as4 as5
 else
  ay.lt (decide (aC.block<=aA.block)) fun a7=>
  as4 a7
def tg (N:Nat) (x0:cS) (J:Int) (al:Int):Option Int:=
 as8 (aD x0.items J) fun aT=>
 as8 (aD x0.items al) fun a3=>
 as8 (IM N aT a3) fun bj=>
 if bj=as5 then
  as4 0
 else
  ay.lt (decide (al<J)) fun bq=>
  if bq=as5 then
   as4 2
  else
   as4 1
def vo (N:Nat) (x0:cS) (J:Int) (al:Int):Option Int:=
 as8 (tg N x0 J al) fun aT=>
 ay.lt (ata .i64 (at5 aT 2)) fun a3=>
 as4 a3
def IL (N:Nat) (J:List Int) (al:Int) (ak:cS) (aA:Int) (aC:Int):Option Int:=
 as8 (tg N ak aC al) fun aT=>
 if (decide (0<aT))=as5 then
  as8 (aD J aC) fun a3=>
  as8 (vo N ak aC al) fun a7=>
  ay.lt (max aA (ata .i64 (a3+a7))) fun bj=>
  as4 bj
 else
  as4 aA
def Br (N:Nat) (J:List Int) (al:Int) (ak:cS):Nat->Int->Int->Option Int
 |0,_,_=>as6
 |n+1,aA,aC=>
  if (decide (aC<(ak.items.length:Int)))=as5 then
   as8 (IL N J al ak aA aC) fun bq=>
   ay.lt (ata .i64 (aC+1)) fun bz=>
   Br N J al ak n bq bz
  else
   as4 aA
def xv (N:Nat) (x0:cS) (J:List Int) (al:Int):Option Int:=
 as8 (Br N J al x0 N 0 0) fun bO=>
 as4 bO
def IP (N:Nat) (x0:Int) (J:Int):Option Bool:=
 if (decide (0<=x0))=as5 then
  if (decide (x0<13))=as5 then
   if (decide (0<=J))=as5 then
    ay.lt (decide (J<=12)) fun aT=>
    as4 aT
   else
    as4 as9
  else
   as4 as9
 else
  as4 as9
def CU (N:Nat) (x0:Int) (J:Int):Option Bool:=
 as8 (IP N x0 J) fun a3=>
 as4 a3
def IG (N:Nat) (x0:Int) (J:Int) (al:Int):Option Bool:=
 as8 (CU N J al) fun aT=>
 if (!aT)=as5 then
  as4 as5
 else
  if (decide (x0<0))=as5 then
   as4 as5
  else
   if (decide (4096<=x0))=as5 then
    as4 as5
   else
    as8 (nR .i64 J) fun a3=>
    as8 (nG x0 (ata .i64 (1*((2 ^ a3:Nat):Int)))) fun a7=>
    as8 (nR .i64 J) fun bj=>
    as4 (a7 !=(ata .i64 ((ata .i64 (1*((2 ^ bj:Nat):Int))) - 1)))
def Bm (N:Nat):Nat->Int->Int->Option Int
 |0,_,_=>as6
 |n+1,aA,aC=>
  if (decide (0<aC))=as5 then
   ay.lt (ata .i64 (aA+(atT aC 2))) fun b3=>
   ay.lt (ata .i64 (at5 aC 2)) fun cf=>
   Bm N n b3 cf
  else
   as4 aA
def Lr (N:Nat) (x0:Int) (J:Int) (al:Int):Option Bool:=
 as8 (IG N x0 J al) fun bq=>
 if bq=as5 then
  as4 as9
 else
  as8 (nR .i64 J) fun bz=>
  ay.lt (Int.fdiv x0 ((2 ^ bz:Nat):Int)) fun bO=>
  as8 (Bm N N 0 bO) fun b9=>
  ay.lt (decide (b9<=al)) fun cA=>
  as4 cA
def IN (N:Nat) (x0:Int) (J:Int) (al:Int):Option Bool:=
 as8 (CU N J al) fun aT=>
 if (!aT)=as5 then
  as4 as5
 else
  as4 (decide (x0<0))
def Bt (N:Nat) (J:Int) (al:Int):Nat->Int->Option (Sum (Unit) (Int×Int))
 |0,_=>as6
 |n+1,aC=>
  if (decide (aC<4096))=as5 then
   as8 (Lr N aC J al) fun a7=>
   if a7=as5 then
    as4 (ate (aC,0))
   else
    ay.lt (ata .i64 (aC+1)) fun bj=>
    Bt N J al n bj
  else
   as4 (atf ())
def Lf (N:Nat) (x0:Int) (J:Int) (al:Int):Option (Int×Int):=
 as8 (IN N x0 J al) fun a3=>
 if a3=as5 then
  as4 (0,2)
 else
  as8 (Bt N J al N x0) fun bq=>
  match bq with
  |atf bz=>
   as4 (0,15)
  |ate bO=>
   as4 (bO.1,bO.2)
def Bs (N:Nat):Nat->Int->Int->Option Int
 |0,_,_=>as6
 |n+1,x0,ak=>
  if (decide (0<x0))=as5 then
   ay.lt (ata .i64 (ak+1)) fun aT=>
   ay.lt (ata .i64 (at5 x0 2)) fun a3=>
   Bs N n a3 aT
  else
   as4 ak
def Le (N:Nat) (x0:Int):Option Int:=
 as8 (Bs N N x0 0) fun a7=>
 as4 a7
def HA (N:Nat) (J:cS) (al:eW) (ai:List Int) (az:Int) (aA:Int) (aC:Int):Option (Sum (eW×List Int×Int) (eW×Int)):=
 as8 (aD J.items aC) fun a7=>
 if (a7.block !=aA)=as5 then
  as4 (atf (al,ai,az))
 else
  as8 (xv N J ai aC) fun bj=>
  as8 (aD J.items aC) fun bq=>
  as8 (Lf N bj bq.round J.c0) fun bz=>
  if (bz.2 !=0)=as5 then
   as4 (ate ((eW.mk 0 []),bz.2))
  else
   as8 (aD ai aC) fun bO=>
   as8 (aD ai aC) fun b3=>
   ay.lt (ai.set ((aC:Int).toNat) bz.1) fun cf=>
   ay.lt (max az bz.1) fun b9=>
   as4 (atf (al,cf,b9))
def AN (N:Nat) (J:cS) (aA:Int):Nat->eW->(List Int)->Int->Int->Option (Sum (eW×List Int×Int) (eW×Int))
 |0,_,_,_,_=>as6
 |n+1,al,ai,az,aC=>
  if (decide (aC<(ai.length:Int)))=as5 then
   as8 (HA N J al ai az aA aC) fun cA=>
   match cA with
   |atf cI=>
    ay.lt (ata .i64 (aC+1)) fun dg=>
    AN N J aA n cI.1 cI.2.1 cI.2.2 dg
   |ate dm=>
    as4 (ate (dm.1,dm.2))
  else
   as4 (atf (al,ai,az))
def AM (N:Nat) (J:cS):Nat->eW->(List Int)->Int->Int->Option (Sum (eW×List Int×Int) (eW×Int))
 |0,_,_,_,_=>as6
 |n+1,al,ai,az,aA=>
  if (decide (aA<32))=as5 then
   as8 (AN N J aA N al ai az 0) fun dq=>
   match dq with
   |atf dx=>
    ay.lt (ata .i64 (aA+1)) fun c9=>
    AM N J n dx.1 dx.2.1 dx.2.2 c9
   |ate cz=>
    as4 (ate (cz.1,cz.2))
  else
   as4 (atf (al,ai,az))
def CO (N:Nat) (x0:cS):Option (eW×Int):=
 as8 (KY N x0) fun aT=>
 if (aT !=0)=as5 then
  as4 ((eW.mk 0 []),aT)
 else
  as8 (iM 0 (x0.items.length:Int)) fun a3=>
  as8 (AM N x0 N (eW.mk 0 []) a3 0 0) fun dT=>
  match dT with
  |atf eN=>
   as8 (Le N eN.2.2) fun fi=>
   as4 ((eW.mk fi eN.2.1),0)
  |ate ea=>
   as4 (ea.1,ea.2)
def IJ (N:Nat) (J:List Int) (ai:Int) (az:Int):Option Int:=
 as8 (aD J az) fun aT=>
 as8 (aD J ai) fun a3=>
 if (decide (a3<aT))=as5 then
  as4 az
 else
  as4 ai
def Bo (N:Nat) (J:List Int):Nat->Int->Int->Option Int
 |0,_,_=>as6
 |n+1,ai,az=>
  if (decide (az<(J.length:Int)))=as5 then
   as8 (IJ N J ai az) fun a7=>
   ay.lt (ata .i64 (az+1)) fun bj=>
   Bo N J n a7 bj
  else
   as4 ai
def IK (N:Nat) (J:List Int) (al:cS) (ai:Int) (aC:Int) (aZ:Int):Option Bool:=
 as8 (tg N al aZ ai) fun bO=>
 if (bO==0)=as5 then
  as4 as5
 else
  as8 (aD J aZ) fun b3=>
  as8 (vo N al aZ ai) fun cf=>
  as4 ((ata .i64 (b3+cf)) !=aC)
def Bq (N:Nat) (J:List Int) (al:cS) (ai:Int) (aC:Int):Nat->Int->Option Int
 |0,_=>as6
 |n+1,aZ=>
  as8 (IK N J al ai aC aZ) fun b9=>
  if b9=as5 then
   ay.lt (ata .i64 (aZ+1)) fun cA=>
   Bq N J al ai aC n cA
  else
   as4 aZ
def Bp (N:Nat) (J:List Int) (al:cS):Nat->Int->(List Int)->Int->Option (List Int)
 |0,_,_,_=>as6
 |n+1,ai,aA,aC=>
  if (decide (0<aC))=as5 then
   as8 (Bq N J al ai aC N 0) fun cI=>
   as8 (cl ([cI]:List Int) aA) fun dg=>
   as8 (xv N al J cI) fun dm=>
   Bp N J al n cI dg dm
  else
   as4 aA
def Ld (N:Nat) (x0:cS) (J:List Int):Option (List Int):=
 if ((J.length:Int)==0)=as5 then
  as4 []
 else
  as8 (Bo N J N 0 0) fun bq=>
  as8 (xv N x0 J bq) fun bz=>
  as8 (Bp N J x0 N bq ([bq]:List Int) bz) fun dq=>
  as4 dq
def KB (N:Nat) (x0:cS):Option (List Int×Int):=
 as8 (CO N x0) fun aT=>
 if (aT.2 !=0)=as5 then
  as4 ([],aT.2)
 else
  as8 (Ld N x0 aT.1.hL) fun a3=>
  as4 (a3,0)
def CV (N:Nat) (x0:cS):Option (gY×Int):=
 as8 (CO N x0) fun aT=>
 if (aT.2 !=0)=as5 then
  as4 ((gY.mk (eW.mk 0 []) []),aT.2)
 else
  as8 (KB N x0) fun a3=>
  as4 ((gY.mk aT.1 a3.1),0)
def BD (N:Nat) (J:List Int) (al:bL):Nat->Int->Int->Option Int
 |0,_,_=>as6
 |n+1,ai,az=>
  if (decide (az<(J.length:Int)))=as5 then
   as8 (aD J az) fun aT=>
   as8 (aD al.cu aT) fun a3=>
   ay.lt (ata .i64 (ai+a3.length)) fun a7=>
   ay.lt (ata .i64 (az+1)) fun bj=>
   BD N J al n a7 bj
  else
   as4 ai
def CY (N:Nat) (x0:bL) (J:List Int):Option Int:=
 as8 (BD N J x0 N 0 0) fun bq=>
 as4 bq
def I1 (N:Nat) (aC:cS) (aZ:eW) (db:Int) (cw:Int) (cy:Int):Option Int:=
 as8 (aD aZ.hL cy) fun aT=>
 as8 (nR .i64 (ata .u64 db)) fun a3=>
 if ((nL .and .i64 (Int.fdiv aT ((2 ^ a3:Nat):Int)) 1)==1)=as5 then
  as8 (aD aC.items cy) fun a7=>
  ay.lt (ata .i64 (cw+a7.length)) fun bj=>
  as4 bj
 else
  as4 cw
def BF (N:Nat) (aC:cS) (aZ:eW) (db:Int):Nat->Int->Int->Option Int
 |0,_,_=>as6
 |n+1,cw,cy=>
  if (decide (cy<(aC.items.length:Int)))=as5 then
   as8 (I1 N aC aZ db cw cy) fun bq=>
   ay.lt (ata .i64 (cy+1)) fun bz=>
   BF N aC aZ db n bq bz
  else
   as4 cw
def BE (N:Nat) (av:List Int) (az:du) (aC:cS) (aZ:eW):Nat->Int->Option (Sum (Unit) (Bool))
 |0,_=>as6
 |n+1,db=>
  if (decide (db<aZ.steps))=as5 then
   as8 (BF N aC aZ db N 0 0) fun bO=>
   as8 (aD av db) fun b3=>
   as8 (aD az.aP b3) fun cf=>
   if (decide (cf.length<bO))=as5 then
    as4 (ate as9)
   else
    ay.lt (ata .i64 (db+1)) fun b9=>
    BE N av az aC aZ n b9
  else
   as4 (atf ())
def I2 (N:Nat) (aC:cS) (di:Int) (eQ:Int) (e8:Int):Option Int:=
 as8 (aD aC.items e8) fun dx=>
 if (dx.ft==di)=as5 then
  as8 (aD aC.items e8) fun c9=>
  ay.lt (ata .i64 (eQ+c9.length)) fun cz=>
  as4 cz
 else
  as4 eQ
def BH (N:Nat) (aC:cS) (di:Int):Nat->Int->Int->Option Int
 |0,_,_=>as6
 |n+1,eQ,e8=>
  if (decide (e8<(aC.items.length:Int)))=as5 then
   as8 (I2 N aC di eQ e8) fun dT=>
   ay.lt (ata .i64 (e8+1)) fun eN=>
   BH N aC di n dT eN
  else
   as4 eQ
def BG (N:Nat) (ai:List (List Int)) (az:du) (aA:bL) (aC:cS):Nat->Int->Option (Sum (Unit) (Bool))
 |0,_=>as6
 |n+1,di=>
  if (decide (di<(aA.cE.length:Int)))=as5 then
   as8 (aD aA.cE di) fun dg=>
   as8 (aD ai dg.bQ) fun dm=>
   as8 (CY N aA dm) fun dq=>
   as8 (BH N aC di N dq 0) fun fi=>
   as8 (aD aA.cE di) fun ea=>
   as8 (aD az.aP ea.bQ) fun fe=>
   if (decide (fe.length<fi))=as5 then
    as4 (ate as9)
   else
    ay.lt (ata .i64 (di+1)) fun fQ=>
    BG N ai az aA aC n fQ
  else
   as4 (atf ())
def CZ (N:Nat) (x0:du) (J:bL) (al:cS) (ak:eW) (av:List Int) (ai:List (List Int)):Option Bool:=
 if (decide ((av.length:Int)<ak.steps))=as5 then
  as4 as9
 else
  as8 (BE N av x0 al ak N 0) fun cA=>
  match cA with
  |atf cI=>
   as8 (BG N ai x0 J al N 0) fun fM=>
   match fM with
   |atf fX=>
    as4 as5
   |ate gk=>
    as4 gk
  |ate gW=>
   as4 gW
def CH (N:Nat) (x0:bu) (J:List Int) (al:cS) (ak:gY):Option (List Int×List Int×List Int×bu):=
 as8 (hj x0.e.aP 0 ak.fA.steps) fun aT=>
 as8 (cl ([]:List Int) aT) fun a3=>
 as8 (cl ([]:List Int) ak.fA.hL) fun a7=>
 as8 (cl ([]:List Int) ak.chain) fun bj=>
 as4 (a3,a7,bj,(bu.mk x0.c (bL.mk x0.y.cu x0.y.aP x0.y.cE as5 (fZ.mk J al ak x0.e.bQ [] 0) as9) x0.e (ec.mk x0.r.err x0.r.vd (gY.mk (eW.mk ak.fA.steps []) []) x0.r.gb x0.r.final x0.r.er x0.r.place)))
def Ix (N:Nat) (x0:bu) (ak:Bool) (av:Int):Option Bool:=
 if ak=as5 then
  as8 (aD x0.e.aP av) fun a7=>
  as8 (aD x0.y.aP a7) fun bj=>
  ay.lt ((bj.length:Int)==0) fun bq=>
  as4 bq
 else
  as4 as9
def A9 (N:Nat) (x0:bu):Nat->Bool->Int->Option Bool
 |0,_,_=>as6
 |n+1,ak,av=>
  if (decide (av<(x0.e.aP.length:Int)))=as5 then
   as8 (Ix N x0 ak av) fun bz=>
   ay.lt (ata .i64 (av+1)) fun bO=>
   A9 N x0 n bz bO
  else
   as4 ak
def Ba (N:Nat) (x0:bu) (ai:List Int):Nat->cS->Int->(List eV)->Option (Sum (cS×List eV) (Int))
 |0,_,_,_=>as6
 |n+1,az,aA,jN=>
  if (decide (aA<(ai.length:Int)))=as5 then
   as8 (aD ai aA) fun cA=>
   as8 (aD ai aA) fun cI=>
   as8 (aD x0.y.cu cI) fun dg=>
   as8 (xy N x0.y.cE dg) fun dm=>
   as8 (cl jN ([dm]:List eV)) fun dq=>
   as8 (aD dq aA) fun dx=>
   as8 (aD dq aA) fun c9=>
   if (decide (c9.ft<0))=as5 then
    as4 (ate 13)
   else
    ay.lt (ata .i64 (aA+1)) fun cz=>
    Ba N x0 ai n (cS.mk [] az.c0) cz dq
  else
   as4 (atf ((cS.mk [] az.c0),jN))
def Iy (N:Nat) (x0:bu) (aC:Int) (aZ:List Int) (aX:Int) (jN:List eV):Option Bool:=
 if (decide (0<aX))=as5 then
  as8 (aD aZ (ata .i64 (aX - 1))) fun fX=>
  as8 (aD x0.y.cu fX) fun gk=>
  as8 (xy N x0.y.cE gk) fun gW=>
  as8 (aD jN aC) fun gy=>
  as8 (aD jN aC) fun hT=>
  as4 (decide (hT.block<gW.block))
 else
  as4 as9
def Bb (N:Nat) (x0:bu) (ai:List Int) (jN:List eV):Nat->Int->Option (Sum (Unit) (Int))
 |0,_=>as6
 |n+1,aC=>
  if (decide (aC<(ai.length:Int)))=as5 then
   as8 (aD jN aC) fun fi=>
   as8 (aD jN aC) fun ea=>
   as8 (aD x0.y.cE ea.ft) fun fe=>
   as8 (aD x0.y.aP fe.bQ) fun fQ=>
   ay.lt (fQ.length:Int) fun fM=>
   as8 (Iy N x0 aC fQ fM jN) fun gL=>
   if gL=as5 then
    as4 (ate 12)
   else
    ay.lt (ata .i64 (aC+1)) fun jf=>
    Bb N x0 ai jN n jf
  else
   as4 (atf ())
def KI (N:Nat) (x0:bu):Option (Int×bu):=
 if x0.y.busy=as5 then
  as4 (25,x0)
 else
  as8 (Ks N x0) fun aT=>
  if (!aT)=as5 then
   as4 (2,x0)
  else
   as8 (KS N x0) fun a3=>
   as8 (A9 N x0 N a3 0) fun b3=>
   if (!b3)=as5 then
    as4 (17,x0)
   else
    as8 (aD x0.y.aP x0.e.bQ) fun cf=>
    as8 (cl ([]:List Int) cf) fun b9=>
    as8 (Ba N x0 b9 N (cS.mk [] x0.e.c0) 0 []) fun dT=>
    match dT with
    |atf eN=>
     if ((b9.length:Int)==0)=as5 then
      as4 (13,x0)
     else
      as8 (Bb N x0 b9 eN.2 N 0) fun jq=>
      match jq with
      |atf jw=>
       as8 (CV N (cS.mk eN.2 eN.1.c0)) fun h5=>
       if (h5.2 !=0)=as5 then
        as4 (h5.2,x0)
       else
        as8 (CZ N x0.c x0.y (cS.mk eN.2 eN.1.c0) h5.1.fA x0.e.aP x0.y.aP) fun jQ=>
        if (!jQ)=as5 then
         as4 (14,x0)
        else
         as8 (CH N x0 b9 (cS.mk eN.2 eN.1.c0) h5.1) fun gd=>
         as4 (0,(bu.mk gd.2.2.2.c (bL.mk gd.2.2.2.y.cu gd.2.2.2.y.aP gd.2.2.2.y.cE gd.2.2.2.y.busy (fZ.mk gd.2.2.2.y.bF.cu gd.2.2.2.y.bF.ia gd.2.2.2.y.bF.proof gd.2.2.2.y.bF.lead gd.1 gd.2.2.2.y.bF.iQ) gd.2.2.2.y.dF) gd.2.2.2.e (ec.mk gd.2.2.2.r.err gd.2.2.2.r.vd (gY.mk (eW.mk gd.2.2.2.r.proof.fA.steps gd.2.1) gd.2.2.1) gd.2.2.2.r.gb gd.2.2.2.r.final gd.2.2.2.r.er gd.2.2.2.r.place)))
      |ate jR=>
       as4 (jR,x0)
    |ate jx=>
     as4 (jx,x0)
def Kj (N:Nat) (x0:bu) (J:Int) (al:Int) (cq:List dh):Option (Bool×List dh×bu):=
 as8 (pA N x0.y.aP J) fun aT=>
 as8 (te N x0.y.cu) fun a3=>
 as8 (tf N x0.c.aP a3 x0.y.aP (dh.mk J aT.1 al as9)) fun a7=>
 if (a7.2 !=0)=as5 then
  as4 (as9,cq,(fG x0))
 else
  as8 (cl cq ([(dh.mk J aT.1 al as9)]:List dh)) fun bj=>
  as4 (as5,bj,(bu.mk x0.c (bL.mk x0.y.cu a7.1 x0.y.cE x0.y.busy x0.y.bF x0.y.dF) x0.e (ec.mk x0.r.err [] x0.r.proof x0.r.gb x0.r.final x0.r.er x0.r.place)))
def Ke (N:Nat) (x0:bu):Option bu:=
 as4 (bu.mk x0.c (bL.mk x0.y.cu x0.y.aP x0.y.cE as9 (fZ.mk [] (cS.mk [] 0) (gY.mk (eW.mk 0 []) []) 0 [] 0) as9) x0.e x0.r)
def Iz (N:Nat) (x0:bu) (av:List Int) (aC:fI):Option Bool:=
 if (decide (aC.place<0))=as5 then
  as4 as5
 else
  if (decide ((av.length:Int)<=aC.place))=as5 then
   as4 as5
  else
   as8 (pB N x0.c aC.bQ) fun cf=>
   as4 (!cf)
def Bc (N:Nat) (x0:bu) (av:List Int):Nat->Int->Option (Sum (Unit) (Int))
 |0,_=>as6
 |n+1,aA=>
  if (decide (aA<(x0.e.dd.length:Int)))=as5 then
   as8 (aD x0.e.dd aA) fun b3=>
   as8 (Iz N (fG x0) av b3) fun b9=>
   if b9=as5 then
    as4 (ate 2)
   else
    ay.lt (ata .i64 (aA+1)) fun cA=>
    Bc N x0 av n cA
  else
   as4 (atf ())
def Be (N:Nat) (x0:bu) (aZ:Int):Nat->Int->Option (Sum (Unit) (Int))
 |0,_=>as6
 |n+1,aX=>
  if (decide (aX<aZ))=as5 then
   as8 (aD x0.e.dd aX) fun dm=>
   as8 (aD x0.e.dd aZ) fun dq=>
   if (dm.place==dq.place)=as5 then
    as4 (ate 8)
   else
    ay.lt (ata .i64 (aX+1)) fun dx=>
    Be N x0 aZ n dx
  else
   as4 (atf ())
def Bd (N:Nat) (x0:bu):Nat->Int->Option (Sum (Unit) (Int))
 |0,_=>as6
 |n+1,aZ=>
  if (decide (aZ<(x0.e.dd.length:Int)))=as5 then
   as8 (Be N (fG x0) aZ N 0) fun c9=>
   match c9 with
   |atf cz=>
    ay.lt (ata .i64 (aZ+1)) fun dT=>
    Bd N x0 n dT
   |ate eN=>
    as4 (ate eN)
  else
   as4 (atf ())
def Bf (N:Nat) (x0:bu) (ak:Int):Nat->(List Int)->Int->Option (Sum (List Int) (Int))
 |0,_,_=>as6
 |n+1,az,bk=>
  if (decide (bk<(x0.e.dd.length:Int)))=as5 then
   as8 (aD x0.e.dd bk) fun fe=>
   if (fe.bQ==ak)=as5 then
    as4 (ate 17)
   else
    as8 (aD x0.e.dd bk) fun fQ=>
    as8 (aD x0.e.dd bk) fun fM=>
    as8 (aD az fQ.place) fun fX=>
    as8 (aD az fQ.place) fun gk=>
    ay.lt (az.set ((fQ.place:Int).toNat) fM.bQ) fun gW=>
    ay.lt (ata .i64 (bk+1)) fun gy=>
    Bf N x0 ak n gW gy
  else
   as4 (atf az)
def IA (N:Nat) (x0:bu) (ai:List Int) (az:List Int) (a8:Int):Option bu:=
 if x0.y.dF=as5 then
  as4 (bu.mk x0.c (bL.mk x0.y.cu x0.y.aP x0.y.cE x0.y.busy x0.y.bF as5) x0.e (ec.mk x0.r.err [] x0.r.proof x0.r.gb x0.r.final x0.r.er x0.r.place))
 else
  as8 (aD az a8) fun jQ=>
  as8 (aD az a8) fun gd=>
  as8 (aD ai a8) fun jR=>
  as8 (aD ai a8) fun jx=>
  as4 (bu.mk x0.c (bL.mk x0.y.cu x0.y.aP x0.y.cE x0.y.busy x0.y.bF (gd !=jx)) x0.e (ec.mk x0.r.err [] x0.r.proof x0.r.gb x0.r.final x0.r.er x0.r.place))
def Bg (N:Nat) (av:List Int) (ai:List Int) (az:List Int):Nat->bu->Int->(List dh)->Option (Sum (bu×List dh) (bu×Int×List dh))
 |0,_,_,_=>as6
 |n+1,x0,a8,cq=>
  if (decide (a8<(av.length:Int)))=as5 then
   as8 (aD av a8) fun jf=>
   as8 (aD az a8) fun jq=>
   as8 (aD az a8) fun jw=>
   as8 (Kj N (fG x0) jf jw cq) fun h5=>
   if (!h5.1)=as5 then
    as4 (ate ((fG h5.2.2),14,h5.2.1))
   else
    as8 (IA N (fG h5.2.2) ai az a8) fun nf=>
    ay.lt (ata .i64 (a8+1)) fun mB=>
    Bg N av ai az n (fG nf) mB h5.2.1
  else
   as4 (atf ((fG x0),cq))
def IB (N:Nat) (x0:bu):Option Bool:=
 if (!x0.y.dF)=as5 then
  as4 (decide (x0.y.bF.proof.fA.steps<x0.y.bF.iQ))
 else
  as4 as9
def HJ (N:Nat) (x0:bu) (Ct:Bool) (cq:List dh):Option bu:=
 if Ct=as5 then
  as8 (Ke N (bu.mk x0.c x0.y x0.e (ec.mk x0.r.err cq x0.r.proof x0.r.gb x0.r.final x0.r.er x0.r.place))) fun nU=>
  as4 nU
 else
  as4 (bu.mk x0.c x0.y x0.e (ec.mk x0.r.err cq x0.r.proof x0.r.gb x0.r.final x0.r.er x0.r.place))
def KJ (N:Nat) (x0:bu) (cq:List dh):Option (Int×bu):=
 ay.lt (!x0.y.busy) fun aT=>
 if aT=as5 then
  as4 (16,(bu.mk x0.c x0.y x0.e (ec.mk x0.r.err cq x0.r.proof x0.r.gb x0.r.final x0.r.er x0.r.place)))
 else
  if x0.y.dF=as5 then
   as4 (25,(bu.mk x0.c x0.y x0.e (ec.mk x0.r.err cq x0.r.proof x0.r.gb x0.r.final x0.r.er x0.r.place)))
  else
   ay.lt (decide (16<(x0.e.dd.length:Int))) fun a3=>
   if a3=as5 then
    as4 (3,(bu.mk x0.c x0.y x0.e (ec.mk x0.r.err cq x0.r.proof x0.r.gb x0.r.final x0.r.er x0.r.place)))
   else
    as8 (CL N x0.y) fun a7=>
    as8 (aD x0.y.aP a7) fun bj=>
    as8 (cl ([]:List Int) bj) fun bq=>
    as8 (CI N x0.y bq) fun bz=>
    as8 (cl ([]:List Int) bz) fun bO=>
    as8 (Bc N (fG x0) bq N 0) fun cI=>
    match cI with
    |atf dg=>
     as8 (Bd N (fG x0) N 0) fun fi=>
     match fi with
     |atf ea=>
      as8 (Bf N (fG x0) a7 N bO 0) fun hT=>
      match hT with
      |atf gL=>
       as8 (Bg N bq bz gL N (fG x0) 0 cq) fun lZ=>
       match lZ with
       |atf fj=>
        as8 (IB N (bu.mk fj.1.c (bL.mk fj.1.y.cu fj.1.y.aP fj.1.y.cE fj.1.y.busy (fZ.mk fj.1.y.bF.cu fj.1.y.bF.ia fj.1.y.bF.proof fj.1.y.bF.lead fj.1.y.bF.aP (ata .i64 (fj.1.y.bF.iQ+1))) fj.1.y.dF) fj.1.e (ec.mk fj.1.r.err [] fj.1.r.proof fj.1.r.gb fj.1.r.final fj.1.r.er fj.1.r.place))) fun mC=>
        as8 (HJ N (bu.mk fj.1.c (bL.mk fj.1.y.cu fj.1.y.aP fj.1.y.cE fj.1.y.busy (fZ.mk fj.1.y.bF.cu fj.1.y.bF.ia fj.1.y.bF.proof fj.1.y.bF.lead fj.1.y.bF.aP (ata .i64 (fj.1.y.bF.iQ+1))) fj.1.y.dF) fj.1.e (ec.mk fj.1.r.err [] fj.1.r.proof fj.1.r.gb fj.1.r.final fj.1.r.er fj.1.r.place)) mC fj.2) fun qw=>
        as4 (0,qw)
       |ate kY=>
        as4 (kY.2.1,(bu.mk kY.1.c kY.1.y kY.1.e (ec.mk kY.1.r.err kY.2.2 kY.1.r.proof kY.1.r.gb kY.1.r.final kY.1.r.er kY.1.r.place)))
      |ate rQ=>
       as4 (rQ,(bu.mk x0.c x0.y x0.e (ec.mk x0.r.err cq x0.r.proof x0.r.gb x0.r.final x0.r.er x0.r.place)))
     |ate vk=>
      as4 (vk,(bu.mk x0.c x0.y x0.e (ec.mk x0.r.err cq x0.r.proof x0.r.gb x0.r.final x0.r.er x0.r.place)))
    |ate rR=>
     as4 (rR,(bu.mk x0.c x0.y x0.e (ec.mk x0.r.err cq x0.r.proof x0.r.gb x0.r.final x0.r.er x0.r.place)))
def Hg (N:Nat) (x0:bu):Option Bool:=
 as8 (pB N x0.c x0.e.bQ) fun aT=>
 if aT=as5 then
  if (decide (0<=x0.e.c0))=as5 then
   ay.lt (decide (x0.e.c0<=12)) fun a3=>
   as4 a3
  else
   as4 as9
 else
  as4 as9
def Hh (N:Nat) (x0:bu) (ak:Bool) (av:Int):Option Bool:=
 if ak=as5 then
  as8 (aD x0.e.aP av) fun bj=>
  as8 (pB N x0.c bj) fun bq=>
  as4 bq
 else
  as4 as9
def zS (N:Nat) (x0:bu):Nat->Bool->Int->Option Bool
 |0,_,_=>as6
 |n+1,ak,av=>
  if (decide (av<(x0.e.aP.length:Int)))=as5 then
   as8 (Hh N x0 ak av) fun bz=>
   ay.lt (ata .i64 (av+1)) fun bO=>
   zS N x0 n bz bO
  else
   as4 ak
def Kf (N:Nat) (x0:bu):Option Bool:=
 as8 (Hg N x0) fun a7=>
 as8 (zS N x0 N a7 0) fun b3=>
 as4 b3
def It (N:Nat) (x0:bu) (ak:Bool) (av:Int):Option Bool:=
 if ak=as5 then
  as8 (aD x0.e.aP av) fun a7=>
  if (a7 !=x0.e.bQ)=as5 then
   as8 (hj x0.e.aP 0 av) fun bj=>
   as8 (aD x0.e.aP av) fun bq=>
   as8 (th N bj bq) fun bz=>
   if (!bz)=as5 then
    as8 (aD x0.e.aP av) fun bO=>
    as8 (qy N x0.y bO) fun b3=>
    ay.lt (!b3) fun cf=>
    as4 cf
   else
    as4 as9
  else
   as4 as9
 else
  as4 as9
def A7 (N:Nat) (x0:bu):Nat->Bool->Int->Option Bool
 |0,_,_=>as6
 |n+1,ak,av=>
  if (decide (av<(x0.e.aP.length:Int)))=as5 then
   as8 (It N x0 ak av) fun b9=>
   ay.lt (ata .i64 (av+1)) fun cA=>
   A7 N x0 n b9 cA
  else
   as4 ak
def KF (N:Nat) (x0:bu):Option Bool:=
 as8 (qy N x0.y x0.e.bQ) fun aT=>
 ay.lt (!aT) fun a3=>
 as8 (A7 N x0 N a3 0) fun cI=>
 as4 cI
def Ca (N:Nat) (x0:List Int) (J:Int):Nat->Int->Option (Sum (Unit) (Int))
 |0,_=>as6
 |n+1,ai=>
  if (decide (ai<(x0.length:Int)))=as5 then
   as8 (aD x0 ai) fun aT=>
   if (aT==J)=as5 then
    as4 (ate ai)
   else
    ay.lt (ata .i64 (ai+1)) fun a3=>
    Ca N x0 J n a3
  else
   as4 (atf ())
def K9 (N:Nat) (x0:List Int) (J:Int):Option Int:=
 as8 (Ca N x0 J N 0) fun a7=>
 match a7 with
 |atf bj=>
  as4 (-1)
 |ate bq=>
  as4 bq
def IW (N:Nat) (al:List cb) (db:Int) (cy:Bool) (di:Int):Option Bool:=
 if cy=as5 then
  as4 as5
 else
  as8 (aD al di) fun a7=>
  ay.lt (db==a7.bQ) fun bj=>
  as4 bj
def Bz (N:Nat) (al:List cb) (db:Int):Nat->Bool->Int->Option Bool
 |0,_,_=>as6
 |n+1,cy,di=>
  if (decide (di<(al.length:Int)))=as5 then
   as8 (IW N al db cy di) fun bq=>
   ay.lt (ata .i64 (di+1)) fun bz=>
   Bz N al db n bq bz
  else
   as4 cy
def IX (N:Nat) (db:Int) (cy:Bool):Option Bool:=
 if (decide (0<=db))=as5 then
  as4 cy
 else
  as4 as9
def IV (N:Nat) (x0:List b8) (J:List (List Int)) (al:List cb) (ak:List Int) (bk:List Int) (a8:Int) (oH:List eV):Option (cO×List Int×List eV):=
 as8 (pA N J a8) fun aT=>
 as8 (th N ak a8) fun a3=>
 as8 (Bz N al aT.1 N a3 0) fun bO=>
 as8 (IX N aT.1 bO) fun b3=>
 if b3=as5 then
  as8 (cl bk ([a8]:List Int)) fun cf=>
  as8 (aD x0 a8) fun b9=>
  as8 (xy N al b9) fun cA=>
  as8 (cl oH ([cA]:List eV)) fun cI=>
  as4 ((cO.mk [] [] []),cf,cI)
 else
  as4 ((cO.mk [] [] []),bk,oH)
def By (N:Nat) (x0:List b8) (J:List (List Int)) (al:List cb) (ak:List Int):Nat->cO->(List Int)->Int->(List eV)->Option (cO×List Int×List eV)
 |0,_,_,_,_=>as6
 |n+1,aX,bk,a8,oH=>
  if (decide (a8<(x0.length:Int)))=as5 then
   as8 (IV N x0 J al ak bk a8 oH) fun dg=>
   ay.lt (ata .i64 (a8+1)) fun dm=>
   By N x0 J al ak n (cO.mk [] [] []) dg.2.1 dm dg.2.2
  else
   as4 ((cO.mk [] [] []),bk,oH)
def BA (N:Nat) (al:List cb):Nat->cO->Int->(List Int)->Option (cO×List Int)
 |0,_,_,_=>as6
 |n+1,aX,eQ,xi=>
  if (decide (eQ<(al.length:Int)))=as5 then
   as8 (aD al eQ) fun dx=>
   as8 (cl xi ([dx.bQ]:List Int)) fun c9=>
   ay.lt (ata .i64 (eQ+1)) fun cz=>
   BA N al n (cO.mk [] [] []) cz c9
  else
   as4 ((cO.mk [] [] []),xi)
def IY (N:Nat) (J:List (List Int)) (bk:List Int) (e8:Int) (eF:List Int) (iV:Int):Option (List Int):=
 as8 (aD J e8) fun fi=>
 as8 (aD fi iV) fun ea=>
 as8 (K9 N bk ea) fun fe=>
 if (decide (0<=fe))=as5 then
  as8 (cl eF ([fe]:List Int)) fun fQ=>
  as4 fQ
 else
  as4 eF
def BC (N:Nat) (J:List (List Int)) (bk:List Int) (e8:Int):Nat->(List Int)->Int->Option (List Int)
 |0,_,_=>as6
 |n+1,eF,iV=>
  as8 (aD J e8) fun eN=>
  if (decide (iV<(eN.length:Int)))=as5 then
   as8 (IY N J bk e8 eF iV) fun fM=>
   ay.lt (ata .i64 (iV+1)) fun fX=>
   BC N J bk e8 n fM fX
  else
   as4 eF
def BB (N:Nat) (J:List (List Int)) (bk:List Int):Nat->cO->Int->(List (List Int))->Option (cO×List (List Int))
 |0,_,_,_=>as6
 |n+1,aX,e8,vj=>
  if (decide (e8<(J.length:Int)))=as5 then
   as8 (BC N J bk e8 N ([]:List Int) 0) fun gk=>
   as8 (cl vj ([gk]:List (List Int))) fun gW=>
   ay.lt (ata .i64 (e8+1)) fun gy=>
   BB N J bk n (cO.mk [] [] []) gy gW
  else
   as4 ((cO.mk [] [] []),vj)
def Lj (N:Nat) (x0:List b8) (J:List (List Int)) (al:List cb) (ak:List Int):Option (cO×List Int):=
 as8 (By N x0 J al ak N (cO.mk [] [] []) [] 0 []) fun dq=>
 as8 (BA N al N (cO.mk [] [] []) 0 []) fun dT=>
 as8 (BB N J dq.2.1 N (cO.mk [] [] []) 0 []) fun hT=>
 as4 ((cO.mk dq.2.2 dT.2 hT.2),dq.2.1)
def HE (N:Nat) (J:cO):Option Bool:=
 if (decide (96<(J.items.length:Int)))=as5 then
  as4 as5
 else
  if (decide (16<(J.homes.length:Int)))=as5 then
   as4 as5
  else
   as4 (decide (24<(J.aP.length:Int)))
def HF (N:Nat) (J:cO) (av:eV):Option Bool:=
 if (decide (av.ft<0))=as5 then
  as4 as5
 else
  if (decide ((J.homes.length:Int)<=av.ft))=as5 then
   as4 as5
  else
   if (decide (av.block<0))=as5 then
    as4 as5
   else
    if (decide (32<=av.block))=as5 then
     as4 as5
    else
     if (av.round !=0)=as5 then
      as4 as5
     else
      if (decide (av.length<1))=as5 then
       as4 as5
      else
       as4 (decide (400<av.length))
def Ah (N:Nat) (J:cO):Nat->Int->Option (Sum (Unit) (Bool))
 |0,_=>as6
 |n+1,ak=>
  if (decide (ak<(J.items.length:Int)))=as5 then
   as8 (aD J.items ak) fun a3=>
   as8 (HF N J a3) fun a7=>
   if a7=as5 then
    as4 (ate as9)
   else
    ay.lt (ata .i64 (ak+1)) fun bj=>
    Ah N J n bj
  else
   as4 (atf ())
def HG (N:Nat) (J:cO) (ai:Int):Option Bool:=
 as8 (aD J.homes ai) fun bO=>
 if (decide (bO<0))=as5 then
  as4 as5
 else
  as8 (aD J.homes ai) fun b3=>
  as4 (decide ((J.aP.length:Int)<=b3))
def Aj (N:Nat) (J:cO) (ai:Int):Nat->Int->Option (Sum (Unit) (Bool))
 |0,_=>as6
 |n+1,az=>
  if (decide (az<ai))=as5 then
   as8 (aD J.homes az) fun b9=>
   as8 (aD J.homes ai) fun cA=>
   if (b9==cA)=as5 then
    as4 (ate as9)
   else
    ay.lt (ata .i64 (az+1)) fun cI=>
    Aj N J ai n cI
  else
   as4 (atf ())
def Ai (N:Nat) (J:cO):Nat->Int->Option (Sum (Unit) (Bool))
 |0,_=>as6
 |n+1,ai=>
  if (decide (ai<(J.homes.length:Int)))=as5 then
   as8 (HG N J ai) fun cf=>
   if cf=as5 then
    as4 (ate as9)
   else
    as8 (Aj N J ai N 0) fun dg=>
    match dg with
    |atf dm=>
     ay.lt (ata .i64 (ai+1)) fun dq=>
     Ai N J n dq
    |ate dx=>
     as4 (ate dx)
  else
   as4 (atf ())
def HH (N:Nat) (aA:List Int) (aX:Int):Option Bool:=
 if (decide (aX<0))=as5 then
  as4 as5
 else
  as4 (decide ((aA.length:Int)<=aX))
def Al (N:Nat) (J:cO) (aC:Int):Nat->(List Int)->Int->Option (Sum (List Int) (Bool))
 |0,_,_=>as6
 |n+1,aA,aZ=>
  as8 (aD J.aP aC) fun eN=>
  if (decide (aZ<(eN.length:Int)))=as5 then
   as8 (aD J.aP aC) fun fi=>
   as8 (aD fi aZ) fun ea=>
   as8 (HH N aA ea) fun fe=>
   if fe=as5 then
    as4 (ate as9)
   else
    as8 (aD aA ea) fun fQ=>
    as8 (aD aA ea) fun fM=>
    as8 (aD aA ea) fun fX=>
    as8 (aD aA ea) fun gk=>
    ay.lt (aA.set ((ea:Int).toNat) (ata .i64 (fM+1))) fun gW=>
    ay.lt (ata .i64 (aZ+1)) fun gy=>
    Al N J aC n gW gy
  else
   as4 (atf aA)
def Ak (N:Nat) (J:cO):Nat->(List Int)->Int->Option (Sum (List Int) (Bool))
 |0,_,_=>as6
 |n+1,aA,aC=>
  if (decide (aC<(J.aP.length:Int)))=as5 then
   as8 (Al N J aC N aA 0) fun hT=>
   match hT with
   |atf gL=>
    ay.lt (ata .i64 (aC+1)) fun jf=>
    Ak N J n gL jf
   |ate jq=>
    as4 (ate jq)
  else
   as4 (atf aA)
def Am (N:Nat) (aA:List Int):Nat->Int->Option (Sum (Unit) (Bool))
 |0,_=>as6
 |n+1,bk=>
  if (decide (bk<(aA.length:Int)))=as5 then
   as8 (aD aA bk) fun jQ=>
   as8 (aD aA bk) fun gd=>
   if (gd !=1)=as5 then
    as4 (ate as9)
   else
    ay.lt (ata .i64 (bk+1)) fun jR=>
    Am N aA n jR
  else
   as4 (atf ())
def CP (N:Nat) (x0:cO):Option Bool:=
 as8 (HE N x0) fun aT=>
 if aT=as5 then
  as4 as9
 else
  as8 (Ah N x0 N 0) fun bq=>
  match bq with
  |atf bz=>
   as8 (Ai N x0 N 0) fun c9=>
   match c9 with
   |atf cz=>
    as8 (iM 0 (x0.items.length:Int)) fun dT=>
    as8 (Ak N x0 N dT 0) fun jw=>
    match jw with
    |atf h5=>
     as8 (Am N h5 N 0) fun jx=>
     match jx with
     |atf nf=>
      as4 as5
     |ate mB=>
      as4 mB
    |ate lZ=>
     as4 lZ
   |ate fj=>
    as4 fj
  |ate mC=>
   as4 mC
def BU (N:Nat) (J:cO) (av:Int):Nat->(List eD)->Int->Option (List eD)
 |0,_,_=>as6
 |n+1,ak,ai=>
  as8 (aD J.aP av) fun a3=>
  if (decide (ai<(a3.length:Int)))=as5 then
   as8 (aD J.aP av) fun a7=>
   as8 (aD a7 ai) fun bj=>
   as8 (aD ak bj) fun bq=>
   as8 (aD ak bj) fun bz=>
   ay.lt (ak.set ((bj:Int).toNat) (eD.mk av ai)) fun bO=>
   ay.lt (ata .i64 (ai+1)) fun b3=>
   BU N J av n bO b3
  else
   as4 ak
def BT (N:Nat) (J:cO):Nat->(List eD)->Int->Option (List eD)
 |0,_,_=>as6
 |n+1,ak,av=>
  if (decide (av<(J.aP.length:Int)))=as5 then
   as8 (BU N J av N ak 0) fun cf=>
   ay.lt (ata .i64 (av+1)) fun b9=>
   BT N J n cf b9
  else
   as4 ak
def CR (N:Nat) (x0:cO):Option (List eD):=
 as8 (iM (eD.mk 0 0) (x0.items.length:Int)) fun aT=>
 as8 (BT N x0 N aT 0) fun cA=>
 as4 cA
def xw (N:Nat) (x0:cO) (J:List eD) (al:Int):Option Bool:=
 as8 (aD J al) fun aT=>
 as8 (aD x0.items al) fun a3=>
 as8 (aD x0.homes a3.ft) fun a7=>
 ay.lt (aT.bQ==a7) fun bj=>
 as4 bj
def HS (N:Nat) (x0:List eD) (J:Int) (al:Int):Option Bool:=
 as8 (aD x0 J) fun aT=>
 as8 (aD x0 al) fun a3=>
 if (aT.bQ==a3.bQ)=as5 then
  as8 (aD x0 J) fun a7=>
  as8 (aD x0 al) fun bj=>
  ay.lt (decide (bj.place<a7.place)) fun bq=>
  as4 bq
 else
  as4 as9
def vq (N:Nat) (x0:List eD) (J:Int) (al:Int):Option Bool:=
 as8 (HS N x0 J al) fun bz=>
 as4 bz
def HR (N:Nat) (J:Int) (al:Int) (ak:cO):Option Bool:=
 as8 (aD ak.items J) fun aT=>
 as8 (aD ak.items al) fun a3=>
 if (aT.ft==a3.ft)=as5 then
  as8 (aD ak.items J) fun a7=>
  as8 (aD ak.items al) fun bj=>
  ay.lt (decide (a7.block<bj.block)) fun bq=>
  as4 bq
 else
  as4 as9
def vp (N:Nat) (x0:cO) (J:Int) (al:Int):Option Bool:=
 as8 (HR N J al x0) fun bz=>
 as4 bz
def HQ (N:Nat) (J:List eD) (al:Int) (ak:Int) (av:cO):Option Bool:=
 as8 (xw N av J al) fun aT=>
 if aT=as5 then
  as8 (vq N J ak al) fun a3=>
  if a3=as5 then
   as8 (vp N av ak al) fun a7=>
   as4 a7
  else
   as4 as9
 else
  as4 as9
def xq (N:Nat) (x0:cO) (J:List eD) (al:Int) (ak:Int):Option Bool:=
 as8 (HQ N J al ak x0) fun bj=>
 as4 bj
def BQ (N:Nat) (J:List eD) (al:Int) (ak:cO):Nat->cZ->Int->Option (Sum (cZ) (cZ×Bool))
 |0,_,_=>as6
 |n+1,az,aC=>
  if (decide (aC<(ak.items.length:Int)))=as5 then
   as8 (xq N ak J al aC) fun a3=>
   if a3=as5 then
    as4 (ate ((cZ.mk al 3 aC 0),as5))
   else
    ay.lt (ata .i64 (aC+1)) fun a7=>
    BQ N J al ak n az a7
  else
   as4 (atf az)
def CQ (N:Nat) (x0:cO) (J:List eD) (al:Int):Option (cZ×Bool):=
 as8 (xw N x0 J al) fun aT=>
 if (!aT)=as5 then
  as4 ((cZ.mk al 1 (-1) 0),as5)
 else
  as8 (BQ N J al x0 N (cZ.mk 0 0 0 0) 0) fun bj=>
  match bj with
  |atf bq=>
   as4 ((cZ.mk 0 0 0 0),as9)
  |ate bz=>
   as4 (bz.1,bz.2)
def Jd (N:Nat) (J:List eD) (al:List Int) (ak:Int) (av:Int) (a8:Int):Option Bool:=
 as8 (aD al a8) fun aT=>
 if (decide (0<=aT))=as5 then
  as8 (aD al a8) fun a3=>
  if (decide (a3<av))=as5 then
   as8 (vq N J ak a8) fun a7=>
   as4 a7
  else
   as4 as9
 else
  as4 as9
def BR (N:Nat) (J:List eD) (al:List Int) (ak:Int) (av:Int) (ai:cO):Nat->cZ->Int->Option (Sum (cZ) (cZ×Bool))
 |0,_,_=>as6
 |n+1,aX,a8=>
  if (decide (a8<(ai.items.length:Int)))=as5 then
   as8 (Jd N J al ak av a8) fun bj=>
   if bj=as5 then
    as4 (ate ((cZ.mk ak 2 a8 av),as5))
   else
    ay.lt (ata .i64 (a8+1)) fun bq=>
    BR N J al ak av ai n aX bq
  else
   as4 (atf aX)
def Je (N:Nat) (al:List Int) (ak:Int) (av:Int) (ai:cO) (db:Int):Option Bool:=
 as8 (aD al db) fun b3=>
 if (decide (0<=b3))=as5 then
  as8 (aD al db) fun cf=>
  if (decide (cf<av))=as5 then
   as8 (vp N ai db ak) fun b9=>
   as4 b9
  else
   as4 as9
 else
  as4 as9
def BS (N:Nat) (al:List Int) (ak:Int) (av:Int) (ai:cO):Nat->cZ->Int->Option (Sum (cZ) (cZ×Bool))
 |0,_,_=>as6
 |n+1,aX,db=>
  if (decide (db<(ai.items.length:Int)))=as5 then
   as8 (Je N al ak av ai db) fun cA=>
   if cA=as5 then
    as4 (ate ((cZ.mk ak 3 db av),as5))
   else
    ay.lt (ata .i64 (db+1)) fun cI=>
    BS N al ak av ai n aX cI
  else
   as4 (atf aX)
def K1 (N:Nat) (x0:cO) (J:List eD) (al:List Int) (ak:Int) (av:Int):Option (cZ×Bool):=
 as8 (BR N J al ak av x0 N (cZ.mk 0 0 0 0) 0) fun bz=>
 match bz with
 |atf bO=>
  as8 (BS N al ak av x0 N bO 0) fun dg=>
  match dg with
  |atf dm=>
   as4 ((cZ.mk 0 0 0 0),as9)
  |ate dq=>
   as4 (dq.1,dq.2)
 |ate dx=>
  as4 (dx.1,dx.2)
def HB (N:Nat) (J:cO) (av:List eD) (ai:List cZ) (az:List Int) (aA:Int):Option (List cZ×List Int):=
 as8 (aD az aA) fun bq=>
 as8 (aD az aA) fun bz=>
 ay.lt (az.set ((aA:Int).toNat) (-1)) fun bO=>
 as8 (CQ N J av aA) fun b3=>
 if b3.2=as5 then
  as8 (aD ai aA) fun cf=>
  as8 (aD ai aA) fun b9=>
  ay.lt (ai.set ((aA:Int).toNat) b3.1) fun cA=>
  as8 (aD bO aA) fun cI=>
  as8 (aD bO aA) fun dg=>
  ay.lt (bO.set ((aA:Int).toNat) 0) fun dm=>
  as4 (cA,dm)
 else
  as4 (ai,bO)
def AO (N:Nat) (J:cO) (av:List eD):Nat->(List cZ)->(List Int)->Int->Option (List cZ×List Int)
 |0,_,_,_=>as6
 |n+1,ai,az,aA=>
  if (decide (aA<(az.length:Int)))=as5 then
   as8 (HB N J av ai az aA) fun dq=>
   ay.lt (ata .i64 (aA+1)) fun dx=>
   AO N J av n dq.1 dq.2 dx
  else
   as4 (ai,az)
def HC (N:Nat) (J:cO) (av:List eD) (ai:List cZ) (az:List Int) (aX:Int) (bk:Bool) (a8:Int):Option (List cZ×List Int×Bool):=
 as8 (aD az a8) fun cz=>
 as8 (aD az a8) fun dT=>
 if (decide (0<=dT))=as5 then
  as4 (ai,az,bk)
 else
  as8 (K1 N J av az a8 aX) fun eN=>
  if eN.2=as5 then
   as8 (aD ai a8) fun fi=>
   as8 (aD ai a8) fun ea=>
   ay.lt (ai.set ((a8:Int).toNat) eN.1) fun fe=>
   as8 (aD az a8) fun fQ=>
   as8 (aD az a8) fun fM=>
   ay.lt (az.set ((a8:Int).toNat) aX) fun fX=>
   as4 (fe,fX,as5)
  else
   as4 (ai,az,bk)
def AQ (N:Nat) (J:cO) (av:List eD) (aX:Int):Nat->(List cZ)->(List Int)->Bool->Int->Option (List cZ×List Int×Bool)
 |0,_,_,_,_=>as6
 |n+1,ai,az,bk,a8=>
  if (decide (a8<(az.length:Int)))=as5 then
   as8 (HC N J av ai az aX bk a8) fun gk=>
   ay.lt (ata .i64 (a8+1)) fun gW=>
   AQ N J av aX n gk.1 gk.2.1 gk.2.2 gW
  else
   as4 (ai,az,bk)
def AP (N:Nat) (J:cO) (av:List eD):Nat->(List cZ)->(List Int)->Int->Bool->Option (List cZ×List Int)
 |0,_,_,_,_=>as6
 |n+1,ai,az,aX,bk=>
  if bk=as5 then
   as8 (AQ N J av aX N ai az as9 0) fun gy=>
   ay.lt (ata .i64 (aX+1)) fun hT=>
   AP N J av n gy.1 gy.2.1 hT gy.2.2
  else
   as4 (ai,az)
def HD (N:Nat) (ai:List cZ) (az:List Int) (cy:List cZ) (di:Int):Option (List cZ):=
 as8 (aD az di) fun jf=>
 as8 (aD az di) fun jq=>
 if (decide (0<=jq))=as5 then
  as8 (aD ai di) fun jw=>
  as8 (aD ai di) fun h5=>
  as8 (cl cy ([h5]:List cZ)) fun jQ=>
  as4 jQ
 else
  as4 cy
def Ag (N:Nat) (ai:List cZ) (az:List Int):Nat->(List cZ)->Int->Option (List cZ)
 |0,_,_=>as6
 |n+1,cy,di=>
  if (decide (di<(az.length:Int)))=as5 then
   as8 (HD N ai az cy di) fun gd=>
   ay.lt (ata .i64 (di+1)) fun jR=>
   Ag N ai az n gd jR
  else
   as4 cy
def KZ (N:Nat) (x0:cO):Option (List cZ×Int):=
 as8 (CP N x0) fun aT=>
 if (!aT)=as5 then
  as4 ([],1)
 else
  as8 (CR N x0) fun a3=>
  as8 (iM (cZ.mk 0 0 0 0) (x0.items.length:Int)) fun a7=>
  as8 (iM 0 (x0.items.length:Int)) fun bj=>
  as8 (AO N x0 a3 N a7 bj 0) fun c9=>
  as8 (AP N x0 a3 N c9.1 c9.2 1 as5) fun gL=>
  as8 (Ag N gL.1 gL.2 N [] 0) fun jx=>
  as4 (jx,0)
def J6 (N:Nat) (x0:bu):Option bu:=
 as4 (bu.mk x0.c (bL.mk x0.y.cu x0.y.aP x0.y.cE as9 (fZ.mk [] (cS.mk [] 0) (gY.mk (eW.mk 0 []) []) 0 [] 0) as9) x0.e x0.r)
def G6 (N:Nat) (J:List eD) (av:cO) (aA:cZ):Option Bool:=
 if (aA.kx==(-1))=as5 then
  as8 (xw N av J aA.item) fun aT=>
  ay.lt (!aT) fun a3=>
  as4 a3
 else
  as4 as9
def G7 (N:Nat) (av:cO) (aZ:Int):Option Bool:=
 if (decide (aZ<0))=as5 then
  as4 as5
 else
  as4 (decide ((av.items.length:Int)<=aZ))
def G8 (N:Nat) (al:List Int) (aA:cZ) (aZ:Int):Option Bool:=
 as8 (aD al aZ) fun bq=>
 if (decide (0<=bq))=as5 then
  as8 (aD al aZ) fun bz=>
  ay.lt (decide (bz<aA.round)) fun bO=>
  as4 bO
 else
  as4 as9
def G9 (N:Nat) (J:List eD) (aA:cZ) (aZ:Int) (aX:Bool):Option Bool:=
 if aX=as5 then
  as8 (vq N J aA.item aZ) fun b9=>
  as4 b9
 else
  as4 as9
def Ha (N:Nat) (J:List eD) (av:cO) (aA:cZ) (aZ:Int) (aX:Bool):Option Bool:=
 if aX=as5 then
  as8 (vp N av aZ aA.item) fun dg=>
  if dg=as5 then
   as4 as5
  else
   if (aA.round==0)=as5 then
    as8 (xq N av J aA.item aZ) fun dm=>
    as4 dm
   else
    as4 as9
 else
  if (aA.round==0)=as5 then
   as8 (xq N av J aA.item aZ) fun dq=>
   as4 dq
  else
   as4 as9
def Kb (N:Nat) (x0:cO) (J:List eD) (al:List Int) (ak:cZ):Option Bool:=
 if (ak.reason==1)=as5 then
  as8 (G6 N J x0 ak) fun a7=>
  as4 a7
 else
  as8 (G7 N x0 ak.kx) fun bj=>
  if bj=as5 then
   as4 as9
  else
   as8 (G8 N al ak ak.kx) fun b3=>
   ay.lt (ak.reason==2) fun cf=>
   if cf=as5 then
    as8 (G9 N J ak ak.kx b3) fun cA=>
    as4 cA
   else
    ay.lt (ak.reason==3) fun cI=>
    if cI=as5 then
     as8 (Ha N J x0 ak ak.kx b3) fun dx=>
     as4 dx
    else
     as4 as9
def An (N:Nat):Nat->(List Int)->Int->Option (List Int)
 |0,_,_=>as6
 |n+1,az,aA=>
  if (decide (aA<(az.length:Int)))=as5 then
   as8 (aD az aA) fun a7=>
   as8 (aD az aA) fun bj=>
   ay.lt (az.set ((aA:Int).toNat) (-1)) fun bq=>
   ay.lt (ata .i64 (aA+1)) fun bz=>
   An N n bq bz
  else
   as4 az
def HI (N:Nat) (J:List cZ) (az:List Int) (aC:Int) (aZ:Int):Option Bool:=
 if (decide (aZ<0))=as5 then
  as4 as5
 else
  if (decide ((az.length:Int)<=aZ))=as5 then
   as4 as5
  else
   as8 (aD az aZ) fun cf=>
   as8 (aD az aZ) fun b9=>
   if (decide (0<=b9))=as5 then
    as4 as5
   else
    as8 (aD J aC) fun cA=>
    as4 (decide (cA.round<0))
def Ao (N:Nat) (J:List cZ):Nat->(List Int)->Int->Option (Sum (List Int) (Bool))
 |0,_,_=>as6
 |n+1,az,aC=>
  if (decide (aC<(J.length:Int)))=as5 then
   as8 (aD J aC) fun b3=>
   as8 (HI N J az aC b3.item) fun cI=>
   if cI=as5 then
    as4 (ate as9)
   else
    as8 (aD J aC) fun dg=>
    as8 (aD az b3.item) fun dm=>
    as8 (aD az b3.item) fun dq=>
    ay.lt (az.set ((b3.item:Int).toNat) dg.round) fun dx=>
    ay.lt (ata .i64 (aC+1)) fun c9=>
    Ao N J n dx c9
  else
   as4 (atf az)
def Ap (N:Nat) (J:List cZ) (al:cO) (ai:List eD) (az:List Int):Nat->Int->Option (Sum (Unit) (Bool))
 |0,_=>as6
 |n+1,aX=>
  if (decide (aX<(J.length:Int)))=as5 then
   as8 (aD J aX) fun eN=>
   as8 (Kb N al ai az eN) fun fi=>
   if (!fi)=as5 then
    as4 (ate as9)
   else
    ay.lt (ata .i64 (aX+1)) fun ea=>
    Ap N J al ai az n ea
  else
   as4 (atf ())
def Jc (N:Nat) (al:cO) (ai:List eD) (az:List Int) (bk:Int) (cw:Int):Option Bool:=
 as8 (aD az cw) fun gW=>
 as8 (aD az cw) fun gy=>
 if (decide (0<=gy))=as5 then
  as8 (vq N ai bk cw) fun hT=>
  if hT=as5 then
   as4 as5
  else
   as8 (vp N al cw bk) fun gL=>
   as4 gL
 else
  as4 as9
def BP (N:Nat) (al:cO) (ai:List eD) (az:List Int) (bk:Int):Nat->Int->Option (Sum (Unit) (Bool))
 |0,_=>as6
 |n+1,cw=>
  if (decide (cw<(az.length:Int)))=as5 then
   as8 (Jc N al ai az bk cw) fun jf=>
   if jf=as5 then
    as4 (ate as9)
   else
    ay.lt (ata .i64 (cw+1)) fun jq=>
    BP N al ai az bk n jq
  else
   as4 (atf ())
def Jb (N:Nat) (al:cO) (ai:List eD) (az:List Int) (bk:Int):Option (Sum (Unit) (Bool)):=
 as8 (aD az bk) fun fM=>
 as8 (aD az bk) fun fX=>
 if (decide (0<=fX))=as5 then
  as4 (atf ())
 else
  as8 (CQ N al ai bk) fun gk=>
  if gk.2=as5 then
   as4 (ate as9)
  else
   as8 (BP N al ai az bk N 0) fun jw=>
   match jw with
   |atf h5=>
    as4 (atf ())
   |ate jQ=>
    as4 (ate jQ)
def BO (N:Nat) (al:cO) (ai:List eD) (az:List Int):Nat->Int->Option (Sum (Unit) (Bool))
 |0,_=>as6
 |n+1,bk=>
  if (decide (bk<(az.length:Int)))=as5 then
   as8 (Jb N al ai az bk) fun gd=>
   match gd with
   |atf jR=>
    ay.lt (ata .i64 (bk+1)) fun jx=>
    BO N al ai az n jx
   |ate nf=>
    as4 (ate nf)
  else
   as4 (atf ())
def K0 (N:Nat) (x0:cO) (J:List cZ):Option Bool:=
 as8 (CR N x0) fun aT=>
 as8 (iM 0 (x0.items.length:Int)) fun a3=>
 as8 (An N N a3 0) fun bO=>
 as8 (Ao N J N bO 0) fun cz=>
 match cz with
 |atf dT=>
  as8 (Ap N J x0 aT dT N 0) fun fe=>
  match fe with
  |atf fQ=>
   as8 (BO N x0 aT dT N 0) fun mB=>
   match mB with
   |atf lZ=>
    as4 as5
   |ate fj=>
    as4 fj
  |ate mC=>
   as4 mC
 |ate nU=>
  as4 nU
def Av (N:Nat) (x0:List cZ) (J:Int):Nat->Int->Option (Sum (Unit) (Bool))
 |0,_=>as6
 |n+1,ai=>
  if (decide (ai<(x0.length:Int)))=as5 then
   as8 (aD x0 ai) fun aT=>
   if (aT.item==J)=as5 then
    as4 (ate as5)
   else
    ay.lt (ata .i64 (ai+1)) fun a3=>
    Av N x0 J n a3
  else
   as4 (atf ())
def KM (N:Nat) (x0:List cZ) (J:Int):Option Bool:=
 as8 (Av N x0 J N 0) fun a7=>
 match a7 with
 |atf bj=>
  as4 as9
 |ate bq=>
  as4 bq
def ID (N:Nat) (al:Int):Option Bool:=
 if (decide (al<0))=as5 then
  as4 as5
 else
  ay.lt (decide (12<al)) fun a7=>
  as4 a7
def IE (N:Nat) (J:List cZ) (ak:cO) (aZ:cS) (aX:List Int) (bk:Int) (a8:Int) (jO:List eV):Option (cS×List Int×List eV):=
 as8 (aD ak.aP bk) fun b3=>
 as8 (aD b3 a8) fun cf=>
 as8 (KM N J cf) fun b9=>
 if b9=as5 then
  as8 (aD ak.items cf) fun cA=>
  as8 (cl jO ([cA]:List eV)) fun cI=>
  as8 (cl aX ([cf]:List Int)) fun dg=>
  as4 ((cS.mk [] aZ.c0),dg,cI)
 else
  as4 ((cS.mk [] aZ.c0),aX,jO)
def Bh (N:Nat) (J:List cZ) (ak:cO) (bk:Int):Nat->cS->(List Int)->Int->(List eV)->Option (cS×List Int×List eV)
 |0,_,_,_,_=>as6
 |n+1,aZ,aX,a8,jO=>
  as8 (aD ak.aP bk) fun bO=>
  if (decide (a8<(bO.length:Int)))=as5 then
   as8 (IE N J ak (cS.mk [] aZ.c0) aX bk a8 jO) fun dm=>
   ay.lt (ata .i64 (a8+1)) fun dq=>
   Bh N J ak bk n (cS.mk [] dm.1.c0) dm.2.1 dq dm.2.2
  else
   as4 ((cS.mk [] aZ.c0),aX,jO)
def BN (N:Nat) (J:List cZ) (ak:cO):Nat->cS->(List Int)->Int->(List eV)->Option (cS×List Int×List eV)
 |0,_,_,_,_=>as6
 |n+1,aZ,aX,bk,jO=>
  if (decide (bk<(ak.aP.length:Int)))=as5 then
   as8 (Bh N J ak bk N (cS.mk [] aZ.c0) aX 0 jO) fun dx=>
   ay.lt (ata .i64 (bk+1)) fun c9=>
   BN N J ak n (cS.mk [] dx.1.c0) dx.2.1 c9 dx.2.2
  else
   as4 ((cS.mk [] aZ.c0),aX,jO)
def Lp (N:Nat) (x0:cO) (J:List cZ) (al:Int):Option (cS×List Int×Int):=
 as8 (CP N x0) fun aT=>
 ay.lt (!aT) fun a3=>
 if a3=as5 then
  as4 ((cS.mk [] 0),[],1)
 else
  as8 (ID N al) fun bj=>
  if bj=as5 then
   as4 ((cS.mk [] 0),[],2)
  else
   as8 (K0 N x0 J) fun bq=>
   ay.lt (!bq) fun bz=>
   if bz=as5 then
    as4 ((cS.mk [] 0),[],17)
   else
    as8 (BN N J x0 N (cS.mk [] al) [] 0 []) fun cz=>
    as4 ((cS.mk cz.2.2 cz.1.c0),cz.2.1,0)
def J7 (N:Nat) (x0:bu) (J:Int) (al:Int) (cq:List dh):Option (Bool×List dh×bu):=
 as8 (pA N x0.y.aP J) fun aT=>
 as8 (te N x0.y.cu) fun a3=>
 as8 (tf N x0.c.aP a3 x0.y.aP (dh.mk J aT.1 al as9)) fun a7=>
 if (a7.2 !=0)=as5 then
  as4 (as9,cq,(fG x0))
 else
  as8 (cl cq ([(dh.mk J aT.1 al as9)]:List dh)) fun bj=>
  as4 (as5,bj,(bu.mk x0.c (bL.mk x0.y.cu a7.1 x0.y.cE x0.y.busy x0.y.bF x0.y.dF) x0.e (ec.mk x0.r.err [] x0.r.proof x0.r.gb x0.r.final x0.r.er x0.r.place)))
def Hi (N:Nat) (av:List Int) (aC:cZ) (JT:Bool):Option cZ:=
 if JT=as5 then
  as8 (aD av aC.kx) fun dg=>
  as8 (aD av aC.kx) fun dm=>
  as4 (cZ.mk aC.item aC.reason dm aC.round)
 else
  as4 aC
def zT (N:Nat) (av:List Int) (ai:List cZ):Nat->bu->Int->(List cZ)->Option (bu×List cZ)
 |0,_,_,_=>as6
 |n+1,x0,aA,kX=>
  if (decide (aA<(ai.length:Int)))=as5 then
   as8 (aD ai aA) fun cf=>
   as8 (aD ai aA) fun b9=>
   as8 (aD av b9.item) fun cA=>
   as8 (aD av b9.item) fun cI=>
   as8 (Hi N av (cZ.mk cI b9.reason b9.kx b9.round) (decide (0<=b9.kx))) fun dq=>
   as8 (cl kX ([dq]:List cZ)) fun dx=>
   ay.lt (ata .i64 (aA+1)) fun c9=>
   zT N av ai n (xn x0) c9 dx
  else
   as4 ((xn x0),kX)
def zU (N:Nat) (av:List Int) (aX:List Int):Nat->(List Int)->Int->Option (List Int)
 |0,_,_=>as6
 |n+1,a8,db=>
  if (decide (db<(aX.length:Int)))=as5 then
   as8 (aD aX db) fun eN=>
   as8 (aD aX db) fun fi=>
   as8 (aD av fi) fun ea=>
   as8 (aD av fi) fun fe=>
   as8 (cl a8 ([fe]:List Int)) fun fQ=>
   ay.lt (ata .i64 (db+1)) fun fM=>
   zU N av aX n fQ fM
  else
   as4 a8
def Hj (N:Nat) (a8:List Int) (cw:List (List Int)) (cy:Int) (di:List Int) (eQ:Int):Option (List (List Int)×List Int):=
 as8 (aD cw cy) fun hT=>
 as8 (aD cw cy) fun gL=>
 as8 (aD gL eQ) fun jf=>
 as8 (aD gL eQ) fun jq=>
 as8 (th N a8 jq) fun jw=>
 if (!jw)=as5 then
  as8 (aD (cw.set ((cy:Int).toNat) gL) cy) fun h5=>
  as8 (aD (cw.set ((cy:Int).toNat) gL) cy) fun jQ=>
  as8 (aD jQ eQ) fun gd=>
  as8 (aD jQ eQ) fun jR=>
  as8 (cl di ([jR]:List Int)) fun jx=>
  as4 (((cw.set ((cy:Int).toNat) gL).set ((cy:Int).toNat) jQ),jx)
 else
  as4 ((cw.set ((cy:Int).toNat) gL),di)
def zW (N:Nat) (a8:List Int) (cy:Int):Nat->(List (List Int))->(List Int)->Int->Option (List (List Int)×List Int)
 |0,_,_,_=>as6
 |n+1,cw,di,eQ=>
  as8 (aD cw cy) fun gW=>
  as8 (aD cw cy) fun gy=>
  if (decide (eQ<(gy.length:Int)))=as5 then
   as8 (Hj N a8 (cw.set ((cy:Int).toNat) gy) cy di eQ) fun nf=>
   ay.lt (ata .i64 (eQ+1)) fun mB=>
   zW N a8 cy n nf.1 nf.2 mB
  else
   as4 ((cw.set ((cy:Int).toNat) gy),di)
def zV (N:Nat) (a8:List Int):Nat->(List (List Int))->Int->Option (List (List Int))
 |0,_,_=>as6
 |n+1,cw,cy=>
  if (decide (cy<(cw.length:Int)))=as5 then
   as8 (zW N a8 cy N cw ([]:List Int) 0) fun lZ=>
   as8 (aD lZ.1 cy) fun fj=>
   as8 (aD lZ.1 cy) fun mC=>
   ay.lt (ata .i64 (cy+1)) fun nU=>
   zV N a8 n (lZ.1.set ((cy:Int).toNat) lZ.2) nU
  else
   as4 cw
def Hk (N:Nat) (x0:bu) (cw:List (List Int)) (e8:Bool) (eF:Int):Option (List (List Int)×Bool):=
 if e8=as5 then
  as8 (aD x0.e.aP eF) fun rR=>
  as8 (aD cw rR) fun Cw=>
  as8 (aD cw rR) fun xj=>
  ay.lt ((xj.length:Int)==0) fun rS=>
  as4 ((cw.set ((rR:Int).toNat) xj),rS)
 else
  as4 (cw,as9)
def AR (N:Nat) (x0:bu):Nat->(List (List Int))->Bool->Int->Option (List (List Int)×Bool)
 |0,_,_,_=>as6
 |n+1,cw,e8,eF=>
  if (decide (eF<(x0.e.aP.length:Int)))=as5 then
   as8 (Hk N (xn x0) cw e8 eF) fun tb=>
   ay.lt (ata .i64 (eF+1)) fun xk=>
   AR N x0 n tb.1 tb.2 xk
  else
   as4 (cw,e8)
def AS (N:Nat) (a8:List Int):Nat->bu->Int->(List dh)->Option (bu×List dh)
 |0,_,_,_=>as6
 |n+1,x0,px,cq=>
  if (decide (px<(a8.length:Int)))=as5 then
   as8 (aD a8 px) fun QA=>
   as8 (aD a8 px) fun QB=>
   as8 (J7 N (fG x0) QB x0.e.bQ cq) fun JV=>
   ay.lt (ata .i64 (px+1)) fun Cx=>
   AS N a8 n (fG JV.2.2) Cx JV.2.1
  else
   as4 ((fG x0),cq)
def Ki (N:Nat) (x0:bu) (cq:List dh) (kX:List cZ):Option (Int×bu):=
 ay.lt (!x0.y.dF) fun aT=>
 if aT=as5 then
  as4 (16,(bu.mk x0.c x0.y x0.e (ec.mk x0.r.err cq x0.r.proof kX x0.r.final x0.r.er x0.r.place)))
 else
  as8 (Kf N (bu.mk x0.c x0.y x0.e (ec.mk x0.r.err cq x0.r.proof kX x0.r.final x0.r.er x0.r.place))) fun a3=>
  ay.lt (!a3) fun a7=>
  if a7=as5 then
   as4 (2,(bu.mk x0.c x0.y x0.e (ec.mk x0.r.err cq x0.r.proof kX x0.r.final x0.r.er x0.r.place)))
  else
   as8 (KF N (bu.mk x0.c x0.y x0.e (ec.mk x0.r.err cq x0.r.proof kX x0.r.final x0.r.er x0.r.place))) fun bj=>
   ay.lt (!bj) fun bq=>
   if bq=as5 then
    as4 (17,(bu.mk x0.c x0.y x0.e (ec.mk x0.r.err cq x0.r.proof kX x0.r.final x0.r.er x0.r.place)))
   else
    as8 (Lj N x0.y.cu x0.y.aP x0.y.cE x0.y.bF.cu) fun bz=>
    if (decide (96<(bz.2.length:Int)))=as5 then
     as4 (3,(bu.mk x0.c x0.y x0.e (ec.mk x0.r.err cq x0.r.proof kX x0.r.final x0.r.er x0.r.place)))
    else
     as8 (KZ N bz.1) fun bO=>
     if ((bO.1.length:Int)==0)=as5 then
      as8 (J6 N (bu.mk x0.c x0.y x0.e (ec.mk x0.r.err cq x0.r.proof kX x0.r.final x0.r.er x0.r.place))) fun b3=>
      as4 (0,b3)
     else
      as8 (zT N bz.2 bO.1 N (xn x0) 0 kX) fun cz=>
      as8 (Lp N bz.1 bO.1 cz.1.e.c0) fun dT=>
      as8 (zU N bz.2 dT.2.1 N [] 0) fun fX=>
      as8 (xx N cz.1.y.aP) fun gk=>
      as8 (zV N fX N gk 0) fun qw=>
      as8 (aD qw cz.1.e.bQ) fun kY=>
      as8 (aD qw cz.1.e.bQ) fun rQ=>
      ay.lt ((rQ.length:Int)==0) fun vk=>
      as8 (AR N (xn cz.1) N (qw.set ((cz.1.e.bQ:Int).toNat) rQ) vk 0) fun xl=>
      if (!xl.2)=as5 then
       as4 (17,(bu.mk cz.1.c cz.1.y cz.1.e (ec.mk cz.1.r.err cq cz.1.r.proof cz.2 cz.1.r.final cz.1.r.er cz.1.r.place)))
      else
       as8 (CY N cz.1.y fX) fun Qy=>
       as8 (aD cz.1.c.aP cz.1.e.bQ) fun Qz=>
       if (decide (Qz.length<Qy))=as5 then
        as4 (14,(bu.mk cz.1.c cz.1.y cz.1.e (ec.mk cz.1.r.err cq cz.1.r.proof cz.2 cz.1.r.final cz.1.r.er cz.1.r.place)))
       else
        as8 (CV N dT.1) fun vl=>
        if (vl.2 !=0)=as5 then
         as4 (vl.2,(bu.mk cz.1.c cz.1.y cz.1.e (ec.mk cz.1.r.err cq cz.1.r.proof cz.2 cz.1.r.final cz.1.r.er cz.1.r.place)))
        else
         as8 (CZ N cz.1.c cz.1.y dT.1 vl.1.fA cz.1.e.aP (List.map (fun (z:List Int)=>z) xl.1)) fun JU=>
         if (!JU)=as5 then
          as4 (14,(bu.mk cz.1.c cz.1.y cz.1.e (ec.mk cz.1.r.err cq cz.1.r.proof cz.2 cz.1.r.final cz.1.r.er cz.1.r.place)))
         else
          as8 (AS N fX N (bu.mk cz.1.c cz.1.y cz.1.e (ec.mk cz.1.r.err [] cz.1.r.proof cz.2 cz.1.r.final cz.1.r.er cz.1.r.place)) 0 cq) fun oK=>
          as8 (CH N (bu.mk oK.1.c oK.1.y oK.1.e (ec.mk oK.1.r.err oK.2 oK.1.r.proof oK.1.r.gb oK.1.r.final oK.1.r.er oK.1.r.place)) fX dT.1 vl.1) fun jg=>
          as4 (0,(bu.mk jg.2.2.2.c (bL.mk jg.2.2.2.y.cu jg.2.2.2.y.aP jg.2.2.2.y.cE jg.2.2.2.y.busy (fZ.mk jg.2.2.2.y.bF.cu jg.2.2.2.y.bF.ia jg.2.2.2.y.bF.proof jg.2.2.2.y.bF.lead jg.1 jg.2.2.2.y.bF.iQ) jg.2.2.2.y.dF) jg.2.2.2.e (ec.mk jg.2.2.2.r.err jg.2.2.2.r.vd (gY.mk (eW.mk jg.2.2.2.r.proof.fA.steps jg.2.1) jg.2.2.1) jg.2.2.2.r.gb jg.2.2.2.r.final jg.2.2.2.r.er jg.2.2.2.r.place)))
def HZ (N:Nat) (x0:List (List Int)) (J:Int) (al:Int):Option Bool:=
 if (decide (J<0))=as5 then
  as4 as5
 else
  if (decide ((x0.length:Int)<=J))=as5 then
   as4 as5
  else
   if (decide (al<0))=as5 then
    as4 as5
   else
    if (decide ((x0.length:Int)<=al))=as5 then
     as4 as5
    else
     as4 (J==al)
def H0 (N:Nat) (x0:List (List Int)) (J:Int) (ak:Int):Option Bool:=
 if (decide (ak<0))=as5 then
  as4 as5
 else
  as8 (aD x0 J) fun a3=>
  as4 (decide ((a3.length:Int)<ak))
def AB (N:Nat) (x0:List (List Int)) (J:Int) (al:Int):Nat->(List dh)->Int->Option (List dh)
 |0,_,_=>as6
 |n+1,aX,bk=>
  as8 (aD x0 J) fun bz=>
  if (decide (bk<(bz.length:Int)))=as5 then
   as8 (aD x0 J) fun bO=>
   as8 (aD bO bk) fun b3=>
   as8 (cl aX ([(dh.mk b3 J al as9)]:List dh)) fun cf=>
   ay.lt (ata .i64 (bk+1)) fun b9=>
   AB N x0 J al n cf b9
  else
   as4 aX
def KR (N:Nat) (x0:List (List Int)) (J:Int) (al:Int) (ak:Int):Option (List dh×Int):=
 as8 (HZ N x0 J al) fun aT=>
 if aT=as5 then
  as4 ([],2)
 else
  as8 (H0 N x0 J ak) fun a7=>
  if a7=as5 then
   as4 ([],13)
  else
   as8 (aD x0 J) fun bj=>
   ay.lt (ata .i64 ((bj.length:Int) - ak)) fun bq=>
   as8 (AB N x0 J al N [] bq) fun cA=>
   as4 (cA,0)
def J3 (N:Nat) (x0:bu) (J:Int) (al:Int) (cq:List dh):Option (Bool×List dh×bu):=
 as8 (pA N x0.y.aP J) fun aT=>
 as8 (te N x0.y.cu) fun a3=>
 as8 (tf N x0.c.aP a3 x0.y.aP (dh.mk J aT.1 al as9)) fun a7=>
 if (a7.2 !=0)=as5 then
  as4 (as9,cq,(fG x0))
 else
  as8 (cl cq ([(dh.mk J aT.1 al as9)]:List dh)) fun bj=>
  as4 (as5,bj,(bu.mk x0.c (bL.mk x0.y.cu a7.1 x0.y.cE x0.y.busy x0.y.bF x0.y.dF) x0.e (ec.mk x0.r.err [] x0.r.proof x0.r.gb x0.r.final x0.r.er x0.r.place)))
def Iu (N:Nat) (x0:bu):Option Bool:=
 as8 (pB N x0.c x0.e.bQ) fun aT=>
 if (!aT)=as5 then
  as4 as5
 else
  as8 (pB N x0.c x0.e.to) fun a3=>
  ay.lt (!a3) fun a7=>
  as4 a7
def Iv (N:Nat) (x0:bu):Option Bool:=
 if (x0.e.bQ==x0.e.to)=as5 then
  as4 as5
 else
  as8 (qy N x0.y x0.e.bQ) fun bq=>
  if bq=as5 then
   as4 as5
  else
   as8 (qy N x0.y x0.e.to) fun bz=>
   as4 bz
def Iw (N:Nat) (x0:bu):Option Bool:=
 if (decide (x0.e.count<1))=as5 then
  as4 as5
 else
  as8 (aD x0.y.aP x0.e.bQ) fun b3=>
  ay.lt (decide ((b3.length:Int)<x0.e.count)) fun cf=>
  as4 cf
def A8 (N:Nat) (ak:List dh):Nat->bu->Int->(List dh)->Option (Sum (bu×List dh) (bu×Int×List dh))
 |0,_,_,_=>as6
 |n+1,x0,ai,cq=>
  if (decide (ai<(ak.length:Int)))=as5 then
   as8 (aD ak ai) fun cI=>
   as8 (aD ak ai) fun dg=>
   as8 (J3 N (fG x0) dg.oD x0.e.to cq) fun dm=>
   if (!dm.1)=as5 then
    as4 (ate ((fG dm.2.2),14,dm.2.1))
   else
    ay.lt (ata .i64 (ai+1)) fun dq=>
    A8 N ak n (fG dm.2.2) dq dm.2.1
  else
   as4 (atf ((fG x0),cq))
def KH (N:Nat) (x0:bu) (cq:List dh):Option (Int×List dh×bu):=
 if x0.y.busy=as5 then
  as4 (25,cq,(fG x0))
 else
  as8 (Iu N (fG x0)) fun bj=>
  if bj=as5 then
   as4 (2,cq,(fG x0))
  else
   as8 (Iv N (fG x0)) fun bO=>
   if bO=as5 then
    as4 (17,cq,(fG x0))
   else
    as8 (Iw N (fG x0)) fun b9=>
    if b9=as5 then
     as4 (13,cq,(fG x0))
    else
     as8 (KR N x0.y.aP x0.e.bQ x0.e.to x0.e.count) fun cA=>
     as8 (A8 N cA.1 N (fG x0) 0 cq) fun dx=>
     match dx with
     |atf c9=>
      as4 (0,c9.2,(fG c9.1))
     |ate cz=>
      as4 (cz.2.1,cz.2.2,(fG cz.1))
def K7 (N:Nat) (x0:du) (J:cb) (al:List b8):Option Int:=
 as8 (CB N x0) fun aT=>
 if (aT !=0)=as5 then
  as4 aT
 else
  as8 (CD N x0 J) fun a3=>
  if (!a3)=as5 then
   as4 1
  else
   as8 (vn N al) fun a7=>
   as4 a7
def AA (N:Nat) (J:List b8) (al:cb):Nat->(List Int)->Int->Option (Sum (List Int) (Int×Int))
 |0,_,_=>as6
 |n+1,aA,aC=>
  if (decide (aC<(J.length:Int)))=as5 then
   as8 (aD J aC) fun aT=>
   as8 (vr N al aT.dest) fun a3=>
   if (decide (a3<0))=as5 then
    as4 (ate (aC,7))
   else
    as8 (cl aA ([a3]:List Int)) fun a7=>
    ay.lt (ata .i64 (aC+1)) fun bj=>
    AA N J al n a7 bj
  else
   as4 (atf aA)
def KQ (N:Nat) (x0:cb) (J:List b8):Option (List Int×Int×Int):=
 as8 (AA N J x0 N [] 0) fun bq=>
 match bq with
 |atf bz=>
  as4 (bz,(-1),0)
 |ate bO=>
  as4 ([],bO.1,bO.2)
def AK (N:Nat) (x0:List b8):Nat->Int->Int->Int->Int->Option (Int×Int×Int)
 |0,_,_,_,_=>as6
 |n+1,al,ak,av,aA=>
  if (decide (aA<(x0.length:Int)))=as5 then
   as8 (aD x0 aA) fun a3=>
   ay.lt (ata .i64 (al+a3.length)) fun a7=>
   as8 (aD x0 aA) fun bj=>
   ay.lt (ata .i64 (ak+bj.hQ)) fun bq=>
   as8 (aD x0 aA) fun bz=>
   ay.lt (ata .i64 (av+bz.jB)) fun bO=>
   ay.lt (ata .i64 (aA+1)) fun b3=>
   AK N x0 n a7 bq bO b3
  else
   as4 (al,ak,av)
def KW (N:Nat) (x0:List b8):Option (Int×Int×Int×Int):=
 as8 (vn N x0) fun aT=>
 if (aT !=0)=as5 then
  as4 (0,0,0,aT)
 else
  as8 (AK N x0 N 0 0 0 0) fun cf=>
  as4 (cf.1,cf.2.1,cf.2.2,0)
def Bi (N:Nat) (x0:List Int) (J:Int):Nat->Int->Option (Sum (Unit) (Bool))
 |0,_=>as6
 |n+1,ai=>
  if (decide (ai<(x0.length:Int)))=as5 then
   as8 (aD x0 ai) fun aT=>
   if (aT==J)=as5 then
    as4 (ate as5)
   else
    ay.lt (ata .i64 (ai+1)) fun a3=>
    Bi N x0 J n a3
  else
   as4 (atf ())
def xA (N:Nat) (x0:List Int) (J:Int):Option Bool:=
 as8 (Bi N x0 J N 0) fun a7=>
 match a7 with
 |atf bj=>
  as4 as9
 |ate bq=>
  as4 bq
def KO (N:Nat) (x0:Int):Option Int:=
 if (decide (x0<=5000))=as5 then
  as4 100
 else
  if (decide (7000<x0))=as5 then
   as4 80
  else
   ay.lt (ata .i64 (100 - (ata .i64 (at5 (ata .i64 ((ata .i64 (x0 - 5000))+99)) 100)))) fun aT=>
   as4 aT
def Jf (N:Nat) (x0:List b8) (J:List Int) (aX:Int):Option Bool:=
 as8 (aD J aX) fun a3=>
 if (decide (a3<0))=as5 then
  as4 as5
 else
  as8 (aD J aX) fun a7=>
  as4 (decide ((x0.length:Int)<=a7))
def BV (N:Nat) (x0:List b8) (J:List Int):Nat->fp->Int->Option (Sum (fp) (fp×Int))
 |0,_,_=>as6
 |n+1,av,aX=>
  if (decide (aX<(J.length:Int)))=as5 then
   as8 (Jf N x0 J aX) fun bj=>
   if bj=as5 then
    as4 (ate ((fp.mk 0 0 0 0 0 0 0),2))
   else
    ay.lt (ata .i64 (aX+1)) fun bq=>
    BV N x0 J n av bq
  else
   as4 (atf av)
def BW (N:Nat) (J:List Int):Nat->fp->Int->Option (Sum (fp) (fp×Int))
 |0,_,_=>as6
 |n+1,av,bk=>
  if (decide (bk<(J.length:Int)))=as5 then
   as8 (hj J 0 bk) fun b3=>
   as8 (aD J bk) fun cf=>
   as8 (xA N b3 cf) fun b9=>
   if b9=as5 then
    as4 (ate ((fp.mk 0 0 0 0 0 0 0),8))
   else
    ay.lt (ata .i64 (bk+1)) fun cA=>
    BW N J n av cA
  else
   as4 (atf av)
def Jg (N:Nat) (x0:List b8) (J:List Int) (a8:fp) (db:Int):Option fp:=
 as8 (xA N J db) fun dm=>
 if (!dm)=as5 then
  as8 (aD x0 db) fun dq=>
  as4 (fp.mk a8.length a8.jB a8.hQ (ata .i64 (a8.mJ+dq.oR)) a8.kG a8.required a8.oq)
 else
  as4 a8
def BX (N:Nat) (x0:List b8) (J:List Int):Nat->fp->Int->Option fp
 |0,_,_=>as6
 |n+1,a8,db=>
  if (decide (db<(x0.length:Int)))=as5 then
   as8 (Jg N x0 J a8 db) fun dx=>
   ay.lt (ata .i64 (db+1)) fun c9=>
   BX N x0 J n dx c9
  else
   as4 a8
def Jh (N:Nat) (aA:Int) (a8:fp) (JS:Bool):Option fp:=
 if JS=as5 then
  as8 (tx (ata .i64 (100*a8.mJ)) aA) fun eN=>
  as4 (fp.mk a8.length a8.jB a8.hQ a8.mJ (ata .i64 (eN)) a8.required a8.oq)
 else
  as4 a8
def xu (N:Nat) (x0:List b8) (J:List Int):Option (fp×Int):=
 as8 (KW N x0) fun aT=>
 if (aT.2.2.2 !=0)=as5 then
  as4 ((fp.mk 0 0 0 0 0 0 0),aT.2.2.2)
 else
  as8 (BV N x0 J N (fp.mk 0 0 0 0 0 0 0) 0) fun bz=>
  match bz with
  |atf bO=>
   as8 (BW N J N bO 0) fun cI=>
   match cI with
   |atf dg=>
    as8 (BX N x0 J N (fp.mk aT.1 aT.2.2.1 aT.2.1 0 0 0 0) 0) fun cz=>
    as8 (KO N aT.1) fun dT=>
    as8 (Jh N aT.2.1 (fp.mk cz.length cz.jB cz.hQ (ata .i64 (at5 (ata .i64 (cz.mJ*dT)) 100)) cz.kG cz.required cz.oq) (decide (0<aT.2.1))) fun fi=>
    as4 (fi,0)
   |ate ea=>
    as4 (ea.1,ea.2)
  |ate fe=>
   as4 (fe.1,fe.2)
def IU (N:Nat) (x0:List gp) (J:Int) (al:Int) (aC:Int) (aZ:Bool) (aX:Int):Option Bool:=
 as8 (aD x0 aX) fun aT=>
 if (decide (J<=aT.speed))=as5 then
  as8 (aD x0 aX) fun a3=>
  if (decide (al<=a3.kA))=as5 then
   if (!aZ)=as5 then
    as4 as5
   else
    as8 (aD x0 aX) fun a7=>
    as4 (decide (a7.kG<aC))
  else
   as4 as9
 else
  as4 as9
def IT (N:Nat) (x0:List gp) (J:Int) (al:Int) (aC:Int) (aZ:Bool) (aX:Int):Option (Int×Bool):=
 as8 (IU N x0 J al aC aZ aX) fun bj=>
 if bj=as5 then
  as8 (aD x0 aX) fun bq=>
  as4 (bq.kG,as5)
 else
  as4 (aC,aZ)
def Bv (N:Nat) (x0:List gp) (J:Int) (al:Int):Nat->Int->Bool->Int->Option (Int×Bool)
 |0,_,_,_=>as6
 |n+1,aC,aZ,aX=>
  if (decide (aX<(x0.length:Int)))=as5 then
   as8 (IT N x0 J al aC aZ aX) fun bz=>
   ay.lt (ata .i64 (aX+1)) fun bO=>
   Bv N x0 J al n bz.1 bz.2 bO
  else
   as4 (aC,aZ)
def Lh (N:Nat) (x0:List gp) (J:Int) (al:Int):Option (Int×Bool):=
 as8 (Bv N x0 J al N 0 as9 0) fun b3=>
 as4 (b3.1,b3.2)
def Ib (N:Nat) (J:Int) (al:Int):Option Bool:=
 if (decide (J<1))=as5 then
  as4 as5
 else
  if (decide (200<J))=as5 then
   as4 as5
  else
   if (decide (al<0))=as5 then
    as4 as5
   else
    as4 (decide (500<al))
def Kq (N:Nat) (x0:List gp) (J:Int) (al:Int):Option (Int×Int):=
 as8 (CC N x0) fun aT=>
 if (!aT)=as5 then
  as4 (0,1)
 else
  as8 (Ib N J al) fun a3=>
  if a3=as5 then
   as4 (0,2)
  else
   as8 (Lh N x0 J al) fun a7=>
   if (!a7.2)=as5 then
    as4 (0,15)
   else
    as4 (a7.1,0)
def K2 (N:Nat) (x0:List b8) (J:List Int) (al:List gp) (ak:Int) (av:Int):Option (fp×Int):=
 as8 (xu N x0 J) fun aT=>
 if (aT.2 !=0)=as5 then
  as4 ((fp.mk 0 0 0 0 0 0 0),aT.2)
 else
  as8 (Kq N al ak av) fun a3=>
  if (a3.2 !=0)=as5 then
   as4 ((fp.mk 0 0 0 0 0 0 0),a3.2)
  else
   as4 ((fp.mk aT.1.length aT.1.jB aT.1.hQ aT.1.mJ aT.1.kG a3.1 (max 0 (ata .i64 ((ata .i64 (at5 (ata .i64 ((ata .i64 (a3.1*aT.1.hQ))+99)) 100)) - aT.1.mJ)))),0)
def Li (N:Nat) (x0:Int) (J:b8):Option Int:=
 ay.lt (x0==1) fun aT=>
 if aT=as5 then
  as4 J.length
 else
  ay.lt (x0==2) fun a3=>
  if a3=as5 then
   as4 J.jB
  else
   as4 J.hQ
def Im (N:Nat) (al:Int) (ak:Int) (av:b8) (ai:b8):Option Bool:=
 if (av.lI==al)=as5 then
  if (ai.lI==ak)=as5 then
   as4 as5
  else
   if (av.lI==ak)=as5 then
    ay.lt (ai.lI==al) fun aT=>
    as4 aT
   else
    as4 as9
 else
  if (av.lI==ak)=as5 then
   ay.lt (ai.lI==al) fun a3=>
   as4 a3
  else
   as4 as9
def KC (N:Nat) (x0:b8) (J:b8) (al:Int) (ak:Int):Option Bool:=
 as8 (Im N al ak x0 J) fun a7=>
 as4 a7
def HV (N:Nat) (a8:Int) (db:Bool):Option Bool:=
 if db=as5 then
  as4 db
 else
  ay.lt (a8==2) fun a3=>
  if a3=as5 then
   as4 a3
  else
   ay.lt (a8==3) fun a7=>
   as4 a7
def Ax (N:Nat) (J:List b8) (al:Int) (ak:en):Nat->Int->Int->Option Int
 |0,_,_=>as6
 |n+1,aA,aC=>
  if (decide (aC<=al))=as5 then
   as8 (aD J aC) fun bq=>
   as8 (Li N ak.kind bq) fun bz=>
   ay.lt (ata .i64 (aA+bz)) fun bO=>
   ay.lt (ata .i64 (aC+1)) fun b3=>
   Ax N J al ak n bO b3
  else
   as4 aA
def HW (N:Nat) (J:List b8) (al:Int) (ak:en) (aZ:Int):Option Bool:=
 as8 (aD J aZ) fun cI=>
 as8 (aD J al) fun dg=>
 as8 (KC N cI dg ak.a ak.b) fun dm=>
 if dm=as5 then
  as4 (decide ((ata .i64 ((ata .i64 (al - aZ)) - 1))<ak.c))
 else
  as4 as9
def Ay (N:Nat) (J:List b8) (al:Int) (ak:en):Nat->Int->Option (Sum (Unit) (Bool))
 |0,_=>as6
 |n+1,aZ=>
  if (decide (aZ<al))=as5 then
   as8 (HW N J al ak aZ) fun dq=>
   if dq=as5 then
    as4 (ate as5)
   else
    ay.lt (ata .i64 (aZ+1)) fun dx=>
    Ay N J al ak n dx
  else
   as4 (atf ())
def HX (N:Nat) (J:List b8) (al:Int) (ak:en):Option Bool:=
 as8 (aD J al) fun fi=>
 if (fi.lI==ak.a)=as5 then
  ay.lt (decide (al<ak.b)) fun ea=>
  as4 ea
 else
  as4 as9
def Az (N:Nat) (J:List b8):Nat->Int->Int->Option Int
 |0,_,_=>as6
 |n+1,aA,aX=>
  if (decide (aX<(J.length:Int)))=as5 then
   as8 (aD J aX) fun hT=>
   ay.lt (ata .i64 (aA+hT.hQ)) fun gL=>
   ay.lt (ata .i64 (aX+1)) fun jf=>
   Az N J n gL jf
  else
   as4 aA
def HY (N:Nat) (J:List b8) (al:Int) (ak:en) (aA:Int):Option Bool:=
 as8 (aD J al) fun jw=>
 if (decide (jw.hQ<=ak.a))=as5 then
  ay.lt (decide (ak.b<aA)) fun h5=>
  as4 h5
 else
  as4 as9
def HU (N:Nat) (J:List b8) (al:Int) (ak:en) (aA:Int) (a8:Int):Option (Sum (Unit) (Bool)):=
 ay.lt (a8==1) fun aT=>
 as8 (HV N a8 aT) fun bj=>
 if bj=as5 then
  as8 (Ax N J al ak N aA 0) fun cf=>
  ay.lt (decide (ak.a<cf)) fun b9=>
  as4 (ate b9)
 else
  ay.lt (a8==5) fun cA=>
  if cA=as5 then
   as8 (Ay N J al ak N 0) fun c9=>
   match c9 with
   |atf cz=>
    as4 (atf ())
   |ate dT=>
    as4 (ate dT)
  else
   ay.lt (a8==6) fun eN=>
   if eN=as5 then
    as8 (HX N J al ak) fun fe=>
    as4 (ate fe)
   else
    ay.lt (a8==8) fun fQ=>
    if fQ=as5 then
     as8 (aD J al) fun fM=>
     as8 (aD J al) fun fX=>
     ay.lt (decide ((ata .i64 (ak.a*fX.jB))<fM.hQ)) fun gk=>
     as4 (ate gk)
    else
     ay.lt (a8==9) fun gW=>
     if gW=as5 then
      ay.lt (ata .i64 (al+1)) fun gy=>
      as8 (Az N J N aA gy) fun jq=>
      as8 (HY N J al ak jq) fun jQ=>
      as4 (ate jQ)
     else
      as4 (atf ())
def KP (N:Nat) (x0:en) (J:List b8) (al:Int):Option Bool:=
 as8 (HU N J al x0 0 x0.kind) fun gd=>
 match gd with
 |atf jR=>
  as4 as9
 |ate jx=>
  as4 jx
def Ji (N:Nat) (ak:en) (aA:Int) (aC:fp):Option Bool:=
 if (decide (0<aA))=as5 then
  as4 (decide (aC.kG<ak.a))
 else
  as4 as9
def Jk (N:Nat) (J:List b8) (al:List Int) (a8:Int):Option Bool:=
 as8 (aD J a8) fun b3=>
 if (decide (0<b3.oR))=as5 then
  as8 (xA N al a8) fun cf=>
  as4 (!cf)
 else
  as4 as9
def Jj (N:Nat) (J:List b8) (al:List Int) (bk:Int) (a8:Int):Option Int:=
 as8 (Jk N J al a8) fun b9=>
 if b9=as5 then
  ay.lt (ata .i64 (bk+1)) fun cA=>
  as4 cA
 else
  as4 bk
def B1 (N:Nat) (J:List b8) (al:List Int) (aA:Int):Nat->Int->Int->Option Int
 |0,_,_=>as6
 |n+1,bk,a8=>
  if (decide (a8<aA))=as5 then
   as8 (Jj N J al bk a8) fun cI=>
   ay.lt (ata .i64 (a8+1)) fun dg=>
   B1 N J al aA n cI dg
  else
   as4 bk
def B2 (N:Nat) (J:List b8) (ak:en) (aA:Int):Nat->Int->Option (Sum (Unit) (Int))
 |0,_=>as6
 |n+1,db=>
  if (decide (db<aA))=as5 then
   as8 (KP N ak J db) fun dq=>
   if dq=as5 then
    as4 (ate db)
   else
    ay.lt (ata .i64 (db+1)) fun dx=>
    B2 N J ak aA n dx
  else
   as4 (atf ())
def K4 (N:Nat) (x0:en) (J:List b8) (al:List Int):Option Int:=
 ay.lt (J.length:Int) fun aT=>
 ay.lt (x0.kind==4) fun a3=>
 if a3=as5 then
  as8 (xu N J al) fun a7=>
  as8 (Ji N x0 aT a7.1) fun bj=>
  if bj=as5 then
   as4 aT
  else
   as4 (-1)
 else
  ay.lt (x0.kind==7) fun bq=>
  if bq=as5 then
   ay.lt (min x0.a aT) fun bz=>
   ay.lt (ata .i64 (aT - bz)) fun bO=>
   as8 (B1 N J al aT N 0 bO) fun dm=>
   if (decide (dm<(min x0.b bz)))=as5 then
    as4 aT
   else
    as4 (-1)
  else
   as8 (B2 N J x0 aT N 0) fun c9=>
   match c9 with
   |atf cz=>
    as4 (-1)
   |ate dT=>
    as4 dT
def BY (N:Nat) (x0:List en) (J:List b8) (al:List Int):Nat->Int->Option (Sum (Unit) (Int×Int×Int))
 |0,_=>as6
 |n+1,a8=>
  if (decide (a8<(x0.length:Int)))=as5 then
   as8 (aD x0 a8) fun a7=>
   as8 (K4 N a7 J al) fun bj=>
   if (decide (0<=bj))=as5 then
    as8 (aD x0 a8) fun bq=>
    as4 (ate (bq.number,bj,0))
   else
    ay.lt (ata .i64 (a8+1)) fun bz=>
    BY N x0 J al n bz
  else
   as4 (atf ())
def K3 (N:Nat) (x0:List en) (J:List b8) (al:List Int):Option (Int×Int×Int):=
 as8 (CS N x0) fun aT=>
 if (aT !=0)=as5 then
  as4 (0,0,aT)
 else
  as8 (xu N J al) fun a3=>
  if (a3.2 !=0)=as5 then
   as4 (0,0,a3.2)
  else
   as8 (BY N x0 J al N 0) fun bO=>
   match bO with
   |atf b3=>
    as4 (0,(-1),0)
   |ate cf=>
    as4 (cf.1,cf.2.1,cf.2.2)
def HT (N:Nat) (x0:List Int) (J:Int) (ai:Int):Option Bool:=
 as8 (aD x0 ai) fun aT=>
 if (decide (aT<0))=as5 then
  as4 as5
 else
  as8 (aD x0 ai) fun a3=>
  as4 (decide (J<=a3))
def Aw (N:Nat) (x0:List Int) (J:Int):Nat->Int->Option (Sum (Unit) (Bool))
 |0,_=>as6
 |n+1,ai=>
  if (decide (ai<(x0.length:Int)))=as5 then
   as8 (HT N x0 J ai) fun a7=>
   if a7=as5 then
    as4 (ate as9)
   else
    ay.lt (ata .i64 (ai+1)) fun bj=>
    Aw N x0 J n bj
  else
   as4 (atf ())
def KN (N:Nat) (x0:List Int) (J:Int):Option Bool:=
 as8 (Aw N x0 J N 0) fun bq=>
 match bq with
 |atf bz=>
  as4 as5
 |ate bO=>
  as4 bO
def II (N:Nat) (ai:Int) (Qt:Bool):Option Int:=
 if Qt=as5 then
  ay.lt (ata .i64 (ai+1)) fun bj=>
  as4 bj
 else
  as4 ai
def IH (N:Nat) (x0:List Int) (J:Int) (av:Int) (ai:Int) (az:Bool) (aA:Int):Option (Int×Int×Bool):=
 as8 (aD x0 aA) fun aT=>
 ay.lt (aT==J) fun a3=>
 if a3=as5 then
  ay.lt (ata .i64 (av+1)) fun a7=>
  as8 (II N ai (!az)) fun bq=>
  as4 (a7,bq,as5)
 else
  as8 (aD x0 aA) fun bz=>
  ay.lt (decide (J<bz)) fun bO=>
  if bO=as5 then
   as4 (av,ai,as9)
  else
   as4 (av,ai,az)
def Bn (N:Nat) (x0:List Int) (J:Int):Nat->Int->Int->Bool->Int->Option (Int×Int)
 |0,_,_,_,_=>as6
 |n+1,av,ai,az,aA=>
  if (decide (aA<(x0.length:Int)))=as5 then
   as8 (IH N x0 J av ai az aA) fun b3=>
   ay.lt (ata .i64 (aA+1)) fun cf=>
   Bn N x0 J n b3.1 b3.2.1 b3.2.2 cf
  else
   as4 (av,ai)
def Ls (N:Nat) (x0:List Int) (J:Int):Option (Int×Int):=
 as8 (Bn N x0 J N 0 0 as9 0) fun b9=>
 as4 (b9.1,b9.2)
def IQ (N:Nat) (J:Int):Option Bool:=
 if (decide (J<0))=as5 then
  as4 as5
 else
  as4 (decide (16<J))
def IS (N:Nat) (x0:List Int) (az:List jr) (aA:Int):Option (List jr):=
 as8 (Ls N x0 aA) fun a7=>
 if (decide (0<a7.1))=as5 then
  as8 (cl az ([(jr.mk aA a7.1 a7.2)]:List jr)) fun bj=>
  as4 bj
 else
  as4 az
def Bu (N:Nat) (x0:List Int) (J:Int):Nat->(List jr)->Int->Option (List jr)
 |0,_,_=>as6
 |n+1,az,aA=>
  if (decide (aA<J))=as5 then
   as8 (IS N x0 az aA) fun bq=>
   ay.lt (ata .i64 (aA+1)) fun bz=>
   Bu N x0 J n bq bz
  else
   as4 az
def Lg (N:Nat) (x0:List Int) (J:Int):Option (List jr×Int):=
 as8 (IQ N J) fun aT=>
 if aT=as5 then
  as4 ([],2)
 else
  if (decide (96<(x0.length:Int)))=as5 then
   as4 ([],3)
  else
   as8 (KN N x0 J) fun a3=>
   if (!a3)=as5 then
    as4 ([],2)
   else
    as8 (Bu N x0 J N [] 0) fun bO=>
    as4 (bO,0)
def Jn (N:Nat) (bk:List Int) (cy:Int):Option Bool:=
 if (decide (0<cy))=as5 then
  as8 (aD bk cy) fun a7=>
  as8 (aD bk cy) fun bj=>
  as8 (aD bk (ata .i64 (cy - 1))) fun bq=>
  as8 (aD bk (ata .i64 (cy - 1))) fun bz=>
  as4 (decide (bj<bz))
 else
  as4 as9
def B4 (N:Nat) (av:cb) (bk:List Int):Nat->jh->(List Int)->Int->Option (Sum (jh×List Int) (jh×Int×Int×Int))
 |0,_,_,_=>as6
 |n+1,az,cw,cy=>
  if (decide (cy<(bk.length:Int)))=as5 then
   as8 (Jn N bk cy) fun bO=>
   if bO=as5 then
    as4 (ate ((jh.mk [] [] (fp.mk 0 0 0 0 0 0 0) []),0,cy,12))
   else
    as8 (aD bk cy) fun b3=>
    as8 (aD bk cy) fun cf=>
    as8 (cl cw ([(ata .i64 ((ata .i64 ((av.cH.length:Int) - 1)) - cf))]:List Int)) fun b9=>
    ay.lt (ata .i64 (cy+1)) fun cA=>
    B4 N av bk n az b9 cA
  else
   as4 (atf (az,cw))
def K6 (N:Nat) (x0:du) (J:cb) (al:List b8):Option (jh×Int×Int×Int):=
 as8 (K7 N x0 J al) fun aT=>
 if (aT !=0)=as5 then
  as4 ((jh.mk [] [] (fp.mk 0 0 0 0 0 0 0) []),0,0,aT)
 else
  if ((al.length:Int)==0)=as5 then
   as4 ((jh.mk [] [] (fp.mk 0 0 0 0 0 0 0) []),0,0,13)
  else
   as8 (KQ N J al) fun a3=>
   if (a3.2.2 !=0)=as5 then
    as4 ((jh.mk [] [] (fp.mk 0 0 0 0 0 0 0) []),0,a3.2.1,a3.2.2)
   else
    as8 (B4 N J a3.1 N (jh.mk [] [] (fp.mk 0 0 0 0 0 0 0) []) [] 0) fun cI=>
    match cI with
    |atf dg=>
     as8 (K2 N al [] x0.table x0.speed x0.kA) fun dm=>
     if (dm.2 !=0)=as5 then
      as4 ((jh.mk [] [] (fp.mk 0 0 0 0 0 0 0) []),0,0,dm.2)
     else
      as8 (K3 N x0.rules al []) fun dq=>
      if (dq.1 !=0)=as5 then
       as4 ((jh.mk [] [] (fp.mk 0 0 0 0 0 0 0) []),dq.1,dq.2.1,20)
      else
       if (dm.1.oq !=0)=as5 then
        ay.lt (al.length:Int) fun dx=>
        as4 ((jh.mk [] [] (fp.mk 0 0 0 0 0 0 0) []),0,dx,20)
       else
        as8 (cl ([]:List b8) al) fun c9=>
        as8 (Lg N dg.2 (J.cH.length:Int)) fun cz=>
        as4 ((jh.mk J.name c9 dm.1 cz.1),0,0,0)
    |ate dT=>
     as4 (dT.1,dT.2.1,dT.2.2.1,dT.2.2.2)
def J0 (N:Nat) (x0:bu) (J:Int) (al:Int) (cq:List dh):Option (Bool×List dh×bu):=
 as8 (pA N x0.y.aP J) fun aT=>
 as8 (te N x0.y.cu) fun a3=>
 as8 (tf N x0.c.aP a3 x0.y.aP (dh.mk J aT.1 al as9)) fun a7=>
 if (a7.2 !=0)=as5 then
  as4 (as9,cq,(fG x0))
 else
  as8 (cl cq ([(dh.mk J aT.1 al as9)]:List dh)) fun bj=>
  as4 (as5,bj,(bu.mk x0.c (bL.mk x0.y.cu a7.1 x0.y.cE x0.y.busy x0.y.bF x0.y.dF) x0.e (ec.mk x0.r.err [] x0.r.proof x0.r.gb x0.r.final x0.r.er x0.r.place)))
def zQ (N:Nat) (x0:bu) (az:List Int):Nat->(List b8)->Int->Option (List b8)
 |0,_,_=>as6
 |n+1,ai,aA=>
  if (decide (aA<(az.length:Int)))=as5 then
   as8 (aD az aA) fun bz=>
   as8 (aD az aA) fun bO=>
   as8 (aD x0.y.cu bO) fun b3=>
   as8 (cl ai ([b3]:List b8)) fun cf=>
   ay.lt (ata .i64 (aA+1)) fun b9=>
   zQ N x0 az n cf b9
  else
   as4 ai
def zR (N:Nat) (az:List Int):Nat->bu->Int->(List dh)->Option (bu×List dh)
 |0,_,_,_=>as6
 |n+1,x0,a8,cq=>
  if (decide (a8<(az.length:Int)))=as5 then
   as8 (aD az a8) fun dg=>
   as8 (aD az a8) fun dm=>
   as8 (J0 N (fG x0) dm (-1) cq) fun dq=>
   ay.lt (ata .i64 (a8+1)) fun dx=>
   zR N az n (fG dq.2.2) dx dq.2.1
  else
   as4 ((fG x0),cq)
def zP (N:Nat):Nat->bu->Int->(List cb)->(List dh)->Option (Sum (bu×List cb×List dh) (bu×Int×List dh))
 |0,_,_,_,_=>as6
 |n+1,x0,ak,gx,cq=>
  if (decide (ak<(gx.length:Int)))=as5 then
   as8 (aD gx ak) fun aT=>
   as8 (aD gx ak) fun a3=>
   if (!(a3.name==x0.e.name))=as5 then
    ay.lt (ata .i64 (ak+1)) fun a7=>
    zP N n (Cy x0) a7 gx cq
   else
    as8 (aD x0.y.aP a3.bQ) fun bj=>
    as8 (cl ([]:List Int) bj) fun bq=>
    as8 (zQ N (Cy x0) bq N [] 0) fun cA=>
    as8 (K6 N x0.c a3 cA) fun cI=>
    if (cI.2.2.2 !=0)=as5 then
     as4 (ate ((bu.mk x0.c (bL.mk x0.y.cu x0.y.aP gx x0.y.busy x0.y.bF x0.y.dF) x0.e (ec.mk x0.r.err [] x0.r.proof x0.r.gb x0.r.final cI.2.1 cI.2.2.1)),cI.2.2.2,cq))
    else
     as8 (zR N bq N (bu.mk x0.c (bL.mk x0.y.cu x0.y.aP gx x0.y.busy x0.y.bF x0.y.dF) x0.e (ec.mk x0.r.err [] x0.r.proof x0.r.gb cI.1 x0.r.er x0.r.place)) 0 cq) fun c9=>
     as8 (wX c9.1.y.cE ak ak) fun cz=>
     as8 (hj c9.1.y.cE (ata .i64 (ak+1)) (c9.1.y.cE.length:Int)) fun dT=>
     as8 (cl cz dT) fun eN=>
     if dT.isEmpty=as5 then
      as4 (ate ((bu.mk c9.1.c (bL.mk c9.1.y.cu c9.1.y.aP eN c9.1.y.busy c9.1.y.bF c9.1.y.dF) c9.1.e (ec.mk c9.1.r.err [] c9.1.r.proof c9.1.r.gb c9.1.r.final c9.1.r.er c9.1.r.place)),0,c9.2))
     else
      as4 (ate ((bu.mk c9.1.c (bL.mk c9.1.y.cu c9.1.y.aP eN c9.1.y.busy c9.1.y.bF c9.1.y.dF) c9.1.e (ec.mk c9.1.r.err [] c9.1.r.proof c9.1.r.gb c9.1.r.final c9.1.r.er c9.1.r.place)),0,c9.2))
  else
   as4 (atf ((Cy x0),gx,cq))
def Kd (N:Nat) (x0:bu) (gx:List cb) (cq:List dh):Option (Int×List dh×bu):=
 if x0.y.busy=as5 then
  as4 (25,cq,(bu.mk x0.c (bL.mk x0.y.cu x0.y.aP gx x0.y.busy x0.y.bF x0.y.dF) x0.e (ec.mk x0.r.err [] x0.r.proof x0.r.gb x0.r.final x0.r.er x0.r.place)))
 else
  as8 (zP N N (Cy x0) 0 gx cq) fun fi=>
  match fi with
  |atf ea=>
   as4 (7,ea.2.2,(bu.mk ea.1.c (bL.mk ea.1.y.cu ea.1.y.aP ea.2.1 ea.1.y.busy ea.1.y.bF ea.1.y.dF) ea.1.e (ec.mk ea.1.r.err [] ea.1.r.proof ea.1.r.gb ea.1.r.final ea.1.r.er ea.1.r.place)))
  |ate fe=>
   as4 (fe.2.1,fe.2.2,(fG fe.1))
def I0 (N:Nat) (aC:bu) (aZ:Int) (eQ:Int) (oF:List b8) (oG:List cb) (pv:List dh) (pw:List cZ):Option (bu×Int):=
 ay.lt (eQ==1) fun a3=>
 if a3=as5 then
  as8 (Kc N (bu.mk aC.c (bL.mk [] aC.y.aP oG aC.y.busy aC.y.bF aC.y.dF) aC.e (ec.mk aC.r.err [] aC.r.proof pw aC.r.final aC.r.er aC.r.place)) oF pv) fun a7=>
  as4 ((bu.mk a7.2.2.c a7.2.2.y a7.2.2.e (ec.mk a7.2.2.r.err a7.2.1 a7.2.2.r.proof a7.2.2.r.gb a7.2.2.r.final a7.2.2.r.er a7.2.2.r.place)),a7.1)
 else
  ay.lt (eQ==2) fun bj=>
  if bj=as5 then
   as8 (Kt N (bu.mk aC.c (bL.mk oF aC.y.aP [] aC.y.busy aC.y.bF aC.y.dF) aC.e (ec.mk aC.r.err pv aC.r.proof pw aC.r.final aC.r.er aC.r.place)) oG) fun bq=>
   as4 ((bu.mk bq.2.2.c (bL.mk bq.2.2.y.cu bq.2.2.y.aP bq.2.1 bq.2.2.y.busy bq.2.2.y.bF bq.2.2.y.dF) bq.2.2.e bq.2.2.r),bq.1)
  else
   ay.lt (eQ==3) fun bz=>
   if bz=as5 then
    as8 (KI N (bu.mk aC.c (bL.mk oF aC.y.aP oG aC.y.busy aC.y.bF aC.y.dF) aC.e (ec.mk aC.r.err pv aC.r.proof pw aC.r.final aC.r.er aC.r.place))) fun bO=>
    as4 (bO.2,bO.1)
   else
    ay.lt (eQ==4) fun b3=>
    if b3=as5 then
     as8 (KJ N (bu.mk aC.c (bL.mk oF aC.y.aP oG aC.y.busy aC.y.bF aC.y.dF) aC.e (ec.mk aC.r.err [] aC.r.proof pw aC.r.final aC.r.er aC.r.place)) pv) fun cf=>
     as4 (cf.2,cf.1)
    else
     ay.lt (eQ==5) fun b9=>
     if b9=as5 then
      as8 (Ki N (bu.mk aC.c (bL.mk oF aC.y.aP oG aC.y.busy aC.y.bF aC.y.dF) aC.e (ec.mk aC.r.err [] aC.r.proof [] aC.r.final aC.r.er aC.r.place)) pv pw) fun cA=>
      as4 (cA.2,cA.1)
     else
      ay.lt (eQ==6) fun cI=>
      if cI=as5 then
       as8 (KH N (bu.mk aC.c (bL.mk oF aC.y.aP oG aC.y.busy aC.y.bF aC.y.dF) aC.e (ec.mk aC.r.err [] aC.r.proof pw aC.r.final aC.r.er aC.r.place)) pv) fun dg=>
       as4 ((bu.mk dg.2.2.c dg.2.2.y dg.2.2.e (ec.mk dg.2.2.r.err dg.2.1 dg.2.2.r.proof dg.2.2.r.gb dg.2.2.r.final dg.2.2.r.er dg.2.2.r.place)),dg.1)
      else
       ay.lt (eQ==7) fun dm=>
       if dm=as5 then
        as8 (Kd N (bu.mk aC.c (bL.mk oF aC.y.aP [] aC.y.busy aC.y.bF aC.y.dF) aC.e (ec.mk aC.r.err [] aC.r.proof pw aC.r.final aC.r.er aC.r.place)) oG pv) fun dq=>
        as4 ((bu.mk dq.2.2.c dq.2.2.y dq.2.2.e (ec.mk dq.2.2.r.err dq.2.1 dq.2.2.r.proof dq.2.2.r.gb dq.2.2.r.final dq.2.2.r.er dq.2.2.r.place)),dq.1)
       else
        as4 ((bu.mk aC.c (bL.mk oF aC.y.aP oG aC.y.busy aC.y.bF aC.y.dF) aC.e (ec.mk aC.r.err pv aC.r.proof pw aC.r.final aC.r.er aC.r.place)),aZ)
def CX (N:Nat) (x0:du) (J:bL) (al:bw):Option (bL×ec):=
 as8 (CW N J) fun aT=>
 as8 (I0 N (bu.mk x0 (bL.mk [] aT.1.aP [] aT.1.busy aT.1.bF aT.1.dF) al (ec.mk 0 [] (gY.mk (eW.mk 0 []) []) [] (jh.mk [] [] (fp.mk 0 0 0 0 0 0 0) []) 0 0)) 1 al.kind aT.2.1 aT.2.2 [] []) fun dx=>
 if (dx.2 !=0)=as5 then
  as8 (CW N J) fun c9=>
  as4 ((bL.mk c9.2.1 c9.1.aP c9.2.2 c9.1.busy c9.1.bF c9.1.dF),(ec.mk dx.2 [] (gY.mk (eW.mk 0 []) []) [] (jh.mk [] [] (fp.mk 0 0 0 0 0 0 0) []) dx.1.r.er dx.1.r.place))
 else
  as4 (dx.1.y,dx.1.r)
def G5 (N:Nat) (al:Int) (aX:Int):Option Bool:=
 if (decide (aX<3))=as5 then
  as4 (decide (3<al))
 else
  as4 as9
def z7 (N:Nat) (al:Int) (av:du):Nat->cx->bL->(List bw)->Int->Option (cx×bL×List bw)
 |0,_,_,_,_=>as6
 |n+1,x0,aA,aZ,aX=>
  as8 (G5 N al aX) fun a3=>
  if a3=as5 then
   as8 (CG N x0 av aA (aA.cu.length:Int)) fun a7=>
   as8 (aD [(bw.mk 2 0 0 0 0 [] [] (cb.mk [120,49] (ata .i64 ((av.aP.length:Int) - 1)) ([[98],[97]]:List (List UInt8))) [] []),(bw.mk 2 0 0 0 0 [] [] (cb.mk [120,50] (ata .i64 ((av.aP.length:Int) - 2)) ([[99],[100]]:List (List UInt8))) [] []),a7.1] aX) fun bj=>
   as8 (CX N av aA bj) fun bq=>
   as8 (cl aZ ([bj]:List bw)) fun bz=>
   ay.lt (ata .i64 (aX+1)) fun bO=>
   z7 N al av n a7.2 bq.1 bz bO
  else
   as4 (x0,aA,aZ)
def z8 (N:Nat) (av:du):Nat->cx->bL->(List bw)->Int->Option (cx×List bw)
 |0,_,_,_,_=>as6
 |n+1,x0,aA,aZ,a8=>
  if (decide (0<a8))=as5 then
   as8 (CG N x0 av aA (aA.cu.length:Int)) fun b9=>
   as8 (CX N av aA b9.1) fun cA=>
   as8 (cl aZ ([b9.1]:List bw)) fun cI=>
   ay.lt (ata .i64 (a8 - 1)) fun dg=>
   z8 N av n b9.2 cA.1 cI dg
  else
   as4 (x0,aZ)
def Ka (N:Nat) (x0:cx) (J:du) (al:Int):Option (List bw×cx):=
 as8 (Lq N J) fun aT=>
 if (aT.2 !=0)=as5 then
  as4 ([],x0)
 else
  as8 (z7 N al J N x0 aT.1 [] 0) fun b3=>
  as8 (fN N b3.1 (ata .i64 (al+1))) fun cf=>
  as8 (z8 N J N cf.2 b3.2.1 b3.2.2 cf.1) fun dm=>
  as4 (dm.2,dm.1)
def I9 (N:Nat) (aA:Int) (di:Bool):Option Bool:=
 if di=as5 then
  as4 di
 else
  ay.lt (aA==5) fun bj=>
  as4 bj
def I8 (N:Nat) (ak:bw) (aA:Int):Option (Sum (bw) (Bool)):=
 ay.lt (aA==1) fun aT=>
 if aT=as5 then
  as4 (atf (bw.mk ak.kind 0 ak.to ak.count ak.c0 ak.aP ak.dd ak.order ak.name []))
 else
  ay.lt (aA==2) fun a3=>
  if a3=as5 then
   as4 (atf (bw.mk ak.kind ak.bQ ak.to ak.count ak.c0 ak.aP ak.dd (cb.mk [] 0 []) ak.name ak.data))
  else
   ay.lt (aA==3) fun a7=>
   as8 (I9 N aA a7) fun bq=>
   if bq=as5 then
    as4 (atf (bw.mk ak.kind 0 ak.to ak.count 0 [] ak.dd ak.order ak.name ak.data))
   else
    ay.lt (aA==4) fun bz=>
    if bz=as5 then
     as4 (atf (bw.mk ak.kind ak.bQ ak.to ak.count ak.c0 ak.aP [] ak.order ak.name ak.data))
    else
     ay.lt (aA==6) fun bO=>
     if bO=as5 then
      as4 (atf (bw.mk ak.kind 0 0 0 ak.c0 ak.aP ak.dd ak.order ak.name ak.data))
     else
      ay.lt (aA==7) fun b3=>
      if b3=as5 then
       as4 (atf (bw.mk ak.kind ak.bQ ak.to ak.count ak.c0 ak.aP ak.dd ak.order [] ak.data))
      else
       as4 (ate as9)
def Ja (N:Nat) (ak:bw) (av:cb):Option Bool:=
 if (ak.bQ==0)=as5 then
  if (ak.to==0)=as5 then
   if (ak.count==0)=as5 then
    if (ak.c0==0)=as5 then
     if ((ak.aP.length:Int)==0)=as5 then
      if ((ak.dd.length:Int)==0)=as5 then
       if (av.name==[])=as5 then
        if (av.bQ==0)=as5 then
         if ((av.cH.length:Int)==0)=as5 then
          if (ak.name==[])=as5 then
           ay.lt ((ak.data.length:Int)==0) fun cA=>
           as4 cA
          else
           as4 as9
         else
          as4 as9
        else
         as4 as9
       else
        as4 as9
      else
       as4 as9
     else
      as4 as9
    else
     as4 as9
   else
    as4 as9
  else
   as4 as9
 else
  as4 as9
def Lm (N:Nat) (x0:bw):Option Bool:=
 as8 (I8 N x0 x0.kind) fun cf=>
 match cf with
 |atf b9=>
  as8 (Ja N b9 b9.order) fun cI=>
  as4 cI
 |ate dg=>
  as4 dg
def IF (N:Nat) (x0:Int):Option Bool:=
 if (decide (0<=x0))=as5 then
  ay.lt (decide (x0<=65535)) fun aT=>
  as4 aT
 else
  as4 as9
def pC (N:Nat) (x0:Int):Option Bool:=
 as8 (IF N x0) fun a3=>
 as4 a3
def I3 (N:Nat) (J:bw):Option Bool:=
 as8 (pC N J.bQ) fun aT=>
 if aT=as5 then
  as8 (pC N J.to) fun a3=>
  if a3=as5 then
   as8 (pC N J.count) fun a7=>
   if a7=as5 then
    as8 (pC N J.c0) fun bj=>
    if bj=as5 then
     if (decide ((J.aP.length:Int)<=255))=as5 then
      if (decide ((J.dd.length:Int)<=255))=as5 then
       if (decide ((J.name.length:Int)<=255))=as5 then
        if (decide ((J.data.length:Int)<=8000))=as5 then
         as8 (pC N J.order.bQ) fun bq=>
         if bq=as5 then
          if (decide ((J.order.name.length:Int)<=255))=as5 then
           ay.lt (decide ((J.order.cH.length:Int)<=255)) fun bz=>
           as4 bz
          else
           as4 as9
         else
          as4 as9
        else
         as4 as9
       else
        as4 as9
      else
       as4 as9
     else
      as4 as9
    else
     as4 as9
   else
    as4 as9
  else
   as4 as9
 else
  as4 as9
def I4 (N:Nat) (J:bw) (ak:Bool) (av:Int):Option Bool:=
 if ak=as5 then
  as4 (decide (av<(J.aP.length:Int)))
 else
  as4 as9
def BI (N:Nat) (J:bw):Nat->Bool->Int->Option Bool
 |0,_,_=>as6
 |n+1,ak,av=>
  as8 (I4 N J ak av) fun b3=>
  if b3=as5 then
   as8 (aD J.aP av) fun cf=>
   as8 (pC N cf) fun b9=>
   ay.lt (ata .i64 (av+1)) fun cA=>
   BI N J n b9 cA
  else
   as4 ak
def I5 (N:Nat) (J:bw) (ak:Bool) (ai:Int):Option Bool:=
 if ak=as5 then
  as4 (decide (ai<(J.dd.length:Int)))
 else
  as4 as9
def I6 (N:Nat) (J:bw) (ai:Int):Option Bool:=
 as8 (aD J.dd ai) fun dm=>
 as8 (pC N dm.place) fun dq=>
 if dq=as5 then
  as8 (aD J.dd ai) fun dx=>
  as8 (pC N dx.bQ) fun c9=>
  as4 c9
 else
  as4 as9
def BJ (N:Nat) (J:bw):Nat->Bool->Int->Option Bool
 |0,_,_=>as6
 |n+1,ak,ai=>
  as8 (I5 N J ak ai) fun dg=>
  if dg=as5 then
   as8 (I6 N J ai) fun cz=>
   ay.lt (ata .i64 (ai+1)) fun dT=>
   BJ N J n cz dT
  else
   as4 ak
def I7 (N:Nat) (J:bw) (ak:Bool) (az:Int):Option Bool:=
 if ak=as5 then
  as4 (decide (az<(J.order.cH.length:Int)))
 else
  as4 as9
def BK (N:Nat) (J:bw):Nat->Bool->Int->Option Bool
 |0,_,_=>as6
 |n+1,ak,az=>
  as8 (I7 N J ak az) fun fi=>
  if fi=as5 then
   as8 (aD J.order.cH az) fun ea=>
   ay.lt (decide ((ea.length:Int)<=255)) fun fe=>
   ay.lt (ata .i64 (az+1)) fun fQ=>
   BK N J n fe fQ
  else
   as4 ak
def Ll (N:Nat) (x0:bw):Option Bool:=
 as8 (I3 N x0) fun bO=>
 as8 (BI N x0 N bO 0) fun cI=>
 as8 (BJ N x0 N cI 0) fun eN=>
 as8 (BK N x0 N eN 0) fun fM=>
 as4 fM
def nh (N:Nat) (x0:Int):Option (List UInt8):=
 as8 (e7 (ata .u8 ((Int.fdiv x0 256)))) fun aT=>
 as8 (e7 (ata .u8 x0)) fun a3=>
 as4 ([aT,a3]:List UInt8)
def xz (N:Nat) (x0:List UInt8):Option (List UInt8):=
 as8 (e7 (ata .u8 ((x0.length:Int)))) fun aT=>
 as8 (cl ([aT]:List UInt8) x0) fun a3=>
 as4 a3
def AE (N:Nat) (J:bw):Nat->(List UInt8)->Int->Option (List UInt8)
 |0,_,_=>as6
 |n+1,av,ai=>
  if (decide (ai<(J.order.cH.length:Int)))=as5 then
   as8 (aD J.order.cH ai) fun c9=>
   as8 (xz N c9) fun cz=>
   as8 (cl av cz) fun dT=>
   ay.lt (ata .i64 (ai+1)) fun eN=>
   AE N J n dT eN
  else
   as4 av
def H3 (N:Nat) (eF:Int) (JR:Bool):Option Bool:=
 if JR=as5 then
  as4 JR
 else
  ay.lt (eF==5) fun fe=>
  as4 fe
def AF (N:Nat) (J:bw):Nat->(List UInt8)->Int->Option (List UInt8)
 |0,_,_=>as6
 |n+1,av,az=>
  if (decide (az<(J.aP.length:Int)))=as5 then
   as8 (aD J.aP az) fun gL=>
   as8 (nh N gL) fun jf=>
   as8 (cl av jf) fun jq=>
   ay.lt (ata .i64 (az+1)) fun jw=>
   AF N J n jq jw
  else
   as4 av
def AG (N:Nat) (J:bw):Nat->(List UInt8)->Int->Option (List UInt8)
 |0,_,_=>as6
 |n+1,av,aA=>
  if (decide (aA<(J.dd.length:Int)))=as5 then
   as8 (aD J.dd aA) fun jx=>
   as8 (nh N jx.place) fun nf=>
   as8 (cl av nf) fun mB=>
   as8 (aD J.dd aA) fun lZ=>
   as8 (nh N lZ.bQ) fun fj=>
   as8 (cl mB fj) fun mC=>
   ay.lt (ata .i64 (aA+1)) fun nU=>
   AG N J n mC nU
  else
   as4 av
def H2 (N:Nat) (J:bw) (av:List UInt8) (eF:Int):Option (List UInt8):=
 ay.lt (eF==1) fun bj=>
 if bj=as5 then
  as8 (nh N J.bQ) fun bq=>
  as8 (cl av bq) fun bz=>
  as8 (nh N (J.data.length:Int)) fun bO=>
  as8 (cl bz bO) fun b3=>
  as8 (cl b3 J.data) fun cf=>
  as4 cf
 else
  ay.lt (eF==2) fun b9=>
  if b9=as5 then
   as8 (xz N J.order.name) fun cA=>
   as8 (cl av cA) fun cI=>
   as8 (nh N J.order.bQ) fun dg=>
   as8 (cl cI dg) fun dm=>
   as8 (e7 (ata .u8 ((J.order.cH.length:Int)))) fun dq=>
   as8 (cl dm ([dq]:List UInt8)) fun dx=>
   as8 (AE N J N dx 0) fun fi=>
   as4 fi
  else
   ay.lt (eF==3) fun ea=>
   as8 (H3 N eF ea) fun fQ=>
   if fQ=as5 then
    as8 (nh N J.bQ) fun fM=>
    as8 (cl av fM) fun fX=>
    as8 (nh N J.c0) fun gk=>
    as8 (cl fX gk) fun gW=>
    as8 (e7 (ata .u8 ((J.aP.length:Int)))) fun gy=>
    as8 (cl gW ([gy]:List UInt8)) fun hT=>
    as8 (AF N J N hT 0) fun h5=>
    as4 h5
   else
    ay.lt (eF==4) fun jQ=>
    if jQ=as5 then
     as8 (e7 (ata .u8 ((J.dd.length:Int)))) fun gd=>
     as8 (cl av ([gd]:List UInt8)) fun jR=>
     as8 (AG N J N jR 0) fun qw=>
     as4 qw
    else
     ay.lt (eF==6) fun kY=>
     if kY=as5 then
      as8 (nh N J.bQ) fun rQ=>
      as8 (cl av rQ) fun vk=>
      as8 (nh N J.to) fun rR=>
      as8 (cl vk rR) fun Cw=>
      as8 (nh N J.count) fun xj=>
      as8 (cl Cw xj) fun rS=>
      as4 rS
     else
      as8 (xz N J.name) fun tb=>
      as8 (cl av tb) fun xk=>
      as4 xk
def xr (N:Nat) (x0:bw):Option (List UInt8×Int):=
 as8 (Lm N x0) fun aT=>
 if (!aT)=as5 then
  as4 ([],1)
 else
  as8 (Ll N x0) fun a3=>
  if (!a3)=as5 then
   as4 ([],2)
  else
   as8 (e7 (ata .u8 (x0.kind))) fun a7=>
   as8 (H2 N x0 ([a7]:List UInt8) x0.kind) fun xl=>
   as4 (xl,0)
def H4 (N:Nat) (aA:List bw) (aC:List bw) (aZ:Int):Option (List bw):=
 as8 (aD aC aZ) fun a3=>
 as8 (aD aC aZ) fun a7=>
 as8 (xr N a7) fun bj=>
 if (bj.2==0)=as5 then
  as8 (aD aC aZ) fun bq=>
  as8 (aD aC aZ) fun bz=>
  as8 (cl aA ([bz]:List bw)) fun bO=>
  as4 bO
 else
  as4 aA
def AI (N:Nat) (aC:List bw):Nat->(List bw)->Int->Option (List bw)
 |0,_,_=>as6
 |n+1,aA,aZ=>
  if (decide (aZ<(aC.length:Int)))=as5 then
   as8 (H4 N aA aC aZ) fun b3=>
   ay.lt (ata .i64 (aZ+1)) fun cf=>
   AI N aC n b3 cf
  else
   as4 aA
def KT (N:Nat) (x0:cx) (J:du) (al:Int):Option (List bw×cx):=
 as8 (Ka N x0 J al) fun aT=>
 as8 (AI N aT.1 N [] 0) fun b9=>
 as4 (b9,aT.2)
def Ic (N:Nat) (x0:Int):Option Bool:=
 if (decide (1<=x0))=as5 then
  ay.lt (decide (x0<=7)) fun aT=>
  as4 aT
 else
  as4 as9
def Kr (N:Nat) (x0:Int):Option Bool:=
 as8 (Ic N x0) fun a3=>
 as4 a3
def Iq (N:Nat) (av:Int) (db:Bool):Option Bool:=
 if db=as5 then
  as4 db
 else
  ay.lt (av==5) fun bj=>
  as4 bj
def Ip (N:Nat) (J:bw) (av:Int):Option bw:=
 ay.lt (av==1) fun aT=>
 if aT=as5 then
  as4 (bw.mk J.kind 0 J.to J.count J.c0 J.aP J.dd J.order J.name [])
 else
  ay.lt (av==2) fun a3=>
  if a3=as5 then
   as4 (bw.mk J.kind J.bQ J.to J.count J.c0 J.aP J.dd (cb.mk [] 0 []) J.name J.data)
  else
   ay.lt (av==3) fun a7=>
   as8 (Iq N av a7) fun bq=>
   if bq=as5 then
    as4 (bw.mk J.kind 0 J.to J.count 0 [] J.dd J.order J.name J.data)
   else
    ay.lt (av==4) fun bz=>
    if bz=as5 then
     as4 (bw.mk J.kind J.bQ J.to J.count J.c0 J.aP [] J.order J.name J.data)
    else
     ay.lt (av==6) fun bO=>
     if bO=as5 then
      as4 (bw.mk J.kind 0 0 0 J.c0 J.aP J.dd J.order J.name J.data)
     else
      ay.lt (av==7) fun b3=>
      if b3=as5 then
       as4 (bw.mk J.kind J.bQ J.to J.count J.c0 J.aP J.dd J.order [] J.data)
      else
       as4 J
def KD (N:Nat) (x0:bw):Option bw:=
 as8 (Ip N x0 x0.kind) fun cf=>
 as4 cf
def Ir (N:Nat) (ak:cb):Option Bool:=
 if (ak.name==[])=as5 then
  if (ak.bQ==0)=as5 then
   ay.lt ((ak.cH.length:Int)==0) fun aT=>
   as4 aT
  else
   as4 as9
 else
  as4 as9
def Is (N:Nat) (J:bw) (av:Bool):Option Bool:=
 if (J.bQ==0)=as5 then
  if (J.to==0)=as5 then
   if (J.count==0)=as5 then
    if (J.c0==0)=as5 then
     if ((J.aP.length:Int)==0)=as5 then
      if ((J.dd.length:Int)==0)=as5 then
       if av=as5 then
        if (J.name==[])=as5 then
         ay.lt ((J.data.length:Int)==0) fun a7=>
         as4 a7
        else
         as4 as9
       else
        as4 as9
      else
       as4 as9
     else
      as4 as9
    else
     as4 as9
   else
    as4 as9
  else
   as4 as9
 else
  as4 as9
def KE (N:Nat) (x0:bw):Option Bool:=
 as8 (Ir N x0.order) fun a3=>
 as8 (Is N x0 a3) fun bj=>
 as4 bj
def J5 (N:Nat) (x0:cC) (J:Int):Option cC:=
 if x0.bad=as5 then
  as4 (cC.mk [] as5)
 else
  if (decide (J<0))=as5 then
   as4 (cC.mk [] as5)
  else
   as4 (cC.mk [] (decide (255<J)))
def td (N:Nat) (x0:cC) (J:Int) (fv:List UInt8):Option (List UInt8×cC):=
 as8 (J5 N (cC.mk [] x0.bad) J) fun aT=>
 as8 (e7 (ata .u8 J)) fun a3=>
 as8 (cl fv ([a3]:List UInt8)) fun a7=>
 as4 (a7,(cC.mk [] aT.bad))
def J2 (N:Nat) (x0:cC) (ai:Int):Option cC:=
 if x0.bad=as5 then
  as4 (cC.mk [] as5)
 else
  if (decide (ai<0))=as5 then
   as4 (cC.mk [] as5)
  else
   as4 (cC.mk [] (decide (65535<ai)))
def CA (N:Nat) (az:List Int) (aA:Int):Nat->cC->Int->(List UInt8)->Option (cC×List UInt8)
 |0,_,_,_=>as6
 |n+1,x0,aC,fv=>
  if (decide (aC<aA))=as5 then
   as8 (aD az aC) fun aT=>
   as8 (J2 N (cC.mk [] x0.bad) aT) fun a3=>
   as8 (e7 (ata .u8 ((Int.fdiv aT 256)))) fun a7=>
   as8 (e7 (ata .u8 aT)) fun bj=>
   as8 (cl fv ([a7,bj]:List UInt8)) fun bq=>
   CA N az aA n (cC.mk [] a3.bad) (ata .i64 (aC+1)) bq
  else
   as4 ((cC.mk [] x0.bad),fv)
def tc (N:Nat) (x0:cC) (J:List Int) (fv:List UInt8):Option (List UInt8×cC):=
 as8 (CA N J (J.length:Int) N (cC.mk [] x0.bad) 0 fv) fun bz=>
 as4 (bz.2,(cC.mk [] bz.1.bad))
def CF (N:Nat) (x0:cC) (J:List UInt8) (fv:List UInt8):Option (List UInt8×cC):=
 as8 (td N (cC.mk [] x0.bad) (J.length:Int) fv) fun aT=>
 as8 (cl aT.1 J) fun a3=>
 as4 (a3,(cC.mk [] aT.2.bad))
def GZ (N:Nat) (x0:cC) (J:Int):Option cC:=
 if x0.bad=as5 then
  as4 (cC.mk [] as5)
 else
  if (decide (J<0))=as5 then
   as4 (cC.mk [] as5)
  else
   as4 (cC.mk [] (decide (255<J)))
def J4 (N:Nat) (x0:cC) (J:Int) (fv:List UInt8):Option (List UInt8×cC):=
 as8 (GZ N (cC.mk [] x0.bad) J) fun aT=>
 as8 (e7 (ata .u8 J)) fun a3=>
 as8 (cl fv ([a3]:List UInt8)) fun a7=>
 as4 (a7,(cC.mk [] aT.bad))
def J8 (N:Nat) (x0:cC) (J:List UInt8) (fv:List UInt8):Option (List UInt8×cC):=
 as8 (J4 N (cC.mk [] x0.bad) (J.length:Int) fv) fun aT=>
 as8 (cl aT.1 J) fun a3=>
 as4 (a3,(cC.mk [] aT.2.bad))
def Hy (N:Nat) (x0:cC) (ai:Int):Option cC:=
 if x0.bad=as5 then
  as4 (cC.mk [] as5)
 else
  if (decide (ai<0))=as5 then
   as4 (cC.mk [] as5)
  else
   as4 (cC.mk [] (decide (65535<ai)))
def z1 (N:Nat) (az:List Int) (aA:Int):Nat->cC->Int->(List UInt8)->Option (cC×List UInt8)
 |0,_,_,_=>as6
 |n+1,x0,aC,fv=>
  if (decide (aC<aA))=as5 then
   as8 (aD az aC) fun aT=>
   as8 (Hy N (cC.mk [] x0.bad) aT) fun a3=>
   as8 (e7 (ata .u8 ((Int.fdiv aT 256)))) fun a7=>
   as8 (e7 (ata .u8 aT)) fun bj=>
   as8 (cl fv ([a7,bj]:List UInt8)) fun bq=>
   z1 N az aA n (cC.mk [] a3.bad) (ata .i64 (aC+1)) bq
  else
   as4 ((cC.mk [] x0.bad),fv)
def J1 (N:Nat) (x0:cC) (J:List Int) (fv:List UInt8):Option (List UInt8×cC):=
 as8 (z1 N J (J.length:Int) N (cC.mk [] x0.bad) 0 fv) fun bz=>
 as4 (bz.2,(cC.mk [] bz.1.bad))
def Hb (N:Nat) (J:bw):Option Bool:=
 as8 (Kr N J.kind) fun aT=>
 if (!aT)=as5 then
  as4 as5
 else
  as8 (KD N J) fun a3=>
  as8 (KE N a3) fun a7=>
  as4 (!a7)
def Ab (N:Nat) (nd:List (List UInt8)) (ta:Int):Nat->cC->Int->(List UInt8)->Option (cC×List UInt8)
 |0,_,_,_=>as6
 |n+1,av,oJ,iD=>
  if (decide (oJ<ta))=as5 then
   as8 (aD nd oJ) fun dg=>
   as8 (J8 N (cC.mk [] av.bad) dg iD) fun dm=>
   Ab N nd ta n (cC.mk [] dm.2.bad) (ata .i64 (oJ+1)) dm.1
  else
   as4 ((cC.mk [] av.bad),iD)
def Hd (N:Nat) (iv:Int) (Cu:Bool):Option Bool:=
 if Cu=as5 then
  as4 Cu
 else
  ay.lt (iv==5) fun c9=>
  as4 c9
def Ac (N:Nat) (s7:List fI) (s8:Int):Nat->cC->Int->(List UInt8)->Option (cC×List UInt8)
 |0,_,_,_=>as6
 |n+1,av,oE,iD=>
  if (decide (oE<s8))=as5 then
   as8 (aD s7 oE) fun fQ=>
   as8 (J1 N (cC.mk [] av.bad) ([fQ.place,fQ.bQ]:List Int) iD) fun fM=>
   Ac N s7 s8 n (cC.mk [] fM.2.bad) (ata .i64 (oE+1)) fM.1
  else
   as4 ((cC.mk [] av.bad),iD)
def Hc (N:Nat) (J:bw) (av:cC) (iv:Int) (iD:List UInt8):Option (cC×List UInt8):=
 ay.lt (iv==1) fun bz=>
 if bz=as5 then
  as8 (tc N (cC.mk [] (decide (8000<(J.data.length:Int)))) ([J.bQ,(J.data.length:Int)]:List Int) iD) fun bO=>
  as8 (cl bO.1 J.data) fun b3=>
  as4 ((cC.mk [] bO.2.bad),b3)
 else
  ay.lt (iv==2) fun cf=>
  if cf=as5 then
   as8 (CF N (cC.mk [] av.bad) J.order.name iD) fun b9=>
   as8 (tc N (cC.mk [] b9.2.bad) ([J.order.bQ]:List Int) b9.1) fun cA=>
   as8 (td N (cC.mk [] cA.2.bad) (J.order.cH.length:Int) cA.1) fun cI=>
   as8 (Ab N J.order.cH (J.order.cH.length:Int) N (cC.mk [] cI.2.bad) 0 cI.1) fun dq=>
   as4 ((cC.mk [] dq.1.bad),dq.2)
  else
   ay.lt (iv==3) fun dx=>
   as8 (Hd N iv dx) fun cz=>
   if cz=as5 then
    as8 (tc N (cC.mk [] av.bad) ([J.bQ,J.c0]:List Int) iD) fun dT=>
    as8 (td N (cC.mk [] dT.2.bad) (J.aP.length:Int) dT.1) fun eN=>
    as8 (tc N (cC.mk [] eN.2.bad) J.aP eN.1) fun fi=>
    as4 ((cC.mk [] fi.2.bad),fi.1)
   else
    ay.lt (iv==4) fun ea=>
    if ea=as5 then
     as8 (td N (cC.mk [] av.bad) (J.dd.length:Int) iD) fun fe=>
     as8 (Ac N J.dd (J.dd.length:Int) N (cC.mk [] fe.2.bad) 0 fe.1) fun fX=>
     as4 ((cC.mk [] fX.1.bad),fX.2)
    else
     ay.lt (iv==6) fun gk=>
     if gk=as5 then
      as8 (tc N (cC.mk [] av.bad) ([J.bQ,J.to,J.count]:List Int) iD) fun gW=>
      as4 ((cC.mk [] gW.2.bad),gW.1)
     else
      ay.lt (iv==7) fun gy=>
      if gy=as5 then
       as8 (CF N (cC.mk [] av.bad) J.name iD) fun hT=>
       as4 ((cC.mk [] hT.2.bad),hT.1)
      else
       as4 ((cC.mk [] av.bad),iD)
def xp (N:Nat) (x0:bw):Option (List UInt8×Int):=
 as8 (Hb N x0) fun bj=>
 if bj=as5 then
  as4 ([],1)
 else
  as8 (td N (cC.mk [] as9) x0.kind []) fun bq=>
  as8 (Hc N x0 (cC.mk [] bq.2.bad) x0.kind bq.1) fun gL=>
  if gL.1.bad=as5 then
   as4 ([],2)
  else
   as4 (gL.2,0)
def fP (n:Nat) (b:List UInt8):Option (List UInt8×List UInt8):=if n<=b.length then as4 (b.take n,b.drop n) else as6
def rK:List UInt8->Option (Nat×List UInt8)
 |x::r=>as4 (x.toNat,r)
 |[]=>as6
def fK:List UInt8->Option (Int×List UInt8)
 |x::y::r=>as4 (((x.toNat*256+y.toNat:Nat):Int),r)
 |_=>as6
def nQ (b:List UInt8):Option (List UInt8×List UInt8):=as8 (rK b) fun p=>fP p.1 p.2
def oC (b:List UInt8):Option (fI×List UInt8):=as8 (fK b) fun p=>as8 (fK p.2) fun q=>as4 (fI.mk p.1 q.1,q.2)
def iu {aB:Type} (f:List UInt8->Option (aB×List UInt8)):Nat->List UInt8->Option (List aB×List UInt8)
 |0,b=>as4 ([],b)
 |n+1,b=>as8 (f b) fun p=>as8 (iu f n p.2) fun q=>as4 (p.1::q.1,q.2)
def mK (k:Int):bw:=bw.mk k 0 0 0 0 [] [] (cb.mk [] 0 []) [] []
def gF (k:Int) (b:List UInt8):Option (bw×List UInt8):=
 if k=1 then as8 (fK b) fun t=>as8 (fK t.2) fun n=>as8 (fP n.1.toNat n.2) fun d=>as4 (bw.mk k t.1 0 0 0 [] [] (cb.mk [] 0 []) [] d.1,d.2)
 else if k=2 then as8 (nQ b) fun n=>as8 (fK n.2) fun t=>as8 (rK t.2) fun c=>as8 (iu nQ c.1 c.2) fun d=>as4 (bw.mk k 0 0 0 0 [] [] (cb.mk n.1 t.1 d.1) [] [],d.2)
 else if k=3\/k=5 then as8 (fK b) fun t=>as8 (fK t.2) fun w=>as8 (rK w.2) fun c=>as8 (iu fK c.1 c.2) fun d=>as4 (bw.mk k t.1 0 0 w.1 d.1 [] (cb.mk [] 0 []) [] [],d.2)
 else if k=4 then as8 (rK b) fun c=>as8 (iu oC c.1 c.2) fun d=>as4 (bw.mk k 0 0 0 0 [] d.1 (cb.mk [] 0 []) [] [],d.2)
 else if k=6 then as8 (fK b) fun t=>as8 (fK t.2) fun o=>as8 (fK o.2) fun c=>as4 (bw.mk k t.1 o.1 c.1 0 [] [] (cb.mk [] 0 []) [] [],c.2)
 else as8 (nQ b) fun n=>as4 (bw.mk k 0 0 0 0 [] [] (cb.mk [] 0 []) n.1 [],n.2)
def hd (b:List UInt8):bw×Int:=
 match rK b with
 |none=>(mK 0,10)
 |some (k,r)=>if 1<=k/\k<=7 then match gF k r with
   |none=>(mK 0,10)
   |some (e,r)=>if 0<r.length then (mK 0,11) else if 8000<e.data.length then (mK 0,2) else (e,0)
  else (mK 0,11)
def oL (N:Nat) (x0:List UInt8):Option (bw×Int):=
 if x0.length<4294967296 then as4 (hd x0) else as6
def Cc (N:Nat) (x0:List Int) (J:List Int):Nat->Int->Option (Sum (Unit) (Bool))
 |0,_=>as6
 |n+1,ai=>
  if (decide (ai<(x0.length:Int)))=as5 then
   as8 (aD x0 ai) fun aT=>
   as8 (aD J ai) fun a3=>
   if (aT !=a3)=as5 then
    as4 (ate as9)
   else
    ay.lt (ata .i64 (ai+1)) fun a7=>
    Cc N x0 J n a7
  else
   as4 (atf ())
def Lb (N:Nat) (x0:List Int) (J:List Int):Option Bool:=
 if ((x0.length:Int) !=(J.length:Int))=as5 then
  as4 as9
 else
  as8 (Cc N x0 J N 0) fun bj=>
  match bj with
  |atf bq=>
   as4 as5
  |ate bz=>
   as4 bz
def AH (N:Nat) (x0:List UInt8) (J:List UInt8):Nat->Int->Option (Sum (Unit) (Bool))
 |0,_=>as6
 |n+1,ai=>
  if (decide (ai<(x0.length:Int)))=as5 then
   as8 (aD x0 ai) fun aT=>
   as8 (aD J ai) fun a3=>
   if ((atv aT:Int) !=(atv a3:Int))=as5 then
    as4 (ate as9)
   else
    ay.lt (ata .i64 (ai+1)) fun a7=>
    AH N x0 J n a7
  else
   as4 (atf ())
def xt (N:Nat) (x0:List UInt8) (J:List UInt8):Option Bool:=
 if ((x0.length:Int) !=(J.length:Int))=as5 then
  as4 as9
 else
  as8 (AH N x0 J N 0) fun bj=>
  match bj with
  |atf bq=>
   as4 as5
  |ate bz=>
   as4 bz
def A2 (N:Nat) (x0:List (List UInt8)) (J:List (List UInt8)):Nat->Int->Option (Sum (Unit) (Bool))
 |0,_=>as6
 |n+1,ai=>
  if (decide (ai<(x0.length:Int)))=as5 then
   as8 (aD x0 ai) fun aT=>
   as8 (aD J ai) fun a3=>
   if (!(aT==a3))=as5 then
    as4 (ate as9)
   else
    ay.lt (ata .i64 (ai+1)) fun a7=>
    A2 N x0 J n a7
  else
   as4 (atf ())
def KA (N:Nat) (x0:List (List UInt8)) (J:List (List UInt8)):Option Bool:=
 if ((x0.length:Int) !=(J.length:Int))=as5 then
  as4 as9
 else
  as8 (A2 N x0 J N 0) fun bj=>
  match bj with
  |atf bq=>
   as4 as5
  |ate bz=>
   as4 bz
def Hx (N:Nat) (x0:List cb) (J:List cb) (ai:Int):Option Bool:=
 as8 (aD x0 ai) fun aT=>
 as8 (aD J ai) fun a3=>
 if (!(aT.name==a3.name))=as5 then
  as4 as5
 else
  as8 (aD x0 ai) fun a7=>
  as8 (aD J ai) fun bj=>
  if (a7.bQ !=bj.bQ)=as5 then
   as4 as5
  else
   as8 (aD x0 ai) fun bq=>
   as8 (aD J ai) fun bz=>
   as8 (KA N bq.cH bz.cH) fun bO=>
   as4 (!bO)
def z0 (N:Nat) (x0:List cb) (J:List cb):Nat->Int->Option (Sum (Unit) (Bool))
 |0,_=>as6
 |n+1,ai=>
  if (decide (ai<(x0.length:Int)))=as5 then
   as8 (Hx N x0 J ai) fun b3=>
   if b3=as5 then
    as4 (ate as9)
   else
    ay.lt (ata .i64 (ai+1)) fun cf=>
    z0 N x0 J n cf
  else
   as4 (atf ())
def JZ (N:Nat) (x0:List cb) (J:List cb):Option Bool:=
 if ((x0.length:Int) !=(J.length:Int))=as5 then
  as4 as9
 else
  as8 (z0 N x0 J N 0) fun b9=>
  match b9 with
  |atf cA=>
   as4 as5
  |ate cI=>
   as4 cI
def Hw (N:Nat) (al:bw) (ak:bw):Option Bool:=
 if (al.kind !=ak.kind)=as5 then
  as4 as5
 else
  if (al.bQ !=ak.bQ)=as5 then
   as4 as5
  else
   if (al.to !=ak.to)=as5 then
    as4 as5
   else
    if (al.count !=ak.count)=as5 then
     as4 as5
    else
     if (al.c0 !=ak.c0)=as5 then
      as4 as5
     else
      as8 (Lb N al.aP ak.aP) fun aT=>
      if (!aT)=as5 then
       as4 as5
      else
       if ((al.dd.length:Int) !=(ak.dd.length:Int))=as5 then
        as4 as5
       else
        if (!(al.name==ak.name))=as5 then
         as4 as5
        else
         as8 (xt N al.data ak.data) fun a3=>
         as4 (!a3)
def zZ (N:Nat) (al:bw) (ak:bw):Nat->Int->Option (Sum (Unit) (Bool))
 |0,_=>as6
 |n+1,ai=>
  if (decide (ai<(al.dd.length:Int)))=as5 then
   as8 (aD al.dd ai) fun bj=>
   as8 (aD ak.dd ai) fun bq=>
   if (!(decide (bj=bq)))=as5 then
    as4 (ate as9)
   else
    ay.lt (ata .i64 (ai+1)) fun bz=>
    zZ N al ak n bz
  else
   as4 (atf ())
def JY (N:Nat) (x0:bw) (J:bw):Option Bool:=
 as8 (Hw N x0 J) fun a7=>
 if a7=as5 then
  as4 as9
 else
  as8 (zZ N x0 J N 0) fun bO=>
  match bO with
  |atf b3=>
   as8 (JZ N ([x0.order]:List cb) ([J.order]:List cb)) fun cf=>
   as4 cf
  |ate b9=>
   as4 b9
def Ia (N:Nat) (x0:Int) (J:Int) (bk:Bool):Option Int:=
 if bk=as5 then
  ay.lt (ata .i64 (x0+J)) fun a3=>
  as4 a3
 else
  as4 x0
def Kl (N:Nat) (x0:Int) (J:Int):Option Int:=
 if (decide (J<1))=as5 then
  as4 0
 else
  as8 (nG x0 J) fun aT=>
  as8 (Ia N aT J (decide (aT<0))) fun a7=>
  as4 a7
def CT (N:Nat):Option Bool:=
 as4 as5
def Hs (N:Nat) (aC:List bw) (aZ:Int) (bk:Int) (a8:bw) (db:Int):Option Bool:=
 if (bk !=0)=as5 then
  as4 as5
 else
  if (db !=0)=as5 then
   as4 as5
  else
   as8 (aD aC aZ) fun b3=>
   as8 (aD aC aZ) fun cf=>
   as8 (JY N a8 cf) fun b9=>
   as4 (!b9)
def Ht (N:Nat) (cw:List UInt8) (cy:List UInt8) (di:Int):Option Bool:=
 if (di !=0)=as5 then
  as4 as5
 else
  as8 (xt N cy cw) fun ea=>
  as4 (!ea)
def Hr (N:Nat) (al:Int) (aA:cx) (aC:List bw) (aZ:Int):Option (Sum (cx) (Bool)):=
 as8 (aD aC aZ) fun bj=>
 as8 (aD aC aZ) fun bq=>
 as8 (xp N bq) fun bz=>
 as8 (oL N bz.1) fun bO=>
 as8 (Hs N aC aZ bz.2 bO.1 bO.2) fun cA=>
 if cA=as5 then
  as4 (ate as9)
 else
  as8 (Kl N al (bz.1.length:Int)) fun cI=>
  as8 (hj bz.1 0 cI) fun dg=>
  as8 (oL N dg) fun dm=>
  if (dm.2 !=10)=as5 then
   as4 (ate as9)
  else
   as8 (cl ([]:List UInt8) bz.1) fun dq=>
   as8 (e7 0) fun dx=>
   as8 (cl dq ([dx]:List UInt8)) fun c9=>
   as8 (oL N c9) fun cz=>
   if (cz.2 !=11)=as5 then
    as4 (ate as9)
   else
    as8 (Cz N aA bz.1) fun dT=>
    as8 (oL N dT.1) fun eN=>
    if (eN.2==0)=as5 then
     as8 (xp N eN.1) fun fi=>
     as8 (Ht N dT.1 fi.1 fi.2) fun fe=>
     if fe=as5 then
      as4 (ate as9)
     else
      as4 (atf dT.2)
    else
     as4 (atf dT.2)
def zY (N:Nat) (al:Int) (aC:List bw):Nat->cx->Int->Option (Sum (Unit) (Bool))
 |0,_,_=>as6
 |n+1,aA,aZ=>
  if (decide (aZ<(aC.length:Int)))=as5 then
   as8 (Hr N al aA aC aZ) fun fQ=>
   match fQ with
   |atf fM=>
    ay.lt (ata .i64 (aZ+1)) fun fX=>
    zY N al aC n fM fX
   |ate gk=>
    as4 (ate gk)
  else
   as4 (atf ())
def Hv (N:Nat) (J:List UInt8) (eF:List UInt8) (iV:Int):Option Bool:=
 if (iV !=0)=as5 then
  as4 as5
 else
  as8 (xt N eF J) fun jq=>
  as4 (!jq)
def Hu (N:Nat) (J:List UInt8) (eQ:bw) (JM:Bool):Option (Sum (Unit) (Bool)):=
 if JM=as5 then
  as8 (xp N eQ) fun jf=>
  as8 (Hv N J jf.1 jf.2) fun jw=>
  if jw=as5 then
   as4 (ate as9)
  else
   as4 (atf ())
 else
  as4 (atf ())
def xo (N:Nat) (x0:List Int) (J:List UInt8) (al:Int):Option Bool:=
 as8 (Ln N x0) fun aT=>
 as8 (J9 N aT as5) fun a3=>
 as8 (KT N a3.2 a3.1 8) fun a7=>
 as8 (zY N al a7.1 N a7.2 0) fun gW=>
 match gW with
 |atf gy=>
  if (decide (9000<(J.length:Int)))=as5 then
   as8 (CT N) fun hT=>
   as4 hT
  else
   as8 (oL N J) fun gL=>
   as8 (Hu N J gL.1 (gL.2==0)) fun h5=>
   match h5 with
   |atf jQ=>
    as8 (CT N) fun gd=>
    as4 gd
   |ate jR=>
    as4 jR
 |ate jx=>
  as4 jx
end
end Go.W
end
section
namespace Go.ay
section
variable {P:atb} {af:atd->as7} {o:Oper}
def mQ (af:atd->as7) (d:Nat):Option atd->Option Nat
 |none=>as4 d
 |some y=>match af y with
  | .int _ (.ofNat n)=>as4 n
  |_=>as6
theorem zf {bD:Option atd} {n:Nat} (h:mQ af 0 bD=as4 n):nM af bD n:=by
 cases bD with
 |none=>cases h;rfl
 |some y=>
  simp only[mQ] at h;split at h
  ·rename_i k m hm;cases h;exact ⟨k,hm⟩
  ·cases h
theorem ze {aj:Option atd} {l n:Nat} (h:mQ af l aj=as4 n):lq af aj l n:=by
 cases aj with
 |none=>cases h;rfl
 |some y=>
  simp only[mQ] at h;split at h
  ·rename_i k m hm;cases h;exact ⟨k,hm⟩
  ·cases h
def fu {aB:Type} (b:Bool) (x:Option aB):Option aB:=match b with|true=>x|false=>as6
theorem fB {aB:Type} {b:Bool} {x:Option aB} {y:aB} (h:fu b x=as4 y):b=as5/\x=as4 y:=by
 cases b
 ·cases h
 ·exact ⟨rfl,h⟩
def NB (op:BinOp) (k:as') (a b:Int):Option as7:=
 match op with
 | .add=>as4 (.int k (k.wrap (a+b)))
 | .sub=>as4 (.int k (k.wrap (a - b)))
 | .mul=>as4 (.int k (k.wrap (a*b)))
 | .quo=>fu (decide (b≠0)) (as4 (.int k (k.wrap (a.tdiv b))))
 | .rem=>fu (decide (b≠0)) (as4 (.int k (a.tmod b)))
 | .and=>as4 (.int k (nL .and k a b))
 | .or=>as4 (.int k (nL .or k a b))
 | .xor=>as4 (.int k (nL .xor k a b))
 | .eql=>as4 (.bool (a==b))
 | .neq=>as4 (.bool (a !=b))
 | .lss=>as4 (.bool (decide (a<b)))
 | .leq=>as4 (.bool (decide (a<=b)))
 | .gtr=>as4 (.bool (decide (b<a)))
 | .geq=>as4 (.bool (decide (b<=a)))
 |_=>as6
theorem aj5 {op:BinOp} {t u:atc} {x y:atd} {k:as'} {a b:Int} {v:as7} (h:o.op= .binOp op t x y u) (ad:af x= .int k a) (aJ:af y= .int k b) (ab:NB op k a b=as4 v):cX P af o v:=by
 cases op with
 |add=>obtain rfl:=atj.inj ab;exact Va h ad aJ
 |sub=>obtain rfl:=atj.inj ab;exact Vm h ad aJ
 |mul=>obtain rfl:=atj.inj ab;exact Vh h ad aJ
 |and=>obtain rfl:=atj.inj ab;exact Vb h ad aJ
 |or=>obtain rfl:=atj.inj ab;exact Vl h ad aJ
 |xor=>obtain rfl:=atj.inj ab;exact Vn h ad aJ
 |eql=>obtain rfl:=atj.inj ab;exact Vc h ad aJ
 |neq=>obtain rfl:=atj.inj ab;exact Vj h ad aJ
 |lss=>obtain rfl:=atj.inj ab;exact Vg h ad aJ
 |leq=>obtain rfl:=atj.inj ab;exact Vf h ad aJ
 |gtr=>obtain rfl:=atj.inj ab;exact Ve h ad aJ
 |geq=>obtain rfl:=atj.inj ab;exact Vd h ad aJ
 |quo=>obtain ⟨ag,ab⟩:=fB ab;obtain rfl:=atj.inj ab;exact NT h ad aJ (of_decide_eq_true ag)
 |rem=>obtain ⟨ag,ab⟩:=fB ab;obtain rfl:=atj.inj ab;exact NU h ad aJ (of_decide_eq_true ag)
 |_=>exact absurd ab (by simp[NB])
def Qj (op:BinOp) (s r:List UInt8):Option as7:=
 match op with
 | .add=>fu (atn (s.length+r.length) 9223372036854775807) (as4 (str (s++r)))
 | .eql=>as4 (.bool (s==r))
 | .neq=>as4 (.bool (!(s==r)))
 | .lss=>as4 (.bool (oB s r))
 | .leq=>as4 (.bool (oB s r||(s==r)))
 | .gtr=>as4 (.bool (!(oB s r||(s==r))))
 | .geq=>as4 (.bool (!oB s r))
 |_=>as6
theorem aof {op:BinOp} {t u:atc} {x y:atd} {s r:List UInt8} {v:as7} (h:o.op= .binOp op t x y u) (ad:af x=str s) (aJ:af y=str r) (ab:Qj op s r=as4 v):cX P af o v:=by
 cases op with
 |eql=>obtain rfl:=atj.inj ab;exact Zm h ad aJ
 |neq=>obtain rfl:=atj.inj ab;exact YX h ad aJ
 |lss=>obtain rfl:=atj.inj ab;exact YT h ad aJ
 |leq=>obtain rfl:=atj.inj ab;exact YS h ad aJ
 |gtr=>obtain rfl:=atj.inj ab;exact Zp h ad aJ
 |geq=>obtain rfl:=atj.inj ab;exact Zo h ad aJ
 |add=>obtain ⟨ax,ab⟩:=fB ab;obtain rfl:=atj.inj ab;exact Zj h ad aJ (ato ax)
 |_=>exact absurd ab (by simp[Qj])
theorem rr (b:ByteArray):str b.data.toList= .string b:=by
 cases b with
 |mk d=>simp[str]
def P6 (P:atb) (t:atc) (x y:as7):Option Bool:=
 match P.underlying t,x,y with
 |some (.int _), .int k a, .int cK b=>if k=cK then as4 (decide (a=b)) else as6
 |some .bool, .bool a, .bool b=>as4 (decide (a=b))
 |some .string, .string s, .string r=>as4 (decide (s.data.toList=r.data.toList))
 |_,_,_=>as6
def F6 (P:atb):List Field->Nat->List as7->List as7->Option Bool
 |[],_,[],[]=>as4 as5
 | f :: bl, i, x :: xs, y :: b1 => fu (ath f.offset i && !(f.name == "_")) (match P6 P f.type x y, F6 P bl (i + 1) xs b1 with
  |some a,as4 b=>as4 (a&&b)
  |_,_=>as6)
 |_,_,_,_=>as6
theorem aiY {t:atc} {x y:as7} {r:Bool} (h:P6 P t x y=as4 r):xK P t x y/\(r=as5↔x=y):=by
 unfold P6 at h;split at h
 ·rename_i cK k a cc b hu;split at h
  ·rename_i ar;subst ar;obtain rfl:=atj.inj h;exact ⟨.inl ⟨k,cK,a,b,hu,rfl,rfl⟩,by simp⟩
  ·cases h
 ·rename_i a b hu;obtain rfl:=atj.inj h;exact ⟨.inr (.inl ⟨a,b,hu,rfl,rfl⟩),by simp⟩
 ·rename_i s rI hu;obtain rfl:=atj.inj h;refine ⟨.inr (.inr ⟨s.data.toList,rI.data.toList,hu,(rr s).symm,(rr rI).symm⟩), ?_⟩;rw[decide_eq_true_iff];constructor
  ·intro he;rw[<-rr s,<-rr rI,he]
  ·intro he;cases he;rfl
 ·cases h
theorem Oa:∀{bl:List Field} {i:Nat} {xs b1:List as7} {r:Bool},F6 P bl i xs b1=as4 r->pF P bl i xs b1/\(r=as5↔xs=b1)
 |[],i,[],[],r,h=>by obtain rfl:=atj.inj h;exact ⟨trivial,by simp⟩
 |[],_,_::_,_,_,h=>by cases h
 |[],_,[],_::_,_,h=>by cases h
 |_::_,_,[],_,_,h=>by cases h
 |_::_,_,_::_,[],_,h=>by cases h
 |f::bl,i,x::xs,y::b1,r,h=>by
  simp only[F6] at h
  replace h:=fB h
  obtain ⟨g,h⟩:=h;rw[ati] at g;split at h
  ·rename_i a b aY ag;obtain rfl:=atj.inj h;obtain ⟨s1,s2⟩:=aiY aY;obtain ⟨t1,t2⟩:=Oa ag;refine ⟨⟨atl g.1,by simpa using g.2,s1,t1⟩, ?_⟩;rw[ati,s2,t2];simp
  ·cases h
def LV (P:atb) (op:BinOp) (t:atc) (a b:as7):Option as7:=
 match a,b with
 | .int k a, .int cc b=>(match op with
  | .shl=>fu (decide (0<=b)) (as4 (.int k (k.wrap (a*2 ^ (min b.toNat k.bits)))))
  | .shr=>fu (decide (0<=b)) (as4 (.int k (a.fdiv (2 ^ (min b.toNat k.bits)))))
  |op=>if k=cc then NB op k a b else as6)
 | .string s, .string r=>Qj op s.data.toList r.data.toList
 | .bool a, .bool b=>(match P.underlying t,op with
  |some .bool, .eql=>as4 (.bool (a==b))
  |some .bool, .neq=>as4 (.bool (!(a==b)))
  |_,_=>as6)
 | .agg xs, .agg b1=>(match P.underlying t with
  |some (.struct bl)=>fu (!P.stoodInHeld t&& !P.eqGuardType P.depth t) (match F6 P bl.toList 0 xs.toList b1.toList,op with
   |some r, .eql=>as4 (.bool r)
   |some r, .neq=>as4 (.bool (!r))
   |_,_=>as6)
  |_=>as6)
 | .slice as6 0 0, .slice as6 0 0=>(match P.underlying t,op with
  |some (.slice _), .eql=>as4 (.bool as5)
  |some (.slice _), .neq=>as4 (.bool as9)
  |_,_=>as6)
 | .slice (as4 _) _ _, .slice as6 0 0=>(match P.underlying t,op with
  |some (.slice _), .eql=>as4 (.bool as9)
  |some (.slice _), .neq=>as4 (.bool as5)
  |_,_=>as6)
 |_,_=>as6
theorem ajh {op:BinOp} {t u:atc} {x y:atd} {v:as7} (h:o.op= .binOp op t x y u) (ab:LV P op t (af x) (af y)=as4 v):cX P af o v:=by
 unfold LV at ab;split at ab
 ·rename_i k a cc b ad aJ;split at ab
  ·obtain ⟨ag,ab⟩:=fB ab;obtain rfl:=atj.inj ab;have:=Px (P:=P) (op:= .shl) h ad aJ (of_decide_eq_true ag) (.inl rfl);simpa using this
  ·obtain ⟨ag,ab⟩:=fB ab;obtain rfl:=atj.inj ab;have:=Px (P:=P) (op:= .shr) h ad aJ (of_decide_eq_true ag) (.inr rfl);simpa using this
  ·split at ab
   ·rename_i ar;subst ar;exact aj5 h ad aJ ab
   ·cases ab
 ·rename_i s r ad aJ;exact aof h (ad.trans (rr s).symm) (aJ.trans (rr r).symm) ab
 ·rename_i a b ad aJ;split at ab
  ·rename_i au;cases ab;exact Zl h au ad aJ
  ·rename_i au;cases ab;exact YW h au ad aJ
  ·cases ab
 ·rename_i xs b1 ad aJ;split at ab
  ·rename_i bl au
   replace ab:=fB ab
   obtain ⟨g,ab⟩:=ab;simp only[ati,auQ] at g;split at ab
   ·rename_i r aE;obtain ⟨s1,s2⟩:=Oa aE;obtain rfl:=atj.inj ab;exact EZ as9 h au g.1 g.2 s1 (by rw[ad]) (by rw[aJ]) s2
   ·rename_i r aE;obtain ⟨s1,s2⟩:=Oa aE;obtain rfl:=atj.inj ab;exact EZ as5 h au g.1 g.2 s1 (by rw[ad]) (by rw[aJ]) s2
   ·cases ab
  ·cases ab
 ·rename_i ad aJ;split at ab
  ·rename_i e au;cases ab;exact wQ as9 h au ad aJ
  ·rename_i e au;cases ab;exact wQ as5 h au ad aJ
  ·cases ab
 ·rename_i cj l c ad aJ;split at ab
  ·rename_i e au;cases ab;exact .tz as9 x y t u e _ l c h au ad aJ
  ·rename_i e au;cases ab;exact .tz as5 x y t u e _ l c h au ad aJ
  ·cases ab
 ·cases ab
def PG (P:atb) (c:Call) (af:atd->as7):Option as7:=
 match c.callee with
 | .builtin .len=>(match c.args.toList,c.argTypes.toList with
  |[x],[t]=>(match af x,P.underlying t with
   | .slice _ l _,as4 (.slice _)=>as4 (.int .i64 l)
   | .string s,as4 .string=>as4 (.int .i64 s.data.toList.length)
   |_,_=>as6)
  |_,_=>as6)
 | .builtin .cap=>(match c.args.toList,c.argTypes.toList with
  |[x],[t]=>(match af x,P.underlying t with
   | .slice as6 0 0,as4 (.slice _)=>as4 (.int .i64 0)
   |_,_=>as6)
  |_,_=>as6)
 | .builtin .max=>(match c.args.toList with
  |[x,y]=>(match af x,af y with
   | .int k a, .int cc b=>if k=cc then as4 (.int k (max a b)) else as6
   |_,_=>as6)
  |_=>as6)
 | .builtin .min=>(match c.args.toList with
  |[x,y]=>(match af x,af y with
   | .int k a, .int cc b=>if k=cc then as4 (.int k (min a b)) else as6
   |_,_=>as6)
  |_=>as6)
 |_=>as6
theorem tt {aB:Type} {a:Array aB} {x:aB} (h:a.toList=[x]):a=#[x]:=by
 cases a;simp at h;subst h;rfl
theorem Dq {aB:Type} {a:Array aB} {x y:aB} (h:a.toList=[x,y]):a=#[x,y]:=by
 cases a;simp at h;subst h;rfl
theorem aiC {c:Call} {v:as7} (h:o.op= .call c) (ab:PG P c af=as4 v):cX P af o v:=by
 obtain ⟨ce,Tg,ts⟩:=c;unfold PG at ab;dsimp only at ab;split at ab
 ·split at ab
  ·rename_i x t aY au;obtain rfl:=tt aY;obtain rfl:=tt au;split at ab
   ·rename_i a l c e ad hu;cases ab;exact .len x t e a l c h hu ad
   ·rename_i s ad hu;cases ab;exact Zq (t:=t) h rfl hu (ad.trans (rr s).symm)
   ·cases ab
  ·cases ab
 ·split at ab
  ·rename_i x t aY au;obtain rfl:=tt aY;obtain rfl:=tt au;split at ab
   ·rename_i e ad hu;cases ab;exact .xX x t e h hu ad
   ·cases ab
  ·cases ab
 ·split at ab
  ·rename_i x y aY;obtain rfl:=Dq aY;split at ab
   ·rename_i k a cc b ad aJ;split at ab
    ·rename_i ar;subst ar;cases ab;exact YU h ad aJ
    ·cases ab
   ·cases ab
  ·cases ab
 ·split at ab
  ·rename_i x y aY;obtain rfl:=Dq aY;split at ab
   ·rename_i k a cc b ad aJ;split at ab
    ·rename_i ar;subst ar;cases ab;exact YV h ad aJ
    ·cases ab
   ·cases ab
  ·cases ab
 ·cases ab
end
end Go.ay
end
section
namespace Go.ay
inductive Trie (aB:Type) where
 |e
 |n (l:Trie aB) (v:Option aB) (r:Trie aB)
def Trie.get {aB:Type}:Trie aB->Nat->Option aB
 | .e,_=>as6
 | .n l v r,k=>match ath k 0 with
  |true=>v
  |false=>match ath (k%2) 1 with
   |true=>l.get (k / 2)
   |false=>r.get (k / 2 - 1)
def Trie.set {aB:Type}:Nat->Trie aB->Nat->aB->Trie aB
 |0,t,_,_=>t
 |f+1, .e,k,x=>match ath k 0 with
  |true=> .n .e (as4 x) .e
  |false=>match ath (k%2) 1 with
   |true=> .n (Trie.set f .e (k / 2) x) as6 .e
   |false=> .n .e as6 (Trie.set f .e (k / 2 - 1) x)
 |f+1, .n l v r,k,x=>match ath k 0 with
  |true=> .n l (as4 x) r
  |false=>match ath (k%2) 1 with
   |true=> .n (Trie.set f l (k / 2) x) v r
   |false=> .n l v (Trie.set f r (k / 2 - 1) x)
theorem vF {a b:Nat} (h:¬a=b):ath a b=as9:=by
 cases ag:ath a b with
 |false=>rfl
 |true=>exact absurd (atl ag) h
theorem LU {a b:Nat} (h:a=b):ath a b=as5:=by
 subst h;exact Nat.beq_refl a
theorem Trie.x5 {aB:Type} {l r:Trie aB} {v:Option aB} {k:Nat}:(Trie.n l v r).get k=if k=0 then v else if k%2=1 then l.get (k / 2) else r.get (k / 2 - 1):=by
 simp only[Trie.get];by_cases bg:k=0
 ·subst bg;rfl
 ·rw[if_neg bg,vF bg];by_cases U:k%2=1
  ·rw[if_pos U,LU U]
  ·rw[if_neg U,vF U]
theorem Trie.abM {aB:Type} {k:Nat}:(Trie.e:Trie aB).get k=as6:=rfl
theorem Trie.Zz {aB:Type} {f:Nat} {l r:Trie aB} {v:Option aB} {k:Nat} {x:aB}:Trie.set (f+1) (Trie.n l v r) k x=if k=0 then .n l (as4 x) r else if k%2=1 then .n (Trie.set f l (k / 2) x) v r else .n l v (Trie.set f r (k / 2 - 1) x):=by
 simp only[Trie.set];by_cases bg:k=0
 ·subst bg;rfl
 ·rw[if_neg bg,vF bg];by_cases U:k%2=1
  ·rw[if_pos U,LU U]
  ·rw[if_neg U,vF U]
theorem Trie.ap0 {aB:Type} {f k:Nat} {x:aB}:∀j,(Trie.set (f+1) (Trie.e:Trie aB) k x).get j=(Trie.set (f+1) (Trie.n .e as6 .e) k x).get j:=by
 intro j;rw[Trie.Zz];simp only[Trie.set];by_cases bg:k=0
 ·subst bg;rfl
 ·rw[if_neg bg,vF bg];by_cases U:k%2=1
  ·rw[if_pos U,LU U]
  ·rw[if_neg U,vF U]
theorem Trie.abO {aB:Type} {x:aB}:∀(f:Nat) (t:Trie aB) (k j:Nat),k+1<2 ^ f->(Trie.set f t k x).get j=if j=k then as4 x else t.get j:=by
 intro f;induction f with
 |zero=>intro t k j h;omega
 |succ f aq=>
  intro t k j h;have core:∀(l r:Trie aB) (v:Option aB),(Trie.set (f+1) (Trie.n l v r) k x).get j=if j=k then as4 x else (Trie.n l v r).get j:=by
   intro l r v;rw[Trie.Zz,Trie.x5];rw[Nat.pow_succ] at h;by_cases bg:k=0
   ·subst bg;rw[if_pos rfl,Trie.x5];by_cases a0:j=0
    ·subst a0;simp
    ·rw[if_neg a0,if_neg a0,if_neg a0]
   ·rw[if_neg bg];by_cases U:k%2=1
    ·rw[if_pos U,Trie.x5];by_cases a0:j=0
     ·subst a0;rw[if_pos rfl,if_pos rfl,if_neg (by omega)]
     ·rw[if_neg a0,if_neg a0];by_cases oZ:j%2=1
      ·rw[if_pos oZ,if_pos oZ,aq _ _ _ (by omega)];by_cases yq:j=k
       ·subst yq;simp
       ·rw[if_neg yq,if_neg (by omega)]
      ·rw[if_neg oZ,if_neg oZ,if_neg (by omega)]
    ·rw[if_neg U,Trie.x5];by_cases a0:j=0
     ·subst a0;rw[if_pos rfl,if_pos rfl,if_neg (by omega)]
     ·rw[if_neg a0,if_neg a0];by_cases oZ:j%2=1
      ·rw[if_pos oZ,if_pos oZ,if_neg (by omega)]
      ·rw[if_neg oZ,if_neg oZ,aq _ _ _ (by omega)];by_cases yq:j=k
       ·subst yq;simp
       ·rw[if_neg yq,if_neg (by omega)]
  cases t with
  |n l v r=>exact core l r v
  |e=>
   rw[Trie.ap0,core,Trie.x5];congr 1;rw[Trie.abM];split
   ·rfl
   ·split<;>rfl
def Trie.put {aB:Type} (t:Trie aB) (k:Nat) (x:aB):Option (Trie aB):=fu (aty k 1000000000) (as4 (Trie.set 31 t k x))
theorem Trie.sE {aB:Type} {t dZ:Trie aB} {k:Nat} {x:aB} (h:t.put k x=as4 dZ) (j:Nat):dZ.get j=if j=k then as4 x else t.get j:=by
 obtain ⟨U,aa⟩:=fB h;obtain rfl:=atj.inj aa;have:k<1000000000:=ato U;exact Trie.abO 31 t k j (by omega)
structure dP where
 next:Nat
 t:Trie bm
def dP.mem (c:dP):Mem:=⟨c.next,fun b=>(c.t.get b).getD .dead⟩
def dP.aS (c:dP) (b:Nat):bm:=(c.t.get b).getD .dead
def dP.put (c:dP) (b:Nat) (x:bm):Option dP:=match c.t.put b x with
 |some t=>as4 ⟨c.next,t⟩
 |none=>as6
def dP.push (c:dP) (x:bm):Option dP:=match c.t.put c.next x with
 |some t=>as4 ⟨c.next+1,t⟩
 |none=>as6
theorem dP.wx {c bP:dP} {b:Nat} {x:bm} (h:c.put b x=as4 bP):bP.mem=c.mem.put b x:=by
 unfold dP.put at h;split at h
 ·rename_i t au;obtain rfl:=atj.inj h;simp only[dP.mem,Mem.put];congr 1;funext i;rw[Trie.sE au];split<;>rfl
 ·cases h
theorem dP.E2 {c bP:dP} {x:bm} (h:c.push x=as4 bP):bP.mem=c.mem.push x:=by
 unfold dP.push at h;split at h
 ·rename_i t au;obtain rfl:=atj.inj h;have U:∀i,(dP.mem ⟨c.next+1,t⟩).aS i=(c.mem.push x).aS i:=fun i=>by
   show (t.get i).getD .dead=if i=c.next then x else (c.t.get i).getD .dead
   rw[Trie.sE au];by_cases aj:i=c.next
   ·rw[if_pos aj,if_pos aj];rfl
   ·rw[if_neg aj,if_neg aj]
  show Mem.mk _ _=Mem.mk _ _;congr 1;exact funext U
 ·cases h
abbrev dC:=Trie as7
def dC.fr (c:dC) (i:Nat):as7:=(c.get i).getD undef
def dC.set (c:dC) (d:Option Tmp) (v:as7):Option dC:=match d with
 |some t=>c.put t v
 |none=>as4 c
theorem dC.qq {c bP:dC} {d:Option Tmp} {v:as7} (h:dC.set c d v=as4 bP):dC.fr bP=ay.set (dC.fr c) d v:=by
 cases d with
 |none=>obtain rfl:=atj.inj h;rfl
 |some t=>funext i;simp only[dC.fr,ay.set];rw[Trie.sE h];split<;>rfl
end Go.ay
end
section
namespace Go.ay
section
variable {P:atb} {af:atd->as7} {o:Oper}
theorem aiA {aB:Type} {l:List (Option aB)} (h:l.all avs=as5):∀x∈l,x.isSome=as5:=fun x ad=>atq.1 h x ad
def Pb (P:atb) (af:atd->as7) (t:atc) (cm:Array (Nat×atd)):Option as7:=
 match P.underlying t,P.info? t with
 |some (.struct bl),as4 i=>(match i.zero with
  |some z=>fu (z.cells.toList.all cQ&&(lV P bl).all avs) (match jc (fun k=>((lV P bl)[k]?).join) z.cells.toList (cm.toList.map fun p=>(p.1,af p.2)) with
   |some cs=>as4 (.agg cs.toArray)
   |none=>as6)
  |none=>as6)
 |some (.array n e),as4 i=>(match i.zero,P.info? e with
  |some z,as4 k=>fu (z.cells.toList.all cQ) (match jc (fun j=>as4 (j*k.size,k.size)) z.cells.toList (cm.toList.map fun p=>(p.1,af p.2)) with
   |some cs=>as4 (.agg cs.toArray)
   |none=>as6)
  |_,_=>as6)
 |_,_=>as6
theorem ahe {t:atc} {cm:Array (Nat×atd)} {v:as7} (h:o.op= .build t cm) (ab:Pb P af t cm=as4 v):cX P af o v:=by
 unfold Pb at ab;split at ab
 ·rename_i bl i hu aj;split at ab
  ·rename_i z a4;obtain ⟨U,ab⟩:=fB ab;rw[ati] at U;split at ab
   ·rename_i cs ah;obtain rfl:=atj.inj ab;exact .build t cm bl i z cs h hu aj a4 U.1 (aiA U.2) ah
   ·cases ab
  ·cases ab
 ·rename_i n e i hu aj;split at ab
  ·rename_i z k a4 ar;obtain ⟨U,ab⟩:=fB ab;split at ab
   ·rename_i cs ah;obtain rfl:=atj.inj ab;exact .xW t cm n e i k z cs h hu aj a4 U ar ah
   ·cases ab
  ·cases ab
 ·cases ab
def Ny (P:atb) (t:atc) (a b:as7):Option as7:=
 match P.underlying t,a,b with
 |some (.slice e), .slice (as4 ⟨il,off,as6⟩) l c, .int k n=>(match P.info? e with
  |some i=>fu (decide (0<=n)&&decide (n<l)) (as4 (.pointer (as4 ⟨il,off+n.toNat*i.size,as6⟩)))
  |none=>as6)
 |some (.array l e), .pointer (as4 ⟨il,off,as6⟩), .int k n=>(match P.info? e with
  |some i=>fu (decide (0<=n)&&decide (n<l)) (as4 (.pointer (as4 ⟨il,off+n.toNat*i.size,as6⟩)))
  |none=>as6)
 |_,_,_=>as6
theorem aj4 {t:atc} {x y:atd} {v:as7} (h:o.op= .indexAddr t x y) (ab:Ny P t (af x) (af y)=as4 v):cX P af o v:=by
 unfold Ny at ab;split at ab
 ·rename_i e il off l c k n hu ad aJ;split at ab
  ·rename_i i aj;obtain ⟨U,ab⟩:=fB ab;rw[ati] at U;obtain rfl:=atj.inj ab;exact .indexAddr t x y e i il off l c k n h hu aj ad aJ (of_decide_eq_true U.1) (of_decide_eq_true U.2)
  ·cases ab
 ·rename_i l e il off k n hu ad aJ;split at ab
  ·rename_i i aj;obtain ⟨U,ab⟩:=fB ab;rw[ati] at U;obtain rfl:=atj.inj ab;exact .yE t x y e i il off l k n h hu aj ad aJ (of_decide_eq_true U.1) (of_decide_eq_true U.2)
  ·cases ab
 ·cases ab
def Mr (P:atb) (t:atc) (i:Nat) (a:as7):Option as7:=
 match P.underlying t,a with
 |some (.struct bl), .pointer (as4 ⟨b,off,as6⟩)=>(match bl[i]? with
  |some f=>(match P.info? f.type with
   |some k=>fu (!Nat.beq k.size 0) (as4 (.pointer (as4 ⟨b,off+f.offset,as6⟩)))
   |none=>as6)
  |none=>as6)
 |_,_=>as6
theorem ai8 {t:atc} {x:atd} {i:Nat} {v:as7} (h:o.op= .fieldAddr t x i) (ab:Mr P t i (af x)=as4 v):cX P af o v:=by
 unfold Mr at ab;split at ab
 ·rename_i bl b off hu ad;split at ab
  ·rename_i f bd;split at ab
   ·rename_i k ar;obtain ⟨U,ab⟩:=fB ab;obtain rfl:=atj.inj ab;refine .fieldAddr t x i bl f k b off h hu bd ar (fun bg=> ?_) ad;rw[bg] at U;cases U
   ·cases ab
  ·cases ab
 ·cases ab
def Ho (l c k:Nat):Bool:=match ath c cF with
 |true=>atn k l
 |false=>aty c cF&&atn k c
theorem WK {l c k:Nat} (h:Ho l c k=as5):(c<cF/\k<=c)\/(c=cF/\k<=l):=by
 unfold Ho at h;split at h
 ·rename_i ah;exact .inr ⟨atl ah,ato h⟩
 ·rw[ati] at h;exact .inl ⟨ato h.1,ato h.2⟩
def L6 (P:atb) (af:atd->as7) (t:atc) (a:as7) (bD aj:Option atd) (fl:atd):Option as7:=
 match P.underlying t,a,bD,aj with
 |some (.slice e), .slice (as4 ⟨b,off,as6⟩) l c,as6,as4 y=>(match P.info? e,af y,af fl with
  |some i, .int _ (.ofNat ct), .int _ (.ofNat cK)=>fu (Ho l c cK&&atn ct cK) (as4 (.slice (as4 ⟨b,off,as6⟩) ct cK))
  |_,_,_=>as6)
 |some (.slice e), .slice as6 0 0,as6,as4 y=>(match P.info? e,af y,af fl with
  |some i, .int _ (.ofNat 0), .int _ (.ofNat 0)=>as4 (.slice as6 0 0)
  |_,_,_=>as6)
 |some (.slice e), .slice (as4 ⟨b,off,as6⟩) l c,as4 x0,as4 y=>(match P.info? e,af x0,af y,af fl with
  |some i, .int _ (.ofNat n), .int _ (.ofNat ct), .int _ (.ofNat cK)=>fu (Ho l c cK&&(atn n ct&&atn ct cK)) (as4 (.chan as6))
  |_,_,_,_=>as6)
 |_,_,_,_=>as6
theorem ajm {t:atc} {x fl:atd} {bD aj:Option atd} {v:as7} (h:o.op= .slice t x bD aj (as4 fl)) (ab:L6 P af t (af x) bD aj fl=as4 v):cX P af o v:=by
 unfold L6 at ab;split at ab
 ·rename_i e b off l c y hu ad;split at ab
  ·rename_i i uh ct km cK eo aJ hm
   replace ab:=fB ab
   obtain ⟨g,ab⟩:=ab;rw[ati] at g;obtain rfl:=atj.inj ab;exact .slice3 t x fl (as4 y) e i b off l c ct cK km h hu eo ad (WK g.1) ⟨y,uh,rfl,aJ⟩ hm (ato g.2)
  ·cases ab
 ·rename_i e y hu ad;split at ab
  ·rename_i i uh km eo aJ hm;obtain rfl:=atj.inj ab;exact .Cm t x fl (as4 y) e i km h hu eo ad ⟨y,uh,rfl,aJ⟩ hm
  ·cases ab
 ·rename_i e b off l c x0 y hu ad;split at ab
  ·rename_i i j2 n uh ct km cK eo bg aJ hm
   replace ab:=fB ab
   obtain ⟨g,ab⟩:=ab;simp only[ati] at g;obtain rfl:=atj.inj ab;exact .JG t x x0 y fl e i b off l c n ct cK j2 uh km h hu eo ad (WK g.1) bg aJ hm (ato g.2.1) (ato g.2.2)
  ·cases ab
 ·cases ab
def L7 (P:atb) (af:atd->as7) (t:atc) (a:as7) (bD aj fl:Option atd):Option as7:=
 match fl with
 |some m=>L6 P af t a bD aj m
 |none=>
  match P.underlying t,a with
  |some (.slice e), .slice (as4 ⟨b,off,as6⟩) l c=>(match P.info? e,mQ af 0 bD,mQ af l aj with
   |some i,as4 n,as4 ct=>fu (aty c cF&&(atn n ct&&atn ct c)) (as4 (.slice (as4 ⟨b,if c=n then off else off+n*i.size,as6⟩) (ct - n) (c - n)))
   |_,_,_=>as6)
  |some (.slice e), .slice as6 0 0=>(match P.info? e,mQ af 0 bD,mQ af 0 aj with
   |some i,as4 0,as4 0=>as4 (.slice as6 0 0)
   |_,_,_=>as6)
  |some .string, .string s=>(match mQ af 0 bD,mQ af s.data.toList.length aj with
   |some a,as4 b=>fu (atn a b&&atn b s.data.toList.length) (as4 (str ((s.data.toList.take b).drop a)))
   |_,_=>as6)
  |_,_=>as6
theorem ajn {t:atc} {x:atd} {bD aj fl:Option atd} {v:as7} (h:o.op= .slice t x bD aj fl) (ab:L7 P af t (af x) bD aj fl=as4 v):cX P af o v:=by
 unfold L7 at ab;split at ab
 ·exact ajm h ab
 ·split at ab
  ·rename_i e b off l c hu ad;split at ab
   ·rename_i i n ct eo ef dA;obtain ⟨U,ab⟩:=fB ab;obtain rfl:=atj.inj ab;simp only[ati] at U;exact .slice t x bD aj e i b off l c n ct h hu eo ad (ato U.1) (zf ef) (ze dA) (ato U.2.1) (ato U.2.2) (fun _=>trivial)
   ·cases ab
  ·rename_i e hu ad;split at ab
   ·rename_i i eo ef dA;obtain rfl:=atj.inj ab;exact .kK t x bD aj e i h hu eo ad (zf ef) (ze dA)
   ·cases ab
  ·rename_i s hu ad;split at ab
   ·rename_i a b ef dA;obtain ⟨U,ab⟩:=fB ab;obtain rfl:=atj.inj ab;simp only[ati] at U;exact XP h hu (ad.trans (rr s).symm) (zf ef) (ze dA) (ato U.1) (ato U.2)
   ·cases ab
  ·cases ab
end
end Go.ay
end
section
namespace Go.ay
section
variable {P:atb} {af:atd->as7} {o:Oper} {C:FuncId->Array as7->Mem->as7->Mem->Prop} {c bP:dP}
def Hl (P:atb) (af:atd->as7) (op:Op):Option as7:=
 match op with
 | .move x| .assign x=>as4 (af x)
 | .pick a x y=>(match af a with
  | .bool as5=>as4 (af x)
  | .bool as9=>as4 (af y)
  |_=>as6)
 | .extract x i=>(match af x with
  | .tuple vs=>vs[i]?
  |_=>as6)
 | .build t cm=>Pb P af t cm
 | .nilCheck x=>(match af x with
  | .pointer (as4 a)=>as4 (.pointer (as4 a))
  |_=>as6)
 | .fieldAddr t x i=>Mr P t i (af x)
 | .indexAddr t x y=>Ny P t (af x) (af y)
 | .index t x y=>(match P.underlying t,af x,af y with
  |some .string, .string s, .int _ n=>fu (decide (0<=n)) (match s.data.toList[n.toNat]? with
   |some u=>as4 (.int .u8 u.toNat)
   |none=>as6)
  |_,_,_=>as6)
 | .slice t x bD aj fl=>L7 P af t (af x) bD aj fl
 | .call c=>PG P c af
 | .makeFunc fn bl cs=>fu ((bl.toList++cs.toList).all fun x=>storable (af x)) (as4 (.func fn (bl.map af) (cs.map af)))
 | .unOp .not _ x=>(match af x with
  | .bool b=>as4 (.bool (!b))
  |_=>as6)
 | .unOp .neg _ x=>(match af x with
  | .int k a=>as4 (.int k (k.wrap (0 - a)))
  |_=>as6)
 | .convert s t x=>(match P.underlying s,P.underlying t,af x with
  |some _,as4 (.int cK), .int k a=>as4 (.int cK (cK.wrap a))
  |_,_,_=>as6)
 | .binOp b t x y u=>LV P b t (af x) (af y)
 |_=>as6
theorem WE {v:as7} (ab:Hl P af o.op=as4 v):cX P af o v:=by
 generalize an:o.op=op at ab;unfold Hl at ab;split at ab
 ·obtain rfl:=atj.inj ab;exact .move _ (.inl an)
 ·obtain rfl:=atj.inj ab;exact .move _ (.inr an)
 ·split at ab
  ·rename_i ad;obtain rfl:=atj.inj ab;exact .pick _ _ _ as5 an ad
  ·rename_i ad;obtain rfl:=atj.inj ab;exact .pick _ _ _ as9 an ad
  ·cases ab
 ·split at ab
  ·rename_i ad;exact .extract _ _ _ v an ad ab
  ·cases ab
 ·exact ahe an ab
 ·split at ab
  ·rename_i ad;obtain rfl:=atj.inj ab;exact .nilCheck _ _ an ad
  ·cases ab
 ·exact ai8 an ab
 ·exact aj4 an ab
 ·split at ab
  ·rename_i s k n hu ad aJ;obtain ⟨U,ab⟩:=fB ab;split at ab
   ·rename_i u ah;obtain rfl:=atj.inj ab;exact XO an hu (ad.trans (rr s).symm) aJ (of_decide_eq_true U) ah
   ·cases ab
  ·cases ab
 ·exact ajn an ab
 ·exact aiC an ab
 ·obtain ⟨U,ab⟩:=fB ab;obtain rfl:=atj.inj ab;exact .func _ _ _ an fun x ad=>atq.1 U x ad
 ·split at ab
  ·rename_i ad;obtain rfl:=atj.inj ab;exact Vk an ad
  ·cases ab
 ·split at ab
  ·rename_i ad;obtain rfl:=atj.inj ab;exact Vi an ad
  ·cases ab
 ·split at ab
  ·rename_i aE au ad;obtain rfl:=atj.inj ab;exact Zk an aE au ad
  ·cases ab
 ·exact ajh an ab
 ·cases ab
def yF (c:dP) (b o:Nat):Option as7:=match c.aS b with
 | .own L _=>L[o]?
 |_=>as6
theorem Ph {b n:Nat} {v:as7} (h:yF c b n=as4 v):c.mem.load b n=as4 v:=by
 unfold yF at h;unfold Mem.load;show (match c.aS b with| .ro rd=>rd n| .own L _=>L[n]? | .map _ _=>as6| .lock _ _ _ _=>as6| .dead=>as6)=as4 v;split at h
 ·rename_i L e ag;rw[ag];exact h
 ·cases h
def w8 (c:dP) (b o n:Nat):Option (List as7):=match c.aS b with
 | .own L _=>fu (atn (o+n) L.length) (as4 ((L.drop o).take n))
 |_=>as6
theorem Yg {b:Nat} {L:List as7} {e:atc} (ag:c.mem.aS b= .own L e):∀(n off:Nat),off+n<=L.length->fK c.mem b off n=as4 ((L.drop off).take n)
 |0,off,_=>by simp[fK]
 |n+1,off,h=>by
  have aq:=Yg ag n (off+1) (by omega);have bg:c.mem.load b off=as4 (L[off]'(by omega)):=by unfold Mem.load;rw[ag];simp[show off<L.length by omega]
  simp only[fK,bg,aq];rw[List.drop_eq_getElem_cons (show off<L.length by omega),List.take_succ_cons]
theorem FA {b off n:Nat} {cs:List as7} (h:w8 c b off n=as4 cs):fK c.mem b off n=as4 cs:=by
 unfold w8 at h;split at h
 ·rename_i L e ag;obtain ⟨U,h⟩:=fB h;obtain rfl:=atj.inj h;exact Yg (L:=L) (e:=e) ag n off (ato U)
 ·cases h
def zk:List as7->Option (List UInt8)
 |[]=>as4 []
 | .int .u8 n::l=>(match n with
  | .ofNat k=>fu (aty k 256) (match zk l with
   |some lE=>as4 (auu k::lE)
   |none=>as6)
  |_=>as6)
 |_=>as6
theorem VJ:∀{l:List as7} {lE:List UInt8},zk l=as4 lE->l=lE.map fun u=> .int .u8 u.toNat
 |[],lE,h=>by simp only[zk] at h;obtain rfl:=atj.inj h;rfl
 |v::l,lE,h=>by
  unfold zk at h;split at h
  ·rename_i bg;cases bg
  ·rename_i n lk bg;cases bg;split at h
   ·rename_i k;obtain ⟨U,h⟩:=fB h;split at h
    ·rename_i are pT;obtain rfl:=atj.inj h;rw[VJ pT];have:k<256:=ato U;simp[Nat.mod_eq_of_lt this]
    ·cases h
   ·cases h
  ·cases h
def P4 (P:atb) (af:atd->as7) (op:Op) (c:dP):Option as7:=
 match op with
 | .load t x=>(match af x,P.underlying t with
  | .pointer (as4 ⟨b,off,as6⟩),as4 d=>(match jz d with
   |false=>yF c b off
   |true=>(match P.info? t with
    |some i=>(match w8 c b off i.size with
     |some cs=>as4 (.agg cs.toArray)
     |none=>as6)
    |none=>as6))
  |_,_=>as6)
 | .slice t x bD (as4 aj) as6=>(match P.underlying t,af x with
  |some (.slice e), .slice (as4 ⟨b,off,as6⟩) l fU=>fu (!Nat.blt fU cF) (match P.info? e,c.aS b,mQ af 0 bD,mQ af l (as4 aj) with
   |some i, .own L e2,as4 n,as4 ct=>(match (match ath fU cF with|true=>l|false=>fU - cF) with
    |k=>fu (ath e2 e&&(atn n ct&&(atn ct k&&(aty n k&&(ath fU cF||ath fU (cF+k)))))) (as4 (.slice (as4 ⟨b,off+n*i.size,as6⟩) (ct - n) (cF+(k - n)))))
   |_,_,_,_=>as6)
  |_,_=>as6)
 | .slice t x bD as6 as6=>(match P.underlying t,af x with
  |some (.slice e), .slice (as4 ⟨b,off,as6⟩) l fU=>fu (ath fU cF) (match P.info? e,c.aS b,mQ af 0 bD,mQ af l as6 with
   |some i, .own L e2,as4 n,as4 ct=>fu (ath e2 e&&(atn n ct&&(atn ct l&&atn (off+l*i.size) L.length))) (as4 (.slice (as4 ⟨b,off+n*i.size,as6⟩) (ct - n) cF))
   |_,_,_,_=>as6)
  |_,_=>as6)
 | .convert s t x=>(match P.underlying s,P.underlying t,af x with
  |some (.slice e),as4 .string, .slice (as4 ⟨b,off,as6⟩) l _=>(match P.underlying e,w8 c b off l with
   |some (.int .u8),as4 cs=>(match zk cs with
    |some lE=>as4 (.string ⟨lE.toArray⟩)
    |none=>as6)
   |_,_=>as6)
  |some (.slice e),as4 .string, .slice as6 _ _=>(match P.underlying e with
   |some (.int .u8)=>as4 (.string .empty)
   |_=>as6)
  |_,_,_=>as6)
 |_=>as6
theorem aiU {v:as7} (ab:P4 P af o.op c=as4 v):eJ P af o c.mem v:=by
 generalize an:o.op=op at ab;unfold P4 at ab;split at ab
 ·split at ab
  ·rename_i b off d ad hu;split at ab
   ·rename_i aQ;exact .load _ _ b off d v an ad hu aQ (Ph ab)
   ·rename_i aQ;split at ab
    ·rename_i i aj;split at ab
     ·rename_i cs ah;obtain rfl:=atj.inj ab;exact .sz _ _ b off d i cs an ad hu aQ aj (FA ah)
     ·cases ab
    ·cases ab
  ·cases ab
 ·split at ab
  ·rename_i e b off l fU hu ad;obtain ⟨bg,q5⟩:=fB ab;clear ab;split at q5
   ·rename_i i L e2 n ct aj ag ef dA;dsimp only at q5;generalize ar:(match ath fU cF with|true=>l|false=>fU - cF)=k at q5;obtain ⟨U,ab⟩:=fB q5;simp only[ati] at U;obtain ⟨aU,aO,bT,cP,eG⟩:=U;obtain rfl:=atj.inj ab;obtain rfl:=atl aU;refine .ve _ _ _ _ e2 i L b off l fU k n ct an hu aj ad ?_ ag (zf ef) (ze dA) (ato aO) (ato bT) (ato cP);by_cases ah:fU=cF
    ·rw[ah,Nat.beq_refl] at ar;exact .inl ⟨ah,ar.symm⟩
    ·rw[auj] at eG;rcases eG with eG|eG
     ·exact absurd (atl eG) ah
     ·exact .inr (atl eG)
   ·cases q5
  ·cases ab
 ·split at ab
  ·rename_i e b off l fU hu ad;obtain ⟨bg,q5⟩:=fB ab;clear ab;split at q5
   ·rename_i i L e2 n ct aj ag ef dA;obtain ⟨U,ab⟩:=fB q5;simp only[ati] at U;obtain rfl:=atl bg;obtain rfl:=atj.inj ab;obtain rfl:=atl U.1;exact .slice _ _ _ _ e2 i L b off l n ct an hu aj ad ag (zf ef) (ze dA) (ato U.2.1) (ato U.2.2.1) (ato U.2.2.2)
   ·cases q5
  ·cases ab
 ·split at ab
  ·rename_i e b off l fU aE au ad;split at ab
   ·rename_i cs he ah;split at ab
    ·rename_i lE pT;obtain rfl:=atj.inj ab;exact .str _ _ _ e b off l fU lE an aE he au ad (by rw[FA ah,VJ pT])
    ·cases ab
   ·cases ab
  ·rename_i e l fU aE au ad;split at ab
   ·rename_i he;obtain rfl:=atj.inj ab;exact .vf _ _ _ e l fU an aE he au ad
   ·cases ab
  ·cases ab
 ·cases ab
end
end Go.ay
end
section
namespace Go.ay
section
variable {P:atb} {af:atd->as7} {o:Oper} {C:FuncId->Array as7->Mem->as7->Mem->Prop} {c bP:dP}
def s0 (i:TypeInfo):Option as7:=match i.zero with
 |some z=>fu (z.cells.toList.all cQ&&ath z.cells.size i.size) (as4 z)
 |none=>as6
theorem wC {i:TypeInfo} {z:as7} (h:s0 i=as4 z):i.zero=as4 z/\z.cells.toList.all cQ=as5/\z.cells.size=i.size:=by
 unfold s0 at h;split at h
 ·rename_i z' a4;obtain ⟨U,h⟩:=fB h;obtain rfl:=atj.inj h;rw[ati] at U;exact ⟨a4,U.1,atl U.2⟩
 ·cases h
def ES (P:atb) (af:atd->as7) (n:Nat) (op:Op):Option (bm×as7):=
 match op with
 | .alloc t=>(match P.info? t with
  |some i=>(match s0 i with
   |some z=>as4 (.own z.cells.toList t, .pointer (as4 ⟨n,0,as6⟩))
   |none=>as6)
  |none=>as6)
 | .box t x=>(match P.info? t with
  |some i=>fu (storable (af x)&&ath (af x).cells.size i.size) (as4 (.own (af x).cells.toList t, .pointer (as4 ⟨n,0,as6⟩)))
  |none=>as6)
 | .buildSlice t l cm=>(match P.underlying t with
  |some (.slice e)=>(match P.info? e with
   |some i=>(match s0 i with
    |some z=>fu (atn (l*i.size) 16777216&&aty l 9223372036854775808) (match jc (fun k=>as4 (k*i.size,i.size)) (att l z.cells.toList).flatten (cm.toList.map fun p=>(p.1,af p.2)) with
     |some cs=>as4 (.own cs e, .slice (as4 ⟨n,0,as6⟩) l l)
     |none=>as6)
    |none=>as6)
   |none=>as6)
  |_=>as6)
 | .makeSlice t x y=>(match P.underlying t,af x,af y with
  |some (.slice e), .int _ (.ofNat l), .int _ (.ofNat k)=>(match P.info? e with
   |some i=>(match s0 i with
    |some z=>fu (atn l k&&(atn (i.bytes*k) 140737488355328&&aty k 9223372036854775808)) (as4 (.own (att k z.cells.toList).flatten e, .slice (as4 ⟨n,0,as6⟩) l k))
    |none=>as6)
   |none=>as6)
  |_,_,_=>as6)
 | .convert s t x=>(match P.underlying s,P.underlying t,af x with
  |some .string,as4 (.slice e), .string b=>(match P.underlying e,P.info? e with
   |some (.int .u8),as4 i=>fu (ath i.size 1&&aty b.size 9223372036854775807) (as4 (.own (b.data.toList.map fun u=> .int .u8 u.toNat) e, .slice (as4 ⟨n,0,as6⟩) b.size cF))
   |_,_=>as6)
  |_,_,_=>as6)
 | .makeMap t as6=>(match P.underlying t with
  |some (.map _ _)=>as4 (.map [] t, .map (as4 n))
  |_=>as6)
 |_=>as6
theorem Xt {n:Nat} {X:bm} {v:as7} (ab:ES P af n o.op=as4 (X,v)):ij P af o n X v:=by
 generalize an:o.op=op at ab;unfold ES at ab;split at ab
 ·split at ab
  ·rename_i i aj;split at ab
   ·rename_i z a4;obtain ⟨cv,cT,hU⟩:=wC a4;cases ab;exact .alloc _ i z an aj cv cT hU
   ·cases ab
  ·cases ab
 ·split at ab
  ·rename_i i aj
   replace ab:=fB ab
   obtain ⟨U,ab⟩:=ab;rw[ati] at U;cases ab;exact .box _ _ i an aj U.1 (atl U.2)
  ·cases ab
 ·split at ab
  ·rename_i e hu;split at ab
   ·rename_i i aj;split at ab
    ·rename_i z a4;obtain ⟨cv,cT,hU⟩:=wC a4
     replace ab:=fB ab
     obtain ⟨U,ab⟩:=ab;rw[ati] at U;split at ab
     ·rename_i cs ah;cases ab;exact .buildSlice _ _ _ e i z cs an hu aj cv cT hU (ato U.1) (ato U.2) ah
     ·cases ab
    ·cases ab
   ·cases ab
  ·cases ab
 ·split at ab
  ·rename_i e b5 l cc k hu ad aJ;split at ab
   ·rename_i i aj;split at ab
    ·rename_i z a4;obtain ⟨cv,cT,hU⟩:=wC a4
     replace ab:=fB ab
     obtain ⟨U,ab⟩:=ab;simp only[ati] at U;cases ab;exact .makeSlice _ _ _ l k b5 cc e i z an hu aj cv cT hU ad aJ (ato U.1) (ato U.2.1) (ato U.2.2)
    ·cases ab
   ·cases ab
  ·cases ab
 ·split at ab
  ·rename_i e b aE au ad;split at ab
   ·rename_i i he aj
    replace ab:=fB ab
    obtain ⟨U,ab⟩:=ab;rw[ati] at U;cases ab;exact .bytes _ _ _ e i b an aE au he aj (atl U.1) ad (ato U.2)
   ·cases ab
  ·cases ab
 ·split at ab
  ·rename_i bh bc hu;cases ab;exact .makeMap _ bh bc an hu
  ·cases ab
 ·cases ab
def FY (c:dP) (a9:Nat):as7->Option (List as7)
 | .slice (as4 ⟨b,off,as6⟩) l _=>w8 c b off (l*a9)
 | .slice as6 _ _=>as4 []
 | .string s=>fu (ath a9 1) (as4 (s.data.toList.map fun u=> .int .u8 u.toNat))
 |_=>as6
theorem Oe {a9:Nat} {v:as7} {cs:List as7} (h:FY c a9 v=as4 cs):iY c.mem a9 v=as4 cs:=by
 unfold FY at h;split at h
 ·exact FA h
 ·exact h
 ·obtain ⟨U,h⟩:=fB h;simp only[iY];rw[if_pos (atl U)];exact h
 ·cases h
def LP (P:atb) (c:dP) (u:atc) (i:TypeInfo) (v:as7):Option (Nat×List as7):=
 match P.underlying u with
 |some (.slice _)|some .string=>(match FY c i.size v with
  |some cs=>as4 (hP v,cs)
  |none=>as6)
 |some (.int _)=>(match v with
  | .int _ (.ofNat n)=>(match s0 i with
   |some z=>fu (aty 0 i.size&&(atn (n*i.bytes) 140737488355328&&aty n 9223372036854775807)) (as4 (n,(att n z.cells.toList).flatten))
   |none=>as6)
  |_=>as6)
 |_=>as6
theorem ajc {u:atc} {i:TypeInfo} {v:as7} {n:Nat} {new:List as7} (h:LP P c u i v=as4 (n,new)):qA P c.mem u i v n new:=by
 unfold LP at h;split at h
 ·rename_i e hu;split at h
  ·rename_i cs ah;cases h;exact .el (.inl ⟨_,hu⟩) rfl (Oe ah)
  ·cases h
 ·rename_i hu;split at h
  ·rename_i cs ah;cases h;exact .el (.inr hu) rfl (Oe ah)
  ·cases h
 ·rename_i kk hu;split at h
  ·rename_i k n';split at h
   ·rename_i z a4;obtain ⟨cv,cT,hU⟩:=wC a4;obtain ⟨U,h⟩:=fB h;simp only[ati] at U;cases h;exact .mk kk k z hu rfl cv cT hU (ato U.1) (ato U.2.1) (ato U.2.2) rfl
   ·cases h
  ·cases h
 ·cases h
def rG {aB:Type} (v:aB) (m:Option dP):Option (aB×dP):=match m with
 |some c=>as4 (v,c)
 |none=>as6
theorem sH {aB:Type} {v w:aB} {m:Option dP} {c:dP} (h:rG v m=as4 (w,c)):v=w/\m=as4 c:=by
 cases m with
 |none=>cases h
 |some d=>cases h;exact ⟨rfl,rfl⟩
def PF (P:atb) (t u:atc) (a b:as7) (c:dP):Option (as7×dP):=
 match P.underlying t,a with
 |some (.slice e), .slice cj l fU=>(match P.info? e with
  |some i=>(match s0 i,LP P c u i b with
   |some z,as4 (n,new)=>fu (ath new.length (n*i.size)&&(aty 0 i.size&&(atn ((l+n)*i.bytes) 140737488355328&&aty (l+n) 9223372036854775807))) (match aty fU cF with
    |true=>(match ath n 0 with
     |true=>fu (atn l fU) (as4 (a,c))
     |false=>(match atn (l+n) fU,cj with
      |true,as4 ⟨il,off,as6⟩=>(match c.aS il with
       | .own L e2=>fu (ath e2 e&&atn (off+(l+n)*i.size) L.length) (rG (.slice (as4 ⟨il,off,as6⟩) (l+n) fU) (c.put il (.own (e1 L (off+l*i.size) new) e)))
       |_=>as6)
      |false,_=>(match FY c i.size a with
       |some dN=>fu (ath dN.length (l*i.size)) (rG (.slice (as4 ⟨c.next,0,as6⟩) (l+n) cF) (c.push (.own (dN++new) e)))
       |none=>as6)
      |_,_=>as6))
    |false=>(match cj with
     |some ⟨il,off,as6⟩=>(match c.aS il with
      | .own L e2=>(match ath fU cF with
       |false=>fu (ath e2 e&&(ath fU (cF+(fU - cF))&&(aty 0 (fU - cF)&&(atn (l+n) (fU - cF)&&atn (off+(l+n)*i.size) L.length)))) (rG (.slice (as4 ⟨il,off,as6⟩) (l+n) fU) (c.put il (.own (e1 L (off+l*i.size) new) e)))
       |true=>fu (ath e2 e&&atn (off+l*i.size) L.length) (match c.put il .dead with
       |some c1=>rG (.slice (as4 ⟨c.next,0,as6⟩) (l+n) cF) (c1.push (.own ((L.drop off).take (l*i.size)++new) e))
       |none=>as6))
      |_=>as6)
     |_=>as6))
   |_,_=>as6)
  |none=>as6)
 |_,_=>as6
theorem aiB {t u:atc} {x y:atd} {v:as7} (h:o.op= .call {callee:= .builtin .append,args:=#[x,y],argTypes:=#[t,u]}) (ab:PF P t u (af x) (af y) c=as4 (v,bP)):gI P C af o c.mem v bP.mem:=by
 unfold PF at ab;split at ab
 ·rename_i e cj l fU hu ad;split at ab
  ·rename_i i aj;split at ab
   ·rename_i z n new a4 aY;obtain ⟨cv,cT,hU⟩:=wC a4;have tI:=ajc aY
    replace ab:=fB ab
    obtain ⟨U,ab⟩:=ab;simp only[ati] at U;obtain ⟨aU,aO,bT,cP⟩:=U;have aU:=atl aU;have aO:0<i.size:=ato aO;have bT:=ato bT;have cP:l+n<9223372036854775807:=ato cP;split at ab
    ·rename_i yj;have yj:fU<cF:=ato yj;split at ab
     ·rename_i a2;obtain rfl:=atl a2
      replace ab:=fB ab
      obtain ⟨aa,ab⟩:=ab;cases ab;obtain rfl:new=[]:=List.eq_nil_of_length_eq_zero (by rw[aU];simp);exact .r9 x y t u e i cj l fU h hu aj ad yj (ato aa) tI
     ·split at ab
      ·rename_i il off hle;split at ab
       ·rename_i L e2 ag
        replace ab:=fB ab
        obtain ⟨aa,ab⟩:=ab;rw[ati] at aa;obtain ⟨rfl,hm⟩:=sH ab;obtain rfl:=atl aa.1;rw[dP.wx hm];exact .tr x y t u e2 i il off l fU n L new h hu aj ad yj (ato hle) ag tI aU (ato aa.2)
       ·cases ab
      ·rename_i hle;split at ab
       ·rename_i dN kQ
        replace ab:=fB ab
        obtain ⟨aa,ab⟩:=ab;obtain ⟨rfl,hm⟩:=sH ab;rw[dP.E2 hm];have bS:fU<l+n:=by
         cases Nat.lt_or_ge fU (l+n) with
         |inl h=>exact h
         |inr h=>rw[Nat.ble_eq_true_of_le h] at hle;cases hle
        exact .pK x y t u e i z _ l fU n dN new h hu aj cv cT hU aO ad bS (Oe kQ) (atl aa) tI aU bT cP
       ·cases ab
      ·cases ab
    ·rename_i yj;split at ab
     ·rename_i il off;split at ab
      ·rename_i L e2 ag;split at ab
       ·replace ab:=fB ab
        obtain ⟨aa,ab⟩:=ab;simp only[ati] at aa;obtain ⟨b5,cc,eH,ja,p4⟩:=aa;obtain ⟨rfl,hm⟩:=sH ab;obtain rfl:=atl b5;rw[dP.wx hm];exact .vE x y t u e2 i il off l fU (fU - cF) n L new h hu aj ad (atl cc) (ato eH) (ato ja) ag tI aU (ato p4)
       rename_i acu;obtain rfl:=atl acu
       replace ab:=fB ab
       obtain ⟨aa,ab⟩:=ab;rw[ati] at aa;split at ab
       ·rename_i c1 mc;obtain ⟨rfl,hm⟩:=sH ab;obtain rfl:=atl aa.1;rw[dP.E2 hm,dP.wx mc];exact .append x y t u e2 i z il off l n L new h hu aj cv cT hU aO ad ag (ato aa.2) tI aU bT cP
       ·cases ab
      ·cases ab
     ·cases ab
   ·cases ab
  ·cases ab
 ·cases ab
end
end Go.ay
end
section
namespace Go.ay
section
variable {P:atb} {af:atd->as7} {o:Oper} {C:FuncId->Array as7->Mem->as7->Mem->Prop} {c bP:dP}
def mj (d:TypeDesc) (v:as7):Bool:=match d,v with
 | .int k, .int cK _=>decide (k=cK)
 | .string, .string _=>as5
 |_,_=>as9
theorem OF {bh:atc} {d:TypeDesc} (h:P.underlying bh=as4 d):Keyed P bh fun v=>mj d v=as5:=
 aiO h fun v ab=>by
  unfold mj at ab;split at ab
  ·rw[<-of_decide_eq_true ab];simp[avt]
  ·simp[avt]
  ·cases ab
theorem Fi {d:TypeDesc} {v:as7} (ab:mj d v=as5):ay.flat v=as5/\cQ v=as5/\v.cells=#[v]/\storable v=as5:=by
 unfold mj at ab;split at ab
 ·exact ⟨rfl,rfl,rfl,rfl⟩
 ·exact ⟨rfl,rfl,rfl,rfl⟩
 ·cases ab
def uf (a b:as7):Bool:=match a,b with
 | .int k a, .int cK b=>decide (k=cK)&&decide (a=b)
 | .string s, .string r=>decide (s.data.toList=r.data.toList)
 |_,_=>as9
theorem Ya {a b:as7} (h:uf a b=as5):a=b:=by
 unfold uf at h;split at h
 ·rw[ati] at h;rw[of_decide_eq_true h.1,of_decide_eq_true h.2]
 ·rename_i s r;have U:=of_decide_eq_true h;cases s with
  |mk s=>cases r with
   |mk r=>
    have:s=r:=by cases s;cases r;simp at U;rw[U]
    rw[this]
 ·cases h
theorem X9 {d:TypeDesc} {a b:as7} (aY:mj d a=as5) (h:uf a b=as9):a≠b:=by
 rintro rfl;unfold mj at aY;split at aY
 ·simp[uf] at h
 ·simp[uf] at h
 ·cases aY
def zm:List as7->Option (List (as7×as7))
 |[]=>as4 []
 |a::b::l=>match zm l with
  |some r=>as4 ((a,b)::r)
  |none=>as6
 |[_]=>as6
def n8 (E:List (as7×as7)):List (List as7×List as7):=E.map fun p=>([p.1],[p.2])
theorem Ol:∀{L:List as7} {E:List (as7×as7)},zm L=as4 E->L=(n8 E).flatMap fun p=>p.1++p.2
 |[],E,h=>by cases h;rfl
 |[_],E,h=>by cases h
 |a::b::l,E,h=>by
  simp only[zm] at h;split at h
  ·rename_i r aF;cases h;simp[n8];have:=Ol aF;simpa[n8] using this
  ·cases h
def u4 (key z:as7):List (as7×as7)->as7×Bool
 |[]=>(z,as9)
 |p::E=>match uf p.1 key with
  |true=>(p.2,as5)
  |false=>u4 key z E
theorem W3 {d:TypeDesc} {key z:as7}:∀{E:List (as7×as7)},(E.all fun p=>mj d p.1)=as5->qI as9 as9 key z (n8 E) (u4 key z E).1 (u4 key z E).2
 |[],_=> .mR
 |p::E,h=>by
  simp only[atX,ati] at h;unfold u4;split
  ·rename_i ar;exact .oe _ _ (Ya ar)
  ·rename_i ar;exact .next _ _ _ _ (X9 h.1 ar) (W3 h.2)
def Cq (key val:as7):List (as7×as7)->List (as7×as7)
 |[]=>[(key,val)]
 |p::E=>match uf p.1 key with
  |true=>(p.1,val)::E
  |false=>p::Cq key val E
theorem XJ {d:TypeDesc} {key val:as7}:∀{E:List (as7×as7)},(E.all fun p=>mj d p.1)=as5->qL as9 [key] [val] (n8 E) (n8 (Cq key val E))
 |[],_=> .mR
 |p::E,h=>by
  simp only[atX,ati] at h;unfold Cq;split
  ·rename_i ar;exact .oe _ _ (Ya ar)
  ·rename_i ar;exact .next _ _ _ (X9 h.1 ar) (XJ h.2)
def EM (P:atb) (bh bc:atc):Option (TypeDesc×as7):=match P.underlying bh,P.info? bh,P.underlying bc,P.info? bc with
 |some d,as4 i,as4 TG,as4 ra=>(match ra.zero with
  |some z=>fu ((match d with| .int _| .string=>as5|_=>as9)&&(ath i.size 1&&(ath ra.size 1&&(!jz TG&&iR z)))) (as4 (d,z))
  |none=>as6)
 |_,_,_,_=>as6
structure ZY (P:atb) (bh bc:atc) (d:TypeDesc) (z:as7):Prop where
 aQ:P.underlying bh=as4 d
 j3:dG P bh=as9
 gw:dG P bc=as9
 ks:P.cellsOf bh=1
 vs:P.cellsOf bc=1
 ra:∃i,P.info? bc=as4 i/\i.zero=as4 z
 a4:iR z=as5
theorem Xq {bh bc:atc} {d:TypeDesc} {z:as7} (h:EM P bh bc=as4 (d,z)):ZY P bh bc d z:=by
 unfold EM at h;split at h
 ·rename_i pO i TG ra U aa ao aN;split at h
  ·rename_i z' a4
   replace h:=fB h
   obtain ⟨g,h⟩:=h;simp only[ati,auQ] at g;cases h;obtain ⟨aU,aO,bT,cP,eG⟩:=g;refine ⟨U,Yx U ?_,Yx ao cP, ?_, ?_,⟨ra,aN,a4⟩,eG⟩
   ·cases d<;>first|rfl|cases aU
   ·simp[auv,aa,atl aO]
   ·simp[auv,aN,atl bT]
  ·cases h
 ·cases h
def PM (P:atb) (af:atd->as7) (op:Op) (c:dP):Option as7:=
 match op with
 | .lookup fh x cJ ok=>(match P.underlying fh with
  |some (.map bh bc)=>(match EM P bh bc with
   |some (d,z)=>fu (mj d (af cJ)) (match af x with
    | .map (as4 b)=>(match c.aS b with
     | .map L u=>(match P.underlying u,zm L with
      |some (.map hE hF),as4 E=>fu (ath hE bh&&(ath hF bc&&E.all fun p=>mj d p.1)) (as4 (match ok with
       |true=> .tuple #[(u4 (af cJ) z E).1, .bool (u4 (af cJ) z E).2]
       |false=>(u4 (af cJ) z E).1))
      |_,_=>as6)
     |_=>as6)
    | .map as6=>as4 (match ok with
     |true=> .tuple #[z, .bool as9]
     |false=>z)
    |_=>as6)
   |none=>as6)
  |_=>as6)
 |_=>as6
theorem aij {v:as7} (ab:PM P af o.op c=as4 v):eJ P af o c.mem v:=by
 generalize an:o.op=op at ab;unfold PM at ab;split at ab
 ·rename_i fh x cJ ok;split at ab
  ·rename_i bh bc g0;split at ab
   ·rename_i d z jj;have T:=Xq jj;obtain ⟨ra,Um,gR⟩:=T.ra
    replace ab:=fB ab
    obtain ⟨ar,ab⟩:=ab;split at ab
    ·rename_i b ad;split at ab
     ·rename_i L u ag;split at ab
      ·rename_i hE hF E hu a1
       replace ab:=fB ab
       obtain ⟨g,ab⟩:=ab;simp only[ati] at g;obtain ⟨aU,aO,bT⟩:=g;obtain rfl:=atl aU;obtain rfl:=atl aO;have MN:nm (P.cellsOf hE) (P.cellsOf hF) L (n8 E):=⟨Ol a1,fun p aL=>by
        obtain ⟨q,_,rfl⟩:=atw.1 aL;rw[T.ks,T.vs];exact ⟨rfl,rfl⟩⟩
       have ax:=W3 (d:=d) (key:=af cJ) (z:=z) bT;have:=eJ.lookup (P:=P) (af:=af) (o:=o) (m:=c.mem) fh x cJ ok u hE hF b L (n8 E) ra z _ _ (fun v=>mj d v=as5) an g0 hu (.inl ⟨ad,ag,MN⟩) (by rw[T.ks];exact Nat.one_pos) (fun _=>T.vs) (OF T.aQ) (Fi ar).1 ar
        (fun p aL=>by
         obtain ⟨q,bb,rfl⟩:=atw.1 aL;rw[T.j3];exact atq.1 bT q bb) Um gR T.a4 (by rw[T.j3,T.gw];exact ax)
       cases ab;cases ok<;>exact this
      ·cases ab
     ·cases ab
    ·rename_i ad;have:=eJ.lookup (P:=P) (af:=af) (o:=o) (m:=c.mem) fh x cJ ok fh bh bc 0 [] [] ra z z as9 (fun v=>mj d v=as5) an g0 g0 (.inr ⟨ad,rfl⟩) (by rw[T.ks];exact Nat.one_pos) (fun _=>T.vs) (OF T.aQ) (Fi ar).1 ar
      (fun p aL=>by cases aL) Um gR T.a4 .mR
     cases ab;cases ok<;>exact this
    ·cases ab
   ·cases ab
  ·cases ab
 ·cases ab
def EQ (P:atb) (af:atd->as7) (fh:atc) (x gC gj:atd) (c:dP):Option dP:=
 match P.underlying fh with
 |some (.map bh bc)=>(match EM P bh bc with
  |some (d,z)=>fu (mj d (af gC)&&(match af gj with| .int _ _| .bool _| .string _=>as5|_=>as9)) (match af x with
   | .map (as4 b)=>(match c.aS b with
    | .map L u=>(match P.underlying u,zm L with
     |some (.map hE hF),as4 E=>fu (ath hE bh&&(ath hF bc&&E.all fun p=>mj d p.1)) (c.put b (.map ((n8 (Cq (af gC) (af gj) E)).flatMap fun p=>p.1++p.2) u))
     |_,_=>as6)
    |_=>as6)
   |_=>as6)
  |none=>as6)
 |_=>as6
theorem Xs {fh:atc} {x gC gj:atd} (an:o.op= .mapUpdate fh x gC gj\/o.op= .insert fh x gC gj) (ab:EQ P af fh x gC gj c=as4 bP):gI P C af o c.mem undef bP.mem:=by
 unfold EQ at ab;split at ab
 ·rename_i bh bc g0;split at ab
  ·rename_i d z jj;have T:=Xq jj
   replace ab:=fB ab
   obtain ⟨ar,ab⟩:=ab;rw[ati] at ar;split at ab
   ·rename_i b ad;split at ab
    ·rename_i L u ag;split at ab
     ·rename_i hE hF E hu a1
      replace ab:=fB ab
      obtain ⟨g,ab⟩:=ab;simp only[ati] at g;obtain ⟨aU,aO,bT⟩:=g;obtain rfl:=atl aU;obtain rfl:=atl aO;have MN:nm (P.cellsOf hE) (P.cellsOf hF) L (n8 E):=⟨Ol a1,fun p aL=>by
       obtain ⟨q,_,rfl⟩:=atw.1 aL;rw[T.ks,T.vs];exact ⟨rfl,rfl⟩⟩
      have o4:storable (af gj)=as5/\(af gj).cells=#[af gj]:=by have:=ar.2;cases h:af gj<;>rw[h] at this<;>first|exact ⟨rfl,rfl⟩|cases this
      rw[dP.wx ab];exact .mapUpdate fh x gC gj u hE hF b L [af gC] [af gj] (n8 E) (n8 (Cq (af gC) (af gj) E)) (fun v=>mj d v=as5) an g0 hu ad ag MN (by rw[T.ks];exact Nat.one_pos) (OF T.aQ) (by rw[T.j3];rfl) (by rw[T.ks];rfl)
       (by simp[(Fi ar.1).2.1]) (Fi ar.1).1 ar.1 (fun p aL=>by
        obtain ⟨q,bb,rfl⟩:=atw.1 aL;rw[T.j3];exact atq.1 bT q bb) o4.1 (by rw[T.gw];rfl) (by rw[T.vs];rfl) (fun v ab=>by rw[o4.2];simpa using ab) (by rw[T.j3];exact XJ bT)
     ·cases ab
    ·cases ab
   ·cases ab
  ·cases ab
 ·cases ab
def Af (P:atb) (af:atd->as7) (op:Op) (c:dP):Option as7:=match P4 P af op c with
 |some v=>as4 v
 |none=>PM P af op c
theorem OL {v:as7} (ab:Af P af o.op c=as4 v):eJ P af o c.mem v:=by
 unfold Af at ab;split at ab
 ·rename_i u hu;cases ab;exact aiU hu
 ·exact aij ab
end
end Go.ay
end
section
namespace Go.ay
section
variable {P:atb} {af:atd->as7} {o:Oper} {C:FuncId->Array as7->Mem->as7->Mem->Prop} {c bP:dP}
abbrev qC:=FuncId->Array as7->dP->Option (as7×dP)
def DL (P:atb) (gM:qC) (af:atd->as7) (op:Op) (c:dP):Option (as7×dP):=
 match op with
 | .store t x y=>(match af x,P.info? t with
  | .pointer (as4 ⟨b,off,as6⟩),as4 i=>(match c.aS b with
   | .own L e=>fu (storable (af y)&&(ath (af y).cells.size i.size&&atn (off+i.size) L.length)) (rG undef (c.put b (.own (e1 L off (af y).cells.toList) e)))
   |_=>as6)
  |_,_=>as6)
 | .mapUpdate fh x gC gj=>rG undef (EQ P af fh x gC gj c)
 | .insert fh x gC gj=>rG undef (EQ P af fh x gC gj c)
 | .call kc=>(match kc.callee with
  | .builtin .append=>(match kc.args.toList,kc.argTypes.toList with
   |[x,y],[t,u]=>PF P t u (af x) (af y) c
   |_,_=>as6)
  | .builtin .clear=>(match kc.args.toList,kc.argTypes.toList with
   |[x],[t]=>(match P.underlying t,af x with
    |some (.slice e), .slice (as4 ⟨b,off,as6⟩) l _=>(match P.info? e,c.aS b with
     |some i, .own L e2=>(match s0 i with
      |some z=>fu (ath e2 e&&(aty 0 l&&atn (off+l*i.size) L.length)) (rG (.tuple #[]) (c.put b (.own (e1 L off (att l z.cells.toList).flatten) e)))
      |none=>as6)
     |_,_=>as6)
    |_,_=>as6)
   |_,_=>as6)
  | .value f=>(match af f with
   | .func (.func g) first captured=>gM g (first++kc.args.map af++captured) c
   |_=>as6)
  |_=>as6)
 |_=>as6
theorem Xd {gM:qC} (jt:∀f args c v bP,gM f args c=as4 (v,bP)->C f args c.mem v bP.mem) {v:as7} (ab:DL P gM af o.op c=as4 (v,bP)):gI P C af o c.mem v bP.mem:=by
 generalize an:o.op=op at ab;unfold DL at ab;split at ab
 ·rename_i t x y;split at ab
  ·rename_i b off i ad aj;split at ab
   ·rename_i L e ag
    replace ab:=fB ab
    obtain ⟨U,ab⟩:=ab;simp only[ati] at U;obtain ⟨rfl,hm⟩:=sH ab;rw[dP.wx hm];exact .store t x y b off i L e an ad aj ag U.1 (atl U.2.1) (ato U.2.2)
   ·cases ab
  ·cases ab
 ·obtain ⟨rfl,hm⟩:=sH ab;exact Xs (.inl an) hm
 ·obtain ⟨rfl,hm⟩:=sH ab;exact Xs (.inr an) hm
 ·rename_i kc;obtain ⟨ce,Tg,ts⟩:=kc;dsimp only at ab;split at ab
  ·split at ab
   ·rename_i x y t u aY au;obtain rfl:=Dq aY;obtain rfl:=Dq au;exact aiB an ab
   ·cases ab
  ·split at ab
   ·rename_i x t aY au;obtain rfl:=tt aY;obtain rfl:=tt au;split at ab
    ·rename_i e b off l fU hu ad;split at ab
     ·rename_i i L e2 aj ag;split at ab
      ·rename_i z a4;obtain ⟨cv,cT,hU⟩:=wC a4
       replace ab:=fB ab
       obtain ⟨g,ab⟩:=ab;simp only[ati] at g;obtain ⟨rfl,hm⟩:=sH ab;obtain rfl:=atl g.1;rw[dP.wx hm];exact .clear x t e2 i z b off l fU L an hu aj cv cT hU ad ag (ato g.2.1) (ato g.2.2)
      ·cases ab
     ·cases ab
    ·cases ab
   ·cases ab
  ·rename_i f;split at ab
   ·rename_i g first captured bd
    exact .call g _ v _ ⟨f,Tg,ts,first,captured,an,bd,rfl⟩ (jt _ _ _ _ _ ab)
   ·cases ab
  ·cases ab
 ·cases ab
def DM:Option Addr->Option Addr->Bool
 |none,as6=>as5
 |some ⟨b,o,as6⟩,as4 ⟨cR,o',as6⟩=>ath b cR&&ath o o'
 |_,_=>as9
theorem Xw {a b:Option Addr} (h:DM a b=as5):a=b:=by
 unfold DM at h;split at h
 ·rfl
 ·rw[ati] at h;rw[atl h.1,atl h.2]
 ·cases h
def qP (f:as7->as7->Bool):List as7->List as7->Bool
 |[],[]=>as5
 |a::l,b::k=>f a b&&qP f l k
 |_,_=>as9
theorem uI {f:as7->as7->Bool} (bd:∀a b,f a b=as5->a=b):∀{l k:List as7},qP f l k=as5->l=k
 |[],[],_=>rfl
 |[],_::_,h=>by cases h
 |_::_,[],h=>by cases h
 |a::l,b::k,h=>by simp only[qP,ati] at h;rw[bd a b h.1,uI bd h.2]
def pQ:Nat->as7->as7->Bool
 |0,_,_=>as9
 |n+1,a,b=>match a,b with
  | .int k a, .int cK b=>decide (k=cK)&&decide (a=b)
  | .bool a, .bool b=>decide (a=b)
  | .string s, .string r=>decide (s.data.toList=r.data.toList)
  | .pointer a, .pointer b=>DM a b
  | .slice a l c, .slice b lk bP=>DM a b&&(ath l lk&&ath c bP)
  | .map as6, .map as6=>as5
  | .map (as4 r), .map (as4 q)=>ath r q
  | .nilFunc, .nilFunc=>as5
  | .nilIface, .nilIface=>as5
  | .agg a, .agg b=>qP (pQ n) a.toList b.toList
  | .tuple a, .tuple b=>qP (pQ n) a.toList b.toList
  | .func (.func f) x y, .func (.func g) z w=>ath f g&&(qP (pQ n) x.toList z.toList&&qP (pQ n) y.toList w.toList)
  |_,_=>as9
theorem zj {aB:Type} {a b:Array aB} (h:a.toList=b.toList):a=b:=by cases a;cases b;simp at h;rw[h]
theorem Gc:∀(n:Nat) (a b:as7),pQ n a b=as5->a=b:=by
 intro n;induction n with
 |zero=>intro a b h;cases h
 |succ n aq=>
  intro a b h;unfold pQ at h;split at h
  ·rw[ati] at h;rw[of_decide_eq_true h.1,of_decide_eq_true h.2]
  ·rw[of_decide_eq_true h]
  ·rename_i s r;cases s with
   |mk d=>cases r with
    |mk e=>have aa:d=e:=zj (of_decide_eq_true h);rw[aa]
  ·rw[Xw h]
  ·simp only[ati] at h;rw[Xw h.1,atl h.2.1,atl h.2.2]
  ·rfl
  ·rw[atl h]
  ·rfl
  ·rfl
  ·rw[zj (uI aq h)]
  ·rw[zj (uI aq h)]
  ·simp only[ati] at h;rw[atl h.1,zj (uI aq h.2.1),zj (uI aq h.2.2)]
  ·cases h
def Mp:bm->bm->Bool
 | .dead, .dead=>as5
 | .own L t, .own K u=>ath t u&&qP (pQ 20) L K
 | .map L t, .map K u=>ath t u&&qP (pQ 20) L K
 |_,_=>as9
theorem apl {a b:bm} (h:Mp a b=as5):a=b:=by
 unfold Mp at h;split at h
 ·rfl
 ·rw[ati] at h;rw[atl h.1,uI (Gc 20) h.2]
 ·rw[ati] at h;rw[atl h.1,uI (Gc 20) h.2]
 ·cases h
def s5 (P:atb) (gM:qC) (ops:List Oper):List Oper->dC->dP->Option (dC×dP)
 |[],fr,c=>as4 (fr,c)
 |o::os,fr,c=>match wanted ops (dC.fr fr) o with
  |false=>(match dC.set fr o.dst undef with
   |some cU=>s5 P gM ops os cU c
   |none=>as6)
  |true=>(match Hl P (a6 (dC.fr fr)) o.op with
   |some v=>(match dC.set fr o.dst v with
    |some cU=>s5 P gM ops os cU c
    |none=>as6)
   |none=>match Af P (a6 (dC.fr fr)) o.op c with
    |some v=>(match dC.set fr o.dst v with
     |some cU=>s5 P gM ops os cU c
     |none=>as6)
    |none=>match ES P (a6 (dC.fr fr)) c.next o.op with
     |some (X,v)=>(match dC.set fr o.dst v,c.push X with
      |some cU,as4 c1=>s5 P gM ops os cU c1
      |_,_=>as6)
     |none=>match DL P gM (a6 (dC.fr fr)) o.op c with
      |some (v,c1)=>(match dC.set fr o.dst v with
       |some cU=>s5 P gM ops os cU c1
       |none=>as6)
      |none=>as6)
theorem wR {gM:qC} (jt:∀f args c v bP,gM f args c=as4 (v,bP)->C f args c.mem v bP.mem) {ops:List Oper}:∀(os:List Oper) (fr bA:dC) (c bP:dP),s5 P gM ops os fr c=as4 (bA,bP)->jn P C ops os (dC.fr fr) c.mem (dC.fr bA) bP.mem
 |[],fr,bA,c,bP,h=>by cases h;exact ⟨rfl,rfl⟩
 |o::os,fr,bA,c,bP,h=>by
  unfold s5 at h;unfold jn;split at h
  ·rename_i hw;rw[if_neg (by rw[hw];simp)];split at h
   ·rename_i cU aE;rw[<-dC.qq aE];exact wR jt os _ _ _ _ h
   ·cases h
  ·rename_i hw;rw[if_pos hw];split at h
   ·rename_i v aL;split at h
    ·rename_i cU aE;exact ⟨v,_, .pure (WE aL),by rw[<-dC.qq aE];exact wR jt os _ _ _ _ h⟩
    ·cases h
   ·split at h
    ·rename_i v aL;split at h
     ·rename_i cU aE;exact ⟨v,_, .read (OL aL),by rw[<-dC.qq aE];exact wR jt os _ _ _ _ h⟩
     ·cases h
    ·split at h
     ·rename_i X v aL;split at h
      ·rename_i cU c1 aE ah;refine ⟨v,_, .new (Xt aL), ?_⟩;rw[<-dC.qq aE,show c.mem.push X=c1.mem from (dP.E2 ah).symm];exact wR jt os _ _ _ _ h
      ·cases h
     ·split at h
      ·rename_i v c1 aL;split at h
       ·rename_i cU aE;exact ⟨v,_, .e4 (Xd jt aL),by rw[<-dC.qq aE];exact wR jt os _ _ _ _ h⟩
       ·cases h
      ·cases h
end
end Go.ay
end
section
namespace Go.ay
end Go.ay
end
section
namespace Go.ay
section
variable {P:atb} {C:FuncId->Array as7->Mem->as7->Mem->Prop}
structure qz where
 reads:List (Nat×dC×Op×as7)
 gg:List (Nat×dP)
 news:List (Nat×Nat)
def zn (P:atb) (fr:dC) (op:Op) (v:as7) (c:dP):Bool:=match Af P (a6 (dC.fr fr)) op c with
 |some u=>pQ 20 u v
 |none=>as9
theorem VZ {fr:dC} {o:Oper} {v:as7} {c:dP} (h:zn P fr o.op v c=as5):eJ P (a6 (dC.fr fr)) o c.mem v:=by
 unfold zn at h;split at h
 ·rename_i u hu;rw[<-Gc 20 u v h];exact OL hu
 ·cases h
inductive mE (P:atb):qz->Acc->Prop where
 |nil:mE P ⟨[],[],[]⟩ ⟨[],[],[]⟩
 |read {A:qz} {B:Acc} (i:Nat) (fr:dC) (o:Oper) (v:as7) (h:mE P A B):mE P {A with reads:=(i,fr,o.op,v)::A.reads} {B with reads:=(i,fun m=>eJ P (a6 (dC.fr fr)) o m v)::B.reads}
 |e4 {A:qz} {B:Acc} (i:Nat) (c:dP) (h:mE P A B):mE P {A with gg:=(i,c)::A.gg} {B with gg:=(i,c.mem)::B.gg}
 |new {A:qz} {B:Acc} (i n:Nat) (h:mE P A B):mE P {A with news:=(i,n)::A.news} {B with news:=(i,n)::B.news}
theorem mE.gg {A:qz} {B:Acc} (h:mE P A B):B.gg=A.gg.map fun x=>(x.1,x.2.mem):=by
 induction h with
 |nil=>rfl
 |read i fr o v h aq=>exact aq
 |e4 i c h aq=>simp only[List.map_cons,aq]
 |new i n h aq=>exact aq
theorem mE.news {A:qz} {B:Acc} (h:mE P A B):B.news=A.news:=by
 induction h with
 |nil=>rfl
 |read i fr o v h aq=>exact aq
 |e4 i c h aq=>exact aq
 |new i n h aq=>simp only[aq]
theorem mE.reads {A:qz} {B:Acc} (h:mE P A B) {mI:Array Nat} {i:Nat} {c:dP} (aF:(A.reads.all fun x=>fq mI i x.1||zn P x.2.1 x.2.2.1 x.2.2.2 c)=as5):∀x∈B.reads,fq mI i x.1=as9->x.2 c.mem:=by
 induction h with
 |nil=>intro x ad;cases ad
 |read j fr o v h aq=>
  simp only[atX,ati] at aF;intro x ad aY;rcases List.mem_cons.1 ad with rfl|ad
  ·have U:=aF.1;rw[auj] at U;rcases U with U|U
   ·rw[U] at aY;cases aY
   ·exact VZ U
  ·exact aq aF.2 x ad aY
 |e4 j bP h aq=>exact aq aF
 |new j n h aq=>exact aq aF
def sW (P:atb) (gM:qC) (ops:List Oper) (mI:Array Nat):Nat->List Oper->qz->dC->dP->Option (dC×dP)
 |_,[],_,fr,c=>as4 (fr,c)
 |i,o::os,A,fr,c=>match wanted ops (dC.fr fr) o with
  |false=>(match dC.set fr o.dst undef with
   |some cU=>sW P gM ops mI (i+1) os A cU c
   |none=>as6)
  |true=>(match Hl P (a6 (dC.fr fr)) o.op with
   |some v=>(match dC.set fr o.dst v with
    |some cU=>sW P gM ops mI (i+1) os A cU c
    |none=>as6)
   |none=>match Af P (a6 (dC.fr fr)) o.op c with
    |some v=>(match dC.set fr o.dst v with
     |some cU=>fu (A.gg.all fun x=>fq mI i x.1||zn P fr o.op v x.2) (sW P gM ops mI (i+1) os {A with reads:=(i,fr,o.op,v)::A.reads} cU c)
     |none=>as6)
    |none=>match ES P (a6 (dC.fr fr)) c.next o.op with
     |some (X,v)=>(match dC.set fr o.dst v,c.push X with
      |some cU,as4 c1=>sW P gM ops mI (i+1) os {A with news:=(i,c.next)::A.news} cU c1
      |_,_=>as6)
     |none=>match DL P gM (a6 (dC.fr fr)) o.op c with
      |some (v,c1)=>(match dC.set fr o.dst v with
       |some cU=>fu ((A.reads.all fun x=>fq mI i x.1||zn P x.2.1 x.2.2.1 x.2.2.2 c1)&&(A.news.all fun x=>fq mI i x.1||Mp (c1.aS x.2) (c.aS x.2))) (sW P gM ops mI (i+1) os {A with gg:=(i,c)::A.gg} cU c1)
       |none=>as6)
      |none=>as6)
theorem wF {gM:qC} (jt:∀f args c v bP,gM f args c=as4 (v,bP)->C f args c.mem v bP.mem) {ops:List Oper} {mI:Array Nat}:∀(os:List Oper) (i:Nat) (A:qz) (B:Acc) (fr bA:dC) (c bP:dP),mE P A B->sW P gM ops mI i os A fr c=as4 (bA,bP)->gT P C ops mI i os B (dC.fr fr) c.mem (dC.fr bA) bP.mem
 |[],i,A,B,fr,bA,c,bP,dW,h=>by cases h;exact ⟨rfl,rfl⟩
 |o::os,i,A,B,fr,bA,c,bP,dW,h=>by
  unfold sW at h;unfold gT;split at h
  ·rename_i hw;rw[if_neg (by rw[hw];simp)];split at h
   ·rename_i cU aE;rw[<-dC.qq aE];exact wF jt os _ _ _ _ _ _ _ dW h
   ·cases h
  ·rename_i hw;rw[if_pos hw];split at h
   ·rename_i v aL;split at h
    ·rename_i cU aE;exact .inl ⟨v,WE aL,by rw[<-dC.qq aE];exact wF jt os _ _ _ _ _ _ _ dW h⟩
    ·cases h
   ·split at h
    ·rename_i v aL;split at h
     ·rename_i cU aE
      replace h:=fB h
      obtain ⟨U,h⟩:=h;refine .inr (.inl ⟨v,OL aL,fun x ad aY=> ?_,by rw[<-dC.qq aE];exact wF jt os _ _ _ _ _ _ _ (.read i fr o v dW) h⟩);rw[dW.gg] at ad;obtain ⟨y,aJ,rfl⟩:=atw.1 ad;have aa:=atq.1 U y aJ;rw[auj] at aa;rcases aa with aa|aa
      ·rw[aa] at aY;cases aY
      ·exact VZ aa
     ·cases h
    ·split at h
     ·rename_i X v aL;split at h
      ·rename_i cU c1 aE ah;refine .inr (.inr (.inl ⟨X,v,Xt aL, ?_⟩));rw[<-dC.qq aE,show c.mem.push X=c1.mem from (dP.E2 ah).symm];exact wF jt os _ _ _ _ _ _ _ (.new i c.next dW) h
      ·cases h
     ·split at h
      ·rename_i v c1 aL;split at h
       ·rename_i cU aE
        replace h:=fB h
        obtain ⟨U,h⟩:=h;rw[ati] at U;refine .inr (.inr (.inr ⟨v,_,Xd jt aL,dW.reads U.1,fun x ad aY=> ?_,by rw[<-dC.qq aE];exact wF jt os _ _ _ _ _ _ _ (.e4 i c dW) h⟩));rw[dW.news] at ad;have aa:=atq.1 U.2 x ad;rw[auj] at aa;rcases aa with aa|aa
        ·rw[aa] at aY;cases aY
        ·exact apl aa
       ·cases h
      ·cases h
def po (P:atb) (gM:qC):Nat->Code->dC->dP->Option (eS×dC×dP)
 |0,_,_,_=>as6
 |n+1,k,fr,c=>match k with
  | .skip=>as4 (.normal,fr,c)
  | .label _=>as4 (.normal,fr,c)
  | .exit id=>as4 (.exit id,fr,c)
  | .ret=>as4 (.ret,fr,c)
  | .region _ ops as9=>(match s5 P gM ops.toList ops.toList fr c with
   |some (cU,c1)=>as4 (.normal,cU,c1)
   |none=>as6)
  | .region _ ops as5=>(match sW P gM ops.toList (Region.before ops) 0 ops.toList ⟨[],[],[]⟩ fr c with
   |some (cU,c1)=>as4 (.normal,cU,c1)
   |none=>as6)
  | .seq a b=>(match po P gM n a fr c with
   |some (.normal,cU,c1)=>po P gM n b cU c1
   |some (e,cU,c1)=>as4 (e,cU,c1)
   |none=>as6)
  | .cond x a b=>(match a6 (dC.fr fr) x with
   | .bool as5=>po P gM n a fr c
   | .bool as9=>po P gM n b fr c
   |_=>as6)
  | .scope a=>po P gM n a fr c
  | .block id a=>(match po P gM n a fr c with
   |some (.exit j,cU,c1)=>(match ath j id with
    |true=>as4 (.normal,cU,c1)
    |false=>as4 (.exit j,cU,c1))
   |some (e,cU,c1)=>as4 (e,cU,c1)
   |none=>as6)
  | .loop a=>(match po P gM n a fr c with
   |some (.normal,cU,c1)=>po P gM n (.loop a) cU c1
   |some (e,cU,c1)=>as4 (e,cU,c1)
   |none=>as6)
  |_=>as6
theorem Ws {gM:qC} (jt:∀f args c v bP,gM f args c=as4 (v,bP)->C f args c.mem v bP.mem):∀(n:Nat) (k:Code) (fr bA:dC) (c bP:dP) (e:eS),po P gM n k fr c=as4 (e,bA,bP)->j6 P C n k (dC.fr fr) c.mem e (dC.fr bA) bP.mem
 |0,k,fr,bA,c,bP,e,h=>by cases h
 |n+1,k,fr,bA,c,bP,e,h=>by
  have aq:=Ws jt n;unfold po at h;split at h
  ·cases h;exact ⟨rfl,rfl,rfl⟩
  ·cases h;exact ⟨rfl,rfl,rfl⟩
  ·cases h;exact ⟨rfl,rfl,rfl⟩
  ·cases h;exact ⟨rfl,rfl,rfl⟩
  ·split at h
   ·rename_i cU c1 aE;cases h;exact ⟨rfl,wR jt _ _ _ _ _ aE⟩
   ·cases h
  ·split at h
   ·rename_i cU c1 aE;cases h;exact ⟨rfl,wF jt _ _ _ _ _ _ _ _ .nil aE⟩
   ·cases h
  ·split at h
   ·rename_i cU c1 aE;exact .inl ⟨.normal,_,_,aq _ _ _ _ _ _ aE,by rw[if_pos rfl];exact aq _ _ _ _ _ _ h⟩
   ·rename_i bt cU c1 ep aE;cases h;exact .inl ⟨e,_,_,aq _ _ _ _ _ _ aE,by rw[if_neg ep];exact ⟨rfl,rfl,rfl⟩⟩
   ·cases h
  ·split at h
   ·rename_i ad;exact ⟨as5,ad,aq _ _ _ _ _ _ h⟩
   ·rename_i ad;exact ⟨as9,ad,aq _ _ _ _ _ _ h⟩
   ·cases h
  ·exact aq _ _ _ _ _ _ h
  ·split at h
   ·rename_i j cU c1 aE;split at h
    ·rename_i a0;cases h;exact ⟨_,aq _ _ _ _ _ _ aE,by rw[atl a0,if_pos rfl]⟩
    ·rename_i a0;cases h;exact ⟨_,aq _ _ _ _ _ _ aE,by rw[if_neg (fun bJ=>by cases bJ;rw[Nat.beq_refl] at a0;cases a0)]⟩
   ·rename_i bt cU c1 ep aE;cases h;exact ⟨e,aq _ _ _ _ _ _ aE,by rw[if_neg (fun bJ=>ep _ bJ)]⟩
   ·cases h
  ·split at h
   ·rename_i cU c1 aE;exact ⟨.normal,_,_,aq _ _ _ _ _ _ aE,by rw[if_pos rfl];exact aq _ _ _ _ _ _ h⟩
   ·rename_i bt cU c1 ep aE;cases h;exact ⟨e,_,_,aq _ _ _ _ _ _ aE,by rw[if_neg ep];exact ⟨rfl,rfl,rfl⟩⟩
   ·cases h
  ·cases h
def zr:List as7->Nat->dC->Option dC
 |[],_,t=>as4 t
 |v::l,i,t=>match t.put i v with
  |some dZ=>zr l (i+1) dZ
  |none=>as6
theorem V9:∀(l:List as7) (i:Nat) (t dZ:dC),zr l i t=as4 dZ->∀j,dC.fr dZ j=if i<=j/\j<i+l.length then l.getD (j - i) undef else dC.fr t j
 |[],i,t,dZ,h,j=>by cases h;rw[if_neg (by simp)]
 |v::l,i,t,dZ,h,j=>by
  unfold zr at h;split at h
  ·rename_i t1 U;rw[V9 l (i+1) t1 dZ h j];have aa:=Trie.sE U j;have ao:dC.fr t1 j=if j=i then v else dC.fr t j:=by
    simp only[dC.fr,aa];split<;>rfl
   rw[ao];simp only[aun];by_cases a0:j=i
   ·subst a0;rw[if_neg (by omega),if_pos rfl,if_pos (by omega)];simp
   ·rw[if_neg a0];by_cases ar:i+1<=j/\j<i+1+l.length
    ·rw[if_pos ar,if_pos (by omega),show j - i=(j - (i+1))+1 by omega];simp
    ·rw[if_neg ar,if_neg (by omega)]
  ·cases h
theorem ahV {args:Array as7} {t:dC} {N:Nat} (h:zr args.toList 0 .e=as4 t):dC.fr t=fun i=>(args++Array.replicate (N - args.size) undef).getD i undef:=by
 funext j;rw[V9 _ _ _ _ h j];simp only[Nat.zero_le,true_and,Nat.zero_add,Nat.sub_zero,Array.length_toList];have fb:dC.fr (.e:dC) j=undef:=rfl;rw[fb,Array.getD_eq_getD_getElem?,Array.getElem?_append];by_cases a0:j<args.size
 ·rw[if_pos a0,if_pos a0];simp[List.getD_eq_getElem?_getD]
 ·rw[if_neg a0,if_neg a0];rw[Array.getElem?_replicate];split<;>rfl
def Qe (P:atb) (fr:dC) (c:dP):ResultVar->Option as7
 | .tmp t=>as4 (dC.fr fr t)
 | .cell a t=>match dC.fr fr a,P.underlying t with
  | .pointer (as4 ⟨b,off,as6⟩),as4 d=>(match jz d with
   |true=>(match P.info? t with
    |some i=>(match w8 c b off i.size with
     |some cs=>as4 (.agg cs.toArray)
     |none=>as6)
    |none=>as6)
   |false=>yF c b off)
  |_,_=>as6
theorem aoB {fr:dC} {c:dP} {r:ResultVar} {v:as7} (h:Qe P fr c r=as4 v):zh P (dC.fr fr) c.mem r v:=by
 cases r with
 |tmp t=>cases h;rfl
 |cell a t=>
  simp only[Qe] at h;split at h
  ·rename_i b off d aY hu;split at h
   ·rename_i aQ;split at h
    ·rename_i i aj;split at h
     ·rename_i cs ah;cases h;exact ⟨b,off,aY,d,hu,by rw[if_pos aQ];exact ⟨i,cs,aj,FA ah,rfl⟩⟩
     ·cases h
    ·cases h
   ·rename_i aQ;exact ⟨b,off,aY,d,hu,by rw[if_neg (by rw[aQ];simp)];exact Ph h⟩
  ·cases h
def Hn (P:atb) (fr:dC) (c:dP):List ResultVar->Option (List as7)
 |[]=>as4 []
 |r::rs=>match Qe P fr c r,Hn P fr c rs with
  |some v,as4 vs=>as4 (v::vs)
  |_,_=>as6
theorem WJ {fr:dC} {c:dP}:∀{rs:List ResultVar} {vs:List as7},Hn P fr c rs=as4 vs->oy P (dC.fr fr) c.mem rs vs
 |[],vs,h=>by cases h;trivial
 |r::rs,vs,h=>by
  simp only[Hn] at h;split at h
  ·rename_i v vs' U aa;cases h;exact ⟨aoB U,WJ aa⟩
  ·cases h
structure Dg (P:atb) where
 wu:List Nat
 ok:∀f∈wu,kS P f=as5
 L8:List (Nat×Code)
 TD:∀x∈L8,∀fn,P.funcs[x.1]? =as4 fn->qe P fn x.2
 xs:FuncId->Array as7->dP->Option as7
 ZI:∀f args c v,xs f args c=as4 v->nt P f args c.mem v c.mem
def DF:List (Nat×Code)->Nat->Option Code
 |[],_=>as6
 |x::l,f=>match ath x.1 f with
  |true=>as4 x.2
  |false=>DF l f
theorem Xk:∀{l:List (Nat×Code)} {f:Nat} {k:Code},DF l f=as4 k->(f,k)∈l
 |[],_,_,h=>by cases h
 |x::l,f,k,h=>by
  unfold DF at h;split at h
  ·rename_i ag;cases h;obtain rfl:=atl ag;exact List.mem_cons_self
  ·exact List.mem_cons_of_mem _ (Xk h)
def aes (l:List Nat) (f:Nat):Bool:=l.any fun x=>ath x f
def zB (P:atb) (R:Dg P):Nat->qC
 |0,_,_,_=>as6
 |n+1,f,args,c=>fu (aes R.wu f) (match R.xs f args c with
  |some v=>as4 (v,c)
  |none=>match P.funcs[f]? with
  |some fn=>(match (match DF R.L8 f with|some k=>as4 k|none=>fn.body) with
   |some k=>fu (atn args.size fn.ntmps) (match zr args.toList 0 .e with
    |some fr=>(match po P (zB P R n) n k fr c with
     |some (e,cU,c1)=>(match e,Hn P cU c1 fn.results.toList with
      | .exit _,_=>as6
      |_,as4 vs=>fu (ath vs.length 1||vs.all storable) (as4 (pack vs,c1))
      |_,as6=>as6)
     |none=>as6)
    |none=>as6)
   |none=>as6)
  |none=>as6)
theorem Wp (R:Dg P):∀(n:Nat) (f:FuncId) (args:Array as7) (c:dP) (v:as7) (bP:dP),zB P R n f args c=as4 (v,bP)->iq P n f args c.mem v bP.mem
 |0,f,args,c,v,bP,h=>by cases h
 |n+1,f,args,c,v,bP,h=>by
  have aq:=Wp R n;unfold zB at h
  replace h:=fB h
  obtain ⟨hm,h⟩:=h;obtain ⟨x,ad,ad6⟩:=List.any_eq_true.1 hm;obtain rfl:=atl ad6;have ey:=R.ok _ ad;split at h
  ·rename_i bH ab;cases h;exact .inl ⟨ey,R.ZI _ _ _ _ ab⟩
  split at h
  ·rename_i fn bd;split at h
   ·rename_i k ar;have jZ:qe P fn k:=by
     split at ar
     ·rename_i cK aQ;cases ar;exact R.TD _ (Xk aQ) fn bd
     ·exact .inl ar
    replace h:=fB h
    obtain ⟨aE,h⟩:=h;split at h
    ·rename_i fr hg;split at h
     ·rename_i e cU c1 ah;have Uc:=Ws aq n k fr cU c c1 e ah;rw[ahV (N:=fn.ntmps) hg] at Uc;split at h
      ·cases h
      ·rename_i vs ep oj
       replace h:=fB h
       obtain ⟨U,h⟩:=h;cases h;refine .inr ⟨fn,k,_,_,_,vs,bd,jZ,ey,ato aE,Uc, ?_,WJ oj,rfl, ?_, .inl rfl⟩
       ·rename_i bt _ _;cases bt with
        |normal=>exact .inl rfl
        |ret=>exact .inr rfl
        |exit id=>exact absurd rfl (ep id)
       ·rw[auj] at U;rcases U with U|U
        ·exact .inl (atl U)
        ·exact .inr fun x ad=>atq.1 U x ad
      ·cases h
     ·cases h
    ·cases h
   ·cases h
  ·cases h
end
end Go.ay
end
section
namespace Go.ay
theorem JL:WF (dP.mem ⟨0, .e⟩):=⟨fun b _=>rfl,fun b=>trivial⟩
theorem agz {P:atb} (w:World) (au:lB P w):Rel P (fun _=>as6) (dP.mem ⟨0, .e⟩) w:=⟨⟨fun b e h=>(by cases h),fun b e h=>(by cases h),fun b cR e b0 h=>(by cases h)⟩,au,fun b e h=>(by cases h)⟩
theorem ag2 {P:atb} (nE:P.follows .mixedOrders=as5) (R:Dg P) {n:Nat} {f:FuncId} {v:as7} {bP:dP} (h:zB P R n f #[] ⟨0, .e⟩=as4 (v,bP)) (ab:ay.flat v=as5) (w:World) (au:lB P w):
  Calls P f #[] w fun e w'=>e= .returned v/\Grown w w':=by
 obtain ⟨_,aa⟩:=(VB nE n).2 _ _ _ _ _ (Wp R n f #[] ⟨0, .e⟩ v bP h) (fun _=>as6) w #[] JL (agz w au) True.intro;refine aa.mono ?_;rintro e w' ⟨ba,bZ,rfl,aL,UN⟩;rw[wN ab UN];exact ⟨rfl,aL.eY.os,aL.eY.tape,aL.eY.output,aL.eY.size,fun c ah=>aL.eY.block c ah fun b e ag=>by cases ag⟩
noncomputable section
variable {P:atb} {D:Nat->Type} {X:et P D}
def ff.kc (D:Nat->Type) (f s:Nat):ff D:=⟨f,0,[],[],as6,0,[.v s .bool],[],[.tmp s],as5⟩
theorem ajl {f s:Nat} {b:Bool} (ey:kS P f=as5) (ad:∀w,lB P w->Calls P f #[] w fun e w'=>e= .returned (.bool b)/\Grown w w') (ah:∀{af:Type} (y:Bool) (O:List (aR D)) (K:aV D->List (aR D)->Option af),ff.call X (ff.kc D f s) (fun _ _=>as4 y) [] O K=K (.c (.bool y)) O) (F:(ff.kc D f s).F) (dQ:∀r x,F r x=as6\/F r x=as4 b):ih X (ff.kc D f s) F:=by
 intro cp O af K r z e m k vs args aw cV h;have aE:cp=[]:=by
  cases cp with
  |nil=>rfl
  |cons _ _=>cases h
 subst aE;have aY:args=[]:=by
  cases args with
  |nil=>rfl
  |cons _ _=>exact cV.elim
 subst aY;have h:as8 (F () ()) (fun y=>ff.call (X:=X) (ff.kc D f s) (fun _ _=>as4 y) [] O K)=as4 r:=by
  rcases dQ () () with bg|bg
  ·exfalso;have:ff.call (X:=X) (ff.kc D f s) F [] O K=as6:=by
    have e:F=fun _ _=>F () ():=by funext r x;rfl
    rw[e,bg];rfl
   rw[this] at h;cases h
  ·rw[bg];have e:F=fun _ _=>F () ():=by funext r x;rfl
   rw[e,bg] at h;exact h
 obtain ⟨y,aJ,h⟩:=bind_some h;have ag:y=b:=by
  rcases dQ () () with bg|bg<;>rw[bg] at aJ<;>cases aJ
  rfl
 subst ag;have h:K (.c (.bool y)) O=as4 r:=(ah y O K).symm.trans h;exact hi.sort ey (.flat (.bool y) rfl rfl ad) ⟨dj.here aw (df:= .c (.bool y)) rfl h,fun _=>rfl,as6,fY.refl _, .inl rfl⟩
end
end Go.ay
end
section
namespace Go.W
open Go.ay
def ew (n:Int):UInt8:=auu (n%256).toNat
def g3 (n:Int):List UInt8:=[ew (n / 256),ew n]
def lY (s:List UInt8):List UInt8:=ew s.length::s
def qu (s:fI):List UInt8:=g3 s.place++g3 s.bQ
def jJ (n:Int):Bool:=decide (n<0)||decide (255<n)
def e6 (n:Int):Bool:=decide (n<0)||decide (65535<n)
def rh (s:List UInt8):Bool:=jJ s.length
def mU (s:fI):Bool:=e6 s.place||e6 s.bQ
def lW (k:Int) (e:bw):List UInt8:=
 if k=1 then g3 e.bQ++(g3 e.data.length++e.data)
 else if k=2 then lY e.order.name++(g3 e.order.bQ++(ew e.order.cH.length::e.order.cH.flatMap lY))
 else if k=3\/k=5 then g3 e.bQ++(g3 e.c0++(ew e.aP.length::e.aP.flatMap g3))
 else if k=4 then ew e.dd.length::e.dd.flatMap qu
 else if k=6 then g3 e.bQ++(g3 e.to++g3 e.count)
 else lY e.name
def mA (k:Int) (e:bw):Bool:=
 if k=1 then e6 e.bQ||e6 e.data.length
 else if k=2 then jJ e.order.name.length||e6 e.order.bQ||jJ e.order.cH.length||e.order.cH.any rh
 else if k=3\/k=5 then e6 e.bQ||e6 e.c0||jJ e.aP.length||e.aP.any e6
 else if k=4 then jJ e.dd.length||e.dd.any mU
 else if k=6 then e6 e.bQ||e6 e.to||e6 e.count
 else jJ e.name.length
def k5 (k:Int) (e:bw):Bool:=mA k e||(decide (k=1)&&decide (8000<e.data.length))
def sb (k:Int) (e:bw):bw:=
 if k=1 then bw.mk k e.bQ 0 0 0 [] [] (cb.mk [] 0 []) [] e.data
 else if k=2 then bw.mk k 0 0 0 0 [] [] e.order [] []
 else if k=3\/k=5 then bw.mk k e.bQ 0 0 e.c0 e.aP [] (cb.mk [] 0 []) [] []
 else if k=4 then bw.mk k 0 0 0 0 [] e.dd (cb.mk [] 0 []) [] []
 else if k=6 then bw.mk k e.bQ e.to e.count 0 [] [] (cb.mk [] 0 []) [] []
 else bw.mk k 0 0 0 0 [] [] (cb.mk [] 0 []) e.name []
def lo (e:bw):Prop:=1<=e.kind/\e.kind<=7/\sb e.kind e=e
def enc (e:bw):List UInt8:=ew e.kind::lW e.kind e
theorem Th {n:Int} (h:0<=n) (k:n<=255):(ew n).toNat=n.toNat:=by
 unfold ew;rw[UInt8.toNat_ofNat'];omega
theorem Ti (x:UInt8):ew x.toNat=x:=by
 unfold ew;have:=x.toNat_lt;rw[show (((x.toNat:Nat):Int)%256).toNat=x.toNat by omega,UInt8.ofNat_toNat]
theorem wo {n:Int}:jJ n=as9↔0<=n/\n<=255:=by unfold jJ;simp
theorem yJ {n:Int}:e6 n=as9↔0<=n/\n<=65535:=by unfold e6;simp
theorem m5 {n:Int} (h:e6 n=as9) (r:List UInt8):fK (g3 n++r)=as4 (n,r):=by
 have h:=yJ.1 h;have cG:(ew (n / 256)).toNat=(n / 256).toNat:=Th (by omega) (by omega);have dE:(ew n).toNat=(n%256).toNat:=by unfold ew;rw[UInt8.toNat_ofNat'];omega
 show as4 ((((ew (n / 256)).toNat*256+(ew n).toNat:Nat):Int),r)=_;rw[cG,dE];congr 2;omega
theorem m6 {b r:List UInt8} {n:Int} (h:fK b=as4 (n,r)):b=g3 n++r/\e6 n=as9:=by
 match b,h with
 |x::y::b,h=>
  cases h;have U:=x.toNat_lt;have aa:=y.toNat_lt;refine ⟨?_,yJ.2 (by omega)⟩;unfold g3;rw[show ((((x.toNat*256+y.toNat:Nat):Int)) / 256)=(x.toNat:Int) by omega,Ti];have:ew ((x.toNat*256+y.toNat:Nat):Int)=y:=by unfold ew;rw[show ((((x.toNat*256+y.toNat:Nat):Int))%256).toNat=y.toNat by omega,UInt8.ofNat_toNat]
  rw[this];rfl
 |[],h=>cases h
 |[_],h=>cases h
theorem w5 {n:Int} (h:jJ n=as9) (r:List UInt8):rK (ew n::r)=as4 (n.toNat,r):=by
 have h:=wo.1 h;show as4 ((ew n).toNat,r)=_;rw[Th h.1 h.2]
theorem w6 {b r:List UInt8} {k:Nat} (h:rK b=as4 (k,r)):b=ew k::r/\jJ k=as9:=by
 match b,h with
 |x::b,h=>cases h;have:=x.toNat_lt;exact ⟨by rw[Ti],wo.2 (by omega)⟩
 |[],h=>cases h
theorem Zr (s r:List UInt8):fP s.length (s++r)=as4 (s,r):=by
 unfold fP;simp
theorem Zs {n:Nat} {b s r:List UInt8} (h:fP n b=as4 (s,r)):b=s++r/\s.length=n:=by
 unfold fP at h;split at h
 ·cases h;exact ⟨(List.take_append_drop n b).symm,List.length_take_of_le (by assumption)⟩
 ·cases h
theorem nO {s:List UInt8} (h:jJ s.length=as9) (r:List UInt8):nQ (lY s++r)=as4 (s,r):=by
 unfold nQ lY;rw[avE,w5 h];exact Zr s r
theorem Qb {b s r:List UInt8} (h:nQ b=as4 (s,r)):b=lY s++r/\jJ s.length=as9:=by
 unfold nQ at h;obtain ⟨⟨k,q⟩,U,ct⟩:=atF.1 h;obtain ⟨rfl,aa⟩:=w6 U;obtain ⟨ao,aN⟩:=Zs (n:=k) ct;simp only at ao;subst ao aN;exact ⟨rfl,aa⟩
theorem apX {s:fI} (h:mU s=as9) (r:List UInt8):oC (qu s++r)=as4 (s,r):=by
 unfold mU at h;simp only[avS] at h;unfold oC qu;rw[auX,m5 h.1];simp only[atr];rw[m5 h.2];rfl
theorem apY {b r:List UInt8} {s:fI} (h:oC b=as4 (s,r)):b=qu s++r/\mU s=as9:=by
 unfold oC at h;obtain ⟨⟨k,q⟩,U,h⟩:=atF.1 h;obtain ⟨⟨l,iC⟩,aa,h⟩:=atF.1 h;cases h;obtain ⟨rfl,ao⟩:=m6 U;obtain ⟨rfl,aN⟩:=m6 aa;exact ⟨by unfold qu;rw[auX],by simp[mU,ao,aN]⟩
theorem Ce {aB:Type} {f:List UInt8->Option (aB×List UInt8)} {w:aB->List UInt8} {o:aB->Bool} (a:∀x r,o x=as9->f (w x++r)=as4 (x,r)):∀(l:List aB) (r:List UInt8),l.any o=as9->iu f l.length (l.flatMap w++r)=as4 (l,r)
 |[],r,_=>rfl
 |x::l,r,h=>by simp only[List.any_cons,avS] at h;show as8 (f ((w x++l.flatMap w)++r)) _=_;rw[auX,a x _ h.1];simp only[atr];rw[Ce a l r h.2];rfl
theorem Cf {aB:Type} {f:List UInt8->Option (aB×List UInt8)} {w:aB->List UInt8} {o:aB->Bool} (a:∀b x r,f b=as4 (x,r)->b=w x++r/\o x=as9):∀(n:Nat) (b r:List UInt8) (l:List aB),iu f n b=as4 (l,r)->b=l.flatMap w++r/\l.length=n/\l.any o=as9
 |0,b,r,l,h=>by cases h;exact ⟨rfl,rfl,rfl⟩
 |n+1,b,r,l,h=>by obtain ⟨⟨x,q⟩,U,h⟩:=atF.1 h;obtain ⟨⟨lk,iC⟩,aa,h⟩:=atF.1 h;cases h;obtain ⟨rfl,ao⟩:=a _ _ _ U;obtain ⟨aN,bI,eg⟩:=Cf a n _ _ _ aa;simp only at aN;subst aN;exact ⟨by simp,by simp[bI],by simp[ao,eg]⟩
theorem EJ {k:Int} (U:1<=k) (aa:k<=7):k=1\/k=2\/k=3\/k=4\/k=5\/k=6\/k=7:=by omega
theorem ql {e:bw} {k:Int} (U:1<=k) (aa:k<=7) (h:mA k e=as9) (r:List UInt8):gF k (lW k e++r)=as4 (sb k e,r):=by
 rcases EJ U aa with rfl|rfl|rfl|rfl|rfl|rfl|rfl<;>simp[mA,and_assoc] at h<;>simp only[gF,lW,sb,auX,avE,atH,if_true,if_false,or_true,true_or,or_self]
 ·rw[m5 h.1];simp only[atr];rw[m5 h.2];simp only[atr];rw[auc,Zr];rfl
 ·rw[nO h.1];simp only[atr];rw[m5 h.2.1];simp only[atr];rw[w5 h.2.2.1];simp only[atr];rw[auc,Ce (o:=rh) (fun x r h=>nO h r) _ _ (by simpa using h.2.2.2)];rfl
 ·rw[m5 h.1];simp only[atr];rw[m5 h.2.1];simp only[atr];rw[w5 h.2.2.1];simp only[atr];rw[auc,Ce (o:=e6) (fun x r h=>m5 h r) _ _ (by simpa using h.2.2.2)];rfl
 ·rw[w5 h.1];simp only[atr];rw[auc,Ce (o:=mU) (fun x r h=>apX h r) _ _ (by simpa using h.2)];rfl
 ·rw[m5 h.1];simp only[atr];rw[m5 h.2.1];simp only[atr];rw[w5 h.2.2.1];simp only[atr];rw[auc,Ce (o:=e6) (fun x r h=>m5 h r) _ _ (by simpa using h.2.2.2)];rfl
 ·rw[m5 h.1];simp only[atr];rw[m5 h.2.1];simp only[atr];rw[m5 h.2.2];rfl
 ·rw[nO h];rfl
theorem Zt {b r:List UInt8} {e:bw} {k:Int} (U:1<=k) (aa:k<=7) (h:gF k b=as4 (e,r)):b=lW k e++r/\mA k e=as9/\e.kind=k/\sb k e=e:=by
 rcases EJ U aa with rfl|rfl|rfl|rfl|rfl|rfl|rfl<;>simp only[gF,atH,if_true,if_false,or_true,true_or,or_self] at h
 ·obtain ⟨⟨t,q⟩,cG,h⟩:=atF.1 h;obtain ⟨⟨n,dn⟩,dE,h⟩:=atF.1 h;obtain ⟨⟨d,dz⟩,gf,h⟩:=atF.1 h;cases h;obtain ⟨rfl,c1⟩:=m6 cG;obtain ⟨rfl,c2⟩:=m6 dE;obtain ⟨ao,c3⟩:=Zs gf;simp only at ao c3;subst ao;have:=yJ.1 c2;have bt:((d.length:Nat):Int)=n:=by omega
  exact ⟨by simp[lW,bt],by simp[mA,c1,bt,c2],rfl,rfl⟩
 ·obtain ⟨⟨t,q⟩,cG,h⟩:=atF.1 h;obtain ⟨⟨n,dn⟩,dE,h⟩:=atF.1 h;obtain ⟨⟨c,dz⟩,gf,h⟩:=atF.1 h;obtain ⟨⟨l,dX⟩,ik,h⟩:=atF.1 h;cases h;obtain ⟨rfl,c1⟩:=Qb cG;obtain ⟨rfl,c2⟩:=m6 dE;obtain ⟨rfl,c3⟩:=w6 gf;obtain ⟨ao,rfl,c4⟩:=Cf (w:=lY) (o:=rh) (fun _ _ _ h=>Qb h) _ _ _ _ ik;simp only at ao;subst ao;exact ⟨by simp[lW],by simp[mA,c1,c2,c3];simpa using c4,rfl,rfl⟩
 ·obtain ⟨⟨t,q⟩,cG,h⟩:=atF.1 h;obtain ⟨⟨n,dn⟩,dE,h⟩:=atF.1 h;obtain ⟨⟨c,dz⟩,gf,h⟩:=atF.1 h;obtain ⟨⟨l,dX⟩,ik,h⟩:=atF.1 h;cases h;obtain ⟨rfl,c1⟩:=m6 cG;obtain ⟨rfl,c2⟩:=m6 dE;obtain ⟨rfl,c3⟩:=w6 gf;obtain ⟨ao,rfl,c4⟩:=Cf (w:=g3) (o:=e6) (fun _ _ _ h=>m6 h) _ _ _ _ ik;simp only at ao;subst ao;exact ⟨by simp[lW],by simp[mA,c1,c2,c3];simpa using c4,rfl,rfl⟩
 ·obtain ⟨⟨c,dz⟩,gf,h⟩:=atF.1 h;obtain ⟨⟨l,dX⟩,ik,h⟩:=atF.1 h;cases h;obtain ⟨rfl,c3⟩:=w6 gf;obtain ⟨ao,rfl,c4⟩:=Cf (w:=qu) (o:=mU) (fun _ _ _ h=>apY h) _ _ _ _ ik;simp only at ao;subst ao;exact ⟨by simp[lW],by simp[mA,c3];simpa using c4,rfl,rfl⟩
 ·obtain ⟨⟨t,q⟩,cG,h⟩:=atF.1 h;obtain ⟨⟨n,dn⟩,dE,h⟩:=atF.1 h;obtain ⟨⟨c,dz⟩,gf,h⟩:=atF.1 h;obtain ⟨⟨l,dX⟩,ik,h⟩:=atF.1 h;cases h;obtain ⟨rfl,c1⟩:=m6 cG;obtain ⟨rfl,c2⟩:=m6 dE;obtain ⟨rfl,c3⟩:=w6 gf;obtain ⟨ao,rfl,c4⟩:=Cf (w:=g3) (o:=e6) (fun _ _ _ h=>m6 h) _ _ _ _ ik;simp only at ao;subst ao;exact ⟨by simp[lW],by simp[mA,c1,c2,c3];simpa using c4,rfl,rfl⟩
 ·obtain ⟨⟨t,q⟩,cG,h⟩:=atF.1 h;obtain ⟨⟨n,dn⟩,dE,h⟩:=atF.1 h;obtain ⟨⟨c,dz⟩,gf,h⟩:=atF.1 h;cases h;obtain ⟨rfl,c1⟩:=m6 cG;obtain ⟨rfl,c2⟩:=m6 dE;obtain ⟨rfl,c3⟩:=m6 gf;exact ⟨by simp[lW],by simp[mA,c1,c2,c3],rfl,rfl⟩
 ·obtain ⟨⟨t,q⟩,cG,h⟩:=atF.1 h;cases h;obtain ⟨rfl,c1⟩:=Qb cG;exact ⟨by simp[lW],by simp[mA,c1],rfl,rfl⟩
theorem Mb {k:Int} {r:List UInt8} (U:1<=k) (aa:k<=7):hd (ew k::r)=match gF k r with
  |none=>(mK 0,10)
  |some (e,r)=>if 0<r.length then (mK 0,11) else if 8000<e.data.length then (mK 0,2) else (e,0):=by
 unfold hd;rw[w5 (wo.2 (by omega))];simp only;rw[if_pos (by omega),show ((k.toNat:Nat):Int)=k by omega];try rfl
theorem Dv {k:Int} {e:bw} (h:k5 k e=as9):mA k e=as9/\(k=1->e.data.length<=8000):=by
 unfold k5 at h;simp only[avS,Bool.and_eq_false_iff,decide_eq_false_iff_not] at h;exact ⟨h.1,fun k=>by rcases h.2 with h|h<;>omega⟩
theorem abn {k:Int} {e:bw} (h:k=1->e.data.length<=8000):(sb k e).data.length<=8000:=by
 unfold sb;split
 ·exact h (by assumption)
 ·repeat' split
  all_goals simp
theorem Tw {e:bw} (h:lo e) (b:k5 e.kind e=as9):hd (enc e)=(e,0):=by
 obtain ⟨U,aa,ao⟩:=h;obtain ⟨ew,h1⟩:=Dv b;have:=ql U aa ew [];rw[auY] at this;unfold enc;rw[Mb U aa,this];simp only;rw[if_neg (by simp),if_neg (by have:=abn h1;omega),ao]
theorem abt {e:bw} (h:lo e) (b:k5 e.kind e=as9) (x:UInt8):hd (enc e++[x])=(mK 0,11):=by
 obtain ⟨U,aa,ao⟩:=h;unfold enc;rw[avE,Mb U aa,ql U aa (Dv b).1 [x]];simp
theorem Tz {e:bw} {n:Nat} (h:lo e) (b:k5 e.kind e=as9) (a2:n<(enc e).length):hd ((enc e).take n)=(mK 0,10):=by
 obtain ⟨U,aa,ao⟩:=h;cases n with
 |zero=>rfl
 |succ n=>
  unfold enc at a2⊢;rw[List.take_succ_cons,Mb U aa];cases he:gF e.kind ((lW e.kind e).take n) with
  |none=>rfl
  |some p=>exfalso;obtain ⟨b0,r⟩:=p;obtain ⟨c1,c2,_,_⟩:=Zt U aa he;have cG:=ql U aa (Dv b).1 [];rw[auY,<-List.take_append_drop n (lW e.kind e),c1,auX,ql U aa c2] at cG;simp only[atj.injEq,Prod.mk.injEq,List.append_eq_nil_iff] at cG;have:=cG.2.2;rw[List.drop_eq_nil_iff] at this;simp only[aun] at a2;omega
theorem Tx {b:List UInt8} {e:bw} (h:hd b=(e,0)):lo e/\k5 e.kind e=as9/\enc e=b:=by
 unfold hd at h;split at h
 ·cases h
 ·rename_i k r ar;obtain ⟨rfl,_⟩:=w6 ar;split at h
  ·rename_i Eh;split at h
   ·cases h
   ·rename_i b0 rI he;split at h
    ·cases h
    ·rename_i aF;split at h
     ·cases h
     ·rename_i aQ;cases h;obtain ⟨c1,c2,c3,c4⟩:=Zt (by omega) (by omega) he;obtain rfl:rI=[]:=List.length_eq_zero_iff.1 (by omega);rw[auY] at c1;refine ⟨⟨by omega,by omega,by rw[c3];exact c4⟩, ?_, ?_⟩
      ·unfold k5;rw[c3,c2];simp only[Bool.false_or,Bool.and_eq_false_iff,decide_eq_false_iff_not];exact .inr (by omega)
      ·unfold enc;rw[c3,c1]
  ·cases h
def uT (k:Int) (e:bw):bw:=
 if k=1 then bw.mk e.kind 0 e.to e.count e.c0 e.aP e.dd e.order e.name []
 else if k=2 then bw.mk e.kind e.bQ e.to e.count e.c0 e.aP e.dd (cb.mk [] 0 []) e.name e.data
 else if k=3\/k=5 then bw.mk e.kind 0 e.to e.count 0 [] e.dd e.order e.name e.data
 else if k=4 then bw.mk e.kind e.bQ e.to e.count e.c0 e.aP [] e.order e.name e.data
 else if k=6 then bw.mk e.kind 0 0 0 e.c0 e.aP e.dd e.order e.name e.data
 else if k=7 then bw.mk e.kind e.bQ e.to e.count e.c0 e.aP e.dd e.order [] e.data
 else e
def uV (e:bw):Prop:=e.bQ=0/\e.to=0/\e.count=0/\e.c0=0/\e.aP=[]/\e.dd=[]/\e.order.name=[]/\e.order.bQ=0/\e.order.cH=[]/\e.name=[]/\e.data=[]
theorem JD {e:bw} (U:1<=e.kind) (aa:e.kind<=7):uV (uT e.kind e)↔lo e:=by
 obtain ⟨k,t,o,c,w,ts,pt,⟨n,kF,ds⟩,kE,n5⟩:=e;simp only at U aa;rcases EJ U aa with rfl|rfl|rfl|rfl|rfl|rfl|rfl<;>simp[uV,uT,lo,sb]<;>grind
def Lu (e:bw):Prop:=e6 e.bQ=as9/\e6 e.to=as9/\e6 e.count=as9/\e6 e.c0=as9/\e.aP.length<=255/\e.dd.length<=255/\e.name.length<=255/\e.data.length<=8000/\e6 e.order.bQ=as9/\e.order.name.length<=255/\e.order.cH.length<=255/\e.aP.any e6=as9/\e.dd.any mU=as9/\e.order.cH.any rh=as9
theorem ZV {e:bw} (k:Int) (h:Lu e):k5 k e=as9:=by
 obtain ⟨U,aa,ao,aN,bI,eg,g7,jE,nz,b5,cc,eH,ja,p4⟩:=h;have cG:∀n:Nat,n<=255->jJ n=as9:=fun n h=>wo.2 (by omega);have dE:e6 (e.data.length:Int)=as9:=yJ.2 (by omega);unfold k5 mA;rw[decide_eq_false (show ¬(8000<e.data.length) by omega),Bool.and_false,Bool.or_false]
 repeat' split
 all_goals simp only[U,aa,ao,aN,nz,eH,ja,p4,dE,cG _ bI,cG _ eg,cG _ g7,cG _ b5,cG _ cc,Bool.or_false]
end Go.W
end
