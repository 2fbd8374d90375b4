import Derived.Test.YtfmpkhcaifbonaaGreatDoorRows
import Derived.WalkKit
import Derived.ProofKit
import Derived.OpenShut
import Derived.ShutString
import Derived.ChangeOld
import Derived.Below
import Derived.Deep.DeepHandedRow
import Derived.Lib.LaidTab
import Derived.Stop.LaidErr
import Derived.Shelf.Vars
import Derived.Test.YtfmpkhcaifbonaaGreatDoorMe
set_option linter.unusedSimpArgs false
set_option linter.unusedVariables false
set_option linter.unusedSectionVars false
open BitVec renaming ofInt->awx,ofInt_natCast->axF,toNat_ofNat->axG
open Bool renaming false->ava,true->au7
open Go renaming IntKind->avb,TypeId->ave,Value->au9
open Go.DataW renaming trod->av8,trod_string->axD,trod_struct->axW
open Go.IntKind renaming wrap->avc
open Go.Program renaming cellsOf->awg
open Go.Value renaming slice->avS
open Int renaming reduceEq->avF,toNat_zero->axg
open List renaming drop_zero->aw5,getElem?_eq_getElem->avV,getElem?_eq_some_iff->avr,length_append->awa,length_cons->awh,length_drop->aw4,mem_cons->avu,mem_of_mem_take->axc,not_mem_nil->awK,range->avQ
open Nat renaming le_refl->avm,mul_one->awF
open Option renaming bind->au',map->awz,map_some->awC,some->avl,none->au8,some->au6
open UInt8 renaming toNat->avs
section
set_option maxHeartbeats 2000000
namespace Go.W
open Go.av
@[grind=] theorem atm:ou.length=6:=rfl
@[grind->] theorem atl {d:List UInt8} (h:d∈ou):d.length<=12:=by
 simp only[ou,avu,awK,or_false] at h;rcases h with rfl|rfl|rfl|rfl|rfl|rfl<;>decide
def om (y:bN):Prop:=0<=y.bJ.iW/\y.bJ.iW<=y.bJ.aP.length/\y.bJ.proof.fJ.steps=y.bJ.aP.length/\y.bJ.aP.length<=1000000/\y.bJ.cv.length<=1000/\0<=y.bJ.lead/\y.bJ.lead<y.aP.length/\(∀t∈y.bJ.aP,0<=t/\t<y.aP.length)/\y.bJ.ir.items.length=y.bJ.cv.length/\y.bJ.proof.fJ.hV.length=y.bJ.cv.length/\∀i∈y.bJ.ir.items,0<=i.fC/\i.fC<y.cH.length
def Ry (n:Int) (o:bX):Prop:=0<=o.bC/\o.bC<n/\o.cw.length<=16/\o.name.length<=100/\∀d∈o.cw,d.length<=1000000
def dI (n K:Int) (s:List (List Int)):Prop:=s.length<=24/\∀t∈s,t.length<=K/\∀i∈t,0<=i/\i<n
def lx (K:Int) (y:bN):Prop:=dI y.cv.length K y.aP/\y.cv.length<=192/\y.cH.length<=8/\(∀o∈y.cH,Ry y.aP.length o)/\(y.busy=au7->y.dF=ava->om y)/\y.bJ.cv.length<=1000/\y.bJ.aP.length<=1000000/\y.bJ.ir.items.length<=1000000/\y.bJ.proof.fJ.hV.length<=1000000/\y.bJ.proof.chain.length<=1000000/\∀w∈y.cv,w.dest.length<=1000000
def nP (K:Int) (c:dx) (y:bN):Prop:=0<c.aP.length/\y.aP.length=c.aP.length/\lx K y
def jg (e:bj):Prop:=e.data.length<=300000/\e.aP.length<=100/\e.cQ.length<=100/\e.order.cw.length<=100/\e.order.name.length<=100/\(∀d∈e.order.cw,d.length<=100)/\e.name.length<=100
theorem abX {K:Int} {y:bN} (h:lx K y):sq y:=⟨by grind [lx,dI],by grind [lx,dI],by grind [lx,dI]⟩
attribute [grind->] abX
attribute [grind] dI om Ry lx nP jg xT kM Rq
variable {N:Nat} (aq:5000000000<N)
include aq
theorem al6 {x0:cA} {ah:bX} {ax:Int} {kl:List (List UInt8)} (U:0<=x0.n) (aa:x0.n<=900000000000) (ap:0<=ax) (aN:ax<=4) (bK:kl.length<=100) (ed:∀d∈kl,d.length<=12):aH (IH N x0 ah ax kl) fun r=>x0.n<=r.1.n/\r.1.n<=x0.n+2/\r.2.2.length<=kl.length+1/\(∀d∈r.2.2,d.length<=12)/\r.2.1.name=ah.name/\r.2.1.bC=ah.bC:=by
 rw[IH];(repeat' with_reducible first|intro _|apply aF (iY aq ..)|apply dW|apply bU|refine bE (by omega) ?_|apply aW|apply aK)<;>grind -mbtc
theorem al5 {n:Nat} {x0:cA} {ah:bX} {ax:Int} {kl:(List (List UInt8))}:(0<=ax)->(ax<=4)->((4:Int) - ax<n)->(0<=x0.n)->(x0.n<=800000000000+2*ax)->(kl.length<=ax)->(∀d∈kl,d.length<=12)->aH (Br N n x0 ah ax kl) fun r=>x0.n<=r.1.n/\r.1.n<=x0.n+8 - 2*ax/\r.2.2.length<=4/\(∀d∈r.2.2,d.length<=12)/\r.2.1.name=ah.name/\r.2.1.bC=ah.bC:=by
 induction n generalizing x0 ah ax kl with
 |zero=>intros;exfalso;grind -mbtc
 |succ n ar=>intros;rw[Br];(repeat' with_reducible first|intro _|apply aF (al6 aq ..)|apply b8 (ar ..)|refine bE (by omega) ?_|apply bn|apply bs|apply aW|apply aK)<;>clear ar<;>grind -mbtc
theorem al7 {x0:cA} {ak:dx} {ah:bX} {Rh:Bool} (U:0<=x0.n) (aa:x0.n<=900000000000):aH (II N x0 ak ah Rh) fun r=>x0.n<=r.1.n/\r.1.n<=x0.n+1/\r.2.name=ah.name:=by
 rw[II];(repeat' with_reducible first|intro _|apply aF (tq aq ..)|apply aW|apply aK)<;>grind -mbtc
theorem ahi {x0:cA} {J:dx} (U:0<=x0.n) (aa:x0.n<=700000000000) (ap:0<J.aP.length) (aN:J.aP.length<=24):aH (KU N x0 J) fun r=>x0.n<=r.2.n/\r.2.n<=x0.n+20/\r.1.name.length<=12/\r.1.cw.length<=4/\∀d∈r.1.cw,d.length<=12:=by
 rw[KU];(repeat' with_reducible first|intro _|apply aF (iY aq ..)|apply aF (al5 aq ..)|apply aF (al7 aq ..)|apply bU|apply aK)<;>grind -mbtc
theorem aae {x0:bN} (U:om x0):aH (Dp N x0) fun r=>0<=r/\r<x0.aP.length/\(r=x0.bJ.lead\/r∈x0.bJ.aP):=by
 rw[Dp];(repeat' with_reducible first|intro _|apply bU|refine bE (by omega) ?_|apply aW|apply aK)<;>grind -mbtc
theorem amM {al:Int} {an:List Int} (U:an.length<=1000000) {n:Nat} {bc:Int}:(0<=bc)->(bc<=(an.length:Int))->((an.length:Int) - bc<n)->aH (Ba N al an n bc) fun r=>True:=by
 induction n generalizing bc with
 |zero=>intros;exfalso;grind -mbtc
 |succ n ar=>intros;rw[Ba];(repeat' with_reducible first|intro _|apply b8 (ar ..)|apply Ub|apply yr|apply bU|refine bE (by omega) ?_|apply bn|apply bs|apply aW|apply aK)<;>clear ar<;>grind -mbtc
theorem agZ {x0:List bX} {J:e3} {al ak:Int} {an:List Int} (U:an.length<=1000000) (aa:0<=ak) (ap:ak<=an.length) (aN:0<=J.fC) (bK:J.fC<x0.length):aH (Lq N x0 J al ak an) fun r=>True:=by
 rw[Lq];(repeat' with_reducible first|intro _|apply dU (amM aq ..)|apply bU|apply aK)<;>grind -mbtc
theorem ani {J ah:List Int} {al:bN} {ax:gi} {aB aG:Int} (U:om al) (aa:ax=al.bJ) (ap:0<=aB) (aN:aB<J.length) (bK:0<=aG) (ed:aG<ax.cv.length) (hg:ah.length<=100000000):aH (IV N J al ah ax aB aG) fun r=>r.length<=ah.length+1/\ah.length<=r.length/\(aD J aB=aD ax.cv aG->ah.length<r.length):=by
 rw[IV];(repeat' with_reducible first|intro _|apply aF (agZ aq ..)|apply dW|apply bU|apply aW|apply aK)<;>grind -mbtc
theorem anh {J:List Int} {al:bN} {ax:gi} {aB:Int} (U:om al) (aa:ax=al.bJ) (ap:0<=aB) (aN:aB<J.length) {n:Nat} {ah:(List Int)} {aG:Int}:(0<=aG)->(aG<=(ax.cv.length:Int))->((ax.cv.length:Int) - aG<n)->(ah.length+(ax.cv.length - aG)<=100000000)->aH (BD N J al ax aB n ah aG) fun r=>r.length<=ah.length+(ax.cv.length - aG)/\ah.length<=r.length/\∀i,aD J aB=au6 i->i∈ax.cv.drop aG.toNat->ah.length<r.length:=by
 induction n generalizing ah aG with
 |zero=>intros;exfalso;grind -mbtc
 |succ n ar=>intros;rw[BD];(repeat' with_reducible first|intro _|apply aF (ani aq ..)|apply b8 (ar ..)|refine bE (by omega) ?_|apply bn|apply bs|apply aW|apply aK)<;>clear ar<;>first|grind -mbtc|(obtain ⟨t,e⟩:=ka (xs:=ax.cv) (i:=aG) (by omega) (by omega);rw[sw e];grind -mbtc)
theorem ang {J:List Int} {al:bN} {ax:gi} (U:om al) (aa:ax=al.bJ) (ap:J.length<=40000) {n:Nat} {ah:(List Int)} {aB:Int}:(0<=aB)->(aB<=(J.length:Int))->((J.length:Int) - aB<n)->(ah.length+1000*(J.length - aB)<=100000000)->aH (BC N J al ax n ah aB) fun r=>r.length<=100000000/\((∀i∈J,i∈ax.cv)->ah.length+(J.length - aB)<=r.length):=by
 induction n generalizing ah aB with
 |zero=>intros;exfalso;grind -mbtc
 |succ n ar=>intros;rw[BC];(repeat' with_reducible first|intro _|apply aF (anh aq ..)|apply b8 (ar ..)|refine bE (by omega) ?_|apply bn|apply bs|apply aW|apply aK)<;>clear ar<;>first|grind -mbtc|(obtain ⟨t,e⟩:=ka (xs:=J) (i:=aB) (by omega) (by omega);grind -mbtc)
theorem Z9 {x0:bN} {J:List Int} (U:om x0) (aa:J.length<=40000):aH (Dk N x0 J) fun r=>r.length<=100000000/\((∀i∈J,i∈x0.bJ.cv)->J.length<=r.length):=by
 rw[Dk];(repeat' with_reducible first|intro _|apply aF (ang aq ..)|apply aK)<;>grind -mbtc
theorem ap6 {J:bN}:aH (JD N J) fun r=>r=ava->J.busy=au7/\J.dF=ava:=by
 rw[JD];(repeat' with_reducible first|intro _|apply aW|apply aK)<;>grind -mbtc
theorem ah0 {x0:bN} (U:lx 40000 x0):aH (LV N x0) fun r=>r.2.1.length<=40000:=by
 rw[LV];(repeat' with_reducible first|intro _|apply aF (ap6 aq)|apply aF (aae aq ?_)|apply aF (Z9 aq ..)|apply dW|apply bU|apply aW|apply aK)<;>grind -mbtc
theorem alW {x0:cA} {ax:bN} (U:0<=x0.n) (aa:x0.n<=900000000000):aH (Ho N x0 ax) fun r=>x0.n<=r.1.n/\r.1.n<=x0.n+1:=by
 rw[Ho];(repeat' with_reducible first|intro _|apply aF (iY aq ..)|apply bn|apply aW|apply aK)<;>grind -mbtc
theorem alX {x0:cA} {ax:bN} (U:0<=x0.n) (aa:x0.n<=900000000000):aH (Hp N x0 ax) fun r=>x0.n<=r.1.n/\r.1.n<=x0.n+1:=by
 rw[Hp];(repeat' with_reducible first|intro _|apply aF (iY aq ..)|apply bn|apply aW|apply aK)<;>grind -mbtc
theorem alV {x0:cA} {ax:bN} {aV:bj} (U:0<=x0.n) (aa:x0.n<=700000000000):aH (Hn N x0 ax aV) fun r=>x0.n<=r.1.n/\r.1.n<=x0.n+2/\r.2.order=aV.order/\r.2.name=aV.name:=by
 rw[Hn];(repeat' with_reducible first|intro _|apply aF (alW aq ..)|apply aF (alX aq ..)|apply aW|apply aK)<;>grind -mbtc
theorem alZ {x0:cA} {a3:List Int} (U:0<=x0.n) (aa:x0.n<=900000000000):aH (IC N x0 a3) fun r=>x0.n<=r.1.n/\r.1.n<=x0.n+1/\(r.2=au7->0<a3.length):=by
 rw[IC];(repeat' with_reducible first|intro _|apply aF (iY aq ..)|apply bs|apply aW|apply aK)<;>grind -mbtc
theorem al0 {x0:cA} {a3:List Int} {aV:bj} {Kq:Bool} (U:0<=x0.n) (aa:x0.n<=900000000000) (ap:a3.length<=1000000) (aN:Kq=au7->0<a3.length):aH (ID N x0 a3 aV Kq) fun r=>x0.n<=r.1.n/\r.1.n<=x0.n+1/\r.2.order=aV.order/\r.2.name=aV.name:=by
 rw[ID];(repeat' with_reducible first|intro _|apply aF (iY aq ..)|apply bU|apply aW|apply aK)<;>grind -mbtc
theorem al1 {ak:Int} {n:Nat} {x0:cA} {bc:(List cb)} {a9:Int}:(0<=a9)->(a9<n)->(0<=x0.n)->(x0.n+100*a9<=800000000000)->(bc.length+a9<=10)->(∀w∈bc,w.dest.length<=12)->aH (Bq N ak n x0 bc a9) fun r=>x0.n<=r.1.n/\r.1.n<=x0.n+100*a9/\r.2.length<=10/\∀w∈r.2,w.dest.length<=12:=by
 induction n generalizing x0 bc a9 with
 |zero=>intros;exfalso;grind -mbtc
 |succ n ar=>intros;rw[Bq];(repeat' with_reducible first|intro _|apply aF (iY aq ..)|apply aF (ahv aq ..)|apply b8 (ar ..)|apply dW|apply bU|refine bE (by omega) ?_|apply bn|apply bs|apply aW|apply aK)<;>clear ar<;>grind -mbtc
theorem al2 {x0:cA} {a3:List Int} (U:0<=x0.n) (aa:x0.n<=900000000000):aH (IE N x0 a3) fun r=>x0.n<=r.1.n/\r.1.n<=x0.n+1/\(r.2=au7->0<a3.length):=by
 rw[IE];(repeat' with_reducible first|intro _|apply aF (iY aq ..)|apply bs|apply aW|apply aK)<;>grind -mbtc
theorem al3 {oa:Int} {Kn:Bool}:aH (IF N oa Kn) fun r=>True:=by
 rw[IF];(repeat' with_reducible first|intro _|apply bn|apply aW|apply aK)<;>grind -mbtc
theorem al4 {a3:List Int} {aV:bj}:aH (IG N a3 aV) fun r=>r=au7->0<a3.length:=by
 rw[IG];(repeat' with_reducible first|intro _|apply aW|apply aK)<;>grind -mbtc
theorem ajX {a3:List Int} {aV:bj} {Ko:Bool} (U:a3.length<=1000000) (aa:Ko=au7->0<a3.length):aH (Gz N a3 aV Ko) fun r=>r.order=aV.order/\r.name=aV.name:=by
 rw[Gz];(repeat' with_reducible first|intro _|apply bU|refine bE (by omega) ?_|apply bs|apply aW|apply aK)<;>grind -mbtc
theorem ajZ {a3 hG:List Int} {cD:Int}:aH (GA N a3 cD hG) fun r=>r=au7->cD<a3.length/\hG.length<4:=by
 rw[GA];(repeat' with_reducible first|intro _|apply bs|apply aW|apply aK)<;>grind -mbtc
theorem aj0 {a3 hG:List Int} {aV:bj} {cD:Int} (U:0<=cD) (aa:cD<a3.length) (ap:hG.length<=4):aH (GB N a3 aV cD hG) fun r=>r.2.length<=hG.length+1/\r.1.order=aV.order/\r.1.name=aV.name:=by
 rw[GB];(repeat' with_reducible first|intro _|apply dW|apply bU|apply aW|apply aK)<;>grind -mbtc
theorem ajY {a3:List Int} (U:a3.length<=1000000) {n:Nat} {aV:bj} {cD:Int} {hG:(List Int)}:(0<=cD)->(cD<=a3.length)->(a3.length - cD<n)->(hG.length<=4)->aH (z4 N a3 n aV cD hG) fun r=>r.2.length<=4/\r.1.order=aV.order/\r.1.name=aV.name:=by
 induction n generalizing aV cD hG with
 |zero=>intros;exfalso;grind -mbtc
 |succ n ar=>intros;rw[z4];(repeat' with_reducible first|intro _|apply aF (ajZ aq)|apply aF (aj0 aq ..)|apply b8 (ar ..)|refine bE (by omega) ?_|apply bn|apply aW|apply aK)<;>clear ar<;>grind -mbtc
theorem aj1 {ah:dx} {dt:List Int} (U:dt.length<=1000000) (aa:dt.length<=40000) (ap:ah.aP.length<=24) (aN:0<ah.aP.length) {n:Nat} {x0:cA} {aV:bj} {eT:Int} {km:(List er)}:(0<=eT)->(eT<n)->(0<=x0.n)->(x0.n+2*eT<=800000000000)->(km.length+eT<=10)->aH (z5 N ah dt n x0 aV eT km) fun r=>x0.n<=r.1.n/\r.1.n<=x0.n+2*eT/\r.2.2.length<=10/\r.2.1.order=aV.order/\r.2.1.name=aV.name:=by
 induction n generalizing x0 aV eT km with
 |zero=>intros;exfalso;grind -mbtc
 |succ n ar=>intros;rw[z5];(repeat' with_reducible first|intro _|apply aF (iY aq ..)|apply b8 (ar ..)|apply dW|refine bE (by omega) ?_|apply bn|apply bs|apply aW|apply aK)<;>clear ar<;>grind -mbtc
theorem alY {x0:cA} {ak oa:Int} {ah:dx} {ax:bN} {a3 hG:List Int} {aV:bj} {km:List er} {o0:List UInt8} (U:0<=x0.n) (aa:x0.n<=700000000000) (ap:nP 40000 ah ax) (aN:a3.length<=24) (bK:aV.order.cw=[]) (ed:aV.order.name=[]) (hg:aV.name=[]) (jP:hG=[]) (nS:km=[]) (yD:o0=[]):aH (Hq N x0 ak ah ax a3 aV oa hG km o0) fun r=>x0.n<=r.1.n/\r.1.n<=x0.n+2000/\r.2.2.1.length<=10/\r.2.2.2.1.length<=10/\r.2.2.2.2.length<=300000/\r.2.1.order.cw.length<=4/\r.2.1.order.name.length<=12/\(∀d∈r.2.1.order.cw,d.length<=12)/\r.2.1.name.length<=100:=by
 rw[Hq];(repeat' with_reducible first|intro _|apply aF (iY aq ..)|apply aF (tq aq ..)|apply aF (Zm aq ..)|apply aF (agS aq ..)|apply aF (ah0 aq ?_)|apply aF (ajX aq ..)|apply aF (ajY aq ..)|apply aF (aj1 aq ..)|apply aF (alZ aq ..)|apply aF (al0 aq ..)|apply aF (al1 aq ..)|apply aF (al2 aq ..)|apply aF (al3 aq)|apply aF (al4 aq)|apply aF (ahi aq ..)|apply dW|apply bU|apply bn|apply bs|apply aW|apply aK)<;>grind -mbtc
theorem Z5 {x0:cA} {J:dx} {al:bN} {ak:Int} (U:0<=x0.n) (aa:x0.n<=600000000000) (ap:nP 40000 J al):aH (Dh N x0 J al ak) fun r=>x0.n<=r.2.n/\r.2.n<=x0.n+3000/\jg r.1:=by
 rw[Dh];(repeat' with_reducible first|intro _|apply aF (iY aq ..)|apply aF (alV aq ..)|apply aF (alY aq ..)|apply aF (aht aq ?_)|refine bE (by omega) ?_|apply aK)<;>grind -mbtc
end Go.W
end
section
set_option maxHeartbeats 2000000
namespace Go.W
open Go.av
def Ui (b:List UInt8):Nat->Int->Prop|0,_=>True|k+1,p=>∃d,aD b (p+14)=au6 d/\p+15+d.toNat<=b.length/\Ui b k (p+15+d.toNat)
def l8 (b:List UInt8) (k p:Int):Prop:=Ui b k.toNat p
theorem Uf {b:List UInt8} {k p:Int} (h:l8 b k p) (au:0<k):∃d,aD b (p+14)=au6 d/\p+15+d.toNat<=b.length/\l8 b (k - 1) (p+15+d.toNat):=by
 unfold l8 at h⊢;rw[show k.toNat=(k - 1).toNat+1 by omega] at h;exact h
theorem acg {b:List UInt8} {k p:Int} {d:UInt8} (au:0<k) (e:aD b (p+14)=au6 d) (az:p+15+d.toNat<=b.length) (h:l8 b (k - 1) (p+15+d.toNat)):l8 b k p:=by
 unfold l8 at h⊢;rw[show k.toNat=(k - 1).toNat+1 by omega];exact ⟨d,e,az,h⟩
theorem acf {b:List UInt8} {k p:Int} (au:k<=0):l8 b k p:=by unfold l8;rw[show k.toNat=0 by omega];trivial
@[grind=] theorem auS (o:bX):bX.mk o.name o.bC o.cw=o:=rfl
@[grind=] theorem auC (p:gi):gi.mk p.cv (cV.mk p.ir.items p.ir.cE) (g7.mk (e4.mk p.proof.fJ.steps p.proof.fJ.hV) p.proof.chain) p.lead p.aP p.iW=p:=rfl
theorem acW {aA:Type} {l:List aA} {i:Int} {a y:aA} (e:aD (l.set i.toNat a) i=au6 y):y=a:=by
 unfold aD at e;split at e
 ·obtain ⟨h,rfl⟩:=avr.mp e;simp
 ·cases e
theorem aax {aA:Type} {l:List aA} {i:Int} {y:aA} (e:aD l i=au6 y):l.set i.toNat y=l:=by
 unfold aD at e;split at e
 ·obtain ⟨h,rfl⟩:=avr.mp e;exact List.set_getElem_self h
 ·cases e
def wi (l:List Bool):Nat:=l.countP id
theorem ack {l:List Bool} {i:Int} (e:aD l i=au6 ava):wi (l.set i.toNat au7)=wi l+1:=by
 unfold aD at e;split at e
 ·obtain ⟨h,e⟩:=avr.mp e;unfold wi;rw[List.countP_set h];simp[e]
 ·cases e
theorem acj (l:List Bool):wi l<=l.length:=List.countP_le_length
def sn (s r:List (List Int)):Prop:=∀t q,aD r t=au6 q->∃p,aD s t=au6 p/\q.length<=p.length/\∀i∈q,i∈p
def nK (s r:List (List Int)) (w to:Int):Prop:=∀t q,aD r t=au6 q->∃p,aD s t=au6 p/\q.length<=p.length+1/\∀i∈q,(t=to/\i=w)\/i∈p
theorem UG {aA:Type} {s:List aA} {i t:Int} {q u:aA} (h:0<=i) (e:aD (s.set i.toNat q) t=au6 u):(t=i/\u=q/\∃p,aD s t=au6 p)\/(t≠i/\aD s t=au6 u):=by
 unfold aD at*;split at e
 ·rename_i aw;obtain ⟨k,e⟩:=avr.mp e;rw[List.getElem_set] at e;rw[List.length_set] at k;split at e
  ·exact .inl ⟨by omega,e.symm,s[t.toNat],by rw[if_pos aw];exact avV k⟩
  ·exact .inr ⟨by omega,by rw[if_pos aw,avV k,e]⟩
 ·cases e
theorem abc (s:List (List Int)):sn s s:=fun _ q h=>⟨q,h,avm _,fun _ h=>h⟩
theorem abd {s:List (List Int)} {i:Int} {p q:List Int} (h:0<=i) (e:aD s i=au6 p) (l:q.length<=p.length) (k:∀v∈q,v∈p):sn s (s.set i.toNat q):=fun t u g=>by
 rcases UG h g with ⟨rfl,rfl,_⟩|⟨_,g⟩
 ·exact ⟨p,e,l,k⟩
 ·exact ⟨u,g,avm _,fun _ h=>h⟩
theorem abe {s:List (List Int)} {i w:Int} {p q:List Int} (h:0<=i) (e:aD s i=au6 p) (l:q.length=p.length+1) (k:∀v∈q,v=w\/v∈p):nK s (s.set i.toNat q) w i:=fun t u g=>by
 rcases UG h g with ⟨rfl,rfl,_⟩|⟨_,g⟩
 ·exact ⟨p,e,by omega,fun v ab=>(k v ab).imp (fun x=>⟨rfl,x⟩) id⟩
 ·exact ⟨u,g,by omega,fun _ h=> .inr h⟩
theorem sn.dS {s r:List (List Int)} {w t:Int} (h:sn s r):nK s r w t:=fun a q g=>by
 obtain ⟨p,U,az,aa⟩:=h a q g;exact ⟨p,U,by omega,fun i aj=> .inr (aa i aj)⟩
theorem nK.arx {s r u:List (List Int)} {w t:Int} (h:sn s r) (k:nK r u w t):nK s u w t:=fun a q g=>by
 obtain ⟨p,U,az,aa⟩:=k a q g;obtain ⟨qw,ap,gv,aN⟩:=h a p U;exact ⟨qw,ap,by omega,fun i aj=>(aa i aj).imp id (aN i)⟩
theorem UF {aA:Type} {s:List aA} {q:aA} (h:q∈s):∃t,aD s t=au6 q:=by
 obtain ⟨i,h,rfl⟩:=List.getElem_of_mem h;exact ⟨i,by unfold aD;rw[if_pos (by omega)];exact avV (by omega)⟩
@[grind->] theorem as3 {s r:List (List Int)} {q:List Int} (h:sn s r) (bd:q∈r):∃p∈s,q.length<=p.length/\∀i∈q,i∈p:=by
 obtain ⟨t,g⟩:=UF bd;obtain ⟨p,g,l,k⟩:=h t q g;exact ⟨p,wU g,l,k⟩
@[grind->] theorem as4 {s r:List (List Int)} {q:List Int} {w t a:Int} (h:nK s r w t) (bd:aD r a=au6 q):∃p∈s,q.length<=p.length+1/\∀i∈q,i=w\/i∈p:=by
 obtain ⟨p,g,l,k⟩:=h a q bd;exact ⟨p,wU g,l,fun i aj=>(k i aj).imp And.right id⟩
theorem abr {s r:List (List Int)} {w t n:Int} {k:Nat} (h:dI n 40000 s) (a:∀t∈s,t.length<=k) (b:k<=1000) (l:r.length=s.length) (c:nK s r w t) (d:0<=w) (e:w<n):dI n 40000 r:=by
 refine ⟨by unfold dI at h;omega,fun q bd=> ?_⟩;obtain ⟨t,g⟩:=UF bd;obtain ⟨p,g,l,k⟩:=c t q g;have:=a p (wU g);refine ⟨by omega,fun i aj=> ?_⟩;rcases k i aj with ⟨_,rfl⟩|k
 ·exact ⟨d,e⟩
 ·exact (h.2 p (wU g)).2 i k
def df (c:dx) (y:bN):Prop:=nP 40000 c y
def lv (w:List Int) (s:List (List Int)) (t:Int):Prop:=∀q,aD s t=au6 q->∀i∈q,i∈w
def Mc (p:gi) (s:List (List Int)):Prop:=∀t,(t=p.lead\/t∈p.aP)->lv p.cv s t
def h8 (y:bN):Prop:=y.busy=au7->y.dF=ava->Mc y.bJ y.aP
def yf (w:List Int) (s r:List (List Int)):Prop:=∀t p,aD s t=au6 p->∃q,aD r t=au6 q/\∀i∈p,i∈w\/i∈q
def kN (w:List Int) (y z:bN):Prop:=∃s b,z=bN.mk y.cv s y.cH y.busy y.bJ b/\∀t,lv w y.aP t->lv w s t
def l4 (to:Int) (y z:bN):Prop:=∃s b,z=bN.mk y.cv s y.cH y.busy y.bJ b/\∀w t,t≠to->lv w y.aP t->lv w s t
theorem RF {s r:List (List Int)} {w:List Int} {v to t:Int} (h:nK s r v to) (k:v∈w\/t≠to) (g:lv w s t):lv w r t:=fun q e i aj=>by
 obtain ⟨p,b2,_,cM⟩:=h t q e;rcases cM i aj with ⟨a,rfl⟩|cM
 ·rcases k with k|k
  ·exact k
  ·exact absurd a k
 ·exact g p b2 i cM
theorem ym {y:bN} {s:List (List Int)} {w:List Int} {v to:Int} (h:nK y.aP s v to) (k:v∈w):kN w y (bN.mk y.cv s y.cH y.busy y.bJ y.dF):=⟨s,_,rfl,fun _=>RF h (.inl k)⟩
theorem yl {y:bN} {s:List (List Int)} {v to:Int} (h:nK y.aP s v to):l4 to y (bN.mk y.cv s y.cH y.busy y.bJ y.dF):=⟨s,_,rfl,fun _ _ k=>RF h (.inr k)⟩
theorem ss (w:List Int) (y:bN):kN w y y:=⟨_,_,rfl,fun _ h=>h⟩
theorem sr (to:Int) (y:bN):l4 to y y:=⟨_,_,rfl,fun _ _ _ h=>h⟩
theorem T4 {w:List Int} {x y z:bN} (h:kN w x y) (k:kN w y z):kN w x z:=by
 obtain ⟨s,b,rfl,h⟩:=h;obtain ⟨r,c,rfl,k⟩:=k;exact ⟨_,_,rfl,fun t g=>k t (h t g)⟩
theorem Mo {to:Int} {x y z:bN} (h:l4 to x y) (k:l4 to y z):l4 to x z:=by
 obtain ⟨s,b,rfl,h⟩:=h;obtain ⟨r,c,rfl,k⟩:=k;exact ⟨_,_,rfl,fun w t a g=>k w t a (h w t a g)⟩
theorem RD (w:List Int) (s:List (List Int)):yf w s s:=fun _ p h=>⟨p,h,fun _ h=> .inr h⟩
theorem RE {w:List Int} {s r:List (List Int)} {i:Int} {p q:List Int} (a:0<=i) (e:aD s i=au6 p) (k:∀v∈p,v∈w\/v∈q) (h:yf w (s.set i.toNat q) r):yf w s r:=fun t u g=>by
 by_cases aw:t=i
 ·subst aw;obtain rfl:p=u:=avl.inj (e.symm.trans g);obtain ⟨x,U,aa⟩:=h t q (by
   unfold aD at e⊢;rw[if_pos a] at e⊢;rw[List.getElem?_set_self (by obtain ⟨h,_⟩:=avr.mp e;exact h)])
  exact ⟨x,U,fun v ab=>(k v ab).elim .inl (aa v)⟩
 ·exact h t u (by
   unfold aD at g⊢;split at g
   ·rename_i bf;rw[if_pos bf,List.getElem?_set_ne (by omega)];exact g
   ·cases g)
variable {N:Nat} (aq:5000000000<N)
include aq
theorem aoI {x0:List (List Int)} (U:x0.length<=1000) (aa:∀t∈x0,t.length<=1000000) {n:Nat} {ak:(List (List Int))} {an:Int}:(0<=an)->(an<=(x0.length:Int))->((x0.length:Int) - an<n)->(ak.length<=an)->aH (B8 N x0 n ak an) fun r=>r=ak++x0.drop an.toNat:=by
 induction n generalizing ak an with
 |zero=>intros;exfalso;grind -mbtc
 |succ n ar=>intros;rw[B8];(repeat' with_reducible first|intro _|apply b8 (ar ..)|apply dW|apply bU|refine bE (by omega) ?_|apply bn|apply bs|apply aW|apply aK)<;>clear ar<;>grind -mbtc
theorem QB {x0:List (List Int)} (U:x0.length<=1000) (aa:∀t∈x0,t.length<=1000000):aH (x3 N x0) fun r=>r=x0:=by
 rw[x3];(repeat' with_reducible first|intro _|apply aF (aoI aq ..)|apply aK)<;>grind -mbtc
theorem aoJ {J:bN} (U:J.cH.length<=8) (aa:∀o∈J.cH,o.cw.length<=16) {n:Nat} {ak:(List bX)} {an:Int} {xN:(List (List Int))}:(0<=an)->(an<=(J.cH.length:Int))->((J.cH.length:Int) - an<n)->(ak.length<=an)->aH (B9 N J n ak an xN) fun r=>r.1=ak++J.cH.drop an.toNat/\r.2=xN:=by
 induction n generalizing ak an xN with
 |zero=>intros;exfalso;grind -mbtc
 |succ n ar=>intros;rw[B9];(repeat' with_reducible first|intro _|apply b8 (ar ..)|apply dW|apply bU|refine bE (by omega) ?_|apply bn|apply bs|apply aW|apply aK)<;>clear ar<;>first|grind -mbtc|(rw[sw (by assumption:aD J.cH an=au6 _)];simp_all)
theorem ahY {x0:bN} (U:lx 40000 x0):aH (DB N x0) fun r=>r.1=bN.mk [] x0.aP [] x0.busy x0.bJ x0.dF/\r.2.1=x0.cv/\r.2.2=x0.cH:=by
 rw[DB];simp only[List.map_id'];(repeat' with_reducible first|intro _|apply aF (QB aq ..)|apply aF (aoJ aq ..)|apply dW|apply aK)<;>first|grind -mbtc|simp_all [Rq]
theorem aoO {J:Int} {al:dx}:aH (Jk N J al) fun r=>r=au7->0<=J/\J<al.aP.length:=by
 rw[Jk];(repeat' with_reducible first|intro _|apply bn|apply bs|apply aW|apply aK)<;>grind -mbtc
theorem vo {x0:dx} {J:Int}:aH (pW N x0 J) fun r=>r=au7->0<=J/\J<x0.aP.length:=by
 rw[pW];(repeat' with_reducible first|intro _|apply aF (aoO aq)|apply aK)<;>grind -mbtc
theorem apO {x0:List Int} {J:Int} (U:x0.length<=1000000) {n:Nat} {ah:Int}:(0<=ah)->(ah<=(x0.length:Int))->((x0.length:Int) - ah<n)->aH (CJ N x0 J n ah) fun r=>(∀a,r= .inr a->a=au7/\J∈x0)/\(r= .inl ()->J∉x0.drop ah.toNat):=by
 induction n generalizing ah with
 |zero=>intros;exfalso;grind -mbtc
 |succ n ar=>intros;rw[CJ];(repeat' with_reducible first|intro _|apply b8 (ar ..)|apply bU|refine bE (by omega) ?_|apply bn|apply bs|apply aW|apply aK)<;>clear ar<;>grind -mbtc
theorem Ad {x0:List Int} {J:Int} (U:x0.length<=1000000):aH (tN N x0 J) fun r=>(r=au7->J∈x0)/\(r=ava->J∉x0):=by
 rw[tN];(repeat' with_reducible first|intro _|apply dU (apO aq ..)|apply aK)<;>grind -mbtc
theorem anf {J:Int} {al:bN} (U:al.cH.length<=1000000) {n:Nat} {ah:Int}:(0<=ah)->(ah<=(al.cH.length:Int))->((al.cH.length:Int) - ah<n)->aH (BB N J al n ah) fun r=>True:=by
 induction n generalizing ah with
 |zero=>intros;exfalso;grind -mbtc
 |succ n ar=>intros;rw[BB];(repeat' with_reducible first|intro _|apply b8 (ar ..)|apply bU|refine bE (by omega) ?_|apply bn|apply bs|apply aW|apply aK)<;>clear ar<;>grind -mbtc
theorem xy {x0:bN} {J:Int} (U:x0.cH.length<=1000000):aH (qT N x0 J) fun r=>True:=by
 rw[qT];(repeat' with_reducible first|intro _|apply dU (anf aq ..)|apply aK)<;>grind -mbtc
theorem aoL {x0:List (List Int)} {J ax:Int} (U:0<=ax) (aa:ax<x0.length) (ap:x0.length<=1000) (aN:∀t∈x0,t.length<=1000000) {n:Nat} {aB:Int}:(0<=aB)->(∀t,aD x0 ax=au6 t->aB<=t.length/\t.length - aB<n)->aH (BV N x0 J ax n aB) fun r=>∀a,r= .inr a->0<=a.1/\a.1<x0.length/\0<=a.2/\∀t,aD x0 a.1=au6 t->a.2<t.length:=by
 induction n generalizing aB with
 |zero=>intros;obtain ⟨t,e⟩:=ka U aa;exfalso;grind -mbtc
 |succ n ar=>intros;rw[BV];(repeat' with_reducible first|intro _|apply b8 (ar ..)|apply bU|refine bE (by omega) ?_|apply bn|apply bs|apply aW|apply aK)<;>clear ar<;>grind -mbtc
theorem aoK {x0:List (List Int)} {J:Int} (U:x0.length<=1000) (aa:∀t∈x0,t.length<=1000000) {n:Nat} {ax:Int}:(0<=ax)->(ax<=(x0.length:Int))->((x0.length:Int) - ax<n)->aH (BU N x0 J n ax) fun r=>∀a,r= .inr a->0<=a.1/\a.1<x0.length/\0<=a.2/\∀t,aD x0 a.1=au6 t->a.2<t.length:=by
 induction n generalizing ax with
 |zero=>intros;exfalso;grind -mbtc
 |succ n ar=>intros;rw[BU];(repeat' with_reducible first|intro _|apply dU (aoL aq ..)|apply b8 (ar ..)|refine bE (by omega) ?_|apply bn|apply bs|apply aW|apply aK)<;>clear ar<;>grind -mbtc
theorem tr {x0:List (List Int)} {J:Int} (U:x0.length<=1000) (aa:∀t∈x0,t.length<=1000000):aH (pV N x0 J) fun r=>0<=r.1->0<=r.1/\r.1<x0.length/\0<=r.2/\∀t,aD x0 r.1=au6 t->r.2<t.length:=by
 rw[pV];(repeat' with_reducible first|intro _|apply dU (aoK aq ..)|apply aK)<;>grind -mbtc
theorem ane {x0:List cb} (U:x0.length<=1000000) {n:Nat} {ak:(List Int)} {an:Int}:(0<=an)->(an<=(x0.length:Int))->((x0.length:Int) - an<n)->(ak.length=an)->aH (BA N x0 n ak an) fun r=>r.length=x0.length:=by
 induction n generalizing ak an with
 |zero=>intros;exfalso;grind -mbtc
 |succ n ar=>intros;rw[BA];(repeat' with_reducible first|intro _|apply b8 (ar ..)|apply dW|apply bU|refine bE (by omega) ?_|apply bn|apply bs|apply aW|apply aK)<;>clear ar<;>grind -mbtc
theorem Ab {x0:List cb} (U:x0.length<=1000000):aH (tK N x0) fun r=>r.length=x0.length:=by
 rw[tK];(repeat' with_reducible first|intro _|apply aF (ane aq ..)|apply aK)<;>grind -mbtc
theorem apN {x0 J:List Int} (U:J.length<=1000000) (aa:∀i∈J,0<=i/\i<x0.length) {n:Nat} {ah:Int} {ax:Int}:(0<=ax)->(ax<=(J.length:Int))->((J.length:Int) - ax<n)->aH (BS N x0 J n ah ax) fun r=>True:=by
 induction n generalizing ah ax with
 |zero=>intros;exfalso;grind -mbtc
 |succ n ar=>intros;rw[BS];(repeat' with_reducible first|intro _|apply b8 (ar ..)|apply bU|refine bE (by omega) ?_|apply bn|apply bs|apply aW|apply aK)<;>clear ar<;>grind -mbtc
theorem ZR {x0 J:List Int} (U:J.length<=1000000) (aa:∀i∈J,0<=i/\i<x0.length):aH (DG N x0 J) fun r=>True:=by
 rw[DG];(repeat' with_reducible first|intro _|apply aF (apN aq ..)|apply aK)<;>grind -mbtc
theorem apq {x0:List hS} {J:List Int} {al:List (List Int)}:aH (Jg N x0 J al) fun r=>r=ava->al.length=x0.length:=by
 rw[Jg];(repeat' with_reducible first|intro _|apply bs|apply aW|apply aK)<;>grind -mbtc
theorem aps {J:List Int} {aB:Int} (U:0<=aB) (aa:aB<J.length):aH (Jh N J aB) fun r=>True:=by
 rw[Jh];(repeat' with_reducible first|intro _|apply bU|apply bs|apply aW|apply aK)<;>grind -mbtc
theorem apr {J:List Int} (U:J.length<=1000000) {n:Nat} {aB:Int}:(0<=aB)->(aB<=(J.length:Int))->((J.length:Int) - aB<n)->aH (CH N J n aB) fun r=>∀a,r= .inr a->a=ava:=by
 induction n generalizing aB with
 |zero=>intros;exfalso;grind -mbtc
 |succ n ar=>intros;rw[CH];(repeat' with_reducible first|intro _|apply aF (aps aq ..)|apply b8 (ar ..)|refine bE (by omega) ?_|apply bn|apply bs|apply aW|apply aK)<;>clear ar<;>grind -mbtc
theorem apv {J:List Int} {aG:List Bool} {bc:Int} (U:aG.length=J.length):aH (Ji N J aG bc) fun r=>r=ava->0<=bc/\bc<J.length/\aD aG bc=au6 ava:=by
 rw[Ji];(repeat' with_reducible first|intro _|apply bU|apply bs|apply aW|apply aK)<;>grind -mbtc
theorem apu {J:List Int} {al:List (List Int)} {a3:Int} (U:0<=a3) (aa:a3<al.length) (ap:al.length<=1000) (aN:∀t∈al,t.length<=1000000) {n:Nat} {aG:(List Bool)} {aV:Int}:(0<=aV)->(∀t,aD al a3=au6 t->aV<=t.length/\t.length - aV<n)->(aG.length=J.length)->aH (BT N J al a3 n aG aV) fun r=>(∀a,r= .inr a->a=ava)/\∀a,r= .inl a->a.length=J.length/\∀t,aD al a3=au6 t->wi a+aV=wi aG+t.length:=by
 induction n generalizing aG aV with
 |zero=>intros;obtain ⟨t,e⟩:=ka U aa;exfalso;grind -mbtc
 |succ n ar=>intros;rw[BT];(repeat' with_reducible first|intro _|apply aF (apv aq ?_)|apply b8 (ar ..)|apply bU|refine bE (by omega) ?_|apply bn|apply bs|apply aW|apply aK)<;>clear ar<;>first|grind -mbtc|grind -mbtc [ack]
theorem apw {x0:List hS} {J:List Int} {al:List (List Int)} {a3:Int} (U:0<=a3) (aa:a3<al.length) (ap:al.length=x0.length) (aN:dI J.length 1000000 al):aH (Jj N x0 J al a3) fun r=>True:=by
 rw[Jj];(repeat' with_reducible first|intro _|apply aF (ZR aq ..)|apply bU|apply bs|apply aW|apply aK)<;>grind -mbtc
theorem apt {x0:List hS} {J:List Int} {al:List (List Int)} (U:al.length=x0.length) (aa:dI J.length 1000000 al) {n:Nat} {aG:(List Bool)} {a3:Int}:(0<=a3)->(a3<=(al.length:Int))->((al.length:Int) - a3<n)->(aG.length=J.length)->aH (CI N x0 J al n aG a3) fun r=>(r= .inl ()->∀t∈al.drop a3.toNat,t.length<=J.length)/\∀a,r= .inr a->a=ava:=by
 induction n generalizing aG a3 with
 |zero=>intros;exfalso;grind -mbtc
 |succ n ar=>intros;rw[CI];(repeat' with_reducible first|intro _|apply dU (apu aq ..)|apply aF (apw aq ..)|apply b8 (ar ..)|refine bE (by omega) ?_|apply bn|apply bs|apply aW|apply aK)<;>clear ar<;>first|grind -mbtc|(obtain ⟨t,e⟩:=ka (xs:=al) (i:=a3) (by omega) (by omega);rw[sw e];grind -mbtc [acj])
theorem agG {x0:List hS} {J:List Int} {al:List (List Int)} (U:dI J.length 1000000 al) (aa:J.length<=1000):aH (LI N x0 J al) fun r=>r=au7->al.length=x0.length/\∀t∈al,t.length<=J.length:=by
 rw[LI];(repeat' with_reducible first|intro _|apply aF (apq aq)|apply dU (apr aq ..)|apply dU (apt aq ..)|apply sv|apply aW|apply aK)<;>grind -mbtc
theorem apl {J:List Int} {al:List (List Int)} {aB:dj}:aH (J2 N J al aB) fun r=>r=ava->0<=aB.oV/\aB.oV<J.length/\aB.from_<al.length/\aB.to<al.length:=by
 rw[J2];(repeat' with_reducible first|intro _|apply bs|apply aW|apply aK)<;>grind -mbtc
theorem apm {aB:dj} {aV:Int}:aH (J3 N aB aV) fun r=>True:=by
 rw[J3];(repeat' with_reducible first|intro _|apply bs|apply aW|apply aK)<;>grind -mbtc
theorem apn {aV bc:Int} {a9:List (List Int)} {nB:Bool} (U:nB=au7->0<=aV/\aV<a9.length/\0<=bc/\∀t,aD a9 aV=au6 t->bc<t.length) (aa:∀t∈a9,t.length<=1000000):aH (Je N aV bc a9 nB) fun r=>r.length=a9.length/\sn a9 r:=by
 rw[Je];(repeat' with_reducible first|intro _|apply dW|apply bU|apply p6|refine bE (by omega) ?_|apply aW|apply aK)<;>first|grind -mbtc|grind -mbtc [abd,abc]
theorem apo {aB:dj} {a9:List (List Int)} {Rj:Bool} (U:0<=aB.to) (aa:aB.to<a9.length) (ap:∀t∈a9,t.length<=1000000):aH (Jf N aB a9 Rj) fun r=>r.length=a9.length/\nK a9 r aB.oV aB.to:=by
 rw[Jf];(repeat' with_reducible first|intro _|apply dW|apply bU|apply aW|apply aK)<;>first|grind -mbtc|grind -mbtc [abe]
theorem Ac {x0:List hS} {J:List Int} {al:List (List Int)} {ak:dj} (U:dI J.length 40000 al) (aa:J.length<=1000):aH (tL N x0 J al ak) fun r=>r.2=0->r.1.length=al.length/\dI J.length 40000 r.1/\nK al r.1 ak.oV ak.to:=by
 rw[tL];simp only[List.map_id'];(repeat' with_reducible first|intro _|apply aF (apl aq)|apply aF (apm aq)|apply aF (apn aq ..)|apply aF (apo aq ..)|apply aF (QB aq ..)|apply aF (agG aq ..)|apply aF (tr aq ..)|apply aF (ZR aq ..)|apply bU|apply bs|apply aW|apply aK)<;>first|grind -mbtc|grind -mbtc [sn.dS,nK.arx,aax,abr]
theorem ahr {x0:bw} {J al:Int} {cr:List dj} (U:df x0.c x0.y) (aa:cr.length<=1000000):aH (K3 N x0 J al cr) fun r=>r.2.1.length<=cr.length+1/\r.2.2.c=x0.c/\r.2.2.e=x0.e/\df x0.c r.2.2.y/\(∀W,J∈W->kN W x0.y r.2.2.y)/\l4 al x0.y r.2.2.y:=by
 rw[K3];simp only[fR];(repeat' with_reducible first|intro _|apply aF (Ac aq ..)|apply aF (tr aq ..)|apply aF (Ab aq ?_)|apply dW|apply aW|apply aK)<;>first|grind -mbtc [df]|grind -mbtc [ym,yl,ss,sr,df]
end Go.W
end
section
set_option maxHeartbeats 2000000
namespace Go.W
open Go.av
attribute [grind] Kw fR vS xU C9
@[grind=] theorem auQ {a b:Int} (h:0<=a):a.tdiv b=a / b:=Int.tdiv_eq_ediv_of_nonneg h
@[grind=] theorem auu (a b:Int):max a b=if a<=b then b else a:=Int.max_def a b
def se (N:Nat) (j:cV) (v:List Int) (y x r:Int):Prop:=∃k c s,tM N j x y=au6 k/\0<k/\aD v x=au6 c/\vW N j x y=au6 s/\avc .i64 (c+s)=r
def mx (v:List Int):Prop:=∀c∈v,0<=c/\c<4096
attribute [grind] mx
theorem aaQ {N:Nat} {j:cV} {v:List Int} {y x k c s:Int} (U:tM N j x y=au6 k) (aa:0<k) (ap:aD v x=au6 c) (aN:vW N j x y=au6 s):se N j v y x (avc .i64 (c+s)):=⟨k,c,s,U,aa,ap,aN,rfl⟩
variable {N:Nat} (aq:5000000000<N)
include aq
theorem api {J:List UInt8} {al:bX} (U:al.cw.length<=1000000) {n:Nat} {ah:Int}:(0<=ah)->(ah<=(al.cw.length:Int))->((al.cw.length:Int) - ah<n)->aH (CF N J al n ah) fun r=>True:=by
 induction n generalizing ah with
 |zero=>intros;exfalso;grind -mbtc
 |succ n ar=>intros;rw[CF];(repeat' with_reducible first|intro _|apply b8 (ar ..)|apply bU|refine bE (by omega) ?_|apply bn|apply bs|apply aW|apply aK)<;>clear ar<;>grind -mbtc
theorem GZ {x0:bX} {J:List UInt8} (U:x0.cw.length<=1000000):aH (vZ N x0 J) fun r=>True:=by
 rw[vZ];(repeat' with_reducible first|intro _|apply dU (api aq ..)|apply aK)<;>grind -mbtc
theorem ali {al:dx} {ak:bX} (U:ak.name.length<=1000000):aH (HD N al ak) fun r=>r=ava->0<=ak.bC/\ak.bC<al.aP.length/\ak.cw.length<=16:=by
 rw[HD];(repeat' with_reducible first|intro _|apply aF (G0 aq ..)|apply bs|apply aW|apply aK)<;>grind -mbtc
theorem akN {ak:bX} {ah:Int} (U:0<=ah) (aa:ah<ak.cw.length) (ap:ak.cw.length<=1000000) (aN:∀d∈ak.cw,d.length<=1000000):aH (HE N ak ah) fun r=>True:=by
 rw[HE];(repeat' with_reducible first|intro _|apply aF (G0 aq ..)|apply aF (GZ aq ?_)|apply bU|apply aW|apply aK)<;>grind -mbtc
theorem alj {ak:bX} (U:ak.cw.length<=1000000) (aa:∀d∈ak.cw,d.length<=1000000) {n:Nat} {ah:Int}:(0<=ah)->(ah<=(ak.cw.length:Int))->((ak.cw.length:Int) - ah<n)->aH (AE N ak n ah) fun r=>∀a,r= .inr a->a=ava:=by
 induction n generalizing ah with
 |zero=>intros;exfalso;grind -mbtc
 |succ n ar=>intros;rw[AE];(repeat' with_reducible first|intro _|apply aF (akN aq ..)|apply b8 (ar ..)|refine bE (by omega) ?_|apply bn|apply bs|apply aW|apply aK)<;>clear ar<;>grind -mbtc
theorem Z4 {x0:dx} {J:bX} (U:J.name.length<=1000000) (aa:J.cw.length<=1000000) (ap:∀d∈J.cw,d.length<=1000000):aH (De N x0 J) fun r=>r=au7->0<=J.bC/\J.bC<x0.aP.length/\J.cw.length<=16:=by
 rw[De];(repeat' with_reducible first|intro _|apply aF (ali aq ?_)|apply dU (alj aq ..)|apply aW|apply aK)<;>grind -mbtc
theorem amd {ak ah:bX}:aH (IL N ak ah) fun r=>True:=by
 rw[IL];(repeat' with_reducible first|intro _|apply aW|apply aK)<;>grind -mbtc
theorem ame {ak ah:bX} (U:ak.cw.length<=1000000) (aa:ah.cw.length<=1000000) {n:Nat} {ax:Int}:(0<=ax)->(ax<=(ak.cw.length:Int))->((ak.cw.length:Int) - ax<n)->aH (Bw N ak ah n ax) fun r=>True:=by
 induction n generalizing ax with
 |zero=>intros;exfalso;grind -mbtc
 |succ n ar=>intros;rw[Bw];(repeat' with_reducible first|intro _|apply aF (GZ aq ?_)|apply b8 (ar ..)|apply bU|refine bE (by omega) ?_|apply bn|apply bs|apply aW|apply aK)<;>clear ar<;>grind -mbtc
theorem amc {ak:bX} {gC:List bX} (U:ak.cw.length<=1000000) (aa:gC.length<=1000000) (ap:∀o∈gC,o.cw.length<=1000000) {n:Nat} {an:Int}:(0<=an)->(an<=(gC.length:Int))->((gC.length:Int) - an<n)->aH (Bv N ak gC n an) fun r=>True:=by
 induction n generalizing an with
 |zero=>intros;exfalso;grind -mbtc
 |succ n ar=>intros;rw[Bv];(repeat' with_reducible first|intro _|apply aF (amd aq)|apply dU (ame aq ..)|apply b8 (ar ..)|apply bU|refine bE (by omega) ?_|apply bn|apply bs|apply aW|apply aK)<;>clear ar<;>grind -mbtc
theorem ahq {x0:bw} {gC:List bX} (U:df x0.c (bN.mk x0.y.cv x0.y.aP gC x0.y.busy x0.y.bJ x0.y.dF)) (aa:jg x0.e):aH (K2 N x0 gC) fun r=>r.1=0->df x0.c (bN.mk r.2.2.y.cv r.2.2.y.aP r.2.1 r.2.2.y.busy r.2.2.y.bJ r.2.2.y.dF)/\r.2.2.y.busy=ava:=by
 rw[K2];(repeat' with_reducible first|intro _|apply aF (Z4 aq ..)|apply dU (amc aq ..)|apply dW|apply bU|apply bs|apply aW|apply aK)<;>first|grind -mbtc [df]|grind -mbtc (gen:=20) (ematch:=20) [df]
theorem aq' {x0:bw}:aH (KQ N x0) fun r=>r=au7->0<=x0.e.bC/\x0.e.bC<x0.c.aP.length/\0<=x0.e.cE/\x0.e.cE<=12:=by
 rw[KQ];(repeat' with_reducible first|intro _|apply aF (vo aq)|apply bn|apply bs|apply aW|apply aK)<;>grind -mbtc
theorem arb {x0:bw} {ak:Bool} {an:Int} (U:0<=an) (aa:an<x0.e.aP.length):aH (KR N x0 ak an) fun r=>r=au7->ak=au7/\∀t,aD x0.e.aP an=au6 t->0<=t/\t<x0.c.aP.length:=by
 rw[KR];(repeat' with_reducible first|intro _|apply aF (vo aq)|apply bU|apply aW|apply aK)<;>grind -mbtc
theorem ara {x0:bw} (U:x0.e.aP.length<=1000000) {n:Nat} {ak:Bool} {an:Int}:(0<=an)->(an<=(x0.e.aP.length:Int))->((x0.e.aP.length:Int) - an<n)->aH (Df N x0 n ak an) fun r=>r=au7->ak=au7/\∀t∈x0.e.aP.drop an.toNat,0<=t/\t<x0.c.aP.length:=by
 induction n generalizing ak an with
 |zero=>intros;exfalso;grind -mbtc
 |succ n ar=>intros;rw[Df];(repeat' with_reducible first|intro _|apply aF (arb aq ..)|apply b8 (ar ..)|refine bE (by omega) ?_|apply bn|apply bs|apply aW|apply aK)<;>clear ar<;>first|grind -mbtc|(obtain ⟨t,e⟩:=ka (xs:=x0.e.aP) (i:=an) (by omega) (by omega);grind -mbtc)
theorem ahp {x0:bw} (U:x0.e.aP.length<=1000000):aH (K1 N x0) fun r=>r=au7->0<=x0.e.bC/\x0.e.bC<x0.c.aP.length/\0<=x0.e.cE/\x0.e.cE<=12/\∀t∈x0.e.aP,0<=t/\t<x0.c.aP.length:=by
 rw[K1];(repeat' with_reducible first|intro _|apply aF (aq' aq)|apply aF (ara aq ..)|apply aK)<;>grind -mbtc
theorem ard {x0:bw} {ak:Bool} {an:Int} (U:0<=an) (aa:an<x0.e.aP.length) (ap:x0.e.aP.length<=1000000) (aN:x0.y.cH.length<=1000000):aH (Le N x0 ak an) fun r=>True:=by
 rw[Le];(repeat' with_reducible first|intro _|apply aF (Ad aq ?_)|apply aF (xy aq ?_)|apply bU|apply p6|apply bn|apply aW|apply aK)<;>grind -mbtc
theorem arc {x0:bw} (U:x0.e.aP.length<=1000000) (aa:x0.y.cH.length<=1000000) {n:Nat} {ak:Bool} {an:Int}:(0<=an)->(an<=(x0.e.aP.length:Int))->((x0.e.aP.length:Int) - an<n)->aH (Dl N x0 n ak an) fun r=>True:=by
 induction n generalizing ak an with
 |zero=>intros;exfalso;grind -mbtc
 |succ n ar=>intros;rw[Dl];(repeat' with_reducible first|intro _|apply aF (ard aq ..)|apply b8 (ar ..)|refine bE (by omega) ?_|apply bn|apply bs|apply aW|apply aK)<;>clear ar<;>grind -mbtc
theorem ag1 {x0:bw} (U:x0.e.aP.length<=1000000) (aa:x0.y.cH.length<=1000000):aH (Ls N x0) fun r=>True:=by
 rw[Ls];(repeat' with_reducible first|intro _|apply aF (xy aq ?_)|apply aF (arc aq ..)|apply bn|apply aK)<;>grind -mbtc
theorem aoN {x0:List bX} {J:List UInt8} (U:x0.length<=1000000) (aa:∀o∈x0,o.cw.length<=1000000) {n:Nat} {ax:Int}:(0<=ax)->(ax<=(x0.length:Int))->((x0.length:Int) - ax<n)->aH (BX N x0 J n ax) fun r=>∀a,r= .inr a->0<=a.1/\a.1<x0.length:=by
 induction n generalizing ax with
 |zero=>intros;exfalso;grind -mbtc
 |succ n ar=>intros;rw[BX];(repeat' with_reducible first|intro _|apply aF (GZ aq ?_)|apply b8 (ar ..)|apply bU|refine bE (by omega) ?_|apply bn|apply bs|apply aW|apply aK)<;>clear ar<;>grind -mbtc
theorem agI {x0:List bX} {J:List UInt8} (U:x0.length<=1000000) (aa:∀o∈x0,o.cw.length<=1000000):aH (LK N x0 J) fun r=> -1<=r.1/\r.1<x0.length:=by
 rw[LK];(repeat' with_reducible first|intro _|apply dU (aoN aq ..)|apply aK)<;>grind -mbtc
theorem QC {x0:List bX} {J:cb} (U:x0.length<=1000000) (aa:∀o∈x0,o.cw.length<=1000000):aH (x4 N x0 J) fun r=> -1<=r.fC/\r.fC<x0.length:=by
 rw[x4];(repeat' with_reducible first|intro _|apply aF (agI aq ..)|apply aK)<;>grind -mbtc
theorem aou {J:cV}:aH (H9 N J) fun r=>r=ava->0<=J.cE/\J.cE<=12:=by
 rw[H9];(repeat' with_reducible first|intro _|apply bs|apply aW|apply aK)<;>grind -mbtc
theorem aow {an:e3}:aH (JE N an) fun r=>r=ava->0<=an.block/\an.block<32:=by
 rw[JE];(repeat' with_reducible first|intro _|apply bs|apply aW|apply aK)<;>grind -mbtc
theorem aox {J:cV} {ak:Int} {an:e3} (U:ak<J.items.length) (aa:J.items.length<=1000000):aH (JF N J ak an) fun r=>True:=by
 rw[JF];(repeat' with_reducible first|intro _|apply bU|refine bE (by omega) ?_|apply bs|apply aW|apply aK)<;>grind -mbtc
theorem aov {J:cV} (U:J.items.length<=1000000) {n:Nat} {ak:Int}:(0<=ak)->(ak<=(J.items.length:Int))->((J.items.length:Int) - ak<n)->aH (AK N J n ak) fun r=>(r= .inl ()->∀t∈J.items.drop ak.toNat,0<=t.block/\t.block<32)/\∀a,r= .inr a->a≠0:=by
 induction n generalizing ak with
 |zero=>intros;exfalso;grind -mbtc
 |succ n ar=>intros;rw[AK];(repeat' with_reducible first|intro _|apply aF (aow aq)|apply aF (aox aq ..)|apply b8 (ar ..)|apply bU|refine bE (by omega) ?_|apply bn|apply bs|apply aW|apply aK)<;>clear ar<;>grind -mbtc
theorem ag6 {x0:cV} (U:x0.items.length<=1000000):aH (Lx N x0) fun r=>r=0->x0.items.length<=96/\0<=x0.cE/\x0.cE<=12/\∀t∈x0.items,0<=t.block/\t.block<32:=by
 rw[Lx];(repeat' with_reducible first|intro _|apply aF (aou aq)|apply dU (aov aq ..)|apply bs|apply aW|apply aK)<;>grind -mbtc
theorem ao2 {aB aG:e3}:aH (Js N aB aG) fun r=>r=ava->aB.block<aG.block:=by
 rw[Js];(repeat' with_reducible first|intro _|apply bn|apply aW|apply aK)<;>grind -mbtc
theorem QE {x0:cV} {J al:Int} (U:0<=J) (aa:J<x0.items.length) (ap:0<=al) (aN:al<x0.items.length):aH (tM N x0 J al) fun r=>0<=r/\r<=2/\(0<r->∀a b,aD x0.items J=au6 a->aD x0.items al=au6 b->a.block<b.block):=by
 rw[tM];(repeat' with_reducible first|intro _|apply aF (ao2 aq)|apply bU|apply bn|apply aW|apply aK)<;>grind -mbtc
theorem aac {x0:cV} {J al:Int} (U:0<=J) (aa:J<x0.items.length) (ap:0<=al) (aN:al<x0.items.length):aH (vW N x0 J al) fun r=>0<=r/\r<=1:=by
 rw[vW];(repeat' with_reducible first|intro _|apply aF (QE aq ..)|refine bE (by omega) ?_|apply bn|apply aK)<;>grind -mbtc
theorem ao1 {J:List Int} {al aB aG:Int} {ak:cV} (U:0<=al) (aa:al<ak.items.length) (ap:0<=aG) (aN:aG<ak.items.length) (bK:J.length=ak.items.length) (ed:mx J) (hg:0<=aB) (jP:aB<=4096):aH (Jr N J al ak aB aG) fun r=>0<=r/\r<=4096/\(r=aB\/se N ak J al aG r):=by
 rw[Jr];(repeat' with_reducible first|intro _|apply aF (QE aq ..)|apply aF (aac aq ..)|apply bU|refine bE (by omega) ?_|apply bn|apply bs|apply aW|apply aK)<;>first|grind -mbtc|grind -mbtc [aaQ]
theorem ao0 {J:List Int} {al:Int} {ak:cV} (U:0<=al) (aa:al<ak.items.length) (ap:J.length=ak.items.length) (aN:mx J) (bK:ak.items.length<=1000000) {n:Nat} {aB:Int} {aG:Int}:(0<=aG)->(aG<=(ak.items.length:Int))->((ak.items.length:Int) - aG<n)->(0<=aB)->(aB<=4096)->aH (B3 N J al ak n aB aG) fun r=>0<=r/\r<=4096/\(r=aB\/∃x:Int,0<=x/\x<ak.items.length/\se N ak J al x r):=by
 induction n generalizing aB aG with
 |zero=>intros;exfalso;grind -mbtc
 |succ n ar=>intros;rw[B3];(repeat' with_reducible first|intro _|apply aF (ao1 aq ..)|apply b8 (ar ..)|refine bE (by omega) ?_|apply bn|apply bs|apply aW|apply aK)<;>clear ar<;>grind -mbtc
theorem QD {x0:cV} {J:List Int} {al:Int} (U:0<=al) (aa:al<x0.items.length) (ap:J.length=x0.items.length) (aN:mx J) (bK:x0.items.length<=1000000):aH (x1 N x0 J al) fun r=>0<=r/\r<=4096/\(0<r->∃x:Int,0<=x/\x<x0.items.length/\se N x0 J al x r):=by
 rw[x1];(repeat' with_reducible first|intro _|apply aF (ao0 aq ..)|apply aK)<;>grind -mbtc
end Go.W
end
section
set_option maxHeartbeats 2000000
namespace Go.W
open Go.av
theorem abW {c:dx} {y:bN} {w ts:List Int} {j:cV} {p:g7} {l:Int} (h:df c y) (cz:0<=l) (dw:l<c.aP.length) (ft:∀t∈ts,0<=t/\t<c.aP.length) (hK:ts.length=p.fJ.steps) (q5:ts.length<=100) (p4:j.items.length=w.length) (o8:p.fJ.hV.length=w.length) (yo:w.length<=1000) (tW:∀i∈j.items,0<=i.fC/\i.fC<y.cH.length) (eA:p.chain.length<=1000):df c (bN.mk y.cv y.aP y.cH au7 (gi.mk w j p l ts 0) ava):=by
 unfold df nP lx at*;refine ⟨h.1,h.2.1,h.2.2.1,h.2.2.2.1,h.2.2.2.2.1,h.2.2.2.2.2.1,fun _ _=> ?_,yo,by simp;omega,by simp;omega,by simp;omega,by simp;omega,h.2.2.2.2.2.2.2.2.2.2.2.2⟩;unfold om;simp only;refine ⟨by omega,by omega,by omega,by omega,by omega,by omega,by omega,fun t aw=> ?_,p4,o8,tW⟩;have:=ft t aw;omega
theorem aa0 {y:bN} {w ts:List Int} {j:cV} {p:g7} {l:Int} (cz:lv w y.aP l) (dw:∀t∈ts,lv w y.aP t):h8 (bN.mk y.cv y.aP y.cH au7 (gi.mk w j p l ts 0) ava):=fun _ _ t h=>by
 rcases h with rfl|h
 ·exact cz
 ·exact dw t h
variable {N:Nat} (aq:5000000000<N)
include aq
theorem ap8 {J:List Int} {al:bN} (U:J.length<=1000000) (aa:∀i∈J,0<=i/\i<al.cv.length) {n:Nat} {ah:Int} {ax:Int}:(0<=ax)->(ax<=(J.length:Int))->((J.length:Int) - ax<n)->aH (Cf N J al n ah ax) fun r=>True:=by
 induction n generalizing ah ax with
 |zero=>intros;exfalso;grind -mbtc
 |succ n ar=>intros;rw[Cf];(repeat' with_reducible first|intro _|apply b8 (ar ..)|apply bU|refine bE (by omega) ?_|apply bn|apply bs|apply aW|apply aK)<;>clear ar<;>grind -mbtc
theorem ZM {x0:bN} {J:List Int} (U:J.length<=1000000) (aa:∀i∈J,0<=i/\i<x0.cv.length):aH (DD N x0 J) fun r=>True:=by
 rw[DD];(repeat' with_reducible first|intro _|apply aF (ap8 aq ..)|apply aK)<;>grind -mbtc
theorem aqa {aG:cV} {a3:e4} {de cD cI:Int} (U:0<=cI) (aa:cI<aG.items.length) (ap:a3.hV.length=aG.items.length):aH (I5 N aG a3 de cD cI) fun r=>True:=by
 rw[I5];(repeat' with_reducible first|intro _|apply Ub|apply yr|apply bU|refine bE (by omega) ?_|apply bn|apply aW|apply aK)<;>grind -mbtc
theorem ap' {aG:cV} {a3:e4} {de:Int} (U:a3.hV.length=aG.items.length) (aa:aG.items.length<=1000000) {n:Nat} {cD:Int} {cI:Int}:(0<=cI)->(cI<=(aG.items.length:Int))->((aG.items.length:Int) - cI<n)->aH (Ch N aG a3 de n cD cI) fun r=>True:=by
 induction n generalizing cD cI with
 |zero=>intros;exfalso;grind -mbtc
 |succ n ar=>intros;rw[Ch];(repeat' with_reducible first|intro _|apply aF (aqa aq ..)|apply b8 (ar ..)|refine bE (by omega) ?_|apply bn|apply bs|apply aW|apply aK)<;>clear ar<;>grind -mbtc
theorem ap9 {an:List Int} {ax:dx} {aG:cV} {a3:e4} (U:a3.hV.length=aG.items.length) (aa:aG.items.length<=1000000) (ap:a3.steps<=an.length) (aN:an.length<=1000000) (bK:∀t∈an,0<=t/\t<ax.aP.length) {n:Nat} {de:Int}:(0<=de)->(de<=an.length)->(an.length - de<n)->aH (Cg N an ax aG a3 n de) fun r=>True:=by
 induction n generalizing de with
 |zero=>intros;exfalso;grind -mbtc
 |succ n ar=>intros;rw[Cg];(repeat' with_reducible first|intro _|apply aF (ap' aq ..)|apply b8 (ar ..)|apply bU|refine bE (by omega) ?_|apply bn|apply bs|apply aW|apply aK)<;>clear ar<;>grind -mbtc
theorem aqd {aG:cV} {dt fk ff:Int} (U:0<=ff) (aa:ff<aG.items.length):aH (I6 N aG dt fk ff) fun r=>True:=by
 rw[I6];(repeat' with_reducible first|intro _|apply bU|refine bE (by omega) ?_|apply bn|apply aW|apply aK)<;>grind -mbtc
theorem aqc {aG:cV} {dt:Int} (U:aG.items.length<=1000000) {n:Nat} {fk:Int} {ff:Int}:(0<=ff)->(ff<=(aG.items.length:Int))->((aG.items.length:Int) - ff<n)->aH (BJ N aG dt n fk ff) fun r=>True:=by
 induction n generalizing fk ff with
 |zero=>intros;exfalso;grind -mbtc
 |succ n ar=>intros;rw[BJ];(repeat' with_reducible first|intro _|apply aF (aqd aq ..)|apply b8 (ar ..)|refine bE (by omega) ?_|apply bn|apply bs|apply aW|apply aK)<;>clear ar<;>grind -mbtc
theorem aqb {ah:List (List Int)} {ax:dx} {aB:bN} {aG:cV} (U:aB.cH.length<=8) (aa:∀o∈aB.cH,0<=o.bC/\o.bC<ah.length/\o.bC<ax.aP.length) (ap:dI aB.cv.length 40000 ah) (aN:aG.items.length<=1000000) {n:Nat} {dt:Int}:(0<=dt)->(dt<=(aB.cH.length:Int))->((aB.cH.length:Int) - dt<n)->aH (Ci N ah ax aB aG n dt) fun r=>True:=by
 induction n generalizing dt with
 |zero=>intros;exfalso;grind -mbtc
 |succ n ar=>intros;rw[Ci];(repeat' with_reducible first|intro _|apply aF (ZM aq ..)|apply aF (aqc aq ..)|apply b8 (ar ..)|apply bU|refine bE (by omega) ?_|apply bn|apply bs|apply aW|apply aK)<;>clear ar<;>grind -mbtc
theorem ZN {x0:dx} {J:bN} {al:cV} {ak:e4} {an:List Int} {ah:List (List Int)} (U:J.cH.length<=8) (aa:∀o∈J.cH,0<=o.bC/\o.bC<ah.length/\o.bC<x0.aP.length) (ap:dI J.cv.length 40000 ah) (aN:ak.hV.length=al.items.length) (bK:al.items.length<=1000000) (ed:an.length<=1000000) (hg:∀t∈an,0<=t/\t<x0.aP.length):aH (DE N x0 J al ak an ah) fun r=>r=au7->ak.steps<=an.length:=by
 rw[DE];(repeat' with_reducible first|intro _|apply dU (ap9 aq ..)|apply dU (aqb aq ..)|apply bs|apply aW|apply aK)<;>grind -mbtc
theorem Z7 {x0:bw} {J:List Int} {al:cV} {ak:g7} (U:0<=ak.fJ.steps) (aa:ak.fJ.steps<=x0.e.aP.length) (ap:x0.e.aP.length<=100) (aN:df x0.c x0.y) (bK:0<=x0.e.bC) (ed:x0.e.bC<x0.c.aP.length) (hg:∀t∈x0.e.aP,0<=t/\t<x0.c.aP.length) (jP:al.items.length=J.length) (nS:ak.fJ.hV.length=J.length) (yD:J.length<=1000) (Nd:∀i∈al.items,0<=i.fC/\i.fC<x0.y.cH.length) (ac6:ak.chain.length<=1000) (ac7:lv J x0.y.aP x0.e.bC) (atv:∀t∈x0.e.aP,lv J x0.y.aP t):aH (Di N x0 J al ak) fun r=>r.2.2.2.c=x0.c/\df x0.c (bN.mk r.2.2.2.y.cv r.2.2.2.y.aP r.2.2.2.y.cH r.2.2.2.y.busy (gi.mk r.2.2.2.y.bJ.cv r.2.2.2.y.bJ.ir r.2.2.2.y.bJ.proof r.2.2.2.y.bJ.lead r.1 r.2.2.2.y.bJ.iW) r.2.2.2.y.dF)/\h8 (bN.mk r.2.2.2.y.cv r.2.2.2.y.aP r.2.2.2.y.cH r.2.2.2.y.busy (gi.mk r.2.2.2.y.bJ.cv r.2.2.2.y.bJ.ir r.2.2.2.y.bJ.proof r.2.2.2.y.bJ.lead r.1 r.2.2.2.y.bJ.iW) r.2.2.2.y.dF):=by
 rw[Di];(repeat' with_reducible first|intro _|apply dW|apply p6|apply aK)<;>first|grind -mbtc|exact ⟨rfl,abW (y:=x0.y) aN bK ed (by grind -mbtc) (by grind -mbtc) (by grind -mbtc) jP nS yD Nd ac6,aa0 (y:=x0.y) ac7 (by grind -mbtc)⟩
theorem ahd {x0:bw}:aH (KO N x0) fun r=>r.c=x0.c/\r.y=bN.mk x0.y.cv x0.y.aP x0.y.cH ava (gi.mk [] (cV.mk [] 0) (g7.mk (e4.mk 0 []) []) 0 [] 0) ava:=by
 rw[KO];(repeat' with_reducible first|intro _|apply aK)<;>grind -mbtc
theorem amx {x0:bw}:aH (Hi N x0) fun r=>r=au7->0<=x0.e.bC/\x0.e.bC<x0.c.aP.length/\0<=x0.e.cE/\x0.e.cE<=12:=by
 rw[Hi];(repeat' with_reducible first|intro _|apply aF (vo aq)|apply bn|apply bs|apply aW|apply aK)<;>grind -mbtc
theorem amz {x0:bw} {ak:Bool} {an:Int} (U:0<=an) (aa:an<x0.e.aP.length):aH (Hj N x0 ak an) fun r=>r=au7->ak=au7/\∀t,aD x0.e.aP an=au6 t->0<=t/\t<x0.c.aP.length:=by
 rw[Hj];(repeat' with_reducible first|intro _|apply aF (vo aq)|apply bU|apply aW|apply aK)<;>grind -mbtc
theorem amy {x0:bw} (U:x0.e.aP.length<=1000000) {n:Nat} {ak:Bool} {an:Int}:(0<=an)->(an<=(x0.e.aP.length:Int))->((x0.e.aP.length:Int) - an<n)->aH (Bj N x0 n ak an) fun r=>r=au7->ak=au7/\∀t∈x0.e.aP.drop an.toNat,0<=t/\t<x0.c.aP.length:=by
 induction n generalizing ak an with
 |zero=>intros;exfalso;grind -mbtc
 |succ n ar=>intros;rw[Bj];(repeat' with_reducible first|intro _|apply aF (amz aq ..)|apply b8 (ar ..)|refine bE (by omega) ?_|apply bn|apply bs|apply aW|apply aK)<;>clear ar<;>first|grind -mbtc|(obtain ⟨t,e⟩:=ka (xs:=x0.e.aP) (i:=an) (by omega) (by omega);grind -mbtc)
theorem ahe {x0:bw} (U:x0.e.aP.length<=1000000):aH (KP N x0) fun r=>r=au7->0<=x0.e.bC/\x0.e.bC<x0.c.aP.length/\0<=x0.e.cE/\x0.e.cE<=12/\∀t∈x0.e.aP,0<=t/\t<x0.c.aP.length:=by
 rw[KP];(repeat' with_reducible first|intro _|apply aF (amx aq)|apply aF (amy aq ..)|apply aK)<;>grind -mbtc
theorem anp {x0:bw} {ak:Bool} {an:Int} (U:0<=an) (aa:an<x0.e.aP.length) (ap:x0.e.aP.length<=1000000) (aN:x0.y.cH.length<=1000000):aH (I1 N x0 ak an) fun r=>True:=by
 rw[I1];(repeat' with_reducible first|intro _|apply aF (Ad aq ?_)|apply aF (xy aq ?_)|apply bU|apply p6|apply bn|apply aW|apply aK)<;>grind -mbtc
theorem ano {x0:bw} (U:x0.e.aP.length<=1000000) (aa:x0.y.cH.length<=1000000) {n:Nat} {ak:Bool} {an:Int}:(0<=an)->(an<=(x0.e.aP.length:Int))->((x0.e.aP.length:Int) - an<n)->aH (BE N x0 n ak an) fun r=>True:=by
 induction n generalizing ak an with
 |zero=>intros;exfalso;grind -mbtc
 |succ n ar=>intros;rw[BE];(repeat' with_reducible first|intro _|apply aF (anp aq ..)|apply b8 (ar ..)|refine bE (by omega) ?_|apply bn|apply bs|apply aW|apply aK)<;>clear ar<;>grind -mbtc
theorem ahB {x0:bw} (U:x0.e.aP.length<=1000000) (aa:x0.y.cH.length<=1000000):aH (Ld N x0) fun r=>True:=by
 rw[Ld];(repeat' with_reducible first|intro _|apply aF (xy aq ?_)|apply aF (ano aq ..)|apply bn|apply aK)<;>grind -mbtc
theorem aoM {x0:List Int} {J:Int} (U:x0.length<=1000000) {n:Nat} {ah:Int}:(0<=ah)->(ah<=(x0.length:Int))->((x0.length:Int) - ah<n)->aH (BW N x0 J n ah) fun r=>True:=by
 induction n generalizing ah with
 |zero=>intros;exfalso;grind -mbtc
 |succ n ar=>intros;rw[BW];(repeat' with_reducible first|intro _|apply b8 (ar ..)|apply bU|refine bE (by omega) ?_|apply bn|apply bs|apply aW|apply aK)<;>clear ar<;>grind -mbtc
theorem agH {x0:List Int} {J:Int} (U:x0.length<=1000000):aH (LJ N x0 J) fun r=>True:=by
 rw[LJ];(repeat' with_reducible first|intro _|apply dU (aoM aq ..)|apply aK)<;>grind -mbtc
theorem ap0 {al:List bX} {de dt:Int} {cI:Bool} (U:0<=dt) (aa:dt<al.length):aH (JA N al de cI dt) fun r=>True:=by
 rw[JA];(repeat' with_reducible first|intro _|apply bU|apply bn|apply aW|apply aK)<;>grind -mbtc
theorem apZ {al:List bX} {de:Int} (U:al.length<=1000000) {n:Nat} {cI:Bool} {dt:Int}:(0<=dt)->(dt<=(al.length:Int))->((al.length:Int) - dt<n)->aH (Cb N al de n cI dt) fun r=>True:=by
 induction n generalizing cI dt with
 |zero=>intros;exfalso;grind -mbtc
 |succ n ar=>intros;rw[Cb];(repeat' with_reducible first|intro _|apply aF (ap0 aq ..)|apply b8 (ar ..)|refine bE (by omega) ?_|apply bn|apply bs|apply aW|apply aK)<;>clear ar<;>grind -mbtc
theorem ap1 {de:Int} {cI:Bool}:aH (JB N de cI) fun r=>True:=by
 rw[JB];(repeat' with_reducible first|intro _|apply bs|apply aW|apply aK)<;>grind -mbtc
theorem apY {x0:List cb} {J:List (List Int)} {al:List bX} {ak bc:List Int} {a9:Int} {oZ:List e3} (U:x0.length<=192) (aa:dI x0.length 40000 J) (ap:al.length<=1000000) (aN:ak.length<=1000000) (bK:∀o∈al,o.cw.length<=1000000) (ed:0<=a9) (hg:a9<x0.length) (jP:bc.length<=1000) (nS:oZ.length=bc.length) (yD:∀i∈bc,0<=i/\i<x0.length):aH (Jz N x0 J al ak bc a9 oZ) fun r=>r.2.1.length<=bc.length+1/\r.2.2.length=r.2.1.length/\∀i∈r.2.1,0<=i/\i<x0.length:=by
 rw[Jz];(repeat' with_reducible first|intro _|apply aF (tr aq ..)|apply aF (Ad aq ?_)|apply aF (QC aq ..)|apply aF (apZ aq ..)|apply aF (ap1 aq)|apply dW|apply bU|apply aW|apply aK)<;>grind -mbtc
theorem apX {x0:List cb} {J:List (List Int)} {al:List bX} {ak:List Int} (U:x0.length<=192) (aa:dI x0.length 40000 J) (ap:al.length<=1000000) (aN:ak.length<=1000000) (bK:∀o∈al,o.cw.length<=1000000) {n:Nat} {aV:cS} {bc:(List Int)} {a9:Int} {oZ:(List e3)}:(0<=a9)->(a9<=(x0.length:Int))->((x0.length:Int) - a9<n)->(bc.length<=a9)->(oZ.length=bc.length)->(∀i∈bc,0<=i/\i<x0.length)->aH (Ca N x0 J al ak n aV bc a9 oZ) fun r=>r.2.1.length<=x0.length/\r.2.2.length=r.2.1.length/\∀i∈r.2.1,0<=i/\i<x0.length:=by
 induction n generalizing aV bc a9 oZ with
 |zero=>intros;exfalso;grind -mbtc
 |succ n ar=>intros;rw[Ca];(repeat' with_reducible first|intro _|apply aF (apY aq ..)|apply b8 (ar ..)|refine bE (by omega) ?_|apply bn|apply bs|apply aW|apply aK)<;>clear ar<;>grind -mbtc
theorem ap2 {al:List bX} (U:al.length<=8) {n:Nat} {aV:cS} {fk:Int} {xO:(List Int)}:(0<=fk)->(fk<=(al.length:Int))->((al.length:Int) - fk<n)->(xO.length=fk)->aH (Cc N al n aV fk xO) fun r=>r.2.length=al.length:=by
 induction n generalizing aV fk xO with
 |zero=>intros;exfalso;grind -mbtc
 |succ n ar=>intros;rw[Cc];(repeat' with_reducible first|intro _|apply b8 (ar ..)|apply dW|apply bU|refine bE (by omega) ?_|apply bn|apply bs|apply aW|apply aK)<;>clear ar<;>grind -mbtc
theorem ap5 {J:List (List Int)} {bc eT:List Int} {ff kL:Int} (U:0<=ff) (aa:ff<J.length) (ap:0<=kL) (aN:∀t,aD J ff=au6 t->kL<t.length) (bK:bc.length<=1000000) (ed:eT.length<=1000000):aH (JC N J bc ff eT kL) fun r=>r.length<=eT.length+1:=by
 rw[JC];(repeat' with_reducible first|intro _|apply aF (agH aq ?_)|apply dW|apply bU|apply bs|apply aW|apply aK)<;>grind -mbtc
theorem ap4 {J:List (List Int)} {bc:List Int} {ff:Int} (U:0<=ff) (aa:ff<J.length) (ap:bc.length<=1000000) (aN:∀t∈J,t.length<=40000) {n:Nat} {eT:(List Int)} {kL:Int}:(0<=kL)->(∀t,aD J ff=au6 t->kL<=t.length/\t.length - kL<n)->(eT.length<=kL)->aH (Ce N J bc ff n eT kL) fun r=>r.length<=40000:=by
 induction n generalizing eT kL with
 |zero=>intros;obtain ⟨t,e⟩:=ka U aa;exfalso;grind -mbtc
 |succ n ar=>intros;rw[Ce];(repeat' with_reducible first|intro _|apply aF (ap5 aq ..)|apply b8 (ar ..)|apply bU|refine bE (by omega) ?_|apply bn|apply bs|apply aW|apply aK)<;>clear ar<;>grind -mbtc
theorem ap3 {J:List (List Int)} {bc:List Int} (U:bc.length<=1000000) (aa:J.length<=24) (ap:∀t∈J,t.length<=40000) {n:Nat} {aV:cS} {ff:Int} {vP:(List (List Int))}:(0<=ff)->(ff<=(J.length:Int))->((J.length:Int) - ff<n)->(vP.length=ff)->(∀t∈vP,t.length<=40000)->aH (Cd N J bc n aV ff vP) fun r=>r.2.length=J.length/\∀t∈r.2,t.length<=40000:=by
 induction n generalizing aV ff vP with
 |zero=>intros;exfalso;grind -mbtc
 |succ n ar=>intros;rw[Cd];(repeat' with_reducible first|intro _|apply aF (ap4 aq ..)|apply b8 (ar ..)|apply dW|refine bE (by omega) ?_|apply bn|apply bs|apply aW|apply aK)<;>clear ar<;>grind -mbtc
theorem ahZ {x0:List cb} {J:List (List Int)} {al:List bX} {ak:List Int} (U:x0.length<=192) (aa:dI x0.length 40000 J) (ap:al.length<=1000000) (aN:ak.length<=1000000) (bK:∀o∈al,o.cw.length<=1000000) (ed:al.length<=8):aH (LU N x0 J al ak) fun r=>r.1.items.length=r.2.length/\r.2.length<=192/\r.1.homes.length=al.length/\r.1.aP.length=J.length/\(∀t∈r.1.aP,t.length<=40000)/\∀i∈r.2,0<=i/\i<x0.length:=by
 rw[LU];(repeat' with_reducible first|intro _|apply aF (apX aq ..)|apply aF (ap2 aq ..)|apply aF (ap3 aq ..)|apply aK)<;>grind -mbtc
end Go.W
end
section
set_option maxHeartbeats 2000000
namespace Go.W
open Go.av
def h9 (x:cS):Prop:=x.items.length<=96/\x.homes.length<=16/\x.aP.length<=24/\(∀t∈x.items,0<=t.fC/\t.fC<x.homes.length)/\(∀t∈x.aP,t.length<=40000)/\∀t∈x.aP,∀i∈t,0<=i/\i<x.items.length
attribute [grind] h9
def nJ (n:Nat) (x:List da):Prop:=∀p∈x,0<=p.item/\p.item<n/\p.kO<n
attribute [grind] nJ
def nh (l:List Int):Nat:=l.countP fun z=>decide (z<0)
theorem VP {l:List Int} {i c v:Int} (e:aD l i=au6 c) (ai:c<0) (ab:0<=v):nh (l.set i.toNat v)+1=nh l:=by
 unfold aD at e;split at e
 ·obtain ⟨h,rfl⟩:=avr.mp e;unfold nh;have aM:0<l.countP fun z=>decide (z<0):=List.countP_pos_iff.mpr ⟨_,List.getElem_mem h,by simpa using ai⟩;rw[List.countP_set h];simp[ai,show ¬v<0 by omega];omega
 ·cases e
theorem VO (l:List Int):nh l<=l.length:=List.countP_le_length
variable {N:Nat} (aq:5000000000<N)
include aq
theorem anT {J:cS}:aH (JK N J) fun r=>r=ava->J.items.length<=96/\J.homes.length<=16/\J.aP.length<=24:=by
 rw[JK];(repeat' with_reducible first|intro _|apply bs|apply aW|apply aK)<;>grind -mbtc
theorem anV {J:cS} {an:e3}:aH (JL N J an) fun r=>r=ava->0<=an.fC/\an.fC<J.homes.length:=by
 rw[JL];(repeat' with_reducible first|intro _|apply bs|apply aW|apply aK)<;>grind -mbtc
theorem anU {J:cS} (U:J.items.length<=1000000) {n:Nat} {ak:Int}:(0<=ak)->(ak<=(J.items.length:Int))->((J.items.length:Int) - ak<n)->aH (AR N J n ak) fun r=>(r= .inl ()->∀t∈J.items.drop ak.toNat,0<=t.fC/\t.fC<J.homes.length)/\∀a,r= .inr a->a=ava:=by
 induction n generalizing ak with
 |zero=>intros;exfalso;grind -mbtc
 |succ n ar=>intros;rw[AR];(repeat' with_reducible first|intro _|apply aF (anV aq)|apply b8 (ar ..)|apply bU|refine bE (by omega) ?_|apply bn|apply bs|apply aW|apply aK)<;>clear ar<;>grind -mbtc
theorem anX {J:cS} {ah:Int} (U:0<=ah) (aa:ah<J.homes.length):aH (JM N J ah) fun r=>True:=by
 rw[JM];(repeat' with_reducible first|intro _|apply bU|apply bs|apply aW|apply aK)<;>grind -mbtc
theorem anY {J:cS} {ah:Int} (U:0<=ah) (aa:ah<J.homes.length) (ap:J.homes.length<=1000) {n:Nat} {ax:Int}:(0<=ax)->(ax<=ah)->(ah - ax<n)->aH (Cj N J ah n ax) fun r=>∀a,r= .inr a->a=ava:=by
 induction n generalizing ax with
 |zero=>intros;exfalso;grind -mbtc
 |succ n ar=>intros;rw[Cj];(repeat' with_reducible first|intro _|apply b8 (ar ..)|apply bU|refine bE (by omega) ?_|apply bn|apply bs|apply aW|apply aK)<;>clear ar<;>grind -mbtc
theorem anW {J:cS} (U:J.homes.length<=1000) {n:Nat} {ah:Int}:(0<=ah)->(ah<=(J.homes.length:Int))->((J.homes.length:Int) - ah<n)->aH (AS N J n ah) fun r=>∀a,r= .inr a->a=ava:=by
 induction n generalizing ah with
 |zero=>intros;exfalso;grind -mbtc
 |succ n ar=>intros;rw[AS];(repeat' with_reducible first|intro _|apply aF (anX aq ..)|apply dU (anY aq ..)|apply b8 (ar ..)|refine bE (by omega) ?_|apply bn|apply bs|apply aW|apply aK)<;>clear ar<;>grind -mbtc
theorem an1 {aB:List Int} {aV:Int}:aH (JN N aB aV) fun r=>r=ava->0<=aV/\aV<aB.length:=by
 rw[JN];(repeat' with_reducible first|intro _|apply bs|apply aW|apply aK)<;>grind -mbtc
theorem an0 {J:cS} {aG:Int} (U:0<=aG) (aa:aG<J.aP.length) (ap:∀t∈J.aP,t.length<=40000) {n:Nat} {aB:(List Int)} {a3:Int}:(0<=a3)->(∀t,aD J.aP aG=au6 t->a3<=t.length/\t.length - a3<n)->aH (Cl N J aG n aB a3) fun r=>(∀a,r= .inl a->a.length=aB.length/\∀t,aD J.aP aG=au6 t->∀i∈t.drop a3.toNat,0<=i/\i<aB.length)/\∀a,r= .inr a->a=ava:=by
 induction n generalizing aB a3 with
 |zero=>intros;obtain ⟨t,e⟩:=ka U aa;exfalso;grind -mbtc
 |succ n ar=>intros;rw[Cl];(repeat' with_reducible first|intro _|apply aF (an1 aq)|apply b8 (ar ..)|apply bU|refine bE (by omega) ?_|apply bn|apply bs|apply aW|apply aK)<;>clear ar<;>grind -mbtc
theorem anZ {J:cS} (U:J.aP.length<=24) (aa:∀t∈J.aP,t.length<=40000) {n:Nat} {aB:(List Int)} {aG:Int}:(0<=aG)->(aG<=(J.aP.length:Int))->((J.aP.length:Int) - aG<n)->aH (Ck N J n aB aG) fun r=>(∀a,r= .inl a->a.length=aB.length/\∀t∈J.aP.drop aG.toNat,∀i∈t,0<=i/\i<aB.length)/\∀a,r= .inr a->a=ava:=by
 induction n generalizing aB aG with
 |zero=>intros;exfalso;grind -mbtc
 |succ n ar=>intros;rw[Ck];(repeat' with_reducible first|intro _|apply dU (an0 aq ..)|apply b8 (ar ..)|refine bE (by omega) ?_|apply bn|apply bs|apply aW|apply aK)<;>clear ar<;>first|grind -mbtc|(obtain ⟨t,e⟩:=ka (xs:=J.aP) (i:=aG) (by omega) (by omega);rw[sw e];simp_all;grind -mbtc)
theorem an2 {aB:List Int} (U:aB.length<=1000000) {n:Nat} {bc:Int}:(0<=bc)->(bc<=(aB.length:Int))->((aB.length:Int) - bc<n)->aH (Cm N aB n bc) fun r=>∀a,r= .inr a->a=ava:=by
 induction n generalizing bc with
 |zero=>intros;exfalso;grind -mbtc
 |succ n ar=>intros;rw[Cm];(repeat' with_reducible first|intro _|apply b8 (ar ..)|apply bU|refine bE (by omega) ?_|apply bn|apply bs|apply aW|apply aK)<;>clear ar<;>grind -mbtc
theorem aak {x0:cS} (U:∀t∈x0.aP,t.length<=40000):aH (Du N x0) fun r=>r=au7->h9 x0:=by
 rw[Du];(repeat' with_reducible first|intro _|apply aF (anT aq)|apply dU (anU aq ..)|apply dU (anW aq ..)|apply dU (anZ aq ..)|apply dU (an2 aq ..)|apply sv|apply aW|apply aK)<;>grind -mbtc
theorem anI {J:cS} {an:Int} (U:0<=an) (aa:an<J.aP.length) (ap:h9 J) {n:Nat} {ak:(List eG)} {ah:Int}:(0<=ah)->(∀t,aD J.aP an=au6 t->ah<=t.length/\t.length - ah<n)->(ak.length=J.items.length)->aH (Cw N J an n ak ah) fun r=>r.length=J.items.length:=by
 induction n generalizing ak ah with
 |zero=>intros;obtain ⟨t,e⟩:=ka U aa;exfalso;grind -mbtc
 |succ n ar=>intros;rw[Cw];(repeat' with_reducible first|intro _|apply b8 (ar ..)|apply bU|refine bE (by omega) ?_|apply bn|apply bs|apply aW|apply aK)<;>clear ar<;>grind -mbtc
theorem anH {J:cS} (U:h9 J) {n:Nat} {ak:(List eG)} {an:Int}:(0<=an)->(an<=(J.aP.length:Int))->((J.aP.length:Int) - an<n)->(ak.length=J.items.length)->aH (Cv N J n ak an) fun r=>r.length=J.items.length:=by
 induction n generalizing ak an with
 |zero=>intros;exfalso;grind -mbtc
 |succ n ar=>intros;rw[Cv];(repeat' with_reducible first|intro _|apply aF (anI aq ..)|apply b8 (ar ..)|refine bE (by omega) ?_|apply bn|apply bs|apply aW|apply aK)<;>clear ar<;>grind -mbtc
theorem ZG {x0:cS} (U:h9 x0):aH (Dw N x0) fun r=>r.length=x0.items.length:=by
 rw[Dw];(repeat' with_reducible first|intro _|apply aF (anH aq ..)|apply sv|apply aK)<;>grind -mbtc
theorem QF {x0:cS} {J:List eG} {al:Int} (U:h9 x0) (aa:J.length=x0.items.length) (ap:0<=al) (aN:al<J.length):aH (x2 N x0 J al) fun r=>True:=by
 rw[x2];(repeat' with_reducible first|intro _|apply bU|apply bn|apply aK)<;>grind -mbtc
theorem am7 {x0:List eG} {J al:Int} (U:0<=J) (aa:J<x0.length) (ap:0<=al) (aN:al<x0.length):aH (Is N x0 J al) fun r=>True:=by
 rw[Is];(repeat' with_reducible first|intro _|apply bU|apply bn|apply aW|apply aK)<;>grind -mbtc
theorem GY {x0:List eG} {J al:Int} (U:0<=J) (aa:J<x0.length) (ap:0<=al) (aN:al<x0.length):aH (vY N x0 J al) fun r=>True:=by
 rw[vY];(repeat' with_reducible first|intro _|apply aF (am7 aq ..)|apply aK)<;>grind -mbtc
theorem am6 {J al:Int} {ak:cS} (U:0<=J) (aa:J<ak.items.length) (ap:0<=al) (aN:al<ak.items.length):aH (Ir N J al ak) fun r=>True:=by
 rw[Ir];(repeat' with_reducible first|intro _|apply bU|apply bn|apply aW|apply aK)<;>grind -mbtc
theorem GX {x0:cS} {J al:Int} (U:0<=J) (aa:J<x0.items.length) (ap:0<=al) (aN:al<x0.items.length):aH (vX N x0 J al) fun r=>True:=by
 rw[vX];(repeat' with_reducible first|intro _|apply aF (am6 aq ..)|apply aK)<;>grind -mbtc
theorem am5 {J:List eG} {al ak:Int} {an:cS} (U:h9 an) (aa:J.length=an.items.length) (ap:0<=al) (aN:al<J.length) (bK:0<=ak) (ed:ak<J.length):aH (Iq N J al ak an) fun r=>True:=by
 rw[Iq];(repeat' with_reducible first|intro _|apply aF (QF aq ..)|apply aF (GX aq ..)|apply aF (GY aq ..)|apply aW|apply aK)<;>grind -mbtc
theorem aad {x0:cS} {J:List eG} {al ak:Int} (U:h9 x0) (aa:J.length=x0.items.length) (ap:0<=al) (aN:al<J.length) (bK:0<=ak) (ed:ak<J.length):aH (xX N x0 J al ak) fun r=>True:=by
 rw[xX];(repeat' with_reducible first|intro _|apply aF (am5 aq ..)|apply aK)<;>grind -mbtc
theorem aoa {J:List eG} {al:Int} {ak:cS} (U:h9 ak) (aa:J.length=ak.items.length) (ap:0<=al) (aN:al<J.length) {n:Nat} {ax:da} {aG:Int}:(0<=aG)->(aG<=(ak.items.length:Int))->((ak.items.length:Int) - aG<n)->aH (Cs N J al ak n ax aG) fun r=>∀a,r= .inr a->a.1.item=al/\a.1.kO<J.length:=by
 induction n generalizing ax aG with
 |zero=>intros;exfalso;grind -mbtc
 |succ n ar=>intros;rw[Cs];(repeat' with_reducible first|intro _|apply aF (aad aq ..)|apply b8 (ar ..)|refine bE (by omega) ?_|apply bn|apply bs|apply aW|apply aK)<;>clear ar<;>grind -mbtc
theorem aal {x0:cS} {J:List eG} {al:Int} (U:h9 x0) (aa:J.length=x0.items.length) (ap:0<=al) (aN:al<J.length):aH (Dv N x0 J al) fun r=>r.2=au7->r.1.item=al/\r.1.kO<J.length:=by
 rw[Dv];(repeat' with_reducible first|intro _|apply dU (aoa aq ..)|apply aF (QF aq ..)|apply aW|apply aK)<;>grind -mbtc
theorem anE {J:List eG} {al:List Int} {ak an a9:Int} (U:al.length=J.length) (aa:0<=ak) (ap:ak<J.length) (aN:0<=a9) (bK:a9<J.length):aH (JR N J al ak an a9) fun r=>True:=by
 rw[JR];(repeat' with_reducible first|intro _|apply aF (GY aq ..)|apply bU|apply bs|apply aW|apply aK)<;>grind -mbtc
theorem aob {J:List eG} {al:List Int} {ak an:Int} {ah:cS} (U:h9 ah) (aa:J.length=ah.items.length) (ap:al.length=ah.items.length) (aN:0<=ak) (bK:ak<J.length) {n:Nat} {aV:da} {a9:Int}:(0<=a9)->(a9<=(ah.items.length:Int))->((ah.items.length:Int) - a9<n)->aH (Ct N J al ak an ah n aV a9) fun r=>∀a,r= .inr a->a.1.item=ak/\a.1.kO<J.length:=by
 induction n generalizing aV a9 with
 |zero=>intros;exfalso;grind -mbtc
 |succ n ar=>intros;rw[Ct];(repeat' with_reducible first|intro _|apply aF (anE aq ..)|apply b8 (ar ..)|refine bE (by omega) ?_|apply bn|apply bs|apply aW|apply aK)<;>clear ar<;>grind -mbtc
theorem anG {al:List Int} {ak an de:Int} {ah:cS} (U:al.length=ah.items.length) (aa:0<=ak) (ap:ak<al.length) (aN:0<=de) (bK:de<al.length):aH (JS N al ak an ah de) fun r=>True:=by
 rw[JS];(repeat' with_reducible first|intro _|apply aF (GX aq ..)|apply bU|apply bs|apply aW|apply aK)<;>grind -mbtc
theorem anF {al:List Int} {ak an:Int} {ah:cS} (U:h9 ah) (aa:al.length=ah.items.length) (ap:0<=ak) (aN:ak<al.length) {n:Nat} {aV:da} {de:Int}:(0<=de)->(de<=(ah.items.length:Int))->((ah.items.length:Int) - de<n)->aH (Cu N al ak an ah n aV de) fun r=>∀a,r= .inr a->a.1.item=ak/\a.1.kO<al.length:=by
 induction n generalizing aV de with
 |zero=>intros;exfalso;grind -mbtc
 |succ n ar=>intros;rw[Cu];(repeat' with_reducible first|intro _|apply aF (anG aq ..)|apply b8 (ar ..)|refine bE (by omega) ?_|apply bn|apply bs|apply aW|apply aK)<;>clear ar<;>grind -mbtc
theorem ag9 {x0:cS} {J:List eG} {al:List Int} {ak an:Int} (U:h9 x0) (aa:J.length=x0.items.length) (ap:al.length=x0.items.length) (aN:0<=ak) (bK:ak<J.length):aH (LA N x0 J al ak an) fun r=>r.2=au7->r.1.item=ak/\r.1.kO<J.length:=by
 rw[LA];(repeat' with_reducible first|intro _|apply dU (aob aq ..)|apply dU (anF aq ..)|apply aK)<;>grind -mbtc
theorem anN {J:cS} {an:List eG} {ah:List da} {ax:List Int} {aB:Int} (U:h9 J) (aa:an.length=J.items.length) (ap:ah.length=J.items.length) (aN:ax.length=J.items.length) (bK:nJ J.items.length ah) (ed:0<=aB) (hg:aB<ax.length):aH (JH N J an ah ax aB) fun r=>r.1.length=J.items.length/\r.2.length=J.items.length/\nJ J.items.length r.1:=by
 rw[JH];(repeat' with_reducible first|intro _|apply aF (aal aq ..)|apply bU|apply bn|apply aW|apply aK)<;>grind -mbtc
theorem aoB {J:cS} {an:List eG} (U:h9 J) (aa:an.length=J.items.length) {n:Nat} {ah:(List da)} {ax:(List Int)} {aB:Int}:(0<=aB)->(aB<=(ax.length:Int))->((ax.length:Int) - aB<n)->(ah.length=J.items.length)->(ax.length=J.items.length)->(nJ J.items.length ah)->aH (AN N J an n ah ax aB) fun r=>r.1.length=J.items.length/\r.2.length=J.items.length/\nJ J.items.length r.1:=by
 induction n generalizing ah ax aB with
 |zero=>intros;exfalso;grind -mbtc
 |succ n ar=>intros;rw[AN];(repeat' with_reducible first|intro _|apply aF (anN aq ..)|apply b8 (ar ..)|refine bE (by omega) ?_|apply bn|apply bs|apply aW|apply aK)<;>clear ar<;>grind -mbtc
theorem anQ {J:cS} {an:List eG} {ah:List da} {ax:List Int} {aV a9:Int} {bc:Bool} (U:h9 J) (aa:an.length=J.items.length) (ap:ah.length=J.items.length) (aN:ax.length=J.items.length) (bK:nJ J.items.length ah) (ed:0<=a9) (hg:a9<ax.length) (jP:0<=aV):aH (JI N J an ah ax aV bc a9) fun r=>r.1.length=J.items.length/\r.2.1.length=J.items.length/\nJ J.items.length r.1/\nh r.2.1<=nh ax/\(r.2.2=au7->bc=au7\/nh r.2.1<nh ax):=by
 rw[JI];(repeat' with_reducible first|intro _|apply aF (ag9 aq ..)|apply bU|apply bn|apply bs|apply aW|apply aK)<;>first|grind -mbtc|grind -mbtc [VP]|grind -mbtc [VO]
theorem anP {J:cS} {an:List eG} {aV:Int} (U:h9 J) (aa:an.length=J.items.length) (ap:0<=aV) {n:Nat} {ah:(List da)} {ax:(List Int)} {bc:Bool} {a9:Int}:(0<=a9)->(a9<=(ax.length:Int))->((ax.length:Int) - a9<n)->(ah.length=J.items.length)->(ax.length=J.items.length)->(nJ J.items.length ah)->aH (AP N J an aV n ah ax bc a9) fun r=>r.1.length=J.items.length/\r.2.1.length=J.items.length/\nJ J.items.length r.1/\nh r.2.1<=nh ax/\(r.2.2=au7->bc=au7\/nh r.2.1<nh ax):=by
 induction n generalizing ah ax bc a9 with
 |zero=>intros;exfalso;grind -mbtc
 |succ n ar=>intros;rw[AP];(repeat' with_reducible first|intro _|apply aF (anQ aq ..)|apply b8 (ar ..)|refine bE (by omega) ?_|apply bn|apply bs|apply aW|apply aK)<;>clear ar<;>grind -mbtc
theorem anO {J:cS} {an:List eG} (U:h9 J) (aa:an.length=J.items.length) {n:Nat} {ah:(List da)} {ax:(List Int)} {aV:Int} {bc:Bool}:(bc=au7->nh ax+1<n)->(0<n)->(0<=aV)->(bc=au7->aV+nh ax<=1000)->(ah.length=J.items.length)->(ax.length=J.items.length)->(nJ J.items.length ah)->aH (AO N J an n ah ax aV bc) fun r=>r.1.length=J.items.length/\r.2.length=J.items.length/\nJ J.items.length r.1:=by
 induction n generalizing ah ax aV bc with
 |zero=>intros;exfalso;grind -mbtc
 |succ n ar=>intros;rw[AO];(repeat' with_reducible first|intro _|apply aF (anP aq ..)|apply b8 (ar ..)|refine bE (by omega) ?_|apply bn|apply aW|apply aK)<;>clear ar<;>grind -mbtc
theorem anS {ah cI:List da} {ax:List Int} {dt:Int} (U:0<=dt) (aa:dt<ax.length) (ap:ah.length=ax.length) (aN:cI.length<=1000000):aH (JJ N ah ax cI dt) fun r=>r.length<=cI.length+1/\∀p∈r,p∈cI\/p∈ah:=by
 rw[JJ];(repeat' with_reducible first|intro _|apply dW|apply bU|apply bs|apply aW|apply aK)<;>grind -mbtc
theorem anR {ah:List da} {ax:List Int} (U:ah.length=ax.length) (aa:ax.length<=1000) {n:Nat} {cI:(List da)} {dt:Int}:(0<=dt)->(dt<=(ax.length:Int))->((ax.length:Int) - dt<n)->(cI.length<=dt)->(∀p∈cI,p∈ah)->aH (AQ N ah ax n cI dt) fun r=>r.length<=ax.length/\∀p∈r,p∈ah:=by
 induction n generalizing cI dt with
 |zero=>intros;exfalso;grind -mbtc
 |succ n ar=>intros;rw[AQ];(repeat' with_reducible first|intro _|apply aF (anS aq ..)|apply b8 (ar ..)|refine bE (by omega) ?_|apply bn|apply bs|apply aW|apply aK)<;>clear ar<;>grind -mbtc
theorem ag7 {x0:cS} (U:∀t∈x0.aP,t.length<=40000):aH (Ly N x0) fun r=>r.1.length<=96/\nJ x0.items.length r.1:=by
 rw[Ly];(repeat' with_reducible first|intro _|apply aF (aoB aq ..)|apply aF (anO aq ..)|apply aF (anR aq ..)|apply aF (aak aq ?_)|apply aF (ZG aq ?_)|apply sv|apply aW|apply aK)<;>first|grind -mbtc|grind -mbtc [VP]|grind -mbtc [VO]
end Go.W
end
section
set_option maxHeartbeats 2000000
namespace Go.W
open Go.av
variable {N:Nat} (aq:5000000000<N)
include aq
theorem amf {J:List eG} {an:cS} {aB:da} (U:h9 an) (aa:J.length=an.items.length) (ap:0<=aB.item) (aN:aB.item<J.length):aH (HI N J an aB) fun r=>True:=by
 rw[HI];(repeat' with_reducible first|intro _|apply aF (QF aq ..)|apply bn|apply aW|apply aK)<;>grind -mbtc
theorem amg {an:cS} {a3:Int}:aH (HJ N an a3) fun r=>r=ava->0<=a3/\a3<an.items.length:=by
 rw[HJ];(repeat' with_reducible first|intro _|apply bs|apply aW|apply aK)<;>grind -mbtc
theorem amh {al:List Int} {aB:da} {a3:Int} (U:0<=a3) (aa:a3<al.length):aH (HK N al aB a3) fun r=>True:=by
 rw[HK];(repeat' with_reducible first|intro _|apply bU|apply bn|apply bs|apply aW|apply aK)<;>grind -mbtc
theorem ami {J:List eG} {aB:da} {a3:Int} {aV:Bool} (U:0<=aB.item) (aa:aB.item<J.length) (ap:0<=a3) (aN:a3<J.length):aH (HL N J aB a3 aV) fun r=>True:=by
 rw[HL];(repeat' with_reducible first|intro _|apply aF (GY aq ..)|apply aW|apply aK)<;>grind -mbtc
theorem amj {J:List eG} {an:cS} {aB:da} {a3:Int} {aV:Bool} (U:h9 an) (aa:J.length=an.items.length) (ap:0<=aB.item) (aN:aB.item<J.length) (bK:0<=a3) (ed:a3<J.length):aH (HM N J an aB a3 aV) fun r=>True:=by
 rw[HM];(repeat' with_reducible first|intro _|apply aF (aad aq ..)|apply aF (GX aq ..)|apply aW|apply aK)<;>grind -mbtc
theorem afT {x0:cS} {J:List eG} {al:List Int} {ak:da} (U:h9 x0) (aa:J.length=x0.items.length) (ap:al.length=x0.items.length) (aN:0<=ak.item) (bK:ak.item<J.length):aH (KK N x0 J al ak) fun r=>True:=by
 rw[KK];(repeat' with_reducible first|intro _|apply aF (amf aq ..)|apply aF (amg aq)|apply aF (amh aq ..)|apply aF (ami aq ..)|apply aF (amj aq ..)|apply bn|apply aW|apply aK)<;>grind -mbtc
theorem an3 {n:Nat} {ax:(List Int)} {aB:Int}:(0<=aB)->(aB<=(ax.length:Int))->((ax.length:Int) - aB<n)->(ax.length<=1000)->aH (Cn N n ax aB) fun r=>r.length=ax.length:=by
 induction n generalizing ax aB with
 |zero=>intros;exfalso;grind -mbtc
 |succ n ar=>intros;rw[Cn];(repeat' with_reducible first|intro _|apply b8 (ar ..)|apply bU|refine bE (by omega) ?_|apply bn|apply bs|apply aW|apply aK)<;>clear ar<;>grind -mbtc
theorem an5 {J:List da} {ax:List Int} {aG a3:Int} (U:0<=aG) (aa:aG<J.length):aH (JO N J ax aG a3) fun r=>r=ava->0<=a3/\a3<ax.length:=by
 rw[JO];(repeat' with_reducible first|intro _|apply bU|apply bs|apply aW|apply aK)<;>grind -mbtc
theorem an4 {J:List da} (U:J.length<=1000000) {n:Nat} {ax:(List Int)} {aG:Int}:(0<=aG)->(aG<=(J.length:Int))->((J.length:Int) - aG<n)->aH (Co N J n ax aG) fun r=>∀a,r= .inl a->a.length=ax.length/\∀p∈J.drop aG.toNat,0<=p.item/\p.item<ax.length:=by
 induction n generalizing ax aG with
 |zero=>intros;exfalso;grind -mbtc
 |succ n ar=>intros;rw[Co];(repeat' with_reducible first|intro _|apply aF (an5 aq ..)|apply b8 (ar ..)|apply bU|refine bE (by omega) ?_|apply bn|apply bs|apply aW|apply aK)<;>clear ar<;>grind -mbtc
theorem an6 {J:List da} {al:cS} {ah:List eG} {ax:List Int} (U:h9 al) (aa:ah.length=al.items.length) (ap:ax.length=al.items.length) (aN:J.length<=1000000) (bK:∀p∈J,0<=p.item/\p.item<ah.length) {n:Nat} {aV:Int}:(0<=aV)->(aV<=(J.length:Int))->((J.length:Int) - aV<n)->aH (Cp N J al ah ax n aV) fun r=>True:=by
 induction n generalizing aV with
 |zero=>intros;exfalso;grind -mbtc
 |succ n ar=>intros;rw[Cp];(repeat' with_reducible first|intro _|apply aF (afT aq ..)|apply b8 (ar ..)|apply bU|refine bE (by omega) ?_|apply bn|apply bs|apply aW|apply aK)<;>clear ar<;>grind -mbtc
theorem an' {al:cS} {ah:List eG} {ax:List Int} {bc cD:Int} (U:h9 al) (aa:ah.length=al.items.length) (ap:ax.length=al.items.length) (aN:0<=bc) (bK:bc<ax.length) (ed:0<=cD) (hg:cD<ax.length):aH (JQ N al ah ax bc cD) fun r=>True:=by
 rw[JQ];(repeat' with_reducible first|intro _|apply aF (GX aq ..)|apply aF (GY aq ..)|apply bU|apply bs|apply aW|apply aK)<;>grind -mbtc
theorem an9 {al:cS} {ah:List eG} {ax:List Int} {bc:Int} (U:h9 al) (aa:ah.length=al.items.length) (ap:ax.length=al.items.length) (aN:0<=bc) (bK:bc<ax.length) {n:Nat} {cD:Int}:(0<=cD)->(cD<=(ax.length:Int))->((ax.length:Int) - cD<n)->aH (Cr N al ah ax bc n cD) fun r=>True:=by
 induction n generalizing cD with
 |zero=>intros;exfalso;grind -mbtc
 |succ n ar=>intros;rw[Cr];(repeat' with_reducible first|intro _|apply aF (an' aq ..)|apply b8 (ar ..)|refine bE (by omega) ?_|apply bn|apply bs|apply aW|apply aK)<;>clear ar<;>grind -mbtc
theorem an8 {al:cS} {ah:List eG} {ax:List Int} {bc:Int} (U:h9 al) (aa:ah.length=al.items.length) (ap:ax.length=al.items.length) (aN:0<=bc) (bK:bc<ax.length):aH (JP N al ah ax bc) fun r=>True:=by
 rw[JP];(repeat' with_reducible first|intro _|apply dU (an9 aq ..)|apply aF (aal aq ..)|apply bU|apply bs|apply aW|apply aK)<;>grind -mbtc
theorem an7 {al:cS} {ah:List eG} {ax:List Int} (U:h9 al) (aa:ah.length=al.items.length) (ap:ax.length=al.items.length) {n:Nat} {bc:Int}:(0<=bc)->(bc<=(ax.length:Int))->((ax.length:Int) - bc<n)->aH (Cq N al ah ax n bc) fun r=>True:=by
 induction n generalizing bc with
 |zero=>intros;exfalso;grind -mbtc
 |succ n ar=>intros;rw[Cq];(repeat' with_reducible first|intro _|apply dU (an8 aq ..)|apply b8 (ar ..)|refine bE (by omega) ?_|apply bn|apply bs|apply aW|apply aK)<;>clear ar<;>grind -mbtc
theorem ag8 {x0:cS} {J:List da} (U:h9 x0) (aa:J.length<=1000000):aH (Lz N x0 J) fun r=>True:=by
 rw[Lz];(repeat' with_reducible first|intro _|apply aF (an3 aq ..)|apply dU (an4 aq ..)|apply dU (an6 aq ..)|apply dU (an7 aq ..)|apply aF (ZG aq ?_)|apply sv|apply aK)<;>grind -mbtc
theorem am4 {x0:List da} {J:Int} (U:x0.length<=1000000) {n:Nat} {ah:Int}:(0<=ah)->(ah<=(x0.length:Int))->((x0.length:Int) - ah<n)->aH (A3 N x0 J n ah) fun r=>True:=by
 induction n generalizing ah with
 |zero=>intros;exfalso;grind -mbtc
 |succ n ar=>intros;rw[A3];(repeat' with_reducible first|intro _|apply b8 (ar ..)|apply bU|refine bE (by omega) ?_|apply bn|apply bs|apply aW|apply aK)<;>clear ar<;>grind -mbtc
theorem agT {x0:List da} {J:Int} (U:x0.length<=1000000):aH (Ll N x0 J) fun r=>True:=by
 rw[Ll];(repeat' with_reducible first|intro _|apply dU (am4 aq ..)|apply aK)<;>grind -mbtc
theorem apI {al:Int}:aH (J6 N al) fun r=>True:=by
 rw[J6];(repeat' with_reducible first|intro _|apply bn|apply bs|apply aW|apply aK)<;>grind -mbtc
theorem apL {J:List da} {ak:cS} {a3:cV} {aV:List Int} {bc a9:Int} {j2:List e3} (U:h9 ak) (aa:J.length<=1000000) (ap:0<=bc) (aN:bc<ak.aP.length) (bK:0<=a9) (ed:∀t,aD ak.aP bc=au6 t->a9<t.length) (hg:aV.length<=10000000) (jP:j2.length=aV.length) (nS:∀i∈j2,0<=i.fC/\i.fC<ak.homes.length) (yD:∀i∈aV,0<=i/\i<ak.items.length):aH (J7 N J ak a3 aV bc a9 j2) fun r=>r.2.1.length<=aV.length+1/\r.2.2.length=r.2.1.length/\r.1.cE=a3.cE/\(∀i∈r.2.2,0<=i.fC/\i.fC<ak.homes.length)/\∀i∈r.2.1,0<=i/\i<ak.items.length:=by
 rw[J7];(repeat' with_reducible first|intro _|apply aF (agT aq ?_)|apply dW|apply bU|apply aW|apply aK)<;>grind -mbtc
theorem apK {J:List da} {ak:cS} {bc:Int} (U:0<=bc) (aa:bc<ak.aP.length) (ap:h9 ak) (aN:J.length<=1000000) {n:Nat} {a3:cV} {aV:(List Int)} {a9:Int} {j2:(List e3)}:(0<=a9)->(∀t,aD ak.aP bc=au6 t->a9<=t.length/\t.length - a9<n)->(aV.length<=40000*bc+a9)->(j2.length=aV.length)->(∀i∈j2,0<=i.fC/\i.fC<ak.homes.length)->(∀i∈aV,0<=i/\i<ak.items.length)->aH (BQ N J ak bc n a3 aV a9 j2) fun r=>r.2.1.length<=40000*bc+40000/\r.2.2.length=r.2.1.length/\r.1.cE=a3.cE/\(∀i∈r.2.2,0<=i.fC/\i.fC<ak.homes.length)/\∀i∈r.2.1,0<=i/\i<ak.items.length:=by
 induction n generalizing a3 aV a9 j2 with
 |zero=>intros;obtain ⟨t,e⟩:=ka U aa;exfalso;grind -mbtc
 |succ n ar=>intros;rw[BQ];(repeat' with_reducible first|intro _|apply aF (apL aq ..)|apply b8 (ar ..)|apply bU|refine bE (by omega) ?_|apply bn|apply bs|apply aW|apply aK)<;>clear ar<;>grind -mbtc
theorem apJ {J:List da} {ak:cS} (U:h9 ak) (aa:J.length<=1000000) {n:Nat} {a3:cV} {aV:(List Int)} {bc:Int} {j2:(List e3)}:(0<=bc)->(bc<=(ak.aP.length:Int))->((ak.aP.length:Int) - bc<n)->(aV.length<=40000*bc)->(j2.length=aV.length)->(∀i∈j2,0<=i.fC/\i.fC<ak.homes.length)->(∀i∈aV,0<=i/\i<ak.items.length)->aH (BP N J ak n a3 aV bc j2) fun r=>r.2.1.length<=960000/\r.2.2.length=r.2.1.length/\r.1.cE=a3.cE/\(∀i∈r.2.2,0<=i.fC/\i.fC<ak.homes.length)/\∀i∈r.2.1,0<=i/\i<ak.items.length:=by
 induction n generalizing a3 aV bc j2 with
 |zero=>intros;exfalso;grind -mbtc
 |succ n ar=>intros;rw[BP];(repeat' with_reducible first|intro _|apply aF (apK aq ..)|apply b8 (ar ..)|refine bE (by omega) ?_|apply bn|apply bs|apply aW|apply aK)<;>clear ar<;>grind -mbtc
theorem ah5 {x0:cS} {J:List da} {al:Int} (U:∀t∈x0.aP,t.length<=40000) (aa:J.length<=1000000):aH (L0 N x0 J al) fun r=>r.1.items.length=r.2.1.length/\r.2.1.length<=960000/\(∀i∈r.1.items,0<=i.fC/\i.fC<x0.homes.length)/\∀i∈r.2.1,0<=i/\i<x0.items.length:=by
 rw[L0];(repeat' with_reducible first|intro _|apply aF (apI aq)|apply aF (apJ aq ..)|apply aF (aak aq ?_)|apply aF (ag8 aq ..)|apply bn|apply aW|apply aK)<;>grind -mbtc
end Go.W
end
section
set_option maxHeartbeats 2000000
namespace Go.W
open Go.av
theorem Fl {aA:Type} {l:List aA} (h:(l.length:Int)=0):l=[]:=List.length_eq_zero_iff.1 (by omega)
attribute [grind->] acW aax
variable {N:Nat} (aq:5000000000<N)
include aq
theorem afP {x0:bw} {J al:Int} {cr:List dj} (U:df x0.c x0.y) (aa:cr.length<=1000000):aH (KG N x0 J al cr) fun r=>r.2.1.length<=cr.length+1/\r.2.2.c=x0.c/\r.2.2.e=x0.e/\df x0.c r.2.2.y/\(∀W,J∈W->kN W x0.y r.2.2.y)/\l4 al x0.y r.2.2.y:=by
 rw[KG];simp only[fR];(repeat' with_reducible first|intro _|apply aF (Ac aq ..)|apply aF (tr aq ..)|apply aF (Ab aq ?_)|apply dW|apply aW|apply aK)<;>first|grind -mbtc [df]|grind -mbtc [ym,yl,ss,sr,df]
theorem amB {an:List Int} {aG:da} {Ks:Bool} (U:Ks=au7->0<=aG.kO) (aa:aG.kO<an.length):aH (Hk N an aG Ks) fun r=>True:=by
 rw[Hk];(repeat' with_reducible first|intro _|apply bU|apply aW|apply aK)<;>grind -mbtc
theorem amA {an:List Int} {ah:List da} (U:ah.length<=1000) (aa:nJ an.length ah) {n:Nat} {x0:bw} {aB:Int} {lk:(List da)}:(0<=aB)->(aB<=(ah.length:Int))->((ah.length:Int) - aB<n)->(lk.length<=1000+aB)->aH (Bk N an ah n x0 aB lk) fun r=>r.1.c=x0.c/\r.1.y=x0.y/\r.1.e=x0.e/\r.2.length<=3000:=by
 induction n generalizing x0 aB lk with
 |zero=>intros;exfalso;grind -mbtc
 |succ n ar=>intros;rw[Bk];(repeat' with_reducible first|intro _|apply aF (amB aq ..)|apply b8 (ar ..)|apply dW|apply bU|refine bE (by omega) ?_|apply bn|apply bs|apply aW|apply aK)<;>clear ar<;>grind -mbtc
theorem amC {an aV:List Int} (U:aV.length<=1000000) (aa:∀i∈aV,0<=i/\i<an.length) {n:Nat} {a9:(List Int)} {de:Int}:(0<=de)->(de<=(aV.length:Int))->((aV.length:Int) - de<n)->(a9.length=de)->(∀i∈a9,i∈an)->aH (Bl N an aV n a9 de) fun r=>r.length=aV.length/\∀i∈r,i∈an:=by
 induction n generalizing a9 de with
 |zero=>intros;exfalso;grind -mbtc
 |succ n ar=>intros;rw[Bl];(repeat' with_reducible first|intro _|apply b8 (ar ..)|apply dW|apply bU|refine bE (by omega) ?_|apply bn|apply bs|apply aW|apply aK)<;>clear ar<;>grind -mbtc
theorem alR {a9 dt:List Int} {cD:List (List Int)} {cI fk:Int} (U:0<=cI) (aa:cI<cD.length) (ap:a9.length<=1000000) (aN:0<=fk) (bK:∀t,aD cD cI=au6 t->fk<t.length) (ed:dt.length<=1000000):aH (Hl N a9 cD cI dt fk) fun r=>r.2.length<=dt.length+1/\r.1=cD/\(∀v∈r.2,v∈dt\/∃t,aD cD cI=au6 t/\v∈t)/\(∀v∈dt,v∈r.2)/\∀t y,aD cD cI=au6 t->aD t fk=au6 y->y∈a9\/y∈r.2:=by
 rw[Hl];(repeat' with_reducible first|intro _|apply aF (Ad aq ?_)|apply dW|apply bU|apply aW|apply aK)<;>grind -mbtc
theorem alQ {a9:List Int} {cI:Int} (U:a9.length<=1000000) {n:Nat} {cD:(List (List Int))} {dt:(List Int)} {fk:Int}:(0<=fk)->(∀t,aD cD cI=au6 t->fk<=t.length/\t.length - fk<n)->(0<=cI)->(cI<cD.length)->(∀t∈cD,t.length<=40000)->(dt.length<=fk)->aH (Bn N a9 cI n cD dt fk) fun r=>r.2.length<=40000/\r.1=cD/\(∀v∈r.2,v∈dt\/∃t,aD cD cI=au6 t/\v∈t)/\(∀v∈dt,v∈r.2)/\∀t,aD cD cI=au6 t->∀y∈t.drop fk.toNat,y∈a9\/y∈r.2:=by
 induction n generalizing cD dt fk with
 |zero=>intros;obtain ⟨t,e⟩:=ka (xs:=cD) (i:=cI) (by omega) (by omega);exfalso;grind -mbtc
 |succ n ar=>intros;rw[Bn];(repeat' with_reducible first|intro _|apply aF (alR aq ..)|apply b8 (ar ..)|apply bU|refine bE (by omega) ?_|apply bn|apply bs|apply aW|apply aK)<;>clear ar<;>first|grind -mbtc|(obtain ⟨t,e⟩:=ka (xs:=cD) (i:=cI) (by omega) (by omega);obtain ⟨u,f⟩:=ka (xs:=t) (i:=fk) (by omega) (by grind -mbtc);have:=sw f;grind -mbtc)
theorem amD {a9:List Int} (U:a9.length<=1000000) {n:Nat} {cD:(List (List Int))} {cI:Int}:(0<=cI)->(cI<=(cD.length:Int))->((cD.length:Int) - cI<n)->(∀t∈cD,t.length<=40000)->(cD.length<=24)->aH (Bm N a9 n cD cI) fun r=>r.length=cD.length/\(∀m,dI m 40000 cD->dI m 40000 r)/\yf a9 cD r:=by
 induction n generalizing cD cI with
 |zero=>intros;exfalso;grind -mbtc
 |succ n ar=>intros;rw[Bm];(repeat' with_reducible first|intro _|apply aF (alQ aq ..)|apply b8 (ar ..)|apply bU|refine bE (by omega) ?_|apply bn|apply bs|apply aW|apply aK)<;>clear ar<;>first|grind -mbtc|grind -mbtc [RE,RD]|(simp only[axg,aw5] at*;grind -mbtc [RE,RD])
theorem alT {x0:bw} {cD:List (List Int)} {ff:Bool} {eT:Int} (U:0<=eT) (aa:eT<x0.e.aP.length) (ap:∀t∈x0.e.aP,0<=t/\t<cD.length):aH (Hm N x0 cD ff eT) fun r=>r.1=cD/\(r.2=au7->ff=au7/\∀t,aD x0.e.aP eT=au6 t->aD cD t=au6 []):=by
 rw[Hm];(repeat' with_reducible first|intro _|apply bU|apply bn|apply aW|apply aK)<;>first|grind -mbtc|grind -mbtc [Fl]
theorem alS {x0:bw} (U:x0.e.aP.length<=1000000) {n:Nat} {cD:(List (List Int))} {ff:Bool} {eT:Int}:(0<=eT)->(eT<=(x0.e.aP.length:Int))->((x0.e.aP.length:Int) - eT<n)->(∀t∈x0.e.aP,0<=t/\t<cD.length)->aH (Bo N x0 n cD ff eT) fun r=>r.1=cD/\(r.2=au7->ff=au7/\∀t∈x0.e.aP.drop eT.toNat,aD cD t=au6 []):=by
 induction n generalizing cD ff eT with
 |zero=>intros;exfalso;grind -mbtc
 |succ n ar=>intros;rw[Bo];(repeat' with_reducible first|intro _|apply aF (alT aq ..)|apply b8 (ar ..)|refine bE (by omega) ?_|apply bn|apply bs|apply aW|apply aK)<;>clear ar<;>first|grind -mbtc|(obtain ⟨t,e⟩:=ka (xs:=x0.e.aP) (i:=eT) (by omega) (by omega);have:=sw e;grind -mbtc)
theorem alU {a9:List Int} (U:a9.length<=1000) {n:Nat} {x0:bw} {pS:Int} {cr:(List dj)}:(0<=pS)->(pS<=(a9.length:Int))->((a9.length:Int) - pS<n)->(df x0.c x0.y)->(cr.length<=1000+pS)->aH (Bp N a9 n x0 pS cr) fun r=>r.1.c=x0.c/\r.1.e=x0.e/\df x0.c r.1.y/\kN a9 x0.y r.1.y:=by
 induction n generalizing x0 pS cr with
 |zero=>intros;exfalso;grind -mbtc
 |succ n ar=>intros;rw[Bp];(repeat' with_reducible first|intro _|apply aF (afP aq ..)|apply b8 (ar ..)|apply bU|refine bE (by omega) ?_|apply bn|apply bs|apply aW|apply aK)<;>clear ar<;>first|grind -mbtc|grind -mbtc [T4,ss]
end Go.W
end
section
set_option maxHeartbeats 2000000
namespace Go.W
open Go.av
variable {N:Nat} (aq:5000000000<N)
include aq
theorem amJ {x0:List (List Int)} {J al:Int}:aH (Iz N x0 J al) fun r=>r=ava->0<=J/\J<x0.length/\0<=al/\al<x0.length:=by
 rw[Iz];(repeat' with_reducible first|intro _|apply bs|apply aW|apply aK)<;>grind -mbtc
theorem amK {x0:List (List Int)} {J ak:Int} (U:0<=J) (aa:J<x0.length):aH (IA N x0 J ak) fun r=>r=ava->0<=ak/\∀t,aD x0 J=au6 t->ak<=t.length:=by
 rw[IA];(repeat' with_reducible first|intro _|apply bU|apply bs|apply aW|apply aK)<;>grind -mbtc
theorem amL {x0:List (List Int)} {J al:Int} (U:0<=J) (aa:J<x0.length) (ap:∀t∈x0,t.length<=40000) {n:Nat} {aV:(List dj)} {bc:Int}:(0<=bc)->(∀t,aD x0 J=au6 t->bc<=t.length/\t.length - bc<n)->(aV.length<=bc)->aH (A9 N x0 J al n aV bc) fun r=>∀t,aD x0 J=au6 t->r.length<=aV.length+t.length - bc:=by
 induction n generalizing aV bc with
 |zero=>intros;obtain ⟨t,e⟩:=ka U aa;exfalso;grind -mbtc
 |succ n ar=>intros;rw[A9];(repeat' with_reducible first|intro _|apply b8 (ar ..)|apply dW|apply bU|refine bE (by omega) ?_|apply bn|apply bs|apply aW|apply aK)<;>clear ar<;>grind -mbtc
theorem agY {x0:List (List Int)} {J al ak:Int} (U:∀t∈x0,t.length<=40000):aH (Lp N x0 J al ak) fun r=>∀t,aD x0 J=au6 t->0<=ak->r.1.length<=ak:=by
 rw[Lp];(repeat' with_reducible first|intro _|apply aF (amJ aq)|apply aF (amK aq ..)|apply aF (amL aq ..)|apply bU|refine bE (by omega) ?_|apply bn|apply aW|apply aK)<;>grind -mbtc
theorem agj {x0:bw} {J al:Int} {cr:List dj} (U:df x0.c x0.y) (aa:cr.length<=1000000):aH (KC N x0 J al cr) fun r=>r.2.1.length<=cr.length+1/\r.2.2.c=x0.c/\r.2.2.e=x0.e/\df x0.c r.2.2.y/\(∀W,J∈W->kN W x0.y r.2.2.y)/\l4 al x0.y r.2.2.y:=by
 rw[KC];simp only[fR];(repeat' with_reducible first|intro _|apply aF (Ac aq ..)|apply aF (tr aq ..)|apply aF (Ab aq ?_)|apply dW|apply aW|apply aK)<;>first|grind -mbtc [df]|grind -mbtc [ym,yl,ss,sr,df]
theorem anq {x0:bw}:aH (I2 N x0) fun r=>r=ava->0<=x0.e.bC/\x0.e.bC<x0.c.aP.length/\0<=x0.e.to/\x0.e.to<x0.c.aP.length:=by
 rw[I2];(repeat' with_reducible first|intro _|apply aF (vo aq)|apply bn|apply aW|apply aK)<;>grind -mbtc
theorem anr {x0:bw} (U:x0.y.cH.length<=1000000):aH (I3 N x0) fun r=>True:=by
 rw[I3];(repeat' with_reducible first|intro _|apply aF (xy aq ?_)|apply aW|apply aK)<;>grind -mbtc
theorem ans {x0:bw} (U:0<=x0.e.bC) (aa:x0.e.bC<x0.y.aP.length):aH (Ia N x0) fun r=>r=ava->1<=x0.e.count/\∃t,aD x0.y.aP x0.e.bC=au6 t/\x0.e.count<=t.length:=by
 rw[Ia];(repeat' with_reducible first|intro _|apply bU|apply bn|apply bs|apply aW|apply aK)<;>grind -mbtc
theorem ant {ak:List dj} (U:ak.length<=40000) {n:Nat} {x0:bw} {ah:Int} {cr:(List dj)}:(0<=ah)->(ah<=(ak.length:Int))->((ak.length:Int) - ah<n)->(df x0.c x0.y)->(cr.length<=1000+ah)->aH (BF N ak n x0 ah cr) fun r=>(∀a,r= .inl a->a.1.c=x0.c/\a.1.e=x0.e/\df x0.c a.1.y/\l4 x0.e.to x0.y a.1.y)/\∀a,r= .inr a->a.2.1≠0:=by
 induction n generalizing x0 ah cr with
 |zero=>intros;exfalso;grind -mbtc
 |succ n ar=>intros;rw[BF];(repeat' with_reducible first|intro _|apply aF (agj aq ..)|apply b8 (ar ..)|apply bU|refine bE (by omega) ?_|apply bn|apply bs|apply aW|apply aK)<;>clear ar<;>first|grind -mbtc|grind -mbtc [Mo,sr]
theorem agN {x0:bw} {cr:List dj} (U:df x0.c x0.y) (aa:jg x0.e) (ap:cr.length<=1000):aH (Lf N x0 cr) fun r=>r.1=0->r.2.2.c=x0.c/\df x0.c r.2.2.y/\h8 r.2.2.y:=by
 rw[Lf];(repeat' with_reducible first|intro _|apply aF (agY aq ?_)|apply aF (anq aq)|apply aF (anr aq ?_)|apply aF (ans aq ..)|apply dU (ant aq ..)|apply aW|apply aK)<;>first|grind -mbtc [df]|grind -mbtc [df,h8,l4]
theorem agF {x0:dx} {J:bX} {al:List cb} (U:nG x0) (aa:J.name.length<=1000000) (ap:J.cw.length<=1000000) (aN:∀d∈J.cw,d.length<=1000000) (bK:al.length<=1000000) (ed:∀w∈al,w.dest.length<=1000000):aH (LH N x0 J al) fun r=>r=0->0<=J.bC/\J.bC<x0.aP.length/\J.cw.length<=16/\al.length<=96:=by
 rw[LH];(repeat' with_reducible first|intro _|apply aF (G6 aq ..)|apply aF (Z2 aq ?_)|apply aF (Z4 aq ..)|apply aW|apply aK)<;>grind -mbtc
theorem amI {J:List cb} {al:bX} (U:J.length<=1000000) (aa:al.cw.length<=1000000) {n:Nat} {aB:(List Int)} {aG:Int}:(0<=aG)->(aG<=(J.length:Int))->((J.length:Int) - aG<n)->(aB.length=aG)->aH (A8 N J al n aB aG) fun r=>∀a,r= .inl a->a.length=J.length:=by
 induction n generalizing aB aG with
 |zero=>intros;exfalso;grind -mbtc
 |succ n ar=>intros;rw[A8];(repeat' with_reducible first|intro _|apply aF (GZ aq ?_)|apply b8 (ar ..)|apply dW|apply bU|refine bE (by omega) ?_|apply bn|apply bs|apply aW|apply aK)<;>clear ar<;>grind -mbtc
theorem agX {x0:bX} {J:List cb} (U:J.length<=1000000) (aa:x0.cw.length<=1000000):aH (Lo N x0 J) fun r=>r.2.2=0->r.1.length=J.length\/r.1.length=0:=by
 rw[Lo];(repeat' with_reducible first|intro _|apply dU (amI aq ..)|apply aK)<;>grind -mbtc
end Go.W
end
section
set_option maxHeartbeats 2000000
namespace Go.W
open Go.av
variable {N:Nat} (aq:5000000000<N)
include aq
theorem aor {x0:List cb} (U:x0.length<=1000000) {n:Nat} {al:Int} {ak:Int} {an:Int} {aB:Int}:(0<=aB)->(aB<=(x0.length:Int))->((x0.length:Int) - aB<n)->aH (AJ N x0 n al ak an aB) fun r=>True:=by
 induction n generalizing al ak an aB with
 |zero=>intros;exfalso;grind -mbtc
 |succ n ar=>intros;rw[AJ];(repeat' with_reducible first|intro _|apply b8 (ar ..)|apply bU|refine bE (by omega) ?_|apply bn|apply bs|apply aW|apply aK)<;>clear ar<;>grind -mbtc
theorem ag4 {x0:List cb} (U:x0.length<=1000000) (aa:∀w∈x0,w.dest.length<=1000000):aH (Lv N x0) fun r=>True:=by
 rw[Lv];(repeat' with_reducible first|intro _|apply aF (aor aq ..)|apply aF (G6 aq ..)|apply aW|apply aK)<;>grind -mbtc
theorem apM {x0:List Int} {J:Int} (U:x0.length<=1000000) {n:Nat} {ah:Int}:(0<=ah)->(ah<=(x0.length:Int))->((x0.length:Int) - ah<n)->aH (BR N x0 J n ah) fun r=>True:=by
 induction n generalizing ah with
 |zero=>intros;exfalso;grind -mbtc
 |succ n ar=>intros;rw[BR];(repeat' with_reducible first|intro _|apply b8 (ar ..)|apply bU|refine bE (by omega) ?_|apply bn|apply bs|apply aW|apply aK)<;>clear ar<;>grind -mbtc
theorem QM {x0:List Int} {J:Int} (U:x0.length<=1000000):aH (x6 N x0 J) fun r=>True:=by
 rw[x6];(repeat' with_reducible first|intro _|apply dU (apM aq ..)|apply aK)<;>grind -mbtc
theorem agV {x0:Int}:aH (Ln N x0) fun r=>True:=by
 rw[Ln];(repeat' with_reducible first|intro _|refine bE (by omega) ?_|apply bn|apply bs|apply aW|apply aK)<;>grind -mbtc
theorem anK {x0:List cb} {J:List Int} {aV:Int} (U:0<=aV) (aa:aV<J.length):aH (JT N x0 J aV) fun r=>True:=by
 rw[JT];(repeat' with_reducible first|intro _|apply bU|apply bs|apply aW|apply aK)<;>grind -mbtc
theorem anJ {x0:List cb} {J:List Int} (U:J.length<=1000000) {n:Nat} {an:fz} {aV:Int}:(0<=aV)->(aV<=(J.length:Int))->((J.length:Int) - aV<n)->aH (Cx N x0 J n an aV) fun r=>True:=by
 induction n generalizing an aV with
 |zero=>intros;exfalso;grind -mbtc
 |succ n ar=>intros;rw[Cx];(repeat' with_reducible first|intro _|apply aF (anK aq ..)|apply b8 (ar ..)|refine bE (by omega) ?_|apply bn|apply bs|apply aW|apply aK)<;>clear ar<;>grind -mbtc
theorem anL {J:List Int} (U:J.length<=1000000) {n:Nat} {an:fz} {bc:Int}:(0<=bc)->(bc<=(J.length:Int))->((J.length:Int) - bc<n)->aH (Cy N J n an bc) fun r=>True:=by
 induction n generalizing an bc with
 |zero=>intros;exfalso;grind -mbtc
 |succ n ar=>intros;rw[Cy];(repeat' with_reducible first|intro _|apply aF (QM aq ?_)|apply b8 (ar ..)|apply bU|apply p6|refine bE (by omega) ?_|apply bn|apply bs|apply aW|apply aK)<;>clear ar<;>grind -mbtc
theorem ao7 {x0:List cb} {J:List Int} {a9:fz} {de:Int} (U:0<=de) (aa:de<x0.length) (ap:J.length<=1000000):aH (JU N x0 J a9 de) fun r=>True:=by
 rw[JU];(repeat' with_reducible first|intro _|apply aF (QM aq ?_)|apply bU|refine bE (by omega) ?_|apply aW|apply aK)<;>grind -mbtc
theorem anM {x0:List cb} {J:List Int} (U:x0.length<=1000000) (aa:J.length<=1000000) {n:Nat} {a9:fz} {de:Int}:(0<=de)->(de<=(x0.length:Int))->((x0.length:Int) - de<n)->aH (Cz N x0 J n a9 de) fun r=>True:=by
 induction n generalizing a9 de with
 |zero=>intros;exfalso;grind -mbtc
 |succ n ar=>intros;rw[Cz];(repeat' with_reducible first|intro _|apply aF (ao7 aq ..)|apply b8 (ar ..)|refine bE (by omega) ?_|apply bn|apply bs|apply aW|apply aK)<;>clear ar<;>grind -mbtc
theorem ao8 {aB:Int} {a9:fz} {Kr:Bool} (U:Kr=au7->0<aB):aH (JV N aB a9 Kr) fun r=>True:=by
 rw[JV];(repeat' with_reducible first|intro _|apply D8|apply wg|refine bE (by omega) ?_|apply aW|apply aK)<;>grind -mbtc
theorem QA {x0:List cb} {J:List Int} (U:x0.length<=1000000) (aa:J.length<=1000000) (ap:∀w∈x0,w.dest.length<=1000000):aH (xZ N x0 J) fun r=>True:=by
 rw[xZ];(repeat' with_reducible first|intro _|apply aF (ag4 aq ..)|apply aF (agV aq)|apply dU (anJ aq ..)|apply dU (anL aq ..)|apply aF (anM aq ..)|apply aF (ao8 aq ?_)|refine bE (by omega) ?_|apply aW|apply aK)<;>grind -mbtc
theorem aoH {x0:List gw} {J al aG aV:Int} {a3:Bool} (U:0<=aV) (aa:aV<x0.length):aH (Jy N x0 J al aG a3 aV) fun r=>True:=by
 rw[Jy];(repeat' with_reducible first|intro _|apply bU|apply bs|apply aW|apply aK)<;>grind -mbtc
theorem aoG {x0:List gw} {J al aG aV:Int} {a3:Bool} (U:0<=aV) (aa:aV<x0.length):aH (Jx N x0 J al aG a3 aV) fun r=>True:=by
 rw[Jx];(repeat' with_reducible first|intro _|apply aF (aoH aq ..)|apply bU|apply aW|apply aK)<;>grind -mbtc
theorem aoF {x0:List gw} {J al:Int} (U:x0.length<=1000000) {n:Nat} {aG:Int} {a3:Bool} {aV:Int}:(0<=aV)->(aV<=(x0.length:Int))->((x0.length:Int) - aV<n)->aH (B7 N x0 J al n aG a3 aV) fun r=>True:=by
 induction n generalizing aG a3 aV with
 |zero=>intros;exfalso;grind -mbtc
 |succ n ar=>intros;rw[B7];(repeat' with_reducible first|intro _|apply aF (aoG aq ..)|apply b8 (ar ..)|refine bE (by omega) ?_|apply bn|apply bs|apply aW|apply aK)<;>clear ar<;>grind -mbtc
theorem ahW {x0:List gw} {J al:Int} (U:x0.length<=1000000):aH (LR N x0 J al) fun r=>True:=by
 rw[LR];(repeat' with_reducible first|intro _|apply aF (aoF aq ..)|apply aK)<;>grind -mbtc
theorem ama {J al:Int}:aH (IJ N J al) fun r=>True:=by
 rw[IJ];(repeat' with_reducible first|intro _|apply bs|apply aW|apply aK)<;>grind -mbtc
theorem ahn {x0:List gw} {J al:Int} (U:x0.length<=1000000):aH (KZ N x0 J al) fun r=>True:=by
 rw[KZ];(repeat' with_reducible first|intro _|apply aF (ama aq)|apply aF (Z3 aq)|apply aF (ahW aq ?_)|apply aW|apply aK)<;>grind -mbtc
theorem ag' {x0:List cb} {J:List Int} {al:List gw} {ak an:Int} (U:x0.length<=1000000) (aa:J.length<=1000000) (ap:al.length<=1000000) (aN:∀w∈x0,w.dest.length<=1000000):aH (LB N x0 J al ak an) fun r=>True:=by
 rw[LB];(repeat' with_reducible first|intro _|apply aF (ahn aq ?_)|apply aF (QA aq ..)|refine bE (by omega) ?_|apply aW|apply aK)<;>grind -mbtc
end Go.W
end
section
set_option maxHeartbeats 2000000
namespace Go.W
open Go.av
variable {N:Nat} (aq:5000000000<N)
include aq
theorem ahX {x0:Int} {J:cb}:aH (LS N x0 J) fun r=>True:=by
 rw[LS];(repeat' with_reducible first|intro _|apply bn|apply aW|apply aK)<;>grind -mbtc
theorem alP {al ak:Int} {an ah:cb}:aH (IU N al ak an ah) fun r=>True:=by
 rw[IU];(repeat' with_reducible first|intro _|apply bn|apply aW|apply aK)<;>grind -mbtc
theorem ahy {x0 J:cb} {al ak:Int}:aH (La N x0 J al ak) fun r=>True:=by
 rw[La];(repeat' with_reducible first|intro _|apply aF (alP aq)|apply aK)<;>grind -mbtc
theorem ana {a9:Int} {de:Bool}:aH (Iv N a9 de) fun r=>True:=by
 rw[Iv];(repeat' with_reducible first|intro _|apply bn|apply aW|apply aK)<;>grind -mbtc
theorem anb {J:List cb} {al:Int} {ak:ep} (U:0<=al) (aa:al<J.length) (ap:J.length<=1000000) {n:Nat} {aB:Int} {aG:Int}:(0<=aG)->(aG<=al+1)->(al+1 - aG<n)->aH (A5 N J al ak n aB aG) fun r=>True:=by
 induction n generalizing aB aG with
 |zero=>intros;exfalso;grind -mbtc
 |succ n ar=>intros;rw[A5];(repeat' with_reducible first|intro _|apply aF (ahX aq)|apply b8 (ar ..)|apply bU|refine bE (by omega) ?_|apply bn|apply bs|apply aW|apply aK)<;>clear ar<;>grind -mbtc
theorem amE {J:List cb} {al a3:Int} {ak:ep} (U:0<=a3) (aa:a3<J.length) (ap:0<=al) (aN:al<J.length) (bK:J.length<=1000000):aH (Iw N J al ak a3) fun r=>True:=by
 rw[Iw];(repeat' with_reducible first|intro _|apply aF (ahy aq)|apply bU|refine bE (by omega) ?_|apply aW|apply aK)<;>grind -mbtc
theorem anc {J:List cb} {al:Int} {ak:ep} (U:0<=al) (aa:al<J.length) (ap:J.length<=1000000) {n:Nat} {a3:Int}:(0<=a3)->(a3<=al)->(al - a3<n)->aH (A6 N J al ak n a3) fun r=>True:=by
 induction n generalizing a3 with
 |zero=>intros;exfalso;grind -mbtc
 |succ n ar=>intros;rw[A6];(repeat' with_reducible first|intro _|apply aF (amE aq ..)|apply b8 (ar ..)|refine bE (by omega) ?_|apply bn|apply bs|apply aW|apply aK)<;>clear ar<;>grind -mbtc
theorem amF {J:List cb} {al:Int} {ak:ep} (U:0<=al) (aa:al<J.length) (ap:J.length<=1000000):aH (Ix N J al ak) fun r=>True:=by
 rw[Ix];(repeat' with_reducible first|intro _|apply bU|apply bn|apply aW|apply aK)<;>grind -mbtc
theorem amG {J:List cb} (U:J.length<=1000000) {n:Nat} {aB:Int} {aV:Int}:(0<=aV)->(aV<=(J.length:Int))->((J.length:Int) - aV<n)->aH (A7 N J n aB aV) fun r=>True:=by
 induction n generalizing aB aV with
 |zero=>intros;exfalso;grind -mbtc
 |succ n ar=>intros;rw[A7];(repeat' with_reducible first|intro _|apply b8 (ar ..)|apply bU|refine bE (by omega) ?_|apply bn|apply bs|apply aW|apply aK)<;>clear ar<;>grind -mbtc
theorem amH {J:List cb} {al aB:Int} {ak:ep} (U:0<=al) (aa:al<J.length) (ap:J.length<=1000000):aH (Iy N J al ak aB) fun r=>True:=by
 rw[Iy];(repeat' with_reducible first|intro _|apply bU|apply bn|apply bs|apply aW|apply aK)<;>grind -mbtc
theorem am' {J:List cb} {al aB a9:Int} {ak:ep} (U:0<=al) (aa:al<J.length) (ap:J.length<=1000000):aH (Iu N J al ak aB a9) fun r=>True:=by
 rw[Iu];(repeat' with_reducible first|intro _|apply aF (ana aq)|apply aF (anb aq ..)|apply dU (anc aq ..)|apply aF (amF aq ..)|apply aF (amG aq ..)|apply aF (amH aq ..)|apply bU|refine bE (by omega) ?_|apply bn|apply aW|apply aK)<;>grind -mbtc
theorem agW {x0:ep} {J:List cb} {al:Int} (U:0<=al) (aa:al<J.length) (ap:J.length<=1000000):aH (m1 N x0 J al) fun r=>True:=by
 rw[m1];(repeat' with_reducible first|intro _|apply dU (am' aq ..)|apply aK)<;>grind -mbtc
theorem apb {ak:ep} {aB:Int} {aG:fz}:aH (JW N ak aB aG) fun r=>True:=by
 rw[JW];(repeat' with_reducible first|intro _|apply bs|apply aW|apply aK)<;>grind -mbtc
theorem ape {J:List cb} {al:List Int} {a9:Int} (U:0<=a9) (aa:a9<J.length) (ap:al.length<=1000000):aH (JY N J al a9) fun r=>True:=by
 rw[JY];(repeat' with_reducible first|intro _|apply aF (QM aq ?_)|apply bU|apply bs|apply aW|apply aK)<;>grind -mbtc
theorem apd {J:List cb} {al:List Int} {bc a9:Int} (U:0<=a9) (aa:a9<J.length) (ap:al.length<=1000000):aH (JX N J al bc a9) fun r=>True:=by
 rw[JX];(repeat' with_reducible first|intro _|apply aF (ape aq ..)|refine bE (by omega) ?_|apply bn|apply aW|apply aK)<;>grind -mbtc
theorem apc {J:List cb} {al:List Int} {aB:Int} (U:aB<=J.length) (aa:J.length<=1000000) (ap:al.length<=1000000) {n:Nat} {bc:Int} {a9:Int}:(0<=a9)->(a9<=aB)->(aB - a9<n)->aH (CD N J al aB n bc a9) fun r=>True:=by
 induction n generalizing bc a9 with
 |zero=>intros;exfalso;grind -mbtc
 |succ n ar=>intros;rw[CD];(repeat' with_reducible first|intro _|apply aF (apd aq ..)|apply b8 (ar ..)|refine bE (by omega) ?_|apply bn|apply bs|apply aW|apply aK)<;>clear ar<;>grind -mbtc
theorem apf {J:List cb} {ak:ep} {aB:Int} (U:aB<=J.length) (aa:J.length<=1000000) {n:Nat} {de:Int}:(0<=de)->(de<=aB)->(aB - de<n)->aH (CE N J ak aB n de) fun r=>True:=by
 induction n generalizing de with
 |zero=>intros;exfalso;grind -mbtc
 |succ n ar=>intros;rw[CE];(repeat' with_reducible first|intro _|apply aF (agW aq ..)|apply b8 (ar ..)|refine bE (by omega) ?_|apply bn|apply bs|apply aW|apply aK)<;>clear ar<;>grind -mbtc
theorem ahb {x0:ep} {J:List cb} {al:List Int} (U:0<=x0.a) (aa:J.length<=1000000) (ap:al.length<=1000000) (aN:∀w∈J,w.dest.length<=1000000):aH (LD N x0 J al) fun r=>True:=by
 rw[LD];(repeat' with_reducible first|intro _|apply aF (QA aq ..)|apply aF (apb aq)|apply aF (apc aq ..)|apply dU (apf aq ..)|refine bE (by omega) ?_|apply bn|apply bs|apply aW|apply aK)<;>grind -mbtc
theorem am9 {x0:List Int} {J ah:Int} (U:0<=ah) (aa:ah<x0.length):aH (It N x0 J ah) fun r=>True:=by
 rw[It];(repeat' with_reducible first|intro _|apply bU|apply bs|apply aW|apply aK)<;>grind -mbtc
theorem am8 {x0:List Int} {J:Int} (U:x0.length<=1000000) {n:Nat} {ah:Int}:(0<=ah)->(ah<=(x0.length:Int))->((x0.length:Int) - ah<n)->aH (A4 N x0 J n ah) fun r=>True:=by
 induction n generalizing ah with
 |zero=>intros;exfalso;grind -mbtc
 |succ n ar=>intros;rw[A4];(repeat' with_reducible first|intro _|apply aF (am9 aq ..)|apply b8 (ar ..)|refine bE (by omega) ?_|apply bn|apply bs|apply aW|apply aK)<;>clear ar<;>grind -mbtc
theorem agU {x0:List Int} {J:Int} (U:x0.length<=1000000):aH (Lm N x0 J) fun r=>True:=by
 rw[Lm];(repeat' with_reducible first|intro _|apply dU (am8 aq ..)|apply aK)<;>grind -mbtc
theorem apV {ah:Int} {Rg:Bool}:aH (Kb N ah Rg) fun r=>True:=by
 rw[Kb];(repeat' with_reducible first|intro _|refine bE (by omega) ?_|apply bn|apply aW|apply aK)<;>grind -mbtc
theorem apU {x0:List Int} {J an ah aB:Int} {ax:Bool} (U:0<=aB) (aa:aB<x0.length):aH (Ka N x0 J an ah ax aB) fun r=>True:=by
 rw[Ka];(repeat' with_reducible first|intro _|apply aF (apV aq)|apply bU|refine bE (by omega) ?_|apply bn|apply aW|apply aK)<;>grind -mbtc
theorem apT {x0:List Int} {J:Int} (U:x0.length<=1000000) {n:Nat} {an:Int} {ah:Int} {ax:Bool} {aB:Int}:(0<=aB)->(aB<=(x0.length:Int))->((x0.length:Int) - aB<n)->aH (CM N x0 J n an ah ax aB) fun r=>True:=by
 induction n generalizing an ah ax aB with
 |zero=>intros;exfalso;grind -mbtc
 |succ n ar=>intros;rw[CM];(repeat' with_reducible first|intro _|apply aF (apU aq ..)|apply b8 (ar ..)|refine bE (by omega) ?_|apply bn|apply bs|apply aW|apply aK)<;>clear ar<;>grind -mbtc
theorem ah8 {x0:List Int} {J:Int} (U:x0.length<=1000000):aH (L3 N x0 J) fun r=>True:=by
 rw[L3];(repeat' with_reducible first|intro _|apply aF (apT aq ..)|apply aK)<;>grind -mbtc
theorem aoC {J:Int}:aH (Jv N J) fun r=>r=ava->0<=J/\J<=16:=by
 rw[Jv];(repeat' with_reducible first|intro _|apply bs|apply aW|apply aK)<;>grind -mbtc
theorem aoE {x0:List Int} {ax:List jB} {aB:Int} (U:x0.length<=1000000) (aa:ax.length<=1000000):aH (Jw N x0 ax aB) fun r=>r.length<=ax.length+1:=by
 rw[Jw];(repeat' with_reducible first|intro _|apply aF (ah8 aq ?_)|apply dW|apply bs|apply aW|apply aK)<;>grind -mbtc
theorem aoD {x0:List Int} {J:Int} (U:x0.length<=1000000) (aa:J<=16) {n:Nat} {ax:(List jB)} {aB:Int}:(0<=aB)->(aB<=J)->(J - aB<n)->(ax.length<=aB)->aH (B6 N x0 J n ax aB) fun r=>True:=by
 induction n generalizing ax aB with
 |zero=>intros;exfalso;grind -mbtc
 |succ n ar=>intros;rw[B6];(repeat' with_reducible first|intro _|apply aF (aoE aq ..)|apply b8 (ar ..)|refine bE (by omega) ?_|apply bn|apply bs|apply aW|apply aK)<;>clear ar<;>grind -mbtc
theorem ahV {x0:List Int} {J:Int} (U:x0.length<=1000000):aH (LQ N x0 J) fun r=>True:=by
 rw[LQ];(repeat' with_reducible first|intro _|apply aF (aoC aq)|apply aF (aoD aq ..)|apply aF (agU aq ?_)|apply bs|apply aW|apply aK)<;>grind -mbtc
end Go.W
end
section
set_option maxHeartbeats 2000000
namespace Go.W
open Go.av
def tO (e:bj) (r:List UInt8×Int):Prop:=(¬kU e->r=([],1))/\(kU e->ly e.kind e=au7->r=([],2))/\(kU e->ly e.kind e=ava->r=(enc e,0))
def m3 (e:bj):Prop:=e.data.length<=1100000/\e.aP.length<=1000/\e.cQ.length<=1000/\e.order.cw.length<=1000/\e.order.name.length<=1100000/\(∀d∈e.order.cw,d.length<=1100000)/\e.name.length<=1100000
theorem jg.hv {e:bj} (h:jg e):m3 e:=by
 unfold jg at h;exact ⟨by omega,by omega,by omega,by omega,by omega,fun d aO=>by have:=h.2.2.2.2.2.1 d aO;omega,by omega⟩
attribute [grind->] jg.hv
attribute [grind] m3
theorem pa {bO:Type} {n:Int} {f:UInt8->Option bO} {P:bO->Prop} (k:aH (f (eA n)) P):aH (au' (fp (avc .u8 n)) f) P:=by
 rw[avb.wrap_u8,asA (by omega)];exact k
@[grind=] theorem atp (n:Int):n.fdiv 256=n / 256:=Int.fdiv_eq_ediv_of_nonneg _ (by omega)
@[grind=] theorem ati {aA:Type} {xs:List aA} {i:Int} (h:xs.length<=i):xs.drop i.toNat=[]:=List.drop_eq_nil_of_le (by omega)
theorem f1 (a:Int):[a].flatMap gq=gq a:=rfl
theorem f2 (a b:Int):[a,b].flatMap gq=gq a++gq b:=rfl
theorem f3 (a b c:Int):[a,b,c].flatMap gq=gq a++(gq b++gq c):=rfl
variable {N:Nat} (aq:5000000000<N)
include aq
theorem apD {aB:Int} {dt:Bool}:aH (Jd N aB dt) fun r=>(r=au7↔dt=au7\/aB=5):=by
 rw[Jd];(repeat' with_reducible first|intro _|apply bn|apply aW|apply aK)<;>grind -mbtc
theorem apC {ak:bj} {aB:Int} (U:aB=ak.kind):aH (Jc N ak aB) fun r=>(∀a,r= .inl a->a=vr ak.kind ak/\1<=ak.kind/\ak.kind<=7)/\∀a,r= .inr a->a=ava/\¬(1<=ak.kind/\ak.kind<=7):=by
 rw[Jc];(repeat' with_reducible first|intro _|apply aF (apD aq)|apply bn|apply aW|apply aK)<;>first|grind -mbtc|grind -mbtc [vr]
theorem apE {ak:bj} {an:bX} (U:an=ak.order):aH (J4 N ak an) fun r=>(r=au7↔vm ak):=by
 rw[J4];(repeat' with_reducible first|intro _|apply bn|apply Fa|apply aW|apply aK)<;>first|grind -mbtc [vm]|simp_all [vm]
theorem ah2 {x0:bj}:aH (LX N x0) fun r=>(r=au7↔kU x0):=by
 rw[LX];(repeat' with_reducible first|intro _|apply dU (apC aq ?_)|apply aF (apE aq ?_)|apply aK)<;>first|grind -mbtc|grind -mbtc [Ke]|grind -mbtc [Ke,kU]
theorem apQ {x0:Int}:aH (J8 N x0) fun r=>r= !fe x0:=by
 rw[J8];(repeat' with_reducible first|intro _|apply bn|apply bs|apply aW|apply aK)<;>first|grind -mbtc [fe]|(simp_all [fe]<;>omega)
theorem QN {x0:Int}:aH (pX N x0) fun r=>r= !fe x0:=by
 rw[pX];(repeat' with_reducible first|intro _|apply aF (apQ aq)|apply aK)<;>first|grind -mbtc [fe]|(simp_all [fe]<;>omega)
theorem aqe {J:bj}:aH (I7 N J) fun r=>(r=au7↔fe J.bC=ava/\fe J.to=ava/\fe J.count=ava/\fe J.cE=ava/\J.aP.length<=255/\J.cQ.length<=255/\J.name.length<=255/\J.data.length<=8000/\fe J.order.bC=ava/\J.order.name.length<=255/\J.order.cw.length<=255):=by
 rw[I7];(repeat' with_reducible first|intro _|apply aF (QN aq)|apply bn|apply bs|apply aW|apply aK)<;>grind -mbtc
theorem aqg {J:bj} {ak:Bool} {an:Int}:aH (I8 N J ak an) fun r=>(r=au7↔ak=au7/\an<J.aP.length):=by
 rw[I8];(repeat' with_reducible first|intro _|apply aW|apply aK)<;>grind -mbtc
theorem aqf {J:bj} (U:J.aP.length<=1000000) {n:Nat} {ak:Bool} {an:Int}:(0<=an)->(an<=J.aP.length)->(J.aP.length - an<n)->aH (BK N J n ak an) fun r=>(r=au7↔ak=au7/\(J.aP.drop an.toNat).any fe=ava):=by
 induction n generalizing ak an with
 |zero=>intros;exfalso;grind -mbtc
 |succ n ar=>intros;rw[BK];(repeat' with_reducible first|intro _|apply aF (aqg aq)|apply aF (QN aq)|apply b8 (ar ..)|apply bU|refine bE (by omega) ?_|apply bn|apply aW|apply aK)<;>clear ar<;>grind -mbtc
theorem aqi {J:bj} {ak:Bool} {ah:Int}:aH (I9 N J ak ah) fun r=>(r=au7↔ak=au7/\ah<J.cQ.length):=by
 rw[I9];(repeat' with_reducible first|intro _|apply aW|apply aK)<;>grind -mbtc
theorem aqj {J:bj} {ah:Int} (U:0<=ah) (aa:ah<J.cQ.length):aH (Ja N J ah) fun r=>∀s,aD J.cQ ah=au6 s->r= !ni s:=by
 rw[Ja];(repeat' with_reducible first|intro _|apply aF (QN aq)|apply bU|apply aW|apply aK)<;>first|grind -mbtc|grind -mbtc [ni]
theorem aqh {J:bj} (U:J.cQ.length<=1000000) {n:Nat} {ak:Bool} {ah:Int}:(0<=ah)->(ah<=J.cQ.length)->(J.cQ.length - ah<n)->aH (BL N J n ak ah) fun r=>(r=au7↔ak=au7/\(J.cQ.drop ah.toNat).any ni=ava):=by
 induction n generalizing ak ah with
 |zero=>intros;exfalso;grind -mbtc
 |succ n ar=>intros;rw[BL];(repeat' with_reducible first|intro _|apply aF (aqi aq)|apply aF (aqj aq ..)|apply b8 (ar ..)|refine bE (by omega) ?_|apply bn|apply aW|apply aK)<;>clear ar<;>first|grind -mbtc|(obtain ⟨t,e⟩:=ka (xs:=J.cQ) (i:=ah) (by omega) (by grind -mbtc);have:=sw e;grind -mbtc)
theorem aql {J:bj} {ak:Bool} {ax:Int}:aH (Jb N J ak ax) fun r=>(r=au7↔ak=au7/\ax<J.order.cw.length):=by
 rw[Jb];(repeat' with_reducible first|intro _|apply aW|apply aK)<;>grind -mbtc
theorem aqk {J:bj} (U:J.order.cw.length<=1000000) {n:Nat} {ak:Bool} {ax:Int}:(0<=ax)->(ax<=J.order.cw.length)->(J.order.cw.length - ax<n)->aH (BM N J n ak ax) fun r=>(r=au7↔ak=au7/\(J.order.cw.drop ax.toNat).any rF=ava):=by
 induction n generalizing ak ax with
 |zero=>intros;exfalso;grind -mbtc
 |succ n ar=>intros;rw[BM];(repeat' with_reducible first|intro _|apply aF (aql aq)|apply b8 (ar ..)|apply bU|refine bE (by omega) ?_|apply bn|apply aW|apply aK)<;>clear ar<;>first|grind -mbtc|grind -mbtc [rF,jW]
theorem ah1 {x0:bj} (U:x0.aP.length<=1000000) (aa:x0.cQ.length<=1000000) (ap:x0.order.cw.length<=1000000):aH (LW N x0) fun r=>(r=au7↔yb x0):=by
 rw[LW];(repeat' with_reducible first|intro _|apply aF (aqe aq)|apply aF (aqf aq ..)|apply aF (aqh aq ..)|apply aF (aqk aq ..)|apply aK)<;>first|grind -mbtc|((try simp only[axg,aw5] at*);grind -mbtc [yb])
theorem QL {x0:Int}:aH (nE N x0) fun r=>r=gq x0:=by
 rw[nE];(repeat' with_reducible first|intro _|apply pa|apply l5|apply aK)<;>first|grind -mbtc|grind -mbtc [gq]
theorem ZO {x0:List UInt8} (U:x0.length<=2000000):aH (x5 N x0) fun r=>r=j0 x0:=by
 rw[x5];(repeat' with_reducible first|intro _|apply pa|apply l5|apply dW|apply aK)<;>first|grind -mbtc|grind -mbtc [j0]
theorem aok {J:bj} (U:m3 J) {n:Nat} {an:(List UInt8)} {ah:Int}:(0<=ah)->(ah<=(J.order.cw.length:Int))->((J.order.cw.length:Int) - ah<n)->(an.length+1100001*(J.order.cw.length - ah)<=2000000000)->aH (Be N J n an ah) fun r=>r=an++(J.order.cw.drop ah.toNat).flatMap j0:=by
 induction n generalizing an ah with
 |zero=>intros;exfalso;grind -mbtc
 |succ n ar=>intros;rw[Be];(repeat' with_reducible first|intro _|apply pa|apply aF (ZO aq ?_)|apply b8 (ar ..)|apply dW|apply bU|refine bE (by omega) ?_|apply bn|apply bs|apply aW|apply aK)<;>clear ar<;>first|grind -mbtc|grind -mbtc [j0]
theorem aol {eT:Int} {C4:Bool}:aH (H5 N eT C4) fun r=>(r=au7↔C4=au7\/eT=5):=by
 rw[H5];(repeat' with_reducible first|intro _|apply bn|apply aW|apply aK)<;>grind -mbtc
theorem aom {J:bj} (U:m3 J) {n:Nat} {an:(List UInt8)} {ax:Int}:(0<=ax)->(ax<=(J.aP.length:Int))->((J.aP.length:Int) - ax<n)->(an.length+2*(J.aP.length - ax)<=2000000000)->aH (Bf N J n an ax) fun r=>r=an++(J.aP.drop ax.toNat).flatMap gq:=by
 induction n generalizing an ax with
 |zero=>intros;exfalso;grind -mbtc
 |succ n ar=>intros;rw[Bf];(repeat' with_reducible first|intro _|apply pa|apply aF (QL aq)|apply b8 (ar ..)|apply dW|apply bU|refine bE (by omega) ?_|apply bn|apply bs|apply aW|apply aK)<;>clear ar<;>first|grind -mbtc|grind -mbtc [gq]
theorem aon {J:bj} (U:m3 J) {n:Nat} {an:(List UInt8)} {aB:Int}:(0<=aB)->(aB<=(J.cQ.length:Int))->((J.cQ.length:Int) - aB<n)->(an.length+4*(J.cQ.length - aB)<=2000000000)->aH (Bg N J n an aB) fun r=>r=an++(J.cQ.drop aB.toNat).flatMap oU:=by
 induction n generalizing an aB with
 |zero=>intros;exfalso;grind -mbtc
 |succ n ar=>intros;rw[Bg];(repeat' with_reducible first|intro _|apply pa|apply aF (QL aq)|apply b8 (ar ..)|apply dW|apply bU|refine bE (by omega) ?_|apply bn|apply bs|apply aW|apply aK)<;>clear ar<;>first|grind -mbtc|grind -mbtc [oU,gq]
theorem aoj {J:bj} {an:List UInt8} {eT:Int} (U:m3 J) (aa:an.length<=10) (ap:1<=eT) (aN:eT<=7):aH (H4 N J an eT) fun r=>r=an++kY eT J:=by
 rw[H4];(repeat' with_reducible first|intro _|apply pa|apply aF (aok aq ..)|apply aF (aol aq)|apply aF (aom aq ..)|apply aF (aon aq ..)|apply aF (ZO aq ?_)|apply aF (QL aq)|apply l5|apply dW|apply bn|apply aW|apply aK)<;>first|grind -mbtc|grind -mbtc [kY,j0,gq]|((try simp only[axg,aw5] at*);grind -mbtc [kY,j0,gq])
theorem aaf {x0:bj} (U:m3 x0):aH (Dq N x0) fun r=>tO x0 r/\(r.2=0->kU x0/\ly x0.kind x0=ava):=by
 rw[Dq];(repeat' with_reducible first|intro _|apply pa|apply aF (aoj aq ..)|apply aF (ah1 aq ..)|apply aF (ah2 aq)|apply l5|apply aW|apply aK)<;>first|grind -mbtc|grind -mbtc [aaV,aaW,enc,kU,tO]
end Go.W
end
section
set_option maxHeartbeats 2000000
namespace Go.W
open Go.av
theorem aca {bO:Type} {b:Int} {f:Nat->Option bO} {P:bO->Prop} (h:0<=b/\b<=12) (g:∀y,y<=12->¬f y=au8/\∀r,f y=au6 r->P r):¬au' (n8 .i64 b) f=au8/\∀r,au' (n8 .i64 b) f=au6 r->P r:=by
 rw[show n8 .i64 b=_ from if_pos h.1];exact g _ (by omega)
@[grind->] theorem auD {y:Nat} (h:y<=12):avc .i64 (1*((2 ^ y:Nat):Int))≠0:=by
 have U:2 ^ y<=2 ^ 12:=Nat.pow_le_pow_right (by omega) h;have aa:0<2 ^ y:=Nat.two_pow_pos y;rw[r8 (by omega) (by omega)];omega
theorem acR {a:Int} {y:Nat} (h:0<=a) (k:a<=5000):0<=a.fdiv ((2 ^ y:Nat):Int)/\a.fdiv ((2 ^ y:Nat):Int)<=5000:=by
 rw[Int.fdiv_eq_ediv_of_nonneg _ (Int.natCast_nonneg _)];have:=Int.ediv_le_self ((2 ^ y:Nat):Int) h;exact ⟨Int.ediv_nonneg h (Int.natCast_nonneg _),by omega⟩
theorem afw {bO:Type} {a:Int} {y:Nat} {f:Int->Option bO} {P:bO->Prop} (h:0<=a/\a<=5000) (k:∀v,0<=v/\v<=5000->¬f v=au8/\∀r,f v=au6 r->P r):¬av.lt (a.fdiv ((2 ^ y:Nat):Int)) f=au8/\∀r,av.lt (a.fdiv ((2 ^ y:Nat):Int)) f=au6 r->P r:=k _ (acR h.1 h.2)
variable {N:Nat} (aq:5000000000<N)
include aq
theorem ao6 {x0 J:Int}:aH (Ju N x0 J) fun r=>r=au7->0<=x0/\x0<13/\0<=J/\J<=12:=by
 rw[Ju];(repeat' with_reducible first|intro _|apply bn|apply bs|apply aW|apply aK)<;>grind -mbtc
theorem ZJ {x0 J:Int}:aH (Dz N x0 J) fun r=>r=au7->0<=x0/\x0<13/\0<=J/\J<=12:=by
 rw[Dz];(repeat' with_reducible first|intro _|apply aF (ao6 aq)|apply aK)<;>grind -mbtc
theorem apR {x0 J al:Int}:aH (J9 N x0 J al) fun r=>r=ava->0<=J/\J<=12/\0<=x0/\x0<4096:=by
 rw[J9];(repeat' with_reducible first|intro _|apply aca (by grind -mbtc)|apply aF (ZJ aq)|apply yr|apply Mv|refine bE (by omega) ?_|apply bs|apply aW|apply aK)<;>grind -mbtc
theorem apS {n:Nat} {aB:Int} {aG:Int}:(0<=aG)->(aG<=5000)->(aG<n)->aH (CL N n aB aG) fun r=>True:=by
 induction n generalizing aB aG with
 |zero=>intros;exfalso;grind -mbtc
 |succ n ar=>intros;rw[CL];(repeat' with_reducible first|intro _|apply b8 (ar ..)|refine bE (by omega) ?_|apply bn|apply bs|apply aW|apply aK)<;>clear ar<;>grind -mbtc
theorem ah7 {x0 J al:Int}:aH (L2 N x0 J al) fun r=>True:=by
 rw[L2];(repeat' with_reducible first|intro _|apply afw (by grind -mbtc)|apply aF (apR aq)|apply aF (apS aq ..)|apply yr|apply bn|apply aW|apply aK)<;>grind -mbtc
theorem ao4 {x0 J al:Int}:aH (Jt N x0 J al) fun r=>r=ava->0<=x0:=by
 rw[Jt];(repeat' with_reducible first|intro _|apply aF (ZJ aq)|apply aW|apply aK)<;>grind -mbtc
theorem ao5 {J al:Int} {n:Nat} {aG:Int}:(0<=aG)->(aG<=5000)->(5000 - aG<n)->aH (B5 N J al n aG) fun r=>∀a,r= .inr a->0<=a.1/\a.1<4096/\a.2=0:=by
 induction n generalizing aG with
 |zero=>intros;exfalso;grind -mbtc
 |succ n ar=>intros;rw[B5];(repeat' with_reducible first|intro _|apply aF (ah7 aq)|apply b8 (ar ..)|refine bE (by omega) ?_|apply bn|apply bs|apply aW|apply aK)<;>clear ar<;>grind -mbtc
theorem ahU {x0 J al:Int} (U:x0<=5000):aH (LP N x0 J al) fun r=>r.2=0->0<=r.1/\r.1<4096:=by
 rw[LP];(repeat' with_reducible first|intro _|apply aF (ao4 aq)|apply dU (ao5 aq ..)|apply aW|apply aK)<;>grind -mbtc
theorem ao3 {n:Nat} {x0:Int} {ak:Int}:(0<=x0)->(x0<n)->(0<=ak)->(ak+x0<=5000)->aH (B4 N n x0 ak) fun r=>0<=r:=by
 induction n generalizing x0 ak with
 |zero=>intros;exfalso;grind -mbtc
 |succ n ar=>intros;rw[B4];(repeat' with_reducible first|intro _|apply b8 (ar ..)|refine bE (by omega) ?_|apply bn|apply bs|apply aW|apply aK)<;>clear ar<;>grind -mbtc
theorem agM {x0:Int} (U:0<=x0) (aa:x0<=5000):aH (LO N x0) fun r=>0<=r:=by
 rw[LO];(repeat' with_reducible first|intro _|apply aF (ao3 aq ..)|apply aK)<;>grind -mbtc
theorem aoA {J:cV} {al:e4} {ah:List Int} {ax aB aG:Int} (U:0<=aG) (aa:aG<J.items.length) (ap:J.items.length<=1000000) (aN:ah.length=J.items.length) (bK:mx ah) (ed:0<=ax) (hg:ax<4096):aH (JG N J al ah ax aB aG) fun r=>(∀a,r= .inl a->a.2.1.length=J.items.length/\mx a.2.1/\0<=a.2.2/\a.2.2<4096)/\∀a,r= .inr a->a.2≠0:=by
 rw[JG];(repeat' with_reducible first|intro _|apply aF (QD aq ..)|apply aF (ahU aq ?_)|apply bU|apply bn|apply aW|apply aK)<;>grind -mbtc
theorem aoz {J:cV} {aB:Int} (U:J.items.length<=1000000) {n:Nat} {al:e4} {ah:(List Int)} {ax:Int} {aG:Int}:(0<=aG)->(aG<=J.items.length)->(J.items.length - aG<n)->(ah.length=J.items.length)->(mx ah)->(0<=ax)->(ax<4096)->aH (AM N J aB n al ah ax aG) fun r=>(∀a,r= .inl a->a.2.1.length=J.items.length/\mx a.2.1/\0<=a.2.2/\a.2.2<4096)/\∀a,r= .inr a->a.2≠0:=by
 induction n generalizing al ah ax aG with
 |zero=>intros;exfalso;grind -mbtc
 |succ n ar=>intros;rw[AM];(repeat' with_reducible first|intro _|apply dU (aoA aq ..)|apply b8 (ar ..)|refine bE (by omega) ?_|apply bn|apply bs|apply aW|apply aK)<;>clear ar<;>grind -mbtc
theorem aoy {J:cV} (U:J.items.length<=1000000) {n:Nat} {al:e4} {ah:(List Int)} {ax:Int} {aB:Int}:(0<=aB)->(aB<=32)->((32:Int) - aB<n)->(ah.length=J.items.length)->(mx ah)->(0<=ax)->(ax<4096)->aH (AL N J n al ah ax aB) fun r=>(∀a,r= .inl a->a.2.1.length=J.items.length/\mx a.2.1/\0<=a.2.2/\a.2.2<4096)/\∀a,r= .inr a->a.2≠0:=by
 induction n generalizing al ah ax aB with
 |zero=>intros;exfalso;grind -mbtc
 |succ n ar=>intros;rw[AL];(repeat' with_reducible first|intro _|apply dU (aoz aq ..)|apply b8 (ar ..)|refine bE (by omega) ?_|apply bn|apply bs|apply aW|apply aK)<;>clear ar<;>grind -mbtc
theorem aaj {x0:cV} (U:x0.items.length<=1000000):aH (Dt N x0) fun r=>r.2=0->r.1.hV.length=x0.items.length/\mx r.1.hV/\0<=r.1.steps/\x0.items.length<=96/\∀t∈x0.items,0<=t.block/\t.block<32:=by
 rw[Dt];(repeat' with_reducible first|intro _|apply aF (ag6 aq ?_)|apply aF (agM aq ..)|apply dU (aoy aq ..)|apply sv|apply aW|apply aK)<;>grind -mbtc
theorem aoW {J:List Int} {ah ax:Int} (U:0<=ah) (aa:ah<J.length) (ap:0<=ax) (aN:ax<J.length):aH (Jp N J ah ax) fun r=>0<=r/\r<J.length:=by
 rw[Jp];(repeat' with_reducible first|intro _|apply bU|apply bs|apply aW|apply aK)<;>grind -mbtc
theorem aoV {J:List Int} (U:J.length<=1000000) {n:Nat} {ah:Int} {ax:Int}:(0<=ax)->(ax<=(J.length:Int))->((J.length:Int) - ax<n)->(0<=ah)->(ah<J.length)->aH (B0 N J n ah ax) fun r=>0<=r/\r<J.length:=by
 induction n generalizing ah ax with
 |zero=>intros;exfalso;grind -mbtc
 |succ n ar=>intros;rw[B0];(repeat' with_reducible first|intro _|apply aF (aoW aq ..)|apply b8 (ar ..)|refine bE (by omega) ?_|apply bn|apply bs|apply aW|apply aK)<;>clear ar<;>grind -mbtc
theorem aoZ {J:List Int} {al:cV} {ah aG a3:Int} (U:J.length=al.items.length) (aa:al.items.length<=1000000) (ap:mx J) (aN:0<=ah) (bK:ah<al.items.length) (ed:0<=a3) (hg:a3<al.items.length):aH (Jq N J al ah aG a3) fun r=>(r=au7->¬se N al J ah a3 aG)/\(r=ava->(∀a b,aD al.items a3=au6 a->aD al.items ah=au6 b->a.block<b.block)):=by
 rw[Jq];(repeat' with_reducible first|intro _|apply aF (QE aq ..)|apply aF (aac aq ..)|apply bU|refine bE (by omega) ?_|apply aW|apply aK)<;>first|grind -mbtc|grind -mbtc [se]
theorem aoY {J:List Int} {al:cV} {ah aG:Int} (U:J.length=al.items.length) (aa:al.items.length<=1000000) (ap:mx J) (aN:0<=ah) (bK:ah<al.items.length) {n:Nat} {a3:Int}:(0<=a3)->(∃x:Int,a3<=x/\x<al.items.length/\se N al J ah x aG)->(al.items.length - a3<n)->aH (B2 N J al ah aG n a3) fun r=>0<=r/\r<al.items.length/\(∀a b,aD al.items r=au6 a->aD al.items ah=au6 b->a.block<b.block):=by
 induction n generalizing a3 with
 |zero=>intros;exfalso;grind -mbtc
 |succ n ar=>intros;rw[B2];(repeat' with_reducible first|intro _|apply aF (aoZ aq ..)|apply b8 (ar ..)|refine bE (by omega) ?_|apply bn|apply aW|apply aK)<;>clear ar<;>grind -mbtc
theorem aoX {J:List Int} {al:cV} (U:J.length=al.items.length) (aa:al.items.length<=1000000) (ap:mx J) (aN:∀t∈al.items,0<=t.block/\t.block<32) {n:Nat} {ah:Int} {aB:(List Int)} {aG:Int}:(0<=ah)->(ah<al.items.length)->(∀a,aD al.items ah=au6 a->a.block<n/\aB.length+a.block<=200)->(0<aG->∃x:Int,0<=x/\x<al.items.length/\se N al J ah x aG)->aH (B1 N J al n ah aB aG) fun r=>r.length<=200:=by
 induction n generalizing ah aB aG with
 |zero=>intros;obtain ⟨t,e⟩:=ka (xs:=al.items) (i:=ah) (by omega) (by omega);exfalso;grind -mbtc
 |succ n ar=>intros;rw[B1];(repeat' with_reducible first|intro _|apply aF (aoY aq ..)|apply aF (QD aq ..)|apply b8 (ar ..)|apply dW|apply bs|apply aW|apply aK)<;>clear ar<;>first|grind -mbtc|(obtain ⟨t,e⟩:=ka (xs:=al.items) (i:=ah) (by omega) (by omega);grind -mbtc)
theorem agL {x0:cV} {J:List Int} (U:J.length=x0.items.length) (aa:x0.items.length<=1000000) (ap:mx J) (aN:∀t∈x0.items,0<=t.block/\t.block<32):aH (LN N x0 J) fun r=>r.length<=200:=by
 rw[LN];(repeat' with_reducible first|intro _|apply aF (aoV aq ..)|apply aF (aoX aq ..)|apply aF (QD aq ..)|apply aW|apply aK)<;>first|grind -mbtc|(intro a e;have:=wU e;grind -mbtc)
theorem ahx {x0:cV} (U:x0.items.length<=1000000):aH (K9 N x0) fun r=>r.1.length<=200:=by
 rw[K9];(repeat' with_reducible first|intro _|apply aF (agL aq ..)|apply aF (aaj aq ?_)|apply aW|apply aK)<;>grind -mbtc
theorem ZK {x0:cV} (U:x0.items.length<=1000000):aH (DA N x0) fun r=>r.2=0->r.1.fJ.hV.length=x0.items.length/\x0.items.length<=96/\0<=r.1.fJ.steps/\r.1.chain.length<=200:=by
 rw[DA];(repeat' with_reducible first|intro _|apply aF (aaj aq ?_)|apply aF (ahx aq ?_)|apply aW|apply aK)<;>grind -mbtc
end Go.W
end
section
set_option maxHeartbeats 2000000
namespace Go.W
open Go.av
theorem acU {aA:Type} {xs:List aA} {a y:aA} {i:Int} (h:i=xs.length) (e:aD (xs++[a]) i=au6 y):y=a:=by
 subst h;unfold aD at e;simpa using e.symm
theorem abZ {c:dx} {y:bN} {b:Bool} (h:df c y) (k:b=ava->y.dF=ava):df c (bN.mk y.cv y.aP y.cH y.busy y.bJ b):=by
 unfold df nP lx at*;exact ⟨h.1,h.2.1,h.2.2.1,h.2.2.2.1,h.2.2.2.2.1,h.2.2.2.2.2.1,fun a b=>by have:=h.2.2.2.2.2.2.1 a (k b);unfold om at*;exact this,h.2.2.2.2.2.2.2⟩
theorem T3 (w:List Int) (y:bN) (b:Bool):kN w y (bN.mk y.cv y.aP y.cH y.busy y.bJ b):=⟨_,_,rfl,fun _ h=>h⟩
theorem aa8 {c:dx} {y:bN} {p:Int} (h:df c y) (aM:p=y.bJ.iW+1) (k:y.dF=ava->p<=y.bJ.proof.fJ.steps):df c (bN.mk y.cv y.aP y.cH y.busy (gi.mk y.bJ.cv y.bJ.ir y.bJ.proof y.bJ.lead y.bJ.aP p) y.dF):=by
 unfold df nP lx at*;refine ⟨h.1,h.2.1,h.2.2.1,h.2.2.2.1,h.2.2.2.2.1,h.2.2.2.2.2.1,fun a b=> ?_,h.2.2.2.2.2.2.2⟩;have:=h.2.2.2.2.2.2.1 a b;have k:=k b;unfold om at*;simp only;exact ⟨by omega,by omega,this.2.2⟩
theorem aa9 {x y:bN} {p:Int} (h:h8 x) (b:x.busy=au7) (f:x.dF=ava) (g:kN x.bJ.cv x y):h8 (bN.mk y.cv y.aP y.cH y.busy (gi.mk y.bJ.cv y.bJ.ir y.bJ.proof y.bJ.lead y.bJ.aP p) y.dF):=by
 obtain ⟨h3,cB,rfl,g⟩:=g;intro _ _ t aw;exact g t (h b f t aw)
theorem ab4 {w:List Int} {x y:bN} (h:kN w x y):y.bJ=x.bJ:=by
 obtain ⟨_,_,rfl,_⟩:=h;rfl
theorem ab2 {c:dx} {y:bN} (h:df c y) (a:y.busy=au7) (b:y.dF=ava):0<=y.bJ.iW/\y.bJ.iW<=1000000:=by
 unfold df nP lx at h;have:=h.2.2.2.2.2.2.1 a b;unfold om at this;omega
theorem T2 {c:dx} {y:bN} (h:df c y):df c (bN.mk y.cv y.aP y.cH ava (gi.mk [] (cV.mk [] 0) (g7.mk (e4.mk 0 []) []) 0 [] 0) ava):=by
 unfold df nP lx at*;exact ⟨h.1,h.2.1,h.2.2.1,h.2.2.2.1,h.2.2.2.2.1,h.2.2.2.2.2.1,nofun,by simp,by simp,by simp,by simp,by simp,h.2.2.2.2.2.2.2.2.2.2.2.2⟩
theorem RB {w:List cb} {s:List (List Int)} {o:List bX} {p:gi} {b:Bool}:h8 (bN.mk w s o ava p b):=nofun
theorem aba {x0 aG z:bw} {q:Bool} (ac8:z.c=aG.c/\(q=ava->z.y=bN.mk aG.y.cv aG.y.aP aG.y.cH aG.y.busy (gi.mk aG.y.bJ.cv aG.y.bJ.ir aG.y.bJ.proof aG.y.bJ.lead aG.y.bJ.aP (avc .i64 (aG.y.bJ.iW+1))) aG.y.dF)/\(q=au7->z.y=(bN.mk aG.y.cv aG.y.aP aG.y.cH ava (gi.mk [] (cV.mk [] 0) (g7.mk (e4.mk 0 []) []) 0 [] 0) ava)))
  (UL:q=ava->aG.y.dF=ava->avc .i64 (aG.y.bJ.iW+1)<=aG.y.bJ.proof.fJ.steps) (U:df x0.c x0.y) (aa:h8 x0.y) (b:x0.y.busy=au7) (f:x0.y.dF=ava) (h:aG.c=x0.c/\df x0.c aG.y/\kN x0.y.bJ.cv x0.y aG.y):z.c=x0.c/\df x0.c z.y/\h8 z.y:=by
 obtain ⟨cz,dw,ft⟩:=ac8;obtain ⟨c1,c2,c3⟩:=h;have c4:=ab2 U b f;have c5:=ab4 c3;refine ⟨by rw[cz,c1], ?_⟩;cases q
 ·rw[dw rfl];rw[r8 (by rw[c5];omega) (by rw[c5];omega)] at UL⊢;exact ⟨aa8 c2 rfl (UL rfl),aa9 aa b f c3⟩
 ·rw[ft rfl];exact ⟨T2 c2,RB⟩
variable {N:Nat} (aq:5000000000<N)
include aq
theorem anv {x0:bw} {ak:Bool} {an:Int} (U:0<=an) (aa:an<x0.e.aP.length) (ap:∀t∈x0.e.aP,0<=t/\t<x0.y.aP.length):aH (Ib N x0 ak an) fun r=>r=au7->ak=au7/\∀t,aD x0.e.aP an=au6 t->aD x0.y.aP t=au6 []:=by
 rw[Ib];(repeat' with_reducible first|intro _|apply bU|apply bn|apply aW|apply aK)<;>first|grind -mbtc|grind -mbtc [Fl]
theorem anu {x0:bw} (U:x0.e.aP.length<=1000000) (aa:∀t∈x0.e.aP,0<=t/\t<x0.y.aP.length) {n:Nat} {ak:Bool} {an:Int}:(0<=an)->(an<=(x0.e.aP.length:Int))->((x0.e.aP.length:Int) - an<n)->aH (BG N x0 n ak an) fun r=>r=au7->ak=au7/\∀t∈x0.e.aP.drop an.toNat,aD x0.y.aP t=au6 []:=by
 induction n generalizing ak an with
 |zero=>intros;exfalso;grind -mbtc
 |succ n ar=>intros;rw[BG];(repeat' with_reducible first|intro _|apply aF (anv aq ..)|apply b8 (ar ..)|refine bE (by omega) ?_|apply bn|apply bs|apply aW|apply aK)<;>clear ar<;>first|grind -mbtc|(obtain ⟨t,e⟩:=ka (xs:=x0.e.aP) (i:=an) (by omega) (by omega);have:=sw e;grind -mbtc)
theorem anw {x0:bw} {ah:List Int} (U:x0.y.cH.length<=8) (aa:∀o∈x0.y.cH,o.cw.length<=1000000) (ap:ah.length<=40000) (aN:∀i∈ah,0<=i/\i<x0.y.cv.length) {n:Nat} {ax:cV} {aB:Int} {j1:(List e3)}:(0<=aB)->(aB<=(ah.length:Int))->((ah.length:Int) - aB<n)->(j1.length=aB)->(∀i∈j1,0<=i.fC/\i.fC<x0.y.cH.length)->aH (BH N x0 ah n ax aB j1) fun r=>(∀a,r= .inl a->a.2.length=ah.length/\a.1.cE=ax.cE/\∀i∈a.2,0<=i.fC/\i.fC<x0.y.cH.length)/\∀a,r= .inr a->a≠0:=by
 induction n generalizing ax aB j1 with
 |zero=>intros;exfalso;grind -mbtc
 |succ n ar=>intros;rw[BH];(repeat' with_reducible first|intro _|apply aF (QC aq ..)|apply b8 (ar ..)|apply dW|apply bU|refine bE (by omega) ?_|apply bn|apply bs|apply aW|apply aK)<;>clear ar<;>first|grind -mbtc|grind -mbtc [acU]
theorem anz {x0:bw} {aG aV:Int} {a3:List Int} {j1:List e3} (U:x0.y.cH.length<=8) (aa:∀o∈x0.y.cH,o.cw.length<=1000000) (ap:∀i∈a3,0<=i/\i<x0.y.cv.length) (aN:aV=a3.length) (bK:a3.length<=40000) (ed:0<=aG) (hg:aG<j1.length):aH (Ic N x0 aG a3 aV j1) fun r=>True:=by
 rw[Ic];(repeat' with_reducible first|intro _|apply aF (QC aq ..)|apply bU|refine bE (by omega) ?_|apply bs|apply aW|apply aK)<;>grind -mbtc
theorem anx {x0:bw} {ah:List Int} {j1:List e3} (U:x0.y.cH.length<=8) (aa:∀o∈x0.y.cH,o.cw.length<=1000000) (ap:ah.length<=40000) (aN:j1.length=ah.length) (bK:∀i∈j1,0<=i.fC/\i.fC<x0.y.cH.length) (ed:∀o∈x0.y.cH,0<=o.bC/\o.bC<x0.y.aP.length) (hg:∀t∈x0.y.aP,t.length<=40000/\∀i∈t,0<=i/\i<x0.y.cv.length) {n:Nat} {aG:Int}:(0<=aG)->(aG<=(ah.length:Int))->((ah.length:Int) - aG<n)->aH (BI N x0 ah j1 n aG) fun r=>∀a,r= .inr a->a≠0:=by
 induction n generalizing aG with
 |zero=>intros;exfalso;grind -mbtc
 |succ n ar=>intros;rw[BI];(repeat' with_reducible first|intro _|apply aF (anz aq ..)|apply b8 (ar ..)|apply bU|refine bE (by omega) ?_|apply bn|apply bs|apply aW|apply aK)<;>clear ar<;>grind -mbtc
theorem agO {x0:bw} (U:df x0.c x0.y) (aa:jg x0.e):aH (Lg N x0) fun r=>r.1=0->r.2.c=x0.c/\df x0.c r.2.y/\h8 r.2.y:=by
 rw[Lg];(repeat' with_reducible first|intro _|apply aF (ZK aq ?_)|apply aF (ZN aq ..)|apply aF (ag1 aq ..)|apply aF (Z7 aq ..)|apply aF (ahp aq ?_)|apply aF (anu aq ..)|apply dU (anw aq ..)|apply dU (anx aq ..)|apply dW|apply bU|apply aW|apply aK)<;>first|grind -mbtc [df]|(simp only[axg,aw5] at*;grind -mbtc [lv])
theorem ahg {x0:bw} {J al:Int} {cr:List dj} (U:df x0.c x0.y) (aa:cr.length<=1000000):aH (KT N x0 J al cr) fun r=>r.2.1.length<=cr.length+1/\r.2.2.c=x0.c/\r.2.2.e=x0.e/\df x0.c r.2.2.y/\(∀W,J∈W->kN W x0.y r.2.2.y)/\l4 al x0.y r.2.2.y:=by
 rw[KT];simp only[fR];(repeat' with_reducible first|intro _|apply aF (Ac aq ..)|apply aF (tr aq ..)|apply aF (Ab aq ?_)|apply dW|apply aW|apply aK)<;>first|grind -mbtc [df]|grind -mbtc [ym,yl,ss,sr,df]
theorem anB {x0:bw} {an:List Int} {aG:er}:aH (Ie N x0 an aG) fun r=>r=ava->0<=aG.place/\aG.place<an.length:=by
 rw[Ie];(repeat' with_reducible first|intro _|apply aF (vo aq)|apply bs|apply aW|apply aK)<;>grind -mbtc
theorem anA {x0:bw} {an:List Int} (U:x0.e.cQ.length<=1000000) {n:Nat} {aB:Int}:(0<=aB)->(aB<=(x0.e.cQ.length:Int))->((x0.e.cQ.length:Int) - aB<n)->aH (AT N x0 an n aB) fun r=>(r= .inl ()->∀s∈x0.e.cQ.drop aB.toNat,0<=s.place/\s.place<an.length)/\∀a,r= .inr a->a≠0:=by
 induction n generalizing aB with
 |zero=>intros;exfalso;grind -mbtc
 |succ n ar=>intros;rw[AT];(repeat' with_reducible first|intro _|apply aF (anB aq)|apply b8 (ar ..)|apply bU|refine bE (by omega) ?_|apply bn|apply bs|apply aW|apply aK)<;>clear ar<;>grind -mbtc
theorem anD {x0:bw} {a3:Int} (U:0<=a3) (aa:a3<x0.e.cQ.length) (ap:x0.e.cQ.length<=1000000) {n:Nat} {aV:Int}:(0<=aV)->(aV<=a3)->(a3 - aV<n)->aH (AV N x0 a3 n aV) fun r=>∀a,r= .inr a->a≠0:=by
 induction n generalizing aV with
 |zero=>intros;exfalso;grind -mbtc
 |succ n ar=>intros;rw[AV];(repeat' with_reducible first|intro _|apply b8 (ar ..)|apply bU|refine bE (by omega) ?_|apply bn|apply bs|apply aW|apply aK)<;>clear ar<;>grind -mbtc
theorem anC {x0:bw} (U:x0.e.cQ.length<=1000000) {n:Nat} {a3:Int}:(0<=a3)->(a3<=(x0.e.cQ.length:Int))->((x0.e.cQ.length:Int) - a3<n)->aH (AU N x0 n a3) fun r=>∀a,r= .inr a->a≠0:=by
 induction n generalizing a3 with
 |zero=>intros;exfalso;grind -mbtc
 |succ n ar=>intros;rw[AU];(repeat' with_reducible first|intro _|apply dU (anD aq ..)|apply b8 (ar ..)|refine bE (by omega) ?_|apply bn|apply bs|apply aW|apply aK)<;>clear ar<;>grind -mbtc
theorem amO {x0:bw} {ak:Int} (U:x0.e.cQ.length<=1000000) {n:Nat} {ax:(List Int)} {bc:Int}:(0<=bc)->(bc<=(x0.e.cQ.length:Int))->((x0.e.cQ.length:Int) - bc<n)->(∀s∈x0.e.cQ,0<=s.place/\s.place<ax.length)->aH (AW N x0 ak n ax bc) fun r=>(∀a,r= .inl a->a.length=ax.length)/\∀a,r= .inr a->a≠0:=by
 induction n generalizing ax bc with
 |zero=>intros;exfalso;grind -mbtc
 |succ n ar=>intros;rw[AW];(repeat' with_reducible first|intro _|apply b8 (ar ..)|apply bU|refine bE (by omega) ?_|apply bn|apply bs|apply aW|apply aK)<;>clear ar<;>grind -mbtc
theorem amQ {W:List Int} {x0:bw} {ah ax:List Int} {a9:Int} (U:0<=a9) (aa:a9<ah.length) (ap:0<=a9) (aN:a9<ax.length):aH (Ig N x0 ah ax a9) fun r=>r.c=x0.c/\r.e=x0.e/\(∃b,r.y=bN.mk x0.y.cv x0.y.aP x0.y.cH x0.y.busy x0.y.bJ b/\(b=ava->x0.y.dF=ava))/\kN W x0.y r.y:=by
 rw[Ig];(repeat' with_reducible first|intro _|apply bU|apply aW|apply aK)<;>first|grind -mbtc [ss,T3]|grind
theorem amP {W:List Int} {an ah ax:List Int} (U:∀i∈an,i∈W) (aa:an.length<=ah.length) (ap:an.length<=ax.length) (aN:an.length<=40000) {n:Nat} {x0:bw} {a9:Int} {cr:(List dj)}:(0<=a9)->(a9<=(an.length:Int))->((an.length:Int) - a9<n)->(df x0.c x0.y)->(cr.length<=1000+a9)->aH (AX N an ah ax n x0 a9 cr) fun r=>(∀a,r= .inl a->a.1.c=x0.c/\df x0.c a.1.y/\kN W x0.y a.1.y)/\∀a,r= .inr a->a.2.1≠0:=by
 induction n generalizing x0 a9 cr with
 |zero=>intros;exfalso;grind -mbtc
 |succ n ar=>intros;rw[AX];(repeat' with_reducible first|intro _|apply aF (amQ aq (W:=W) ?_ ?_ ?_ ?_)|apply aF (ahg aq ..)|apply b8 (ar ..)|apply bU|refine bE (by omega) ?_|apply bn|apply bs|apply aW|apply aK)<;>clear ar<;>first|grind -mbtc|grind -mbtc [T4,ss,T3,abZ]
theorem amR {x0:bw}:aH (Ih N x0) fun r=>r=ava->x0.y.dF=ava->x0.y.bJ.iW<=x0.y.bJ.proof.fJ.steps:=by
 rw[Ih];(repeat' with_reducible first|intro _|apply aW|apply aK)<;>grind -mbtc
theorem amS {x0:bw} {C2:Bool} {cr:List dj}:aH (Ii N x0 C2 cr) fun r=>r.c=x0.c/\(C2=ava->r.y=x0.y)/\(C2=au7->r.y=bN.mk x0.y.cv x0.y.aP x0.y.cH ava (gi.mk [] (cV.mk [] 0) (g7.mk (e4.mk 0 []) []) 0 [] 0) ava):=by
 rw[Ii];(repeat' with_reducible first|intro _|apply aF (ahd aq)|apply aW|apply aK)<;>grind -mbtc
theorem agP {x0:bw} {cr:List dj} (U:df x0.c x0.y) (aa:h8 x0.y) (ap:jg x0.e) (aN:cr.length<=1000):aH (Lh N x0 cr) fun r=>r.1=0->r.2.c=x0.c/\df x0.c r.2.y/\h8 r.2.y:=by
 rw[Lh];(repeat' with_reducible first|intro _|apply aF (aae aq ?_)|apply aF (Z9 aq ..)|apply dU (anA aq ..)|apply dU (anC aq ..)|apply dU (amO aq ..)|apply dU (amP aq (W:=x0.y.bJ.cv) ?_ ?_ ?_ ?_ ?_ ?_ ?_ ?_ ?_)|apply aF (amR aq)|apply aF (amS aq)|apply dW|apply bU|refine bE (by omega) ?_|apply bn|apply aW|apply aK)<;>first|grind -mbtc [df]|grind -mbtc [h8,Mc,lv]|(dsimp only at*;exact aba (by assumption) (by assumption) U aa (by grind -mbtc) (by grind -mbtc) (by grind -mbtc))|((try simp only[axg,aw5] at*);first|grind -mbtc [df]|grind -mbtc [df,h8,Mc,lv])
end Go.W
end
section
set_option maxHeartbeats 2000000
namespace Go.W
open Go.av
theorem aa' {w:List Int} {s r:List (List Int)} {t:Int} {q:List Int} (h:yf w s r) (e:aD r t=au6 q) (z:(q.length:Int)=0):lv w s t:=fun p f i aj=>by
 obtain ⟨iJ,b2,k⟩:=h t p f;obtain rfl:q=iJ:=avl.inj (e.symm.trans b2);obtain rfl:=Fl z;exact (k i aj).elim id (by simp)
theorem ab5 {w:List Int} {x y:bN} {t:Int} (h:kN w x y) (g:lv w x.aP t):lv w y.aP t:=by
 obtain ⟨_,_,rfl,k⟩:=h;exact k t g
variable {N:Nat} (aq:5000000000<N)
include aq
theorem afO {x0:bw}:aH (KF N x0) fun r=>r.c=x0.c/\r.y=bN.mk x0.y.cv x0.y.aP x0.y.cH ava (gi.mk [] (cV.mk [] 0) (g7.mk (e4.mk 0 []) []) 0 [] 0) ava:=by
 rw[KF];(repeat' with_reducible first|intro _|apply aK)<;>grind
theorem ahf {x0:bw} {cr:List dj} {lk:List da} (U:df x0.c x0.y) (aa:jg x0.e) (ap:cr.length<=1000) (aN:lk.length<=1000):aH (KS N x0 cr lk) fun r=>r.1=0->r.2.c=x0.c/\df x0.c r.2.y/\h8 r.2.y:=by
 rw[KS];(repeat' with_reducible first|intro _|apply aF (ZK aq ?_)|apply aF (ah5 aq ..)|apply aF (ag7 aq ?_)|apply aF (QB aq ..)|apply aF (ahZ aq ..)|apply aF (ZM aq ..)|apply aF (ZN aq ..)|apply aF (ahB aq ..)|apply aF (Z7 aq ..)|apply aF (afO aq)|apply aF (ahe aq ?_)|apply aF (amA aq ..)|apply aF (amC aq ..)|apply aF (amD aq ..)|apply aF (alS aq ..)|apply aF (alU aq ..)|apply bU|apply bn|apply bs|apply aW|apply aK)<;>(dsimp only at*;first|grind -mbtc [df]|((try simp only[axg,aw5] at*);first|grind -mbtc [df,T2,RB]|grind -mbtc [->aa',->ab5,kN,Fl,df]))
end Go.W
end
section
set_option maxHeartbeats 2000000
namespace Go.W
open Go.av
theorem xI (x:UInt8):x.toNat<=255:=by have:=x.toNat_lt;omega
@[grind=] theorem au0 (x:UInt8):avc .i64 (x.toNat:Int)=x.toNat:=by
 have:=xI x;rw[r8 (by omega) (by omega)]
theorem aci {b:List UInt8} {k cM p q:Int} {d:UInt8} (au:0<k) (e:aD b (p+14)=au6 d) (az:q<=b.length) (bd:q=p+15+d.toNat) (mf:cM=k - 1) (h:l8 b cM q):l8 b k p:=by
 subst bd mf;exact acg au e az h
theorem ach {b:List UInt8} {k cM p q:Int} {d:UInt8} (h:l8 b k p) (au:0<k) (e:aD b (p+14)=au6 d) (bd:q=p+15+d.toNat) (mf:cM=k - 1):l8 b cM q:=by
 subst bd mf;obtain ⟨p8,b2,_,k⟩:=Uf h au;rw[e] at b2;cases b2;exact k
theorem Ug {b:List UInt8} {k p:Int} (h:l8 b k p) (au:0<k):∃d,aD b (p+14)=au6 d/\p+15+d.toNat<=b.length:=by
 obtain ⟨d,e,l,_⟩:=Uf h au;exact ⟨d,e,l⟩
theorem UD {b:List UInt8} {p:Int} {i:Int} (h:0<=p) (k:0<=i):aD (b.drop p.toNat) i=aD b (p+i):=by
 unfold aD;rw[if_pos k,if_pos (by omega),List.getElem?_drop,show p.toNat+i.toNat=(p+i).toNat by omega]
theorem ab3 {c:dx} {y:bN} {ws:List cb} (h:df c y) (a:y.cv.length<=ws.length) (b:ws.length<=192) (d:∀w∈ws,w.dest.length<=1000000):df c (bN.mk ws y.aP y.cH y.busy y.bJ y.dF):=by
 unfold df nP lx dI om at*;simp only at*;refine ⟨h.1,h.2.1,⟨h.2.2.1.1,fun t aw=>⟨(h.2.2.1.2 t aw).1,fun i aj=> ?_⟩⟩,b,h.2.2.2.2.1,h.2.2.2.2.2.1,h.2.2.2.2.2.2.1,h.2.2.2.2.2.2.2.1,h.2.2.2.2.2.2.2.2.1,h.2.2.2.2.2.2.2.2.2.1,h.2.2.2.2.2.2.2.2.2.2.1,h.2.2.2.2.2.2.2.2.2.2.2.1,d⟩;have:=(h.2.2.1.2 t aw).2 i aj;omega
theorem aa5 {ws xL:List cb} {s:List (List Int)} {o:List bX} {b f:Bool} {p:gi} {z:bN} {t:Int} (h:h8 (bN.mk ws s o b p f)) (k:l4 t (bN.mk xL s o b p f) z) (f:f=ava) (n:b=au7->t≠p.lead/\t∉p.aP):h8 z:=by
 obtain ⟨s,b,rfl,k⟩:=k;intro ag _ u hu;refine k _ u ?_ (h ag f u hu);rintro rfl;rcases hu with hu|hu
 ·exact (n ag).1 hu
 ·exact (n ag).2 hu
variable {N:Nat} (aq:5000000000<N)
include aq
theorem apH {x0:List UInt8} (U:x0.length<=1000000) (aa:0<x0.length) {n:Nat} {ak:Int} {an:Int}:(0<=ak)->(ak<=x0.length)->(0<=an)->(an<=256)->(256 - an<n)->aH (BO N x0 n ak an) fun r=>(∀a,r= .inl a->0<=a/\a<=x0.length/\∀d,aD x0 0=au6 d->l8 x0 (d.toNat - an) ak)/\∀a,r= .inr a->a= -1:=by
 induction n generalizing ak an with
 |zero=>intros;exfalso;grind -mbtc
 |succ n ar=>intros;rw[BO];(repeat' with_reducible first|intro _|apply b8 (ar ..)|apply bU|refine bE (by omega) ?_|apply bn|apply bs|apply aW|apply aK)<;>clear ar<;>first|grind -mbtc [xI]|grind -mbtc [xI,aci,acf]
theorem ah4 {x0:List UInt8} (U:x0.length<=1000000):aH (LZ N x0) fun r=> -1<=r/\(0<=r->2<=r/\0<x0.length/\r<=x0.length/\∀d,aD x0 0=au6 d->l8 x0 d.toNat 1):=by
 rw[LZ];(repeat' with_reducible first|intro _|apply dU (apH aq ..)|refine bE (by omega) ?_|apply bn|apply bs|apply aW|apply aK)<;>grind -mbtc
theorem ZQ {x0:List UInt8} (U:2<=x0.length):aH (v3 N x0) fun r=>True:=by
 rw[v3];(repeat' with_reducible first|intro _|apply bU|refine bE (by omega) ?_|apply bn|apply aK)<;>grind -mbtc
theorem amZ {aG:List UInt8} {aV:Int} (U:0<=aV) (aa:aV<aG.length):aH (Im N aG aV) fun r=>True:=by
 rw[Im];(repeat' with_reducible first|intro _|apply bU|apply bs|apply aW|apply aK)<;>grind -mbtc
theorem amY {aG:List UInt8} (U:6<=aG.length) {n:Nat} {a3:(List UInt8)} {aV:Int}:(0<=aV)->(aV<=6)->((6:Int) - aV<n)->(a3.length<=2*aV)->aH (A0 N aG n a3 aV) fun r=>∀a,r= .inr a->a≠0:=by
 induction n generalizing a3 aV with
 |zero=>intros;exfalso;grind -mbtc
 |succ n ar=>intros;rw[A0];(repeat' with_reducible first|intro _|apply aF (amZ aq ..)|apply b8 (ar ..)|apply l5|apply dW|apply bU|refine bE (by omega) ?_|apply bn|apply bs|apply aW|apply aK)<;>clear ar<;>grind -mbtc
theorem am0 {aG:List UInt8} (U:14<=aG.length):aH (Io N aG) fun r=>True:=by
 rw[Io];(repeat' with_reducible first|intro _|apply bU|apply bs|apply aW|apply aK)<;>grind -mbtc
theorem amX {x0:List UInt8} (U:x0.length<=1000000) (aa:0<x0.length) {n:Nat} {ah:(List cb)} {ax:Int} {aB:Int}:(0<=ax)->(ax<=x0.length)->(0<=aB)->(aB<=256)->(256 - aB<n)->(∀d,aD x0 0=au6 d->l8 x0 (d.toNat - aB) ax)->(ah.length<=aB)->(∀w∈ah,w.dest.length<=1000000)->aH (AZ N x0 n ah ax aB) fun r=>(∀a,r= .inl a->a.length<=256/\∀w∈a,w.dest.length<=1000000)/\∀a,r= .inr a->a≠0:=by
 induction n generalizing ah ax aB with
 |zero=>intros;exfalso;grind -mbtc
 |succ n ar=>intros;rw[AZ];(repeat' with_reducible first|intro _|apply dU (amY aq ..)|apply aF (am0 aq ?_)|apply aF (ZQ aq ?_)|apply b8 (ar ..)|apply dW|apply bU|apply p6|refine bE (by omega) ?_|apply bn|apply bs|apply aW|apply aK)<;>clear ar<;>first|grind -mbtc [xI]|grind -mbtc [xI,->Ug,UD]|grind -mbtc [xI,ach,->Ug,UD]
theorem agR {x0:List UInt8} (U:x0.length<=1000000):aH (Lj N x0) fun r=>r.1.length<=256/\(∀w∈r.1,w.dest.length<=1000000)/\(r.2=0->r.1.length<=96):=by
 rw[Lj];(repeat' with_reducible first|intro _|apply aF (aai aq ?_)|apply dU (amX aq ..)|apply aF (ah4 aq ?_)|apply aF (G6 aq ..)|apply aF (ZQ aq ?_)|apply p6|refine bE (by omega) ?_|apply bn|apply aW|apply aK)<;>grind -mbtc
theorem amp {x0:bw} {ak:Int} {an:gi} (U:an.aP.length<=1000000):aH (HQ N x0 ak an) fun r=>r=ava->x0.y.dF=ava/\(x0.y.busy=au7->ak≠an.lead/\ak∉an.aP):=by
 rw[HQ];(repeat' with_reducible first|intro _|apply aF (Ad aq ?_)|apply aW|apply aK)<;>grind -mbtc
theorem ams {ah hC:List cb} {aG a3 aV:Int} (U:0<=a3) (aa:a3<hC.length) (ap:0<=aG) (aN:aG<ah.length):aH (Hh N ah aG a3 aV hC) fun r=>True:=by
 rw[Hh];(repeat' with_reducible first|intro _|apply bU|apply bs|apply aW|apply aK)<;>grind -mbtc
theorem amr {x0:bw} {ah hC:List cb} {aB aG:Int} (U:0<=aG) (aa:aG<ah.length) (ap:x0.y.aP.length<=1000) (aN:∀t∈x0.y.aP,t.length<=1000000) (bK:aB=hC.length) (ed:hC.length<=1000000) {n:Nat} {a3:Int}:(0<=a3)->(a3<=aB)->(aB - a3<n)->aH (Ap N x0 ah aB aG hC n a3) fun r=>∀a,r= .inr a->a≠0:=by
 induction n generalizing a3 with
 |zero=>intros;exfalso;grind -mbtc
 |succ n ar=>intros;rw[Ap];(repeat' with_reducible first|intro _|apply aF (tr aq ..)|apply aF (ams aq ..)|apply b8 (ar ..)|refine bE (by omega) ?_|apply bn|apply bs|apply aW|apply aK)<;>clear ar<;>grind -mbtc
theorem amq {x0:bw} {ah hC:List cb} {aB:Int} (U:ah.length<=1000000) (aa:hC.length<=1000000) (ap:x0.y.aP.length<=1000) (aN:∀t∈x0.y.aP,t.length<=1000000) (bK:aB=hC.length) {n:Nat} {aG:Int}:(0<=aG)->(aG<=(ah.length:Int))->((ah.length:Int) - aG<n)->aH (Ao N x0 ah aB hC n aG) fun r=>∀a,r= .inr a->a≠0:=by
 induction n generalizing aG with
 |zero=>intros;exfalso;grind -mbtc
 |succ n ar=>intros;rw[Ao];(repeat' with_reducible first|intro _|apply dU (amr aq ..)|apply b8 (ar ..)|refine bE (by omega) ?_|apply bn|apply bs|apply aW|apply aK)<;>clear ar<;>grind -mbtc
theorem amt {ak aB:Int} {ah:List cb} (U:ah.length<=1000) (aa:0<=aB) (ap:aB<=1000) {n:Nat} {x0:bw} {a9:Int} {cr:(List dj)}:(0<=a9)->(a9<=(ah.length:Int))->((ah.length:Int) - a9<n)->(df x0.c x0.y)->(cr.length<=1000+a9)->aH (Aq N ak ah aB n x0 a9 cr) fun r=>(∀a,r= .inl a->a.1.c=x0.c/\df x0.c a.1.y/\l4 ak x0.y a.1.y)/\∀a,r= .inr a->a.2.1≠0:=by
 induction n generalizing x0 a9 cr with
 |zero=>intros;exfalso;grind -mbtc
 |succ n ar=>intros;rw[Aq];(repeat' with_reducible first|intro _|apply aF (ahr aq ..)|apply b8 (ar ..)|refine bE (by omega) ?_|apply bn|apply bs|apply aW|apply aK)<;>clear ar<;>first|grind -mbtc|grind -mbtc [Mo,sr]
theorem afW {x0:bw} {hC:List cb} {cr:List dj} (U:df x0.c (bN.mk hC x0.y.aP x0.y.cH x0.y.busy x0.y.bJ x0.y.dF)) (aa:h8 (bN.mk hC x0.y.aP x0.y.cH x0.y.busy x0.y.bJ x0.y.dF)) (ap:jg x0.e) (aN:cr.length<=1000):aH (KM N x0 hC cr) fun r=>r.1=0->r.2.2.c=x0.c/\df x0.c r.2.2.y/\h8 r.2.2.y:=by
 rw[KM];(repeat' with_reducible first|intro _|apply aF (agR aq ?_)|apply aF (xy aq ?_)|apply aF (vo aq)|apply aF (amp aq ?_)|apply dU (amq aq ..)|apply dU (amt aq ..)|apply dW|refine bE (by omega) ?_|apply bn|apply bs|apply aW|apply aK)<;>((try dsimp only at*);first|grind -mbtc [df]|grind -mbtc [ab3,->aa5])
end Go.W
end
section
set_option maxHeartbeats 2000000
namespace Go.W
open Go.av
theorem ab9 {aA bO:Type} {xs:List aA} {a b:Int} {f:List aA->Option bO} {P:bO->Prop} (h:0<=a/\a<=xs.length/\a<=4294967296/\a=b) (k:∀y,y=xs.take a.toNat->¬f y=au8/\∀r,f y=au6 r->P r):¬au' (xv xs a b) f=au8/\∀r,au' (xv xs a b) f=au6 r->P r:=by
 rw[show xv xs a b=_ from if_pos h];exact k _ rfl
structure od (c:dx):Prop where
 a:nG c
 b:c.table.length<=1000000
attribute [grind->] od.a od.b
theorem ab1 {c:dx} {y:bN} {i j k:Nat} (h:df c y) (b:y.busy=ava) (a:i<=j):df c (bN.mk y.cv y.aP (y.cH.take i++(y.cH.take k).drop j) y.busy y.bJ y.dF):=by
 unfold df nP lx at*;refine ⟨h.1,h.2.1,h.2.2.1,h.2.2.2.1, ?_,fun o ao=>h.2.2.2.2.2.1 o ?_,fun e=>by simp_all,h.2.2.2.2.2.2.2⟩
 ·have:=h.2.2.2.2.1;simp only[awa,List.length_take,aw4];omega
 ·rcases List.mem_append.1 ao with ao|ao
  ·exact axc ao
  ·exact axc (List.mem_of_mem_drop ao)
theorem ab' {aA bO:Type} {a b c:aA} {i:Int} {Q:aA->Prop} {f:aA->Option bO} {P:bO->Prop} (h:0<=i/\i<3) (q:Q a/\Q b/\Q c) (k:∀y,Q y->¬f y=au8/\∀r,f y=au6 r->P r):¬au' (aD [a,b,c] i) f=au8/\∀r,au' (aD [a,b,c] i) f=au6 r->P r:=
 bU (by simpa using h) fun y e=>k y (by
  have:=wU e;simp only[avu,awK,or_false] at this;rcases this with rfl|rfl|rfl
  ·exact q.1
  ·exact q.2.1
  ·exact q.2.2)
theorem T1 {t:Int} {y z:bN} (h:l4 t y z):z.busy=y.busy/\z.cH=y.cH:=by
 obtain ⟨_,_,rfl,_⟩:=h;exact ⟨rfl,rfl⟩
theorem abY {c:dx} {s:List (List Int)} (h:0<c.aP.length) (a:c.aP.length<=24) (b:s.length=c.aP.length) (d:∀t∈s,t=[]):df c (bN.mk [] s [] ava (gi.mk [] (cV.mk [] 0) (g7.mk (e4.mk 0 []) []) 0 [] 0) ava):=by
 unfold df nP lx dI;refine ⟨h,b,⟨by simp only;omega,fun t aw=> ?_⟩,by simp,by simp,by simp,nofun,by simp,by simp,by simp,by simp,by simp,by simp⟩;rw[d t aw];simp
theorem ab0 {c:dx} {y:bN} (h:df c y):y.cH.length<=8:=by
 unfold df nP lx at h;exact h.2.2.2.2.1
theorem asV (y:bN):bN.mk y.cv y.aP y.cH y.busy y.bJ y.dF=y:=rfl
variable {N:Nat} (aq:5000000000<N)
include aq
theorem ao9 {x0:List ep} {J:List cb} {al:List Int} (U:∀t∈x0,0<=t.a) (aa:x0.length<=1000000) (ap:J.length<=1000000) (aN:al.length<=1000000) (bK:∀w∈J,w.dest.length<=1000000) {n:Nat} {a9:Int}:(0<=a9)->(a9<=(x0.length:Int))->((x0.length:Int) - a9<n)->aH (CA N x0 J al n a9) fun r=>True:=by
 induction n generalizing a9 with
 |zero=>intros;exfalso;grind -mbtc
 |succ n ar=>intros;rw[CA];(repeat' with_reducible first|intro _|apply aF (ahb aq ..)|apply b8 (ar ..)|apply bU|refine bE (by omega) ?_|apply bn|apply bs|apply aW|apply aK)<;>clear ar<;>grind -mbtc
theorem aha {x0:List ep} {J:List cb} {al:List Int} (U:x0.length<=1000000) (aa:J.length<=1000000) (ap:al.length<=1000000) (aN:∀w∈J,w.dest.length<=1000000):aH (LC N x0 J al) fun r=>True:=by
 rw[LC];(repeat' with_reducible first|intro _|apply aF (QA aq ..)|apply dU (ao9 aq ..)|apply aF (ZH aq ?_)|apply aW|apply aK)<;>grind -mbtc
theorem apk {bc:List Int} {cI:Int} (U:0<=cI) (aa:cI<bc.length) (ap:bc.length<=1000000):aH (J1 N bc cI) fun r=>True:=by
 rw[J1];(repeat' with_reducible first|intro _|apply bU|refine bE (by omega) ?_|apply bs|apply aW|apply aK)<;>grind -mbtc
theorem apj {an:bX} {bc:List Int} (U:bc.length<=1000000) {n:Nat} {ax:js} {cD:(List Int)} {cI:Int}:(0<=cI)->(cI<=(bc.length:Int))->((bc.length:Int) - cI<n)->(cD.length<=cI)->aH (CG N an bc n ax cD cI) fun r=>∀a,r= .inl a->a.2.length<=1000000:=by
 induction n generalizing ax cD cI with
 |zero=>intros;exfalso;grind -mbtc
 |succ n ar=>intros;rw[CG];(repeat' with_reducible first|intro _|apply aF (apk aq ..)|apply b8 (ar ..)|apply dW|apply bU|refine bE (by omega) ?_|apply bn|apply bs|apply aW|apply aK)<;>clear ar<;>grind -mbtc
theorem agE {x0:dx} {J:bX} {al:List cb} (U:od x0) (aa:J.name.length<=1000000) (ap:J.cw.length<=1000000) (aN:∀d∈J.cw,d.length<=1000000) (bK:al.length<=1000000) (ed:∀w∈al,w.dest.length<=1000000):aH (LG N x0 J al) fun r=>True:=by
 rw[LG];(repeat' with_reducible first|intro _|apply aF (ahV aq ?_)|apply aF (ag' aq ..)|apply aF (aha aq ..)|apply aF (agX aq ..)|apply dU (apj aq ..)|apply aF (agF aq ..)|apply dW|apply bn|apply aW|apply aK)<;>grind -mbtc
theorem agf {x0:bw} {J al:Int} {cr:List dj} (U:df x0.c x0.y) (aa:cr.length<=1000000):aH (Kz N x0 J al cr) fun r=>r.2.1.length<=cr.length+1/\r.2.2.c=x0.c/\r.2.2.e=x0.e/\df x0.c r.2.2.y/\(∀W,J∈W->kN W x0.y r.2.2.y)/\l4 al x0.y r.2.2.y:=by
 rw[Kz];simp only[fR];(repeat' with_reducible first|intro _|apply aF (Ac aq ..)|apply aF (tr aq ..)|apply aF (Ab aq ?_)|apply dW|apply aW|apply aK)<;>first|grind -mbtc [df]|grind -mbtc [ym,yl,ss,sr,df]
theorem amv {x0:bw} {ax:List Int} (U:ax.length<=40000) (aa:∀i∈ax,0<=i/\i<x0.y.cv.length) (ap:∀w∈x0.y.cv,w.dest.length<=1000000) {n:Nat} {ah:(List cb)} {aB:Int}:(0<=aB)->(aB<=(ax.length:Int))->((ax.length:Int) - aB<n)->(ah.length<=aB)->(∀w∈ah,w.dest.length<=1000000)->aH (As N x0 ax n ah aB) fun r=>r.length<=40000/\∀w∈r,w.dest.length<=1000000:=by
 induction n generalizing ah aB with
 |zero=>intros;exfalso;grind -mbtc
 |succ n ar=>intros;rw[As];(repeat' with_reducible first|intro _|apply b8 (ar ..)|apply dW|apply bU|refine bE (by omega) ?_|apply bn|apply bs|apply aW|apply aK)<;>clear ar<;>grind -mbtc
theorem amw {ax:List Int} (U:ax.length<=40000) {n:Nat} {x0:bw} {a9:Int} {cr:(List dj)}:(0<=a9)->(a9<=(ax.length:Int))->((ax.length:Int) - a9<n)->(df x0.c x0.y)->(cr.length<=1000+a9)->aH (At N ax n x0 a9 cr) fun r=>r.1.c=x0.c/\df x0.c r.1.y/\l4 (-1) x0.y r.1.y:=by
 induction n generalizing x0 a9 cr with
 |zero=>intros;exfalso;grind -mbtc
 |succ n ar=>intros;rw[At];(repeat' with_reducible first|intro _|apply aF (agf aq ..)|apply b8 (ar ..)|apply bU|refine bE (by omega) ?_|apply bn|apply bs|apply aW|apply aK)<;>clear ar<;>first|grind -mbtc|grind -mbtc [Mo,sr]
theorem amu {n:Nat} {x0:bw} {ak:Int} {gC:(List bX)} {cr:(List dj)}:(0<=ak)->(ak<=(gC.length:Int))->((gC.length:Int) - ak<n)->(df x0.c (bN.mk x0.y.cv x0.y.aP gC x0.y.busy x0.y.bJ x0.y.dF))->(od x0.c)->(x0.y.busy=ava)->(cr.length<=1000)->aH (Ar N n x0 ak gC cr) fun r=>∀a,r= .inr a->a.2.1=0->a.1.c=x0.c/\df x0.c a.1.y/\a.1.y.busy=ava:=by
 induction n generalizing x0 ak gC cr with
 |zero=>intros;exfalso;grind -mbtc
 |succ n ar=>intros;rw[Ar];(repeat' with_reducible first|intro _|apply ab9|apply aF (agE aq ..)|apply aF (amv aq ..)|apply aF (amw aq ..)|apply b8 (ar ..)|apply dW|apply bU|apply p6|apply D8|apply wg|refine bE (by omega) ?_|apply bn|apply bs|apply aW|apply aK)<;>clear ar<;>((try dsimp only at*)<;>first|grind -mbtc [df]|grind -mbtc [df,->T1]|grind -mbtc [ab1,->T1,->ab0])
theorem ahc {x0:bw} {gC:List bX} {cr:List dj} (U:df x0.c (bN.mk x0.y.cv x0.y.aP gC x0.y.busy x0.y.bJ x0.y.dF)) (aa:od x0.c) (ap:cr.length<=1000):aH (KN N x0 gC cr) fun r=>r.1=0->r.2.2.c=x0.c/\df x0.c r.2.2.y/\h8 r.2.2.y:=by
 rw[KN];(repeat' with_reducible first|intro _|apply dU (amu aq ..)|apply aW|apply aK)<;>((try dsimp only at*)<;>first|grind -mbtc|grind -mbtc [df]|grind -mbtc [h8])
theorem ap7 {aG:bw} {a3 fk:Int} {oX:List cb} {oY:List bX} {pQ:List dj} {pR:List da} (U:df aG.c (bN.mk oX aG.y.aP oY aG.y.busy aG.y.bJ aG.y.dF)) (aa:h8 (bN.mk oX aG.y.aP oY aG.y.busy aG.y.bJ aG.y.dF)) (ap:jg aG.e) (aN:od aG.c) (bK:pQ=[]) (ed:pR=[]) (hg:a3≠0):aH (I4 N aG a3 fk oX oY pQ pR) fun r=>r.2=0->df aG.c r.1.y/\h8 r.1.y:=by
 rw[I4];(repeat' with_reducible first|intro _|apply aF (afW aq ..)|apply aF (ahc aq ..)|apply aF (agN aq ..)|apply aF (ahq aq ..)|apply aF (agO aq ..)|apply aF (ahf aq ..)|apply aF (agP aq ..)|apply bn|apply aW|apply aK)<;>((try dsimp only at*)<;>first|grind -mbtc|grind -mbtc [df,h8])
theorem ZL {x0:dx} {J:bN} {al:bj} (U:df x0 J) (aa:h8 J) (ap:jg al) (aN:od x0):aH (DC N x0 J al) fun r=>df x0 r.1/\h8 r.1:=by
 rw[DC];(repeat' with_reducible first|intro _|apply aF (ahY aq ?_)|apply aF (ap7 aq ..)|apply aW|apply aK)<;>((try dsimp only at*)<;>first|grind -mbtc [asV]|(simp_all;done)|grind -mbtc [df])
theorem akS {al aV:Int}:aH (HH N al aV) fun r=>r=au7->aV<3:=by
 rw[HH];(repeat' with_reducible first|intro _|apply bs|apply aW|apply aK)<;>grind -mbtc
theorem akR {al:Int} {an:dx} (U:od an) {n:Nat} {x0:cA} {aB:bN} {a3:(List bj)} {aV:Int}:(0<=aV)->(aV<=3)->(3 - aV<n)->(0<=x0.n)->(x0.n+3000*(3 - aV)<=500000000000)->(df an aB)->(h8 aB)->(a3.length<=1000+aV)->(∀e∈a3,jg e)->aH (AG N al an n x0 aB a3 aV) fun r=>x0.n<=r.1.n/\r.1.n<=x0.n+3000*(3 - aV)/\df an r.2.1/\h8 r.2.1/\(r.2.2.length:Int)<=a3.length+3 - aV/\∀e∈r.2.2,jg e:=by
 induction n generalizing x0 aB a3 aV with
 |zero=>intros;exfalso;grind -mbtc
 |succ n ar=>intros;rw[AG];(repeat' with_reducible first|refine ab' (Q:=jg) ?_ ?_ fun _ _=> ?_|refine aF (ZL aq ?_ ?_ ?_ ?_) fun _ _ _=> ?_|refine aF (Z5 aq ?_ ?_ ?_) fun _ _ _=> ?_|refine aF (akS aq) fun _ _ _=> ?_|refine b8 (ar ?_ ?_ ?_ ?_ ?_ ?_ ?_ ?_ ?_) (fun _ _=> ?_)|refine dW ?_ fun _ _=> ?_|refine bU ?_ fun _ _=> ?_|refine bE (by omega) ?_|refine bn fun _ _=> ?_|refine aW (fun _=> ?_) fun _=> ?_|refine aK ?_)<;>clear ar<;>first|grind -mbtc|exact ⟨by simp[jg],by simp[jg],by grind -mbtc⟩|grind -mbtc [df]
theorem akT {an:dx} (U:od an) {n:Nat} {x0:cA} {aB:bN} {a3:(List bj)} {a9:Int}:(0<=a9)->(a9<n)->(0<=x0.n)->(x0.n+3000*a9<=500000000000)->(df an aB)->(h8 aB)->(a3.length+a9<=10000)->(∀e∈a3,jg e)->aH (AH N an n x0 aB a3 a9) fun r=>x0.n<=r.1.n/\r.1.n<=x0.n+3000*a9/\r.2.length<=a3.length+a9/\∀e∈r.2,jg e:=by
 induction n generalizing x0 aB a3 a9 with
 |zero=>intros;exfalso;grind -mbtc
 |succ n ar=>intros;rw[AH];(repeat' with_reducible first|intro _|apply aF (ZL aq ..)|apply aF (Z5 aq ..)|apply b8 (ar ..)|apply dW|refine bE (by omega) ?_|apply bn|apply bs|apply aW|apply aK)<;>clear ar<;>first|grind -mbtc|grind -mbtc [df]
theorem afS {x0:cA} {J:dx} {al:Int} (U:od J) (aa:0<=al) (ap:al<=100) (aN:0<=x0.n) (bK:x0.n<=100000000):aH (KJ N x0 J al) fun r=>x0.n<=r.2.n/\r.2.n<=x0.n+1000000/\r.1.length<=200/\∀e∈r.1,jg e:=by
 rw[KJ];(repeat' with_reducible first|intro _|apply aF (iY aq ..)|apply aF (ah6 aq ?_)|apply aF (akR aq ..)|apply aF (akT aq ..)|refine bE (by omega) ?_|apply aW|apply aK)<;>first|grind -mbtc|grind -mbtc [abY,h8]
end Go.W
end
section
set_option maxHeartbeats 2000000
namespace Go.W
open Go.av
variable {N:Nat} (aq:5000000000<N)
include aq
theorem ahu {x0:Int}:aH (K6 N x0) fun r=>r.length=3:=by
 rw[K6];(repeat' with_reducible first|intro _|apply l5|apply wg|refine bE (by omega) ?_|apply bn|apply aK)<;>grind -mbtc
theorem al9 {n:Nat} {x0:cA} {ak:(List gw)} {an:Int}:(0<=an)->(an<=1000)->(an<n)->(0<=x0.n)->(x0.n+3*an<=20000000)->(ak.length+an<=10000)->aH (Bt N n x0 ak an) fun r=>x0.n<=r.1.n/\r.1.n<=x0.n+3*an/\r.2.length<=10000:=by
 induction n generalizing x0 ak an with
 |zero=>intros;exfalso;grind -mbtc
 |succ n ar=>intros;rw[Bt];(repeat' with_reducible first|intro _|apply aF (tq aq ..)|apply b8 (ar ..)|apply dW|refine bE (by omega) ?_|apply bn|apply bs|apply aW|apply aK)<;>clear ar<;>first|grind -mbtc|grind -mbtc (gen:=20) (ematch:=20)
theorem ahk {x0:cA} (U:0<=x0.n) (aa:x0.n<=10000000):aH (KW N x0) fun r=>x0.n<=r.2.n/\r.2.n<=x0.n+50/\r.1.length<=10000:=by
 rw[KW];(repeat' with_reducible first|intro _|apply aF (iY aq ..)|apply aF (al9 aq ..)|apply aK)<;>grind -mbtc
theorem alG {x0:cA} {ah:ep} {a9:Int} (U:0<=x0.n) (aa:x0.n<=20000001):aH (IM N x0 ah a9) fun r=>x0.n<=r.1.n/\r.1.n<=x0.n+3:=by
 rw[IM];(repeat' with_reducible first|intro _|apply aF (iY aq ..)|apply aF (tq aq ..)|apply bn|apply aW|apply aK)<;>first|grind -mbtc|grind -mbtc (gen:=20) (ematch:=20)
theorem ahs {x0:cA} {J:Int} (U:0<=x0.n) (aa:x0.n<=20000000):aH (K4 N x0 J) fun r=>x0.n<=r.2.n/\r.2.n<=x0.n+4:=by
 rw[K4];(repeat' with_reducible first|intro _|apply aF (iY aq ..)|apply aF (alG aq ..)|refine bE (by omega) ?_|apply aK)<;>grind -mbtc
theorem al8 {n:Nat} {x0:cA} {ah:(List ep)} {ax:Int}:(0<=ax)->(ax<=1000)->(ax<n)->(0<=x0.n)->(x0.n+5*ax<=20000000)->(ah.length+ax<=10000)->aH (Bs N n x0 ah ax) fun r=>x0.n<=r.1.n/\r.1.n<=x0.n+5*ax/\r.2.length<=10000:=by
 induction n generalizing x0 ah ax with
 |zero=>intros;exfalso;grind -mbtc
 |succ n ar=>intros;rw[Bs];(repeat' with_reducible first|intro _|apply aF (iY aq ..)|apply aF (ahs aq ..)|apply b8 (ar ..)|apply dW|refine bE (by omega) ?_|apply bn|apply bs|apply aW|apply aK)<;>clear ar<;>grind -mbtc
theorem ahj {x0:cA} {J:Int} (U:0<=x0.n) (aa:x0.n<=10000000) (ap:0<=J) (aN:J<=500):aH (KV N x0 J) fun r=>x0.n<=r.2.n/\r.2.n<=x0.n+5000/\r.1.length<=10000:=by
 rw[KV];(repeat' with_reducible first|intro _|apply aF (iY aq ..)|apply aF (al8 aq ..)|refine bE (by omega) ?_|apply aK)<;>grind -mbtc
theorem akO {n:Nat} {x0:cA} {ah:dx} {ax:Int} {nA:(List hS)}:(0<=ax)->(ax<=1000)->(ax<n)->(0<=x0.n)->(x0.n+ax<=20000000)->(nA.length+ax<=10000)->(∀t∈nA,t.name.length=3)->aH (AF N n x0 ah ax nA) fun r=>x0.n<=r.1.n/\r.1.n<=x0.n+ax/\r.2.2.length<=10000/\r.2.1.rules=ah.rules/\∀t∈r.2.2,t.name.length=3:=by
 induction n generalizing x0 ah ax nA with
 |zero=>intros;exfalso;grind -mbtc
 |succ n ar=>intros;rw[AF];(repeat' with_reducible first|intro _|apply aF (tq aq ..)|apply aF (ahu aq)|apply b8 (ar ..)|apply dW|refine bE (by omega) ?_|apply bn|apply bs|apply aW|apply aK)<;>clear ar<;>first|grind -mbtc|grind -mbtc (gen:=20) (ematch:=20)
theorem akP {x0:cA} {J:Bool} (U:0<=x0.n) (aa:x0.n<=10000000):aH (HF N x0 J) fun r=>x0.n<=r.1.n/\r.1.n<=x0.n+1:=by
 rw[HF];(repeat' with_reducible first|intro _|apply aF (iY aq ..)|apply aW|apply aK)<;>grind -mbtc
theorem akQ {x0:cA} {ah:dx} {tE:Bool} {nA:List hS} {kl:List gw} (U:0<=x0.n) (aa:x0.n<=10000000) (ap:ah.rules.length<=10000):aH (HG N x0 ah tE nA kl) fun r=>x0.n<=r.1.n/\r.1.n<=x0.n+5000/\r.2.1.rules.length<=10000/\r.2.2.1=nA/\r.2.2.2=kl:=by
 rw[HG];(repeat' with_reducible first|intro _|apply aF (ahj aq ..)|apply aW|apply aK)<;>grind -mbtc
theorem afR {x0:cA} {J:Bool} (U:0<=x0.n) (aa:x0.n<=1000):aH (KI N x0 J) fun r=>x0.n<=r.2.n/\r.2.n<=x0.n+10000/\od r.1:=by
 rw[KI];(repeat' with_reducible first|intro _|apply aF (iY aq ..)|apply aF (tq aq ..)|apply aF (akO aq ..)|apply aF (akP aq ..)|apply aF (akQ aq ..)|apply aF (ahk aq ..)|apply dW|refine bE (by omega) ?_|apply bn|apply aK)<;>first|grind -mbtc|grind -mbtc [od,nG]
end Go.W
end
section
set_option maxHeartbeats 2000000
namespace Go.W
open Go.av
structure lq (e:bj):Prop where
 cz:e.data.length<=300000
 dw:e.aP.length<=1000
 ft:e.cQ.length<=1000
 hK:e.order.cw.length<=300
 q5:e.order.name.length<=300000
 p4:e.name.length<=300000
 o8:∀d∈e.order.cw,d.length<=300
attribute [grind->] lq.cz lq.dw lq.ft lq.hK lq.q5 lq.p4 lq.o8
theorem lq.of {e:bj} (h:kU e) (b:ly e.kind e=ava):lq e:=by
 obtain ⟨U,aa,ap⟩:=h;obtain ⟨eA,_⟩:=Mw b;obtain ⟨k,t,o,c,w,ts,oT,⟨n,kD,ds⟩,kC,nQ⟩:=e;simp only at U aa ap eA;rcases zb U aa with rfl|rfl|rfl|rfl|rfl|rfl|rfl<;>simp[tZ] at ap<;>simp[mr,rF,ni,uU,uT] at eA<;>(constructor<;>simp_all<;>first|omega|(intro d aO;have:=eA.2 d aO;omega))
theorem ml (a:Int):[a].any fe=fe a:=by simp
theorem jF (a b:Int):[a,b].any fe=(fe a||fe b):=by simp
theorem hA (a b c:Int):[a,b,c].any fe=(fe a||fe b||fe c):=by simp[Bool.or_assoc]
variable {N:Nat} (aq:5000000000<N)
include aq
theorem amb {x0:Int}:aH (IK N x0) fun r=>r=decide (1<=x0/\x0<=7):=by
 rw[IK];(repeat' with_reducible first|intro _|apply bn|apply bs|apply aW|apply aK)<;>grind -mbtc
theorem aho {x0:Int}:aH (K0 N x0) fun r=>r=decide (1<=x0/\x0<=7):=by
 rw[K0];(repeat' with_reducible first|intro _|apply aF (amb aq)|apply aK)<;>grind -mbtc
theorem anl {an:Int} {de:Bool}:aH (IY N an de) fun r=>(r=au7↔de=au7\/an=5):=by
 rw[IY];(repeat' with_reducible first|intro _|apply bn|apply aW|apply aK)<;>grind -mbtc
theorem ank {J:bj} {an:Int} (U:an=J.kind):aH (IX N J an) fun r=>r=vr J.kind J:=by
 rw[IX];(repeat' with_reducible first|intro _|apply aF (anl aq)|apply bn|apply aW|apply aK)<;>first|grind -mbtc|grind -mbtc [vr]
theorem ahz {x0:bj}:aH (Lb N x0) fun r=>r=vr x0.kind x0:=by
 rw[Lb];(repeat' with_reducible first|intro _|apply aF (ank aq ?_)|apply aK)<;>grind -mbtc
theorem anm {ak:bX}:aH (IZ N ak) fun r=>(r=au7↔ak.name=[]/\ak.bC=0/\ak.cw=[]):=by
 rw[IZ];(repeat' with_reducible first|intro _|apply bn|apply Fa|apply aW|apply aK)<;>first|grind -mbtc|(simp_all;done)
theorem ann {J:bj} {an:Bool}:aH (I0 N J an) fun r=>(r=au7↔J.bC=0/\J.to=0/\J.count=0/\J.cE=0/\J.aP=[]/\J.cQ=[]/\an=au7/\J.name=[]/\J.data=[]):=by
 rw[I0];(repeat' with_reducible first|intro _|apply bn|apply Fa|apply aW|apply aK)<;>first|grind -mbtc|(simp_all;done)
theorem ahA {x0:bj}:aH (Lc N x0) fun r=>(r=au7↔vm x0):=by
 rw[Lc];(repeat' with_reducible first|intro _|apply aF (anm aq)|apply aF (ann aq)|apply aK)<;>grind -mbtc [vm]
theorem aq9 {x0:cF} {J:Int}:aH (KE N x0 J) fun r=>r=cF.mk [] (x0.bad||jW J):=by
 rw[KE];repeat' (with_reducible first|intro _|apply bs|apply aW|apply aK)
 all_goals simp_all [jW]<;>omega
theorem Qr {x0:cF} {J:Int} {fE:List UInt8} (U:fE.length<=3000000000):aH (tI N x0 J fE) fun r=>r.1=fE++[eA J]/\r.2=cF.mk [] (x0.bad||jW J):=by
 rw[tI];(repeat' with_reducible first|intro _|apply pa|apply aF (aq9 aq)|apply l5|apply dW|apply aK)<;>grind -mbtc
theorem aqq {x0:cF} {ah:Int}:aH (KB N x0 ah) fun r=>r=cF.mk [] (x0.bad||fe ah):=by
 rw[KB];repeat' (with_reducible first|intro _|apply bs|apply aW|apply aK)
 all_goals simp_all [fe]<;>omega
theorem aqp {ax:List Int} {aB:Int} (U:aB=ax.length) (aa:ax.length<=1000000) {n:Nat} {x0:cF} {aG:Int} {fE:(List UInt8)}:(0<=aG)->(aG<=aB)->(aB - aG<n)->(fE.length+2*(aB - aG)<=3500000000)->aH (Db N ax aB n x0 aG fE) fun r=>r.2=fE++(ax.drop aG.toNat).flatMap gq/\r.1=cF.mk [] (x0.bad||(ax.drop aG.toNat).any fe):=by
 induction n generalizing x0 aG fE with
 |zero=>intros;exfalso;grind -mbtc
 |succ n ar=>intros;rw[Db];(repeat' with_reducible first|intro _|apply pa|apply aF (aqq aq)|apply b8 (ar ..)|apply l5|apply dW|apply bU|refine bE (by omega) ?_|apply bs|apply aW|apply aK)<;>clear ar<;>first|grind -mbtc|grind -mbtc [gq]
theorem afN {x0:cF} {J:List Int} {fE:List UInt8} (U:J.length<=1000000) (aa:fE.length<=3000000000):aH (tH N x0 J fE) fun r=>r.1=fE++J.flatMap gq/\r.2=cF.mk [] (x0.bad||J.any fe):=by
 rw[tH];(repeat' with_reducible first|intro _|apply aF (aqp aq ..)|apply aK)<;>grind -mbtc
theorem ahh {x0:cF} {J fE:List UInt8} (U:J.length<=2000000) (aa:fE.length<=3000000000):aH (Dg N x0 J fE) fun r=>r.1=fE++j0 J/\r.2=cF.mk [] (x0.bad||jW J.length):=by
 rw[Dg];(repeat' with_reducible first|intro _|apply aF (Qr aq ?_)|apply dW|apply aK)<;>first|grind -mbtc|grind -mbtc [j0]
theorem alf {x0:cF} {J:Int}:aH (HB N x0 J) fun r=>r=cF.mk [] (x0.bad||jW J):=by
 rw[HB];repeat' (with_reducible first|intro _|apply bs|apply aW|apply aK)
 all_goals simp_all [jW]<;>omega
theorem agk {x0:cF} {J:Int} {fE:List UInt8} (U:fE.length<=3000000000):aH (KD N x0 J fE) fun r=>r.1=fE++[eA J]/\r.2=cF.mk [] (x0.bad||jW J):=by
 rw[KD];(repeat' with_reducible first|intro _|apply pa|apply aF (alf aq)|apply l5|apply dW|apply aK)<;>grind -mbtc
theorem afQ {x0:cF} {J fE:List UInt8} (U:J.length<=2000000) (aa:fE.length<=3000000000):aH (KH N x0 J fE) fun r=>r.1=fE++j0 J/\r.2=cF.mk [] (x0.bad||jW J.length):=by
 rw[KH];(repeat' with_reducible first|intro _|apply aF (agk aq ?_)|apply dW|apply aK)<;>first|grind -mbtc|grind -mbtc [j0]
theorem ak5 {x0:cF} {ah:Int}:aH (Ht N x0 ah) fun r=>r=cF.mk [] (x0.bad||fe ah):=by
 rw[Ht];repeat' (with_reducible first|intro _|apply bs|apply aW|apply aK)
 all_goals simp_all [fe]<;>omega
theorem ak4 {ax:List Int} {aB:Int} (U:aB=ax.length) (aa:ax.length<=1000000) {n:Nat} {x0:cF} {aG:Int} {fE:(List UInt8)}:(0<=aG)->(aG<=aB)->(aB - aG<n)->(fE.length+2*(aB - aG)<=3500000000)->aH (Ay N ax aB n x0 aG fE) fun r=>r.2=fE++(ax.drop aG.toNat).flatMap gq/\r.1=cF.mk [] (x0.bad||(ax.drop aG.toNat).any fe):=by
 induction n generalizing x0 aG fE with
 |zero=>intros;exfalso;grind -mbtc
 |succ n ar=>intros;rw[Ay];(repeat' with_reducible first|intro _|apply pa|apply aF (ak5 aq)|apply b8 (ar ..)|apply l5|apply dW|apply bU|refine bE (by omega) ?_|apply bs|apply aW|apply aK)<;>clear ar<;>first|grind -mbtc|grind -mbtc [gq]
theorem agh {x0:cF} {J:List Int} {fE:List UInt8} (U:J.length<=1000000) (aa:fE.length<=3000000000):aH (KA N x0 J fE) fun r=>r.1=fE++J.flatMap gq/\r.2=cF.mk [] (x0.bad||J.any fe):=by
 rw[KA];(repeat' with_reducible first|intro _|apply aF (ak4 aq ..)|apply aK)<;>grind -mbtc
theorem amk {J:bj}:aH (HN N J) fun r=>(r=ava↔kU J):=by
 rw[HN];(repeat' with_reducible first|intro _|apply aF (aho aq)|apply aF (ahz aq)|apply aF (ahA aq)|apply aW|apply aK)<;>first|grind -mbtc|grind -mbtc [Ke]|grind -mbtc [Ke,kU]
theorem amm {nB:List (List UInt8)} {tF:Int} (U:tF=nB.length) (aa:nB.length<=1000) (ap:∀d∈nB,d.length<=1100000) {n:Nat} {an:cF} {o1:Int} {iK:(List UInt8)}:(0<=o1)->(o1<=tF)->(tF - o1<n)->(iK.length+1100001*(tF - o1)<=2000000000)->aH (Am N nB tF n an o1 iK) fun r=>r.2=iK++(nB.drop o1.toNat).flatMap j0/\r.1=cF.mk [] (an.bad||(nB.drop o1.toNat).any rF):=by
 induction n generalizing an o1 iK with
 |zero=>intros;exfalso;grind -mbtc
 |succ n ar=>intros;rw[Am];(repeat' with_reducible first|intro _|apply aF (afQ aq ..)|apply b8 (ar ..)|apply bU|refine bE (by omega) ?_|apply bs|apply aW|apply aK)<;>clear ar<;>first|grind -mbtc|grind -mbtc [j0,rF]
theorem amn {iC:Int} {C5:Bool}:aH (HP N iC C5) fun r=>(r=au7↔C5=au7\/iC=5):=by
 rw[HP];(repeat' with_reducible first|intro _|apply bn|apply aW|apply aK)<;>grind -mbtc
theorem amo {tB:List er} {tC:Int} (U:tC=tB.length) (aa:tB.length<=1000) {n:Nat} {an:cF} {oW:Int} {iK:(List UInt8)}:(0<=oW)->(oW<=tC)->(tC - oW<n)->(iK.length+4*(tC - oW)<=110000000)->aH (An N tB tC n an oW iK) fun r=>r.2=iK++(tB.drop oW.toNat).flatMap oU/\r.1=cF.mk [] (an.bad||(tB.drop oW.toNat).any ni):=by
 induction n generalizing an oW iK with
 |zero=>intros;exfalso;grind -mbtc
 |succ n ar=>intros;rw[An];(repeat' with_reducible first|intro _|apply aF (agh aq ..)|apply b8 (ar ..)|apply bU|refine bE (by omega) ?_|apply bs|apply aW|apply aK)<;>clear ar<;>first|grind -mbtc|grind -mbtc [oU,gq,ni,f2,jF]
theorem aml {J:bj} {an:cF} {iC:Int} {iK:List UInt8} (U:m3 J) (aa:an.bad=ava) (ap:1<=iC) (aN:iC<=7) (bK:iK.length<=10):aH (HO N J an iC iK) fun r=>r.2=iK++kY iC J/\r.1.bad=ly iC J:=by
 rw[HO];(repeat' with_reducible first|intro _|apply aF (amm aq ..)|apply aF (amn aq)|apply aF (amo aq ..)|apply aF (Qr aq ?_)|apply aF (afN aq ..)|apply aF (ahh aq ..)|apply dW|apply bn|apply aW|apply aK)<;>first|grind -mbtc|grind -mbtc [kY,ly,mr,j0,gq,f1,f2,f3,ml,jF,hA]
theorem afV {x0:bj} (U:m3 x0):aH (KL N x0) fun r=>tO x0 r:=by
 rw[KL];(repeat' with_reducible first|intro _|apply aF (amk aq)|apply aF (aml aq ..)|apply aF (Qr aq ?_)|apply aW|apply aK)<;>first|grind -mbtc|grind -mbtc [enc,kU,uU,tO]
theorem aoP {x0 J:List Int} (U:x0.length<=1000000) (aa:x0.length=J.length) {n:Nat} {ah:Int}:(0<=ah)->(ah<=(x0.length:Int))->((x0.length:Int) - ah<n)->aH (BY N x0 J n ah) fun r=>x0=J->r= .inl ():=by
 induction n generalizing ah with
 |zero=>intros;exfalso;grind -mbtc
 |succ n ar=>intros;rw[BY];(repeat' with_reducible first|intro _|apply b8 (ar ..)|apply bU|refine bE (by omega) ?_|apply bn|apply bs|apply aW|apply aK)<;>clear ar<;>grind -mbtc
theorem agJ {x0 J:List Int} (U:x0.length<=1000000):aH (LL N x0 J) fun r=>x0=J->r=au7:=by
 rw[LL];(repeat' with_reducible first|intro _|apply dU (aoP aq ..)|apply aW|apply aK)<;>grind -mbtc
theorem aoo {x0 J:List UInt8} (U:x0.length<=1000000) (aa:x0.length=J.length) {n:Nat} {ah:Int}:(0<=ah)->(ah<=(x0.length:Int))->((x0.length:Int) - ah<n)->aH (Bh N x0 J n ah) fun r=>x0=J->r= .inl ():=by
 induction n generalizing ah with
 |zero=>intros;exfalso;grind -mbtc
 |succ n ar=>intros;rw[Bh];(repeat' with_reducible first|intro _|apply b8 (ar ..)|apply bU|refine bE (by omega) ?_|apply bn|apply bs|apply aW|apply aK)<;>clear ar<;>grind -mbtc
theorem aag {x0 J:List UInt8} (U:x0.length<=1000000):aH (Dr N x0 J) fun r=>x0=J->r=au7:=by
 rw[Dr];(repeat' with_reducible first|intro _|apply dU (aoo aq ..)|apply aW|apply aK)<;>grind -mbtc
theorem alO {x0 J:List (List UInt8)} (U:x0.length<=1000000) (aa:x0.length=J.length) {n:Nat} {ah:Int}:(0<=ah)->(ah<=(x0.length:Int))->((x0.length:Int) - ah<n)->aH (Bz N x0 J n ah) fun r=>x0=J->r= .inl ():=by
 induction n generalizing ah with
 |zero=>intros;exfalso;grind -mbtc
 |succ n ar=>intros;rw[Bz];(repeat' with_reducible first|intro _|apply b8 (ar ..)|apply bU|refine bE (by omega) ?_|apply bn|apply bs|apply aW|apply aK)<;>clear ar<;>grind -mbtc
theorem ahw {x0 J:List (List UInt8)} (U:x0.length<=1000000):aH (K8 N x0 J) fun r=>x0=J->r=au7:=by
 rw[K8];(repeat' with_reducible first|intro _|apply dU (alO aq ..)|apply aW|apply aK)<;>grind -mbtc
theorem ak3 {x0 J:List bX} {ah:Int} (U:0<=ah) (aa:ah<x0.length) (ap:0<=ah) (aN:ah<J.length) (bK:∀o∈x0,o.cw.length<=1000000):aH (Hs N x0 J ah) fun r=>x0=J->r=ava:=by
 rw[Hs];(repeat' with_reducible first|intro _|apply aF (ahw aq ?_)|apply bU|apply aW|apply aK)<;>grind -mbtc
theorem ak2 {x0 J:List bX} (U:x0.length<=1000000) (aa:x0.length=J.length) (ap:∀o∈x0,o.cw.length<=1000000) {n:Nat} {ah:Int}:(0<=ah)->(ah<=(x0.length:Int))->((x0.length:Int) - ah<n)->aH (Ax N x0 J n ah) fun r=>x0=J->r= .inl ():=by
 induction n generalizing ah with
 |zero=>intros;exfalso;grind -mbtc
 |succ n ar=>intros;rw[Ax];(repeat' with_reducible first|intro _|apply aF (ak3 aq ..)|apply b8 (ar ..)|refine bE (by omega) ?_|apply bn|apply bs|apply aW|apply aK)<;>clear ar<;>grind -mbtc
theorem age {x0 J:List bX} (U:x0.length<=1000000) (aa:∀o∈x0,o.cw.length<=1000000):aH (Ky N x0 J) fun r=>x0=J->r=au7:=by
 rw[Ky];(repeat' with_reducible first|intro _|apply dU (ak2 aq ..)|apply aW|apply aK)<;>grind -mbtc
theorem ak0 {al ak:bj} (U:lq al):aH (Hr N al ak) fun r=>(al=ak->r=ava)/\(r=ava->al.cQ.length=ak.cQ.length):=by
 rw[Hr];(repeat' with_reducible first|intro _|apply aF (aag aq ?_)|apply aF (agJ aq ?_)|apply aW|apply aK)<;>grind -mbtc
theorem ak1 {al ak:bj} (U:lq al) (aa:al.cQ.length=ak.cQ.length) {n:Nat} {ah:Int}:(0<=ah)->(ah<=(al.cQ.length:Int))->((al.cQ.length:Int) - ah<n)->aH (Aw N al ak n ah) fun r=>al=ak->r= .inl ():=by
 induction n generalizing ah with
 |zero=>intros;exfalso;grind -mbtc
 |succ n ar=>intros;rw[Aw];(repeat' with_reducible first|intro _|apply b8 (ar ..)|apply bU|refine bE (by omega) ?_|apply bn|apply bs|apply aW|apply aK)<;>clear ar<;>grind -mbtc
theorem agd {x0 J:bj} (U:lq x0):aH (Kx N x0 J) fun r=>x0=J->r=au7:=by
 rw[Kx];(repeat' with_reducible first|intro _|apply aF (ak0 aq ?_)|apply dU (ak1 aq ..)|apply aF (age aq ..)|apply aW|apply aK)<;>grind -mbtc
theorem afU {x0:List UInt8} (U:x0.length<4294967296):aH (tJ N x0) fun r=>r=gS x0:=by
 rw[tJ];(repeat' with_reducible first|intro _|apply aW|apply aK)<;>grind -mbtc
end Go.W
end
section
set_option maxHeartbeats 2000000
namespace Go.W
open Go.av
@[grind=] theorem atj {e:bj} {i:Int} (h:kU e) (b:ly e.kind e=ava) (bf:0<=i) (a1:i<(enc e).length):gS (((enc e).take i.toNat).drop (Int.toNat 0))=(kQ 0,10):=acq h b (by omega)
theorem aaD (s:List UInt8):(j0 s).length=s.length+1:=rfl
theorem acK {e:bj} (h:lq e):(enc e).length<=900000:=by
 have cz:∀l:List Int,(l.flatMap gq).length=2*l.length:=fun l=>by induction l with
  |nil=>rfl
  |cons x l ar=>simp[ar,gq];omega
 have dw:∀l:List er,(l.flatMap oU).length=4*l.length:=fun l=>by induction l with
  |nil=>rfl
  |cons x l ar=>simp[ar,oU,gq];omega
 have ft:∀l:List (List UInt8),(∀d∈l,d.length<=300)->(l.flatMap j0).length<=301*l.length:=fun l h=>by induction l with
  |nil=>exact avm _
  |cons x l ar=>have:=ar fun d aO=>h d (List.mem_cons_of_mem _ aO);have:=h x List.mem_cons_self;rw[List.flatMap_cons,awa,awh,aaD];omega
 have c:=ft _ h.o8;have:=h.cz;have:=h.dw;have:=h.ft;have:=h.hK;have:=h.q5;have:=h.p4;unfold enc kY
 repeat' split
 all_goals simp only[awa,awh,cz,dw,gq,aaD,List.length_nil]
 all_goals omega
variable {N:Nat} (aq:5000000000<N)
include aq
theorem ah3 {x0:List Int}:aH (LY N x0) fun r=>r=cA.mk x0 0:=by
 rw[LY];(repeat' with_reducible first|intro _|apply aK)<;>grind -mbtc
theorem ZI:aH (Dy N) fun r=>r=au7:=by
 rw[Dy];(repeat' with_reducible first|intro _|apply aK)<;>grind -mbtc
end Go.W
end
section
set_option maxHeartbeats 2000000
namespace Go.W
open Go.av
def gM (x:eO):Option (List UInt8):=if x.short=au7 then au8 else au6 (x.b.drop x.at_.toNat)
def j7 (x:eO):Prop:=0<=x.at_/\x.at_<=x.b.length/\x.b.length<=1000000
structure fG {aA:Type} (f:List UInt8->Option (aA×List UInt8)) (x:eO) (v:aA) (y:eO):Prop where
 i:j7 y
 b:y.b=x.b
 e:au' (gM x) f=awz (fun s=>(v,s)) (gM y)
structure gE {aA:Type} (f:List UInt8->Option (aA×List UInt8)) (x:eO) (k:Int) (a o:List aA) (y:eO):Prop where
 i:j7 y
 b:y.b=x.b
 e:au' (gM x) (fun s=>awz (fun q=>(a++q.1,q.2)) (hb f k.toNat s))=awz (fun s=>(o,s)) (gM y)
section
variable {aA bO:Type} {f:List UInt8->Option (aA×List UInt8)} {x y z:eO} {k n:Int} {a a' o:List aA} {v:aA} {d:List UInt8}
theorem fG.go (h:fG f x v y) (K:aA×List UInt8->Option bO):au' (gM x) (fun b=>au' (f b) K)=au' (gM y) fun s=>K (v,s):=by
 have e:=h.e;cases ae:gM x with
 |none=>rw[ae] at e;cases aI:gM y with
  |none=>rfl
  |some s=>rw[aI] at e;cases e
 |some s=>rw[ae] at e;have e:f s=_:=e;show au' (f s) K=_;rw[e];cases gM y<;>rfl
theorem gE.zero (h:j7 x) (au:k<=0):gE f x k a a x:=⟨h,rfl,by rw[show k.toNat=0 by omega];cases gM x<;>simp[hb]⟩
theorem gE.short (h:j7 x) (aC:x.short=au7):gE f x k a a x:=by
 have e:gM x=au8:=if_pos aC;exact ⟨h,rfl,by rw[e];rfl⟩
theorem gE.step (au:0<k) (h:fG f x v y) (l:gE f y (k - 1) (a++[v]) o z):gE f x k a o z:=by
 refine ⟨l.i,l.b.trans h.b, ?_⟩;rw[show k.toNat=(k - 1).toNat+1 by omega,<-l.e];have e:(fun s=>awz (fun q=>(a++q.1,q.2)) (hb f ((k - 1).toNat+1) s))=fun s=>au' (f s) fun p=>awz (fun q=>(a++p.1::q.1,q.2)) (hb f (k - 1).toNat p.2):=by
  funext s;show awz _ (au' (f s) _)=_;cases f s with
  |none=>rfl
  |some p=>show awz _ (au' (hb f (k - 1).toNat p.2) _)=awz _ _;cases hb f (k - 1).toNat p.2<;>rfl
 rw[e,h.go];simp
theorem asi (aj:j7 x) (bf:0<=n) (aC:¬x.short=au7) (a1:¬(x.b.length:Int) - x.at_<n):fG (e0 n.toNat) x ((x.b.take (x.at_+n).toNat).drop x.at_.toNat) (eO.mk x.b (x.at_+n) x.short):=by
 obtain ⟨cz,dw,ft⟩:=aj;refine ⟨⟨by show 0<=x.at_+n;omega,by show x.at_+n<=(x.b.length:Int);omega,ft⟩,rfl, ?_⟩;rw[gM,gM,if_neg aC,if_neg aC];show e0 n.toNat (x.b.drop x.at_.toNat)=au6 (_,x.b.drop (x.at_+n).toNat);rw[e0,if_pos (by rw[aw4];omega),List.drop_drop,List.drop_take,show (x.at_+n).toNat=x.at_.toNat+n.toNat by omega,show x.at_.toNat+n.toNat - x.at_.toNat=n.toNat by omega]
theorem ash (aj:j7 x) (bf:0<=n) (a1:x.short=au7\/(x.b.length:Int) - x.at_<n):fG (e0 n.toNat) x d (eO.mk x.b x.at_ au7):=by
 obtain ⟨cz,dw,ft⟩:=aj;refine ⟨⟨cz,dw,ft⟩,rfl, ?_⟩;show au' (gM x) _=au8;unfold gM;split
 ·rfl
 ·refine if_neg ?_;rw[aw4];rcases a1 with a1|a1
  ·exact absurd a1 (by assumption)
  ·omega
theorem afL (x y:UInt8):lg .or .i64 (x.toNat*256) y.toNat=((x.toNat*256+y.toNat:Nat):Int):=by
 have ae:=x.toNat_lt;have aI:=y.toNat_lt;have bu:(awx 64 ((x.toNat:Int)*256)).toNat=x.toNat*256:=by rw[show ((x.toNat:Int)*256)=((x.toNat*256:Nat):Int) by omega,axF,axG,Nat.mod_eq_of_lt (by omega)]
 have e2:(awx 64 (y.toNat:Int)).toNat=y.toNat:=by rw[axF,axG,Nat.mod_eq_of_lt (by omega)]
 have uc:=Nat.two_pow_add_eq_or_of_lt (i:=8) (b:=y.toNat) (by omega) x.toNat;show avc .i64 (((awx 64 ((x.toNat:Int)*256)|||awx 64 (y.toNat:Int):BitVec 64).toNat:Nat):Int)=_;rw[BitVec.toNat_or,bu,e2,Nat.mul_comm x.toNat 256,show (256:Nat)=2 ^ 8 from rfl,<-uc,avb.wrap_i64];omega
theorem afE {a b:UInt8} (h:fG (e0 (2:Int).toNat) x d y) (aY:aD d 0=au6 a) (ag:aD d 1=au6 b):fG eo x (lg .or .i64 (avc .i64 ((avc .i64 ((avs a:Int)))*256)) (avc .i64 ((avs b:Int)))) y/\0<=lg .or .i64 (avc .i64 ((avc .i64 ((avs a:Int)))*256)) (avc .i64 ((avs b:Int)))/\lg .or .i64 (avc .i64 ((avc .i64 ((avs a:Int)))*256)) (avc .i64 ((avs b:Int)))<=65535:=by
 have ae:=a.toNat_lt;have aI:=b.toNat_lt;have di:avc .i64 ((avs a:Int))=a.toNat:=r8 (by omega) (by omega);have gV:avc .i64 ((avs b:Int))=b.toNat:=r8 (by omega) (by omega);have lT:avc .i64 ((a.toNat:Int)*256)=a.toNat*256:=r8 (by omega) (by omega);rw[di,lT,gV,afL];refine ⟨⟨h.i,h.b, ?_⟩,by omega,by omega⟩;have e:=h.e;cases aC:gM x with
 |none=>rw[aC] at e;cases aE:gM y with
  |none=>rfl
  |some t=>rw[aE] at e;cases e
 |some s=>
  rw[aC] at e
  match s,e with
  |u::v::s,e=>
   have e:au6 ([u,v],s)=_:=e;cases aE:gM y with
   |none=>rw[aE] at e;cases e
   |some t=>rw[aE] at e;cases e;cases aY;cases ag;rfl
  |[u],e=>
   have e:au8=_:=e;cases aE:gM y with
   |none=>rfl
   |some t=>rw[aE] at e;cases e
  |[],e=>
   have e:au8=_:=e;cases aE:gM y with
   |none=>rfl
   |some t=>rw[aE] at e;cases e
theorem aco {a:UInt8} (h:fG (e0 (1:Int).toNat) x d y) (aY:aD d 0=au6 a):fG kZ x (avc .i64 ((avs a:Int))).toNat y/\0<=avc .i64 ((avs a:Int))/\avc .i64 ((avs a:Int))<=255:=by
 have ae:=a.toNat_lt;rw[r8 (by omega) (by omega)];refine ⟨⟨h.i,h.b, ?_⟩,by omega,by omega⟩;have e:=h.e;cases aC:gM x with
 |none=>rw[aC] at e;cases aE:gM y with
  |none=>rfl
  |some t=>rw[aE] at e;cases e
 |some s=>
  rw[aC] at e
  match s,e with
  |u::s,e=>
   have e:au6 ([u],s)=_:=e;cases aE:gM y with
   |none=>rw[aE] at e;cases e
   |some t=>rw[aE] at e;cases e;cases aY;rfl
  |[],e=>
   have e:au8=_:=e;cases aE:gM y with
   |none=>rfl
   |some t=>rw[aE] at e;cases e
theorem asn {m:Nat} (h:fG kZ x m y) (k:fG (e0 m) y d z):fG kG x d z:=⟨k.i,k.b.trans h.b,by rw[show kG=fun b=>au' (kZ b) fun p=>e0 p.1 p.2 from rfl,h.go];exact k.e⟩
theorem arF {a b:Int} (h:fG eo x a y) (k:fG eo y b z):fG lj x (er.mk a b) z:=⟨k.i,k.b.trans h.b,by
 rw[show lj=fun b=>au' (eo b) fun p=>au' (eo p.2) fun q=>au6 (er.mk p.1 q.1,q.2) from rfl,h.go];dsimp only;rw[k.go];cases gM z<;>rfl⟩
theorem gE.Q5 {A B:Prop} (au:0<k) (h:fG f x v y/\A) (e:a'=a++[v]) (l:gE f y (k - 1) a' o z/\B):gE f x k a o z:=gE.step au h.1 (e▸l.1)
end
theorem gE.Q6 {x y z u:eO} {k:Int} {a a' o:List er} {v w:Int} {A B C:Prop} (au:0<k) (h:fG eo x v y/\A) (cu:fG eo y w u/\C) (e:a'=a++[er.mk v w]) (l:gE lj u (k - 1) a' o z/\B):gE lj x k a o z:=gE.step au (arF h.1 cu.1) (e▸l.1)
variable {N:Nat} (aq:5000000000<N)
include aq
theorem anj {x0:eO} {J:Int} (U:j7 x0) (aa:0<=J) (ap:J<=100000):aH (IW N x0 J) fun r=>(r=au7↔x0.short=au7\/(x0.b.length:Int) - x0.at_<J):=by
 rw[IW];(repeat' with_reducible first|intro _|refine bE (by omega) ?_|apply aW|apply aK)<;>first|grind -mbtc|grind -mbtc [j7]
theorem G7 {x0:eO} {J:Int} (U:j7 x0) (aa:0<=J) (ap:J<=100000):aH (vV N x0 J) fun r=>r.1.length=J.toNat/\fG (e0 J.toNat) x0 r.1 r.2:=by
 rw[vV];(repeat' with_reducible first|intro _|apply aF (anj aq ..)|apply dW|apply p6|apply sv|refine bE (by omega) ?_|apply aW|apply aK)<;>first|grind -mbtc [j7]|(have:=ash (x:=x0) (n:=J) (d:=List.replicate J.toNat 0) U aa;grind -mbtc [j7])|(have:=asi (x:=x0) (n:=J) U aa;grind -mbtc [j7])
theorem Qz {x0:eO} (U:j7 x0):aH (nD N x0) fun r=>fG eo x0 r.1 r.2/\0<=r.1/\r.1<=65535:=by
 rw[nD];(repeat' with_reducible first|intro _|apply aF (G7 aq ..)|apply bU|refine bE (by omega) ?_|apply bn|apply aK)<;>first|grind -mbtc|grind -mbtc [afE]
theorem Z6 {x0:eO} (U:j7 x0):aH (vU N x0) fun r=>fG kZ x0 r.1.toNat r.2/\0<=r.1/\r.1<=255:=by
 rw[vU];(repeat' with_reducible first|intro _|apply aF (G7 aq ..)|apply bU|refine bE (by omega) ?_|apply bn|apply aK)<;>first|grind -mbtc|grind -mbtc [aco]
theorem aaa {x0:eO} (U:j7 x0):aH (xW N x0) fun r=>fG kG x0 r.1 r.2/\r.1.length<=255:=by
 rw[xW];(repeat' with_reducible first|intro _|apply aF (Z6 aq ?_)|apply aF (G7 aq ..)|apply aK)<;>first|grind -mbtc|grind -mbtc [asn]|grind -mbtc [fG]
theorem aod {ah:eO} {ax:Int}:aH (HZ N ah ax) fun r=>(r=au7↔0<ax/\¬ah.short=au7):=by
 rw[HZ];(repeat' with_reducible first|intro _|apply bs|apply aW|apply aK)<;>grind -mbtc
theorem aoc {n:Nat} {an:bj} {ah:eO} {ax:Int} {lW:(List (List UInt8))}:(0<=ax)->(ax<=300)->(ax<n)->(j7 ah)->(lW.length+ax<=1000)->aH (Bb N n an ah ax lW) fun r=>gE kG ah ax lW r.2.2 r.2.1/\je r.1=je an:=by
 induction n generalizing an ah ax lW with
 |zero=>intros;exfalso;grind -mbtc
 |succ n ar=>intros;rw[Bb];(repeat' with_reducible first|intro _|apply aF (aod aq)|apply aF (aaa aq ?_)|apply b8 (ar ..)|apply dW|refine bE (by omega) ?_|apply bn|apply aW|apply aK)<;>clear ar<;>first|grind -mbtc|(by_cases aC:ah.short=au7<;>first|exact ⟨gE.short (by assumption) aC,rfl⟩|exact ⟨gE.zero (by assumption) (by grind -mbtc),rfl⟩)|exact ⟨gE.Q5 (by grind -mbtc) (by assumption) (by assumption) (by assumption),(‹gE _ _ _ _ _ _/\_›).2⟩|exact ⟨gE.Q6 (by grind -mbtc) (by assumption) (by assumption) (by assumption) (by assumption),(‹gE _ _ _ _ _ _/\_›).2⟩|grind -mbtc [fG]
theorem aoe {jH:Int} {C3:Bool}:aH (H0 N jH C3) fun r=>(r=au7↔C3=au7\/jH=5):=by
 rw[H0];(repeat' with_reducible first|intro _|apply bn|apply aW|apply aK)<;>grind -mbtc
theorem aog {ah:eO} {aB:Int}:aH (H2 N ah aB) fun r=>(r=au7↔0<aB/\¬ah.short=au7):=by
 rw[H2];(repeat' with_reducible first|intro _|apply bs|apply aW|apply aK)<;>grind -mbtc
theorem aof {n:Nat} {an:bj} {ah:eO} {aB:Int} {lU:(List Int)}:(0<=aB)->(aB<=300)->(aB<n)->(j7 ah)->(lU.length+aB<=1000)->aH (Bc N n an ah aB lU) fun r=>gE eo ah aB lU r.2.2 r.2.1/\je r.1=je an:=by
 induction n generalizing an ah aB lU with
 |zero=>intros;exfalso;grind -mbtc
 |succ n ar=>intros;rw[Bc];(repeat' with_reducible first|intro _|apply aF (aog aq)|apply aF (Qz aq ?_)|apply b8 (ar ..)|apply dW|refine bE (by omega) ?_|apply bn|apply aW|apply aK)<;>clear ar<;>first|grind -mbtc|(by_cases aC:ah.short=au7<;>first|exact ⟨gE.short (by assumption) aC,rfl⟩|exact ⟨gE.zero (by assumption) (by grind -mbtc),rfl⟩)|exact ⟨gE.Q5 (by grind -mbtc) (by assumption) (by assumption) (by assumption),(‹gE _ _ _ _ _ _/\_›).2⟩|exact ⟨gE.Q6 (by grind -mbtc) (by assumption) (by assumption) (by assumption) (by assumption),(‹gE _ _ _ _ _ _/\_›).2⟩|grind -mbtc [fG]
theorem aoi {ah:eO} {aG:Int}:aH (H3 N ah aG) fun r=>(r=au7↔0<aG/\¬ah.short=au7):=by
 rw[H3];(repeat' with_reducible first|intro _|apply bs|apply aW|apply aK)<;>grind -mbtc
theorem aoh {n:Nat} {an:bj} {ah:eO} {aG:Int} {lV:(List er)}:(0<=aG)->(aG<=300)->(aG<n)->(j7 ah)->(lV.length+aG<=1000)->aH (Bd N n an ah aG lV) fun r=>gE lj ah aG lV r.2.2 r.2.1/\je r.1=je an:=by
 induction n generalizing an ah aG lV with
 |zero=>intros;exfalso;grind -mbtc
 |succ n ar=>intros;rw[Bd];(repeat' with_reducible first|intro _|apply aF (aoi aq)|apply aF (Qz aq ?_)|apply b8 (ar ..)|apply dW|refine bE (by omega) ?_|apply bn|apply aW|apply aK)<;>clear ar<;>first|grind -mbtc|(by_cases aC:ah.short=au7<;>first|exact ⟨gE.short (by assumption) aC,rfl⟩|exact ⟨gE.zero (by assumption) (by grind -mbtc),rfl⟩)|exact ⟨gE.Q5 (by grind -mbtc) (by assumption) (by assumption) (by assumption),(‹gE _ _ _ _ _ _/\_›).2⟩|exact ⟨gE.Q6 (by grind -mbtc) (by assumption) (by assumption) (by assumption) (by assumption),(‹gE _ _ _ _ _ _/\_›).2⟩|grind -mbtc [fG]
end Go.W
end
section
set_option maxHeartbeats 2000000
namespace Go.W
open Go.av
def px (t:bj×bj×eO×List Int×List er×List (List UInt8)×List UInt8):bj:=bj.mk t.2.1.kind t.2.1.bC t.2.1.to t.2.1.count t.2.1.cE t.2.2.2.1 t.2.2.2.2.1 (bX.mk t.2.1.order.name t.2.1.order.bC t.2.2.2.2.2.1) t.2.1.name t.2.2.2.2.2.2
theorem gE.Q0 {aA:Type} {f:List UInt8->Option (aA×List UInt8)} {x y:eO} {k:Int} {o:List aA} (h:gE f x k [] o y):fG (hb f k.toNat) x o y:=⟨h.i,h.b,by
 rw[<-h.e];congr 1;funext s;cases hb f k.toNat s<;>rfl⟩
section
variable {x y z u q:eO} {t n a b m k c:Int} {d:List UInt8} {A B C:Prop} {eK w:bj} {o:List Int} {os:List er} {VU:List (List UInt8)}
theorem acy (h:fG eo x t y/\A) (g:fG eo y n z/\B) (l:C/\fG (e0 n.toNat) z d u):fG (eM 1) x (px (eK,bj.mk 1 t 0 0 0 [] [] (bX.mk [] 0 []) [] [],u,[],[],[],d)) u:=⟨l.2.i,l.2.b.trans (g.1.b.trans h.1.b),by
 show au' (gM x) (fun b=>eM 1 b)=_;simp only[eM,if_true];rw[h.1.go];dsimp only;rw[g.1.go];dsimp only;rw[l.2.go];cases gM u<;>rfl⟩
theorem acz (h:fG kG x d y/\A) (g:fG eo y n z/\B) (j:fG kZ z c.toNat q/\C) (l:gE kG q c [] VU u/\je w=je (bj.mk 2 0 0 0 0 [] [] (bX.mk d n []) [] [])):fG (eM 2) x (px (eK,je w,u,[],[],VU,[])) u:=⟨l.1.i,l.1.b.trans (j.1.b.trans (g.1.b.trans h.1.b)),by
 show au' (gM x) (fun b=>eM 2 b)=_;simp only[eM,avF,if_true,if_false];rw[h.1.go];dsimp only;rw[g.1.go];dsimp only;rw[j.1.go];dsimp only;rw[l.1.Q0.go,l.2];cases gM u<;>rfl⟩
theorem acA (au:k=3\/k=5) (h:fG eo x t y/\A) (g:fG eo y n z/\B) (j:fG kZ z c.toNat q/\C) (l:gE eo q c [] o u/\je w=je (bj.mk k t 0 0 n [] [] (bX.mk [] 0 []) [] [])):fG (eM k) x (px (eK,je w,u,o,[],[],[])) u:=⟨l.1.i,l.1.b.trans (j.1.b.trans (g.1.b.trans h.1.b)),by
 show au' (gM x) (fun b=>eM k b)=_;have e:∀b,eM k b=au' (eo b) fun t=>au' (eo t.2) fun w=>au' (kZ w.2) fun c=>au' (hb eo c.1 c.2) fun d=>au6 (bj.mk k t.1 0 0 w.1 d.1 [] (bX.mk [] 0 []) [] [],d.2):=fun b=>by rcases au with rfl|rfl<;>rfl
 simp only[e];rw[h.1.go];dsimp only;rw[g.1.go];dsimp only;rw[j.1.go];dsimp only;rw[l.1.Q0.go,l.2];cases gM u<;>rfl⟩
theorem acB (j:fG kZ x c.toNat q/\C) (l:gE lj q c [] os u/\je w=je (je (bj.mk 4 0 0 0 0 [] [] (bX.mk [] 0 []) [] []))):fG (eM 4) x (px (eK,je w,u,[],os,[],[])) u:=⟨l.1.i,l.1.b.trans j.1.b,by
 show au' (gM x) (fun b=>eM 4 b)=_;simp only[eM,avF,if_true,if_false,or_self];rw[j.1.go];dsimp only;rw[l.1.Q0.go,l.2];cases gM u<;>rfl⟩
theorem acC (h:fG eo x t y/\A) (g:fG eo y n z/\B) (l:fG eo z m u/\C):fG (eM 6) x (px (eK,bj.mk 6 t n m 0 [] [] (bX.mk [] 0 []) [] [],u,[],[],[],[])) u:=⟨l.1.i,l.1.b.trans (g.1.b.trans h.1.b),by
 show au' (gM x) (fun b=>eM 6 b)=_;simp only[eM,avF,if_true,if_false,or_self];rw[h.1.go];dsimp only;rw[g.1.go];dsimp only;rw[l.1.go];cases gM u<;>rfl⟩
theorem acD (l:fG kG x d u/\C):fG (eM 7) x (px (eK,bj.mk 7 0 0 0 0 [] [] (bX.mk [] 0 []) d [],u,[],[],[],[])) u:=⟨l.1.i,l.1.b,by
 show au' (gM x) (fun b=>eM 7 b)=_;simp only[eM,avF,if_true,if_false,or_self];rw[l.1.go];cases gM u<;>rfl⟩
end
def L4 (k:Int) (x:eO) (r:Sum (bj×bj×eO×List Int×List er×List (List UInt8)×List UInt8) (bj×Int)):Prop:=match r with| .inl a=>(1<=k/\k<=7)/\fG (eM k) x (px a) a.2.2.1| .inr a=>a=(kQ 0,11)/\¬(1<=k/\k<=7)
theorem acv {x0:List UInt8} {y:UInt8} {a:bj×bj×eO×List Int×List er×List (List UInt8)×List UInt8} (aI:aD x0 0=au6 y) (h:L4 (avc .i64 (avs y:Int)) (eO.mk x0 1 ava) (.inl a)):gS x0=if a.2.2.1.short=au7 then (kQ 0,10) else if a.2.2.1.at_<(x0.length:Int) then (kQ 0,11) else if 8000<(a.2.2.2.2.2.2.length:Int) then (kQ 0,2) else (px a,0):=by
 have h:(1<=(y.toNat:Int)/\(y.toNat:Int)<=7)/\fG (eM y.toNat) (eO.mk x0 1 ava) (px a) a.2.2.1:=by have:=y.toNat_lt;rw[r8 (by omega) (by omega)] at h;exact h
 obtain ⟨au,h⟩:=h;cases x0 with
 |nil=>cases aI
 |cons z s=>
  cases aI;have e:=h.e;have ag:a.2.2.1.b=y::s:=h.b;have aj:=h.i;unfold j7 at aj;rw[show gM (eO.mk (y::s) 1 ava)=au6 s from rfl] at e;have e:eM y.toNat s=awz (fun s=>(px a,s)) (gM a.2.2.1):=e;unfold gS;simp only[kZ];rw[if_pos (by omega),e,gM];by_cases aC:a.2.2.1.short=au7
  ·rw[if_pos aC,if_pos aC];rfl
  ·rw[if_neg aC,if_neg aC];simp only[awC];rw[ag,aw4];rw[ag] at aj;by_cases U:a.2.2.1.at_<((y::s).length:Int)
   ·rw[if_pos (by omega),if_pos U]
   ·rw[if_neg (by omega),if_neg U];show (if 8000<(px a).data.length then _ else _)=_;by_cases aa:8000<a.2.2.2.2.2.2.length
    ·rw[if_pos (by exact aa),if_pos (by omega)]
    ·rw[if_neg (by exact aa),if_neg (by omega)]
theorem acx {x0:List UInt8} {y:UInt8} {a:bj×Int} (aI:aD x0 0=au6 y) (h:L4 (avc .i64 (avs y:Int)) (eO.mk x0 1 ava) (.inr a)):gS x0=a:=by
 have qn:=y.toNat_lt;rw[r8 (by omega) (by omega)] at h;obtain ⟨rfl,h⟩:a=(kQ 0,11)/\¬(1<=(y.toNat:Int)/\(y.toNat:Int)<=7):=h;cases x0 with
 |nil=>cases aI
 |cons z s=>cases aI;unfold gS;simp only[kZ];rw[if_neg (by omega)]
variable {N:Nat} (aq:5000000000<N)
include aq
theorem amN {al an:bj} {ah:eO} {jH:Int} {lU:List Int} {lV:List er} {lW:List (List UInt8)} {tD:List UInt8} (U:an=bj.mk jH 0 0 0 0 [] [] (bX.mk [] 0 []) [] []) (aa:j7 ah) (ap:lU=[]) (aN:lV=[]) (bK:lW=[]) (ed:tD=[]):aH (IB N al an ah jH lU lV lW tD) fun r=>L4 jH ah r:=by
 subst U ap aN bK ed;rw[IB];repeat' (with_reducible first|intro _|apply aF (aoc aq ..)|apply aF (aoe aq)|apply aF (aof aq ..)|apply aF (aoh aq ..)|apply aF (Z6 aq ?_)|apply aF (Qz aq ?_)|apply aF (G7 aq ..)|apply aF (aaa aq ?_)|apply bn|apply aW|apply aK)
 all_goals first|grind -mbtc [fG]|((have au:jH=1:=by grind -mbtc);subst au;exact ⟨by omega,acy (by assumption) (by assumption) (by assumption)⟩)|((have au:jH=2:=by grind -mbtc);subst au;exact ⟨by omega,acz (by assumption) (by assumption) (by assumption) (by assumption)⟩)|(have au:jH=3\/jH=5:=by grind -mbtc);exact ⟨by omega,acA au (by assumption) (by assumption) (by assumption) (by assumption)⟩|((have au:jH=4:=by grind -mbtc);subst au;exact ⟨by omega,acB (by assumption) (by assumption)⟩)|((have au:jH=6:=by grind -mbtc);subst au;exact ⟨by omega,acC (by assumption) (by assumption) (by assumption)⟩)|((have au:jH=7:=by grind -mbtc);subst au;exact ⟨by omega,acD (by assumption)⟩)|exact ⟨rfl,by grind -mbtc⟩
theorem ag0 {x0:List UInt8} (U:x0.length<=1000000):aH (Lr N x0) fun r=>r=gS x0:=by
 rw[Lr];(repeat' with_reducible first|intro _|apply dU (amN aq ..)|apply bU|refine bE (by omega) ?_|apply bn|apply aW|apply aK)<;>first|grind -mbtc [j7]|(have bf:x0=[]:=List.eq_nil_of_length_eq_zero (by grind -mbtc);subst bf;rfl)|(rw[acv (by assumption) (by assumption)];split<;>first|rfl|(exfalso;grind -mbtc)|(split<;>first|rfl|(exfalso;grind -mbtc)|(split<;>first|rfl|(exfalso;grind -mbtc))))|exact (acx (by assumption) (by assumption)).symm
end Go.W
end
section
set_option maxHeartbeats 2000000
namespace Go.W
open Go.av
theorem aaT (b:List UInt8):lq (gS b).1:=by
 rcases aO:gS b with ⟨e,n⟩;by_cases bf:n=0
 ·subst bf;obtain ⟨U,aa,_⟩:=acp aO;exact lq.of U aa
 ·have he:e=kQ 0:=by
   unfold gS at aO
   repeat' split at aO
   all_goals first|(cases aO;rfl)|(cases aO;exact absurd rfl bf)
  subst he;constructor<;>simp[kQ]
theorem acI {e:bj} {r:List UInt8×Int} (h:tO e r):r.1.length<=900000:=by
 obtain ⟨U,aa,ap⟩:=h;by_cases ao:kU e
 ·cases ag:ly e.kind e with
  |true=>rw[aa ao ag];simp
  |false=>rw[ap ao ag];exact acK (lq.of ao ag)
 ·rw[U ao];simp
theorem acJ {e:bj} {r s:List UInt8×Int} (h:tO e r) (k:tO e s):r=s:=by
 obtain ⟨U,aa,ap⟩:=h;obtain ⟨b6,cc,eF⟩:=k;by_cases ao:kU e
 ·cases ag:ly e.kind e with
  |true=>rw[aa ao ag,cc ao ag]
  |false=>rw[ap ao ag,eF ao ag]
 ·rw[U ao,b6 ao]
attribute [grind->] acI acJ
attribute [grind .] aaT
variable {N:Nat} (aq:5000000000<N)
include aq
theorem aop {ah aB:List UInt8} {ax aG aV a9:Int} {a3 bc:bj} (U:ah=aB) (aa:ax=aG) (ap:a3=bc) (aN:aV=a9) (bK:ah.length<=1000000) (ed:lq a3):aH (H6 N ah ax aB aG a3 aV bc a9) fun r=>r=au7:=by
 rw[H6];(repeat' with_reducible first|intro _|apply aF (aag aq ?_)|apply aF (agd aq ?_)|apply bn|apply aW|apply aK)<;>grind -mbtc
theorem aah {x0:bj} {J:List UInt8} (U:m3 x0) (aa:J.length<=1000000):aH (xY N x0 J) fun r=>r=au7:=by
 rw[xY];(repeat' with_reducible first|intro _|apply aF (aop aq ..)|apply aF (ag0 aq ?_)|apply aF (aaf aq ?_)|apply aF (afU aq ?_)|apply aF (afV aq ?_)|apply aK)<;>first|grind -mbtc|grind -mbtc (gen:=20) (ematch:=20)
theorem ak7 {aB:cA} {bc:bj} {xP:Int} (U:jg bc) (aa:0<=aB.n) (ap:aB.n<=800000000):aH (Hu N aB bc xP) fun r=>m3 r.2/\aB.n<=r.1.n/\r.1.n<=aB.n+3:=by
 rw[Hu];(repeat' with_reducible first|intro _|apply aF (iY aq ..)|apply aF (tq aq ..)|apply aF (Z8 aq ..)|apply dW|refine bE (by omega) ?_|apply bn|apply aW|apply aK)<;>first|grind -mbtc|grind -mbtc [jg,m3]
theorem ak6 {a3:List bj} (U:a3.length<=1000) (aa:∀e∈a3,jg e) {n:Nat} {aB:cA} {aV:Int}:(0<=aV)->(aV<=(a3.length:Int))->((a3.length:Int) - aV<n)->(0<=aB.n)->(aB.n+10*(a3.length - aV)<=700000000)->aH (Az N a3 n aB aV) fun r=>r= .inl ():=by
 induction n generalizing aB aV with
 |zero=>intros;exfalso;grind -mbtc
 |succ n ar=>intros;rw[Az];(repeat' with_reducible first|intro _|apply aF (iY aq ..)|apply aF (Zm aq ..)|apply aF (ak7 aq ..)|apply aF (aah aq ..)|apply aF (aaf aq ?_)|apply b8 (ar ..)|apply bU|refine bE (by omega) ?_|apply bn|apply bs|apply aW|apply aK)<;>clear ar<;>grind -mbtc
theorem ak8 {al:List UInt8} {an:bj}:aH (Hv N al an) fun r=>r=ava->al.length<=9000/\an.aP.length<=400/\an.cQ.length<=400/\an.order.cw.length<=400:=by
 rw[Hv];(repeat' with_reducible first|intro _|apply bs|apply aW|apply aK)<;>grind -mbtc
theorem ak9 {al:List UInt8} {an:bj} (U:m3 an) (aa:al.length<=9000):aH (Hw N al an) fun r=>r=au7:=by
 rw[Hw];(repeat' with_reducible first|intro _|apply aF (aah aq ..)|apply aF (ZI aq)|apply aW|apply aK)<;>grind -mbtc
theorem agi {x0:List Int} {J:bj} {al:List UInt8} (U:J.data.length<=1100000) (aa:J.name.length<=1100000) (ap:J.order.name.length<=1100000) (aN:∀d∈J.order.cw,d.length<=1100000):aH (xV N x0 J al) fun r=>r=au7:=by
 rw[xV];(repeat' with_reducible first|intro _|apply aF (ah3 aq)|apply dU (ak6 aq ..)|apply aF (ak8 aq)|apply aF (ak9 aq ..)|apply aF (ZI aq)|apply aF (afR aq ..)|apply aF (afS aq ..)|apply aW|apply aK)<;>first|grind -mbtc|grind -mbtc [Prod.ext_iff,m3]
end Go.W
end
section
namespace Go.Proofs.YtfmpkhcaifbonaaGreatDoor.scriptCodesUptoDone
open Go.ChangeShapes Go.WideShapes Go.ChangeAt Go.RowKit
open Go.ChangeMaps (open_string shut_string)
set_option maxRecDepth 20000
theorem own:ownKnob Tryz.prog.godebug=au8:=by kernel_rfl
theorem PQ:laidOutB Tryz.prog=au7:=by kernel_rfl
theorem aiN {H:Type} {enc:ave×au9->H} {P:Program} {w:World} {base:Nat} {sp:Nat->Bool} {held:Bool} {jv:Nat} {t e:ave} {n:Nat} {cs:List au9} {zs:List (List UInt8)} {p:List MemPlace}
  (aw:P.underlying t=au6 (.array n e)) (he:P.underlying e=au6 .string) (adF:P.cellsOf e=1) (adL:P.cellsOf t=n)
  (h:av8 enc P w base sp held jv t cs=au6 (.agg (zs.map fun z=> .lit (.string z)),p)) (i:Nat) (s:List UInt8) (aC:zs[i]? =au6 s):cs[i]? =au6 (.string ⟨s.toArray⟩):=by
 cases jv with
 |zero=>simp[av8] at h
 |succ jv=>
  simp only[av8,aw,adF,adL,awF] at h;split at h
  ·obtain ⟨xs,hm,ae⟩:=Option.map_eq_some_iff.1 h;have wN:xs.map (·.1)=zs.map fun z=>(DataW.lit (.string z):DataW H):=by
    have:=congrArg Prod.fst ae;simpa using this
   have afh:xs.length=n:=by simpa using Lib.mapM_length hm
   have afm:zs.length=n:=by have:=congrArg List.length wN;simp at this;omega
   have aj:i<n:=by have:=(avr.1 aC).1;omega
   obtain ⟨b,ag,bb⟩:=Lib.mapM_at hm i i (by simp[aj]);obtain ⟨z,ai,rfl,_⟩:=axD he bb;have U:cs[i]? =au6 (.string z):=by have:=congrArg (·[0]?) ai;simpa[List.getElem?_take,List.getElem?_drop] using this
   have aa:(xs.map (·.1))[i]? =au6 (DataW.lit (.string z.data.toList):DataW H):=by simp[ag]
   rw[wN,List.getElem?_map,aC] at aa;simp only[awC,avl.injEq,DataW.lit.injEq,Lit.string.injEq] at aa;rw[U,aa]
  ·cases h
theorem arH {W:World} (h:laidMetH Tryz.prog Rows.scriptCodesUptoRow.laid W):av.l1 Tryz.prog W where
 len:=fun g a5=>by
  have ux : Tryz.prog.globalNamed "internal/bytealg.MaxLen" = au8 := by kernel_rfl
  rw[ux] at a5;cases a5
 pow:=fun g a5=>by
  have ux : Tryz.prog.globalNamed "internal/strconv.uint64pow10" = au8 := by kernel_rfl
  rw[ux] at a5;cases a5
 Kk:=fun g a5 n s a1=>by
  obtain ⟨cn,⟨att,ec,cs,jv,p,q,NC,mM,ae9,aO,_,_⟩,_⟩:=(h:laidMet Tryz.prog Rows.scriptCodesUptoRow.laid W)
  obtain rfl:=avl.inj (a5.symm.trans NC);have bf : Tryz.prog.globalNamed "humpyard/yardgen.dests" = au6 0 := by kernel_rfl
  obtain rfl:=avl.inj (bf.symm.trans a5);have ae5:(Tryz.prog.globals[0]?).map (·.type)=au6 124:=by kernel_rfl
  obtain rfl:=avl.inj (ae5.symm.trans mM);have:=aiN (t:=124) (e:=9) (n:=6) (zs:=av.ou) (by kernel_rfl) Tryz.underlying9 (by kernel_rfl) (by kernel_rfl) aO n s a1;exact World.var?_cell a5 ae9 n|>.symm▸(by simpa using this)
noncomputable def O5 (os:Os):World:=
 let bR:=World.holding Tryz.prog os ⟨#[],#[],[]⟩
 {bR with heap:=bR.heap.modify 0 fun
  | .cells _ t frozen=> .cells (av.ou.map fun s=>au9.string ⟨s.toArray⟩).toArray t frozen
  |o=>o}
theorem ajM (os:Os):laidMet Tryz.prog Rows.scriptCodesUptoRow.laid ((O5 os).forCall (fun _ _=>0) ⟨#[],#[.slice au8 0 0, .agg #[.int .i64 0, .int .i64 0, .int .i64 0, .int .i64 0, .int .i64 0, .slice au8 0 0, .slice au8 0 0, .string ⟨#[]⟩, .int .i64 0, .slice au8 0 0, .string ⟨#[]⟩, .slice au8 0 0], .slice au8 0 0],[]⟩).memory:=
 laidMet_of_run' 8 (by kernel_rfl) (by kernel_rfl)
theorem reads (os:Os) {H:Type} (enc:ave×au9->H):∃mn,DataW.whole enc Tryz.prog ((O5 os).forCall (fun _ _=>0) ⟨#[],#[.slice au8 0 0, .agg #[.int .i64 0, .int .i64 0, .int .i64 0, .int .i64 0, .int .i64 0, .slice au8 0 0, .slice au8 0 0, .string ⟨#[]⟩, .int .i64 0, .slice au8 0 0, .string ⟨#[]⟩, .slice au8 0 0], .slice au8 0 0],[]⟩).memory Tryz.f3.params.toList Rows.scriptCodesSpec.vars ava #[.slice au8 0 0, .agg #[.int .i64 0, .int .i64 0, .int .i64 0, .int .i64 0, .int .i64 0, .slice au8 0 0, .slice au8 0 0, .string ⟨#[]⟩, .int .i64 0, .slice au8 0 0, .string ⟨#[]⟩, .slice au8 0 0], .slice au8 0 0].toList 8=au6 ([.nil, .agg [.lit (.int .i64 0), .lit (.int .i64 0), .lit (.int .i64 0), .lit (.int .i64 0), .lit (.int .i64 0), .nil, .nil, .agg [.lit (.string []), .lit (.int .i64 0), .nil], .lit (.string []), .nil], .nil],[],mn):=
 ⟨[],by kernel_rfl⟩
theorem aq5 {H:Type} (d:DataW H):1<=Rows.uptoBulk d:=by
 cases d with
 |lit l=>cases l<;>simp[Rows.uptoBulk]
 |_=>simp[Rows.uptoBulk]
theorem YL {H:Type} {d:DataW H} {l:List (DataW H)} (h:d∈l):Rows.uptoBulk d<=Rows.uptoBulkAll l:=by
 induction l with
 |nil=>cases h
 |cons x r ar=>
  simp only[Rows.uptoBulkAll];rcases avu.1 h with rfl|e
  ·omega
  ·have:=ar e;omega
theorem ahE {H:Type} (l:List (DataW H)):l.length<=Rows.uptoBulkAll l:=by
 induction l with
 |nil=>simp
 |cons x r ar=>have:=aq5 x;simp only[Rows.uptoBulkAll,awh];omega
theorem Qq {H:Type} {enc:ave×au9->H} {w:World} {n:Nat} {c:au9} {x:DataW H×List MemPlace} (h:av8 enc Tryz.prog w 0 (fun _=>au7) au7 n 9 [c]=au6 x):∃s,c=av.str s/\s.length<=Rows.uptoBulk x.1:=by
 obtain ⟨m,ai,rfl,_⟩:=axD Tryz.underlying9 h;injection ai with ai _;exact ⟨m.data.toList,ai,by simp[Rows.uptoBulk]⟩
theorem aqZ {H:Type} {enc:ave×au9->H} {w:World} {n:Nat} {c:au9} {x:DataW H×List MemPlace} {s:List UInt8} (h:av8 enc Tryz.prog w 0 (fun _=>au7) au7 n 27 [c]=au6 x) (aC:av.eu Go.W.l2 (av.gJ w).aS s c):s.length<=Rows.uptoBulk x.1:=by
 rcases aC with ⟨rfl,rfl⟩|⟨b,off,ij,rfl,_⟩
 ·simp
 rcases Deep.open_slice Tryz.underlying27 h with ⟨bf,_⟩|⟨a,len,cap,m,k,D,Md,bf,_,_,_,_,rfl,_⟩
 ·cases bf
 ·simp only[List.cons.injEq,avS.injEq,and_true] at bf;have:=ahE ((avQ len).map D);simp only[List.length_map,List.length_range] at this;simp only[Rows.uptoBulk];omega
theorem akH {H:Type} {enc:ave×au9->H} {w:World} {n:Nat} {c:au9} {x:DataW H×List MemPlace} {l:List (List UInt8)} (h:av8 enc Tryz.prog w 0 (fun _=>au7) au7 n 24 [c]=au6 x) (aC:av.eu Go.W.nO (av.gJ w).aS l c):∀d∈l,d.length<=Rows.uptoBulk x.1:=by
 intro d aO;obtain ⟨i,aj⟩:=List.getElem?_of_mem aO;rcases aC with ⟨rfl,rfl⟩|⟨b,off,ij,rfl,_,_,kS⟩
 ·cases aO
 rcases Deep.open_slice1 Tryz.underlying24 (by kernel_rfl) h with ⟨bf,_⟩|⟨a,len,cap,m,k,V,D,Md,bf,_,qf,_,jT,rfl,ae⟩
 ·cases bf
 simp only[List.cons.injEq,avS.injEq,avl.injEq,and_true] at bf;obtain ⟨rfl,az,_⟩:=bf;simp only[if_true] at jT;have NG:=(avr.1 aj).1;obtain ⟨ai,aw⟩:=ae i (by omega);obtain ⟨g,a5,Nf,_⟩:=axD Tryz.underlying9 aw;injection a5 with a5;obtain ⟨cs,et,wA⟩:=kS i d aj;rw[av.aj2] at ai;have ju:av.cP (V i)=au7:=by rw[a5];rfl
 have e:=av.VG (av.Xu (o:=off+i) (av.tb (w:=w) ju) ai);rw[av.s5 ju] at e;obtain ⟨c,rfl⟩:∃c,cs=[c]:=by
  match cs,et with
  |[],h=>exact h.elim
  |[c],_=>exact ⟨c,rfl⟩
  |_::_::_,h=>exact h.2.elim
 obtain rfl:c=av.str d:=et.1;have e2:av.k8 (av.gJ w).aS b (off+i*1+0)=au6 (av.str d):=wA 0 _ rfl;simp only[awF,Nat.add_zero] at e2;have ab:V i=av.str d:=avl.inj (e.symm.trans e2);obtain ⟨h3,qj,ag⟩:=Qq aw;obtain rfl:h3=d:=by rw[ab] at qj;simpa[av.str] using qj.symm
 have hm:D i∈(avQ len).map D:=List.mem_map_of_mem (by simp;omega);have:=YL hm;simp only[Rows.uptoBulk];simp only at ag;omega
theorem mE {H:Type} {enc:ave×au9->H} {w:World} {n:Nat} {bm:Array Field} {cs:List au9} {xs:List (DataW H×List MemPlace)} (hlen:xs.length=bm.size)
  (bb:∀(i:Nat) (f:Field),bm[i]? =au6 f->av8 enc Tryz.prog w 0 (fun _=>au7) au7 n f.type ((cs.drop f.offset).take (Tryz.prog.cellsOf f.type))=xs[i]?) (i:Nat) {f:Field} (aj:bm[i]? =au6 f) {z:Nat} (a4:Tryz.prog.cellsOf f.type=z):
  ∃y,Rows.uptoBulk y.1<=Rows.uptoBulkAll (xs.map (·.1))/\av8 enc Tryz.prog w 0 (fun _=>au7) au7 n f.type ((cs.drop f.offset).take z)=au6 y:=by
 have bS:=(Array.getElem?_eq_some_iff.1 aj).1;subst a4;exact ⟨xs[i]'(by omega),YL (List.mem_map_of_mem (List.getElem_mem _)),by rw[bb i f aj];simp[show i<xs.length by omega]⟩
theorem jG:Tryz.prog.cellsOf 3=1:=by kernel_rfl
theorem aaw:Tryz.prog.cellsOf 9=1:=by kernel_rfl
theorem tt {H:Type} {enc:ave×au9->H} {w:World} {n:Nat} {c:au9} {Q:DataW H×List MemPlace->Prop} (h:∃x,Q x/\av8 enc Tryz.prog w 0 (fun _=>au7) au7 n 3 [c]=au6 x):∃z,c= .int .i64 z:=by
 obtain ⟨x,_,h⟩:=h;obtain ⟨z,ai,_⟩:=DataW.trod_int Tryz.underlying3 h;injection ai with ai _;exact ⟨z,ai⟩
theorem aia:av.lZ Tryz.prog Go.W.o7 av.M7 where
 a7:=by kernel_rfl
 pos:=by show 0<2;decide
 rd:=by
  intro H enc w jv cs x h;obtain ⟨xs,n,_,_,az,hlen,bb⟩:=axW Tryz.underlying48 h;have az:cs.length=2:=az.trans (show awg Tryz.prog 48=2 by kernel_rfl);obtain ⟨l7,c1,rfl⟩:∃l7 c1,cs=[l7,c1]:=by
   match cs,az with
   |[l7,c1],_=>exact ⟨l7,c1,rfl⟩
  obtain ⟨cd,rfl⟩:=tt (mE hlen bb 0 rfl jG);obtain ⟨b4,rfl⟩:=tt (mE hlen bb 1 rfl jG);refine ⟨fun c ai=> ?_,fun b ag=>⟨Go.W.er.mk cd b4,⟨av.s5 rfl,av.s5 rfl,trivial⟩,trivial⟩⟩;simp only[avu,awK,or_false] at ai;rcases ai with rfl|rfl<;>exact av.tb rfl
theorem Zu {aA:Type}:∀{l:List aA},l.length=12->∃gH cz dw ft hK q5 p4 o8 yo tW D3 D4,l=[gH,cz,dw,ft,hK,q5,p4,o8,yo,tW,D3,D4]
 |[gH,cz,dw,ft,hK,q5,p4,o8,yo,tW,D3,D4],_=>⟨gH,cz,dw,ft,hK,q5,p4,o8,yo,tW,D3,D4,rfl⟩
theorem arj {H:Type} {enc:ave×au9->H} {w:World} {d:DataW H} {cn:List MemPlace} {jv:Nat} {cs:List au9} (h:av8 enc Tryz.prog w 0 (fun _=>au7) au7 jv 29 cs=au6 (d,cn)):
  (∀c∈cs,av.sX w c)/\((∀c∈cs,av.dC (av.hd w) c c)->∃z,Go.W.Mn.rd (av.gJ w).aS z cs/\
   z.data.length<=Rows.uptoBulk d/\z.name.length<=Rows.uptoBulk d/\z.order.name.length<=Rows.uptoBulk d/\∀x∈z.order.cw,x.length<=Rows.uptoBulk d):=by
 obtain ⟨xs,n,_,aO,az,hlen,bb⟩:=axW Tryz.underlying29 h;obtain ⟨rfl,_⟩:=Prod.mk.inj aO;obtain ⟨l7,c1,c2,c3,c4,c5,c6,c7,c8,Ue,atc,atd,rfl⟩:=Zu (az.trans (show awg Tryz.prog 29=12 by kernel_rfl));obtain ⟨cd,rfl⟩:=tt (mE hlen bb 0 rfl jG);obtain ⟨b4,rfl⟩:=tt (mE hlen bb 1 rfl jG);obtain ⟨cZ,rfl⟩:=tt (mE hlen bb 2 rfl jG);obtain ⟨hJ,rfl⟩:=tt (mE hlen bb 3 rfl jG);obtain ⟨Rp,rfl⟩:=tt (mE hlen bb 4 rfl jG);obtain ⟨bq,_,acE⟩:=mE hlen bb 5 rfl (z:=1) (by kernel_rfl);obtain ⟨bx,_,acF⟩:=mE hlen bb 6 rfl (z:=1) (by kernel_rfl);obtain ⟨bM,ab8,acG⟩:=mE hlen bb 7 rfl (z:=3) (by kernel_rfl);obtain ⟨b1,as9,acH⟩:=mE hlen bb 8 rfl aaw;obtain ⟨cg,as',Ux⟩:=mE hlen bb 9 rfl (z:=1) (by kernel_rfl);obtain ⟨asS,n',_,rfl,_,wI,pi⟩:=axW Tryz.underlying26 acG;obtain ⟨x0,jU,f0⟩:=mE wI pi 0 rfl aaw;obtain ⟨asY,rfl⟩:=tt (mE wI pi 1 rfl jG);obtain ⟨al,cc,f2⟩:=mE wI pi 2 rfl (z:=1) (by kernel_rfl);obtain ⟨t7,rfl,o8⟩:=Qq f0;obtain ⟨t10,rfl,D3⟩:=Qq acH;obtain ⟨d5,Nu,auy,arA⟩:=av.xm (T:=Go.W.ht) (av.lZ.conv (tU:=Go.W.ht) (av.YH Tryz.underlying3 Tryz.type3 rfl) rfl rfl fun z x cs h=>by obtain rfl:cs=[_]:=h;exact ⟨rfl,trivial⟩) Tryz.underlying22 acE;obtain ⟨d6,Nv,auz,arB⟩:=av.xm (T:=Go.W.o7) aia Tryz.underlying23 acF;obtain ⟨d9,Nw,auA,arC⟩:=av.xm (T:=Go.W.nO) (av.lZ.conv (tU:=Go.W.nO) (av.apx Tryz.underlying9 Tryz.type9 rfl) rfl rfl fun z x cs h=>by obtain rfl:cs=[_]:=h;exact ⟨rfl,trivial⟩) Tryz.underlying24 f2;obtain ⟨d11,Nt,auw,arz⟩:=av.xm (T:=Go.W.l2) (av.YQ Tryz.underlying5 Tryz.type5 rfl) Tryz.underlying27 Ux;injection Nu with Nu _;subst Nu;injection Nv with Nv _;subst Nv;injection Nw with Nw _;subst Nw;injection Nt with Nt _;subst Nt;refine ⟨fun c ai=> ?_,fun ag=> ?_⟩
 ·simp only[avu,awK,or_false] at ai;rcases ai with rfl|rfl|rfl|rfl|rfl|rfl|rfl|rfl|rfl|rfl|rfl|rfl;all_goals first|assumption|exact av.tb rfl
 obtain ⟨asW,aam,_⟩:=arA 0 (.inr (ag _ (by simp)));rw[av.pE (ag _ (by simp))] at aam;obtain ⟨asX,aan,_⟩:=arB 0 (.inr (ag _ (by simp)));rw[av.pE (ag _ (by simp))] at aan;obtain ⟨asZ,QV,_⟩:=arC 0 (.inr (ag _ (by simp)));rw[av.pE (ag _ (by simp))] at QV;obtain ⟨aaM,QU,_⟩:=arz 0 (.inr (ag _ (by simp)));rw[av.pE (ag _ (by simp))] at QU;have tW:=akH f2 QV;have D4:=aqZ Ux QU;simp only[Rows.uptoBulk] at ab8⊢;exact ⟨.mk cd b4 cZ hJ Rp asW asX (.mk t7 asY asZ) t10 aaM,⟨rfl,rfl,rfl,rfl,rfl,aam,aan,rfl,rfl,QV,rfl,QU,trivial⟩,by show aaM.length<=_;omega,by show t10.length<=_;omega,by show t7.length<=_;omega,fun x ae=>by have:=tW x ae;omega⟩
set_option maxRecDepth 100000 in
theorem aqE (os:Os) (started:os.Started) (H:Type) (enc:ave×au9->H) (F:Stop.Interp):
  ReturnsInHanded {} Tryz.checked os 3 .any ((Rows.OpenSpec.upto Rows.scriptCodesSpec).preRow enc Tryz.prog Tryz.f3 Rows.scriptCodesUptoRow.domain ava Rows.scriptCodesUptoRow.laid) (((Rows.OpenSpec.upto Rows.scriptCodesSpec).at F).post enc Tryz.prog Tryz.f3 ava au7 ava ava):=by
 obtain ⟨mn,ae⟩:=reads os enc;refine returnsInHanded_of_row (C:=Tryz.checked) (s:=Rows.OpenSpec.upto Rows.scriptCodesSpec) own started (by kernel_rfl) Tryz.func3
  (witness_row_at (enc:=enc) (C:=Tryz.checked) ava (O5 os) #[.slice au8 0 0, .agg #[.int .i64 0, .int .i64 0, .int .i64 0, .int .i64 0, .int .i64 0, .slice au8 0 0, .slice au8 0 0, .string ⟨#[]⟩, .int .i64 0, .slice au8 0 0, .string ⟨#[]⟩, .slice au8 0 0], .slice au8 0 0] rfl (by kernel_rfl) (by kernel_rfl) (by kernel_rfl)
   (OpenSpec.preRow_of_cond 8 ae (by kernel_rfl) (fun k au=>by cases au;kernel_rfl) (by kernel_rfl) (ajM os))) ?_
 intro W base args ds gs before Vw dO _ U0 _ adi atA _;have pr:∀(j:Nat) t v,Tryz.f3.params[j]? =au6 t->args[j]? =au6 v->au9.okWide Tryz.prog W .any base t v:=Vw;have ads:=dO;obtain ⟨p,q,UM,wz,rfl,wF,at6⟩:=dO;have dY:DataW.TrodAll enc Tryz.prog W 0 (fun _=>au7) au7 Tryz.f3.params.toList args.toList ds p:=UM;rw[Tryz.params3] at dY pr;obtain ⟨kJ,dc,d0,wj,sY,s0,uq,rfl,rfl,bf,QT⟩:=trodAll_cons dY;obtain ⟨v1,jz,d1,Uu,iI,dn,rfl,rfl,rfl,U,lh⟩:=trodAll_cons QT;obtain ⟨v2,Kl,d2,ato,iV,dA,rfl,rfl,rfl,aa,lQ⟩:=trodAll_cons lh;obtain ⟨rfl,rfl,rfl⟩:=trodAll_nil lQ;obtain rfl:args=#[kJ,v1,v2]:=by cases args;simp_all
 obtain ⟨rfl,rfl⟩:=trodVars_none wz;have jU:=bf;have afA:∀x∈sY,x.block<W.heap.size:=by obtain ⟨m,hm⟩:=jU;exact DataW.trod_lt m _ _ _ hm
 obtain ⟨asD,cd,jo,bR⟩:=av.X7 (T:=Go.W.ht) (av.lZ.conv (tU:=Go.W.ht) (av.YH Tryz.underlying3 Tryz.type3 rfl) rfl rfl fun z x cs h=>by obtain rfl:cs=[_]:=h;exact ⟨rfl,trivial⟩) Tryz.underlying22 (pr 0 22 kJ rfl rfl) bf;have b6:=U;have On:∀x∈iI,x.block<W.heap.size:=by obtain ⟨m,hm⟩:=b6;exact DataW.trod_lt m _ _ _ hm
 obtain ⟨asE,b4,MI,rfl,aas,di⟩:=av.X6 (T:=Go.W.Mn) arj Tryz.underlying29 (pr 1 29 v1 rfl rfl) U;obtain ⟨aso,asp,ass,ast,asu,asv,asw,asx,asy,asz,asq,asr,rfl⟩:=Zu (show MI.length=12 from av.PI aas);obtain ⟨ark,arl,aro,arp,arq,ars,art,aru,arv,arw,arm,arn,_⟩:=aas;have cc:=aa;have Fk:∀x∈iV,x.block<W.heap.size:=by obtain ⟨m,hm⟩:=cc;exact DataW.trod_lt m _ _ _ hm
 obtain ⟨asF,cZ,s2,gV⟩:=av.X7 (T:=Go.W.l2) (av.YQ Tryz.underlying5 Tryz.type5 rfl) Tryz.underlying27 (pr 2 27 v2 rfl rfl) aa;clear UM Vw;have ag:Rows.uptoBulkAll [d0,d1,d2]<=1048576:=by
  have au:Rows.uptoSmall H [d0,d1,d2]=au7:=by simpa using U0 _ rfl
  exact of_decide_eq_true au
 obtain ⟨eS,eA,hE,oo⟩:b4.data.length<=1100000/\b4.name.length<=1100000/\b4.order.name.length<=1100000/\∀d∈b4.order.cw,d.length<=1100000:=by obtain ⟨eS,eA,hE,oo⟩:=di;simp only[Rows.uptoBulkAll] at ag;exact ⟨by omega,by omega,by omega,fun d aO=>by have:=oo d aO;omega⟩
 obtain ⟨N,aq⟩:∃N,Go.W.xV N cd b4 cZ=au6 au7:=by
  obtain ⟨U,aa⟩:= @Go.W.agi 5000000001 (by omega) cd b4 cZ eS eA hE oo;cases bL:Go.W.xV 5000000001 cd b4 cZ with
  |none=>exact absurd bL U
  |some r=>exact ⟨_,by rw[bL,aa r bL]⟩
 have hv:Go.W.El.call Go.W.bA (Go.W.DM N) [.c (.ad 3 cd), .agg 29 [.int .i64 b4.kind, .int .i64 b4.bC, .int .i64 b4.to, .int .i64 b4.count, .int .i64 b4.cE, .ad 3 b4.aP, .ad 48 b4.cQ, .str b4.order.name, .int .i64 b4.order.bC, .ad 9 b4.order.cw, .str b4.name, .ad 5 b4.data], .c (.ad 5 cZ)] [] (fun dh _=>au6 dh)=au' (Go.W.xV N cd b4 cZ) fun y=>au6 (.c (.bool y)):=by kernel_rfl
 rw[aq] at hv;have cU:av.br (av.rel Go.W.bA.G (av.gJ W).aS []) [.c (.ad 3 cd), .agg 29 [.int .i64 b4.kind, .int .i64 b4.bC, .int .i64 b4.to, .int .i64 b4.count, .int .i64 b4.cE, .ad 3 b4.aP, .ad 48 b4.cQ, .str b4.order.name, .int .i64 b4.order.bC, .ad 9 b4.order.cw, .str b4.name, .ad 5 b4.data], .c (.ad 5 cZ)] [kJ, .agg [aso,asp,ass,ast,asu,asv,asw,asx,asy,asz,asq,asr].toArray,v2]:=⟨jo,⟨_,rfl,ark,arl,aro,arp,arq,ars,art,aru,arv,arw,arm,arn,trivial⟩,s2,trivial⟩
 refine ((av.aiy (by kernel_rfl) (arH adi) ?_ (av.ix.law (X:=Go.W.bA) (F:=Go.W.DM N) (Go.W.aaG N) (av.akX W) (av.Xa W) cU hv))).mono fun e as7 ⟨he,D9⟩=> ?_
 ·intro a aY;simp only[avu,awK,or_false] at aY;rcases aY with rfl|rfl|rfl
  ·exact asD
  ·exact asE
  ·exact asF
 ·subst he;exact ⟨_,rfl,_,_,_,[],_,[],ads,trodAll_mk1 (shut_bool Tryz.underlying4 _),(trodAll_cons_mk (Below.trod PQ (by kernel_rfl) (of_decide_eq_true (by kernel_rfl)) jU D9 afA) (trodAll_cons_mk (Below.trod PQ (by kernel_rfl) (of_decide_eq_true (by kernel_rfl)) b6 D9 On) (trodAll_cons_mk (Below.trod PQ (by kernel_rfl) (of_decide_eq_true (by kernel_rfl)) cc D9 Fk) trodAll_mk0))),rfl,D9.frame _,fun h=>by cases h⟩
end Go.Proofs.YtfmpkhcaifbonaaGreatDoor.scriptCodesUptoDone
end
