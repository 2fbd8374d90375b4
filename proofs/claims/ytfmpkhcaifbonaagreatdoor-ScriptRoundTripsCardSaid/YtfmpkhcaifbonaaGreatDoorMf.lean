import Derived.Test.YtfmpkhcaifbonaaGreatDoorRows
import Derived.WalkKit
import Derived.ProofKit
import Derived.OpenShut
import Derived.ShutString
import Derived.ChangeOld
import Derived.Below
import Derived.Deep.DeepHandedRow
import Derived.Lib.LaidTab
import Derived.Stop.LaidErr
import Derived.Shelf.Vars
import Derived.Test.YtfmpkhcaifbonaaGreatDoorMe
set_option linter.unusedSimpArgs false
set_option linter.unusedVariables false
set_option linter.unusedSectionVars false
open Bool renaming false->as9,true->as5
open Go renaming IntKind->as',Value->as7
open Go.DataW renaming trod->auS
open Go.IntKind renaming wrap->ata
open Go.OpenSpec renaming ofChange->avV
open Int renaming toNat_zero->avw
open List renaming drop_zero->avf,getElem?_eq_getElem->atS,getElem?_eq_some_iff->atp,length_append->aua,length_cons->aun,mem_cons->ats,mem_of_mem_take->avb,not_mem_nil->au5
open Nat renaming le_refl->atk
open Option renaming bind->as8,some->atj,none->as6,some->as4
section
set_option maxHeartbeats 2000000
namespace Go.W
open Go.ay
@[grind=] theorem aro:n6.length=6:=rfl
@[grind->] theorem arn {d:List UInt8} (h:d∈n6):d.length<=12:=by
 simp only[n6,ats,au5,or_false] at h;rcases h with rfl|rfl|rfl|rfl|rfl|rfl<;>decide
def n2 (y:bL):Prop:=
 0<=y.bF.iQ/\y.bF.iQ<=y.bF.aP.length/\y.bF.proof.fA.steps=y.bF.aP.length/\y.bF.aP.length<=1000000/\y.bF.cu.length<=1000/\0<=y.bF.lead/\y.bF.lead<y.aP.length/\(∀t∈y.bF.aP,0<=t/\t<y.aP.length)/\y.bF.ia.items.length=y.bF.cu.length/\y.bF.proof.fA.hL.length=y.bF.cu.length/\∀i∈y.bF.ia.items,0<=i.ft/\i.ft<y.cE.length
def QL (n:Int) (o:cb):Prop:=0<=o.bQ/\o.bQ<n/\o.cH.length<=16/\o.name.length<=100/\∀d∈o.cH,d.length<=1000000
def dM (n K:Int) (s:List (List Int)):Prop:=s.length<=24/\∀t∈s,t.length<=K/\∀i∈t,0<=i/\i<n
def k3 (K:Int) (y:bL):Prop:=
 dM y.cu.length K y.aP/\y.cu.length<=192/\y.cE.length<=8/\(∀o∈y.cE,QL y.aP.length o)/\(y.busy=as5->y.dF=as9->n2 y)/\y.bF.cu.length<=1000/\y.bF.aP.length<=1000000/\y.bF.ia.items.length<=1000000/\y.bF.proof.fA.hL.length<=1000000/\y.bF.proof.chain.length<=1000000/\∀w∈y.cu,w.dest.length<=1000000
def nx (K:Int) (c:du) (y:bL):Prop:=0<c.aP.length/\y.aP.length=c.aP.length/\k3 K y
def hz (e:bw):Prop:=e.data.length<=300000/\e.aP.length<=100/\e.dd.length<=100/\e.order.cH.length<=100/\e.order.name.length<=100/\(∀d∈e.order.cH,d.length<=100)/\e.name.length<=100
theorem aaY {K:Int} {y:bL} (h:k3 K y):r5 y:=⟨by grind [k3,dM],by grind [k3,dM],by grind [k3,dM]⟩
attribute [grind->] aaY
attribute [grind] dM n2 QL k3 nx hz xm ku QC
variable {N:Nat} (ap:5000000000<N)
include ap
theorem akA {x0:cx} {ai:cb} {az:Int} {j9:List (List UInt8)} (U:0<=x0.n) (aa:x0.n<=900000000000) (ao:0<=az) (aN:az<=4) (bI:j9.length<=100) (eg:∀d∈j9,d.length<=12):aH (GU N x0 ai az j9) fun r=>x0.n<=r.1.n/\r.1.n<=x0.n+2/\r.2.2.length<=j9.length+1/\(∀d∈r.2.2,d.length<=12)/\r.2.1.name=ai.name/\r.2.1.bQ=ai.bQ:=by
 rw[GU];repeat' (with_reducible first|intro _|apply aI (jm ap ?_ ?_ ?_ ?_)|apply ed|apply bU|refine bG (by omega) ?_|apply aW|apply aK)
 all_goals grind -mbtc
theorem akz {n:Nat} {x0:cx} {ai:cb} {az:Int} {j9:(List (List UInt8))}:(0<=az)->(az<=4)->((4:Int) - az<n)->(0<=x0.n)->(x0.n<=800000000000+2*az)->(j9.length<=az)->(∀d∈j9,d.length<=12)->aH (AU N n x0 ai az j9) fun r=>x0.n<=r.1.n/\r.1.n<=x0.n+8 - 2*az/\r.2.2.length<=4/\(∀d∈r.2.2,d.length<=12)/\r.2.1.name=ai.name/\r.2.1.bQ=ai.bQ:=by
 induction n generalizing x0 ai az j9 with
 |zero=>intros;exfalso;grind -mbtc
 |succ n aq=>
  intros;rw[AU];repeat' (with_reducible first|intro _|apply aI (akA ap ?_ ?_ ?_ ?_ ?_ ?_)|apply b7 (aq ?_ ?_ ?_ ?_ ?_ ?_ ?_)|refine bG (by omega) ?_|apply bo|apply br|apply aW|apply aK)
  all_goals clear aq
  all_goals grind -mbtc
theorem akB {x0:cx} {ak:du} {ai:cb} {Qu:Bool} (U:0<=x0.n) (aa:x0.n<=900000000000):aH (H9 N x0 ak ai Qu) fun r=>x0.n<=r.1.n/\r.1.n<=x0.n+1/\r.2.name=ai.name:=by
 rw[H9];repeat' (with_reducible first|intro _|apply aI (uP ap ?_ ?_ ?_ ?_)|apply aW|apply aK)
 all_goals grind -mbtc
theorem ae1 {x0:cx} {J:du} (U:0<=x0.n) (aa:x0.n<=700000000000) (ao:0<J.aP.length) (aN:J.aP.length<=24):aH (Kk N x0 J) fun r=>x0.n<=r.2.n/\r.2.n<=x0.n+20/\r.1.name.length<=12/\r.1.cH.length<=4/\∀d∈r.1.cH,d.length<=12:=by
 rw[Kk];repeat' (with_reducible first|intro _|apply aI (jm ap ?_ ?_ ?_ ?_)|apply aI (akz ap ?_ ?_ ?_ ?_ ?_ ?_ ?_)|apply aI (akB ap ?_ ?_)|apply bU|apply aK)
 all_goals grind -mbtc
theorem Yr {x0:bL} (U:n2 x0):aH (CL N x0) fun r=>0<=r/\r<x0.aP.length/\(r=x0.bF.lead\/r∈x0.bF.aP):=by
 rw[CL];repeat' (with_reducible first|intro _|apply bU|refine bG (by omega) ?_|apply aW|apply aK)
 all_goals grind -mbtc
theorem alS {al:Int} {av:List Int} (U:av.length<=1000000) {n:Nat} {bk:Int}:(0<=bk)->(bk<=(av.length:Int))->((av.length:Int) - bk<n)->aH (AD N al av n bk) fun r=>True:=by
 induction n generalizing bk with
 |zero=>intros;exfalso;grind -mbtc
 |succ n aq=>
  intros;rw[AD];repeat' (with_reducible first|intro _|apply b7 (aq ?_ ?_ ?_)|apply Tk|apply xU|apply bU|refine bG (by omega) ?_|apply bo|apply br|apply aW|apply aK)
  all_goals clear aq
  all_goals grind -mbtc
theorem agl {x0:List cb} {J:eV} {al ak:Int} {av:List Int} (U:av.length<=1000000) (aa:0<=ak) (ao:ak<=av.length) (aN:0<=J.ft) (bI:J.ft<x0.length):aH (mD N x0 J al ak av) fun r=>True:=by
 rw[mD];repeat' (with_reducible first|intro _|apply dR (alS ap ?_ ?_ ?_ ?_)|apply bU|apply aK)
 all_goals grind -mbtc
theorem akp {J ai:List Int} {al:bL} {az:fZ} {aA aC:Int} (U:n2 al) (aa:az=al.bF) (ao:0<=aA) (aN:aA<J.length) (bI:0<=aC) (eg:aC<az.cu.length) (g7:ai.length<=100000000):aH (Io N J al ai az aA aC) fun r=>r.length<=ai.length+1/\ai.length<=r.length/\(aD J aA=aD az.cu aC->ai.length<r.length):=by
 rw[Io];repeat' (with_reducible first|intro _|apply aI (agl ap ?_ ?_ ?_ ?_ ?_)|apply ed|apply bU|apply aW|apply aK)
 all_goals grind -mbtc
theorem ako {J:List Int} {al:bL} {az:fZ} {aA:Int} (U:n2 al) (aa:az=al.bF) (ao:0<=aA) (aN:aA<J.length) {n:Nat} {ai:(List Int)} {aC:Int}:(0<=aC)->(aC<=(az.cu.length:Int))->((az.cu.length:Int) - aC<n)->(ai.length+(az.cu.length - aC)<=100000000)->aH (A6 N J al az aA n ai aC) fun r=>r.length<=ai.length+(az.cu.length - aC)/\ai.length<=r.length/\∀i,aD J aA=as4 i->i∈az.cu.drop aC.toNat->ai.length<r.length:=by
 induction n generalizing ai aC with
 |zero=>intros;exfalso;grind -mbtc
 |succ n aq=>
  intros;rw[A6];repeat' (with_reducible first|intro _|apply aI (akp ap ?_ ?_ ?_ ?_ ?_ ?_ ?_)|apply b7 (aq ?_ ?_ ?_ ?_)|refine bG (by omega) ?_|apply bo|apply br|apply aW|apply aK)
  all_goals clear aq
  all_goals first|grind -mbtc|(obtain ⟨t,e⟩:=jY (xs:=az.cu) (i:=aC) (by omega) (by omega);rw[sc e];grind -mbtc)
theorem akn {J:List Int} {al:bL} {az:fZ} (U:n2 al) (aa:az=al.bF) (ao:J.length<=40000) {n:Nat} {ai:(List Int)} {aA:Int}:(0<=aA)->(aA<=(J.length:Int))->((J.length:Int) - aA<n)->(ai.length+1000*(J.length - aA)<=100000000)->aH (A5 N J al az n ai aA) fun r=>r.length<=100000000/\((∀i∈J,i∈az.cu)->ai.length+(J.length - aA)<=r.length):=by
 induction n generalizing ai aA with
 |zero=>intros;exfalso;grind -mbtc
 |succ n aq=>
  intros;rw[A5];repeat' (with_reducible first|intro _|apply aI (ako ap ?_ ?_ ?_ ?_ ?_ ?_ ?_ ?_)|apply b7 (aq ?_ ?_ ?_ ?_)|refine bG (by omega) ?_|apply bo|apply br|apply aW|apply aK)
  all_goals clear aq
  all_goals first|grind -mbtc|(obtain ⟨t,e⟩:=jY (xs:=J) (i:=aA) (by omega) (by omega);grind -mbtc)
theorem Yn {x0:bL} {J:List Int} (U:n2 x0) (aa:J.length<=40000):aH (CI N x0 J) fun r=>r.length<=100000000/\((∀i∈J,i∈x0.bF.cu)->J.length<=r.length):=by
 rw[CI];repeat' (with_reducible first|intro _|apply aI (akn ap ?_ ?_ ?_ ?_ ?_ ?_ ?_)|apply aK)
 all_goals grind -mbtc
theorem ank {J:bL}:aH (IZ N J) fun r=>r=as9->J.busy=as5/\J.dF=as9:=by
 rw[IZ];repeat' (with_reducible first|intro _|apply aW|apply aK)
 all_goals grind -mbtc
theorem af0 {x0:bL} (U:k3 40000 x0):aH (Lk N x0) fun r=>r.2.1.length<=40000:=by
 rw[Lk];repeat' (with_reducible first|intro _|apply aI (ank ap)|apply aI (Yr ap ?_)|apply aI (Yn ap ?_ ?_)|apply ed|apply bU|apply aW|apply aK)
 all_goals grind -mbtc
theorem alf {x0:cx} {az:bL} (U:0<=x0.n) (aa:x0.n<=900000000000):aH (GL N x0 az) fun r=>x0.n<=r.1.n/\r.1.n<=x0.n+1:=by
 rw[GL];repeat' (with_reducible first|intro _|apply aI (jm ap ?_ ?_ ?_ ?_)|apply bo|apply aW|apply aK)
 all_goals grind -mbtc
theorem alg {x0:cx} {az:bL} (U:0<=x0.n) (aa:x0.n<=900000000000):aH (GM N x0 az) fun r=>x0.n<=r.1.n/\r.1.n<=x0.n+1:=by
 rw[GM];repeat' (with_reducible first|intro _|apply aI (jm ap ?_ ?_ ?_ ?_)|apply bo|apply aW|apply aK)
 all_goals grind -mbtc
theorem ale {x0:cx} {az:bL} {aX:bw} (U:0<=x0.n) (aa:x0.n<=700000000000):aH (GK N x0 az aX) fun r=>x0.n<=r.1.n/\r.1.n<=x0.n+2/\r.2.order=aX.order/\r.2.name=aX.name:=by
 rw[GK];repeat' (with_reducible first|intro _|apply aI (alf ap ?_ ?_)|apply aI (alg ap ?_ ?_)|apply aW|apply aK)
 all_goals grind -mbtc
theorem ali {x0:cx} {aZ:List Int} (U:0<=x0.n) (aa:x0.n<=900000000000):aH (GO N x0 aZ) fun r=>x0.n<=r.1.n/\r.1.n<=x0.n+1/\(r.2=as5->0<aZ.length):=by
 rw[GO];repeat' (with_reducible first|intro _|apply aI (jm ap ?_ ?_ ?_ ?_)|apply br|apply aW|apply aK)
 all_goals grind -mbtc
theorem alj {x0:cx} {aZ:List Int} {aX:bw} {JQ:Bool} (U:0<=x0.n) (aa:x0.n<=900000000000) (ao:aZ.length<=1000000) (aN:JQ=as5->0<aZ.length):aH (GP N x0 aZ aX JQ) fun r=>x0.n<=r.1.n/\r.1.n<=x0.n+1/\r.2.order=aX.order/\r.2.name=aX.name:=by
 rw[GP];repeat' (with_reducible first|intro _|apply aI (jm ap ?_ ?_ ?_ ?_)|apply bU|apply aW|apply aK)
 all_goals grind -mbtc
theorem alk {ak:Int} {n:Nat} {x0:cx} {bk:(List b8)} {a8:Int}:(0<=a8)->(a8<n)->(0<=x0.n)->(x0.n+100*a8<=800000000000)->(bk.length+a8<=10)->(∀w∈bk,w.dest.length<=12)->aH (AT N ak n x0 bk a8) fun r=>x0.n<=r.1.n/\r.1.n<=x0.n+100*a8/\r.2.length<=10/\∀w∈r.2,w.dest.length<=12:=by
 induction n generalizing x0 bk a8 with
 |zero=>intros;exfalso;grind -mbtc
 |succ n aq=>
  intros;rw[AT];repeat' (with_reducible first|intro _|apply aI (jm ap ?_ ?_ ?_ ?_)|apply aI (aeG ap ?_ ?_)|apply b7 (aq ?_ ?_ ?_ ?_ ?_ ?_)|apply ed|apply bU|refine bG (by omega) ?_|apply bo|apply br|apply aW|apply aK)
  all_goals clear aq
  all_goals grind -mbtc
theorem alm {x0:cx} {aZ:List Int} (U:0<=x0.n) (aa:x0.n<=900000000000):aH (GQ N x0 aZ) fun r=>x0.n<=r.1.n/\r.1.n<=x0.n+1/\(r.2=as5->0<aZ.length):=by
 rw[GQ];repeat' (with_reducible first|intro _|apply aI (jm ap ?_ ?_ ?_ ?_)|apply br|apply aW|apply aK)
 all_goals grind -mbtc
theorem akx {nT:Int} {JN:Bool}:aH (GR N nT JN) fun r=>True:=by
 rw[GR];repeat' (with_reducible first|intro _|apply bo|apply aW|apply aK)
 all_goals grind -mbtc
theorem aky {aZ:List Int} {aX:bw}:aH (GS N aZ aX) fun r=>r=as5->0<aZ.length:=by
 rw[GS];repeat' (with_reducible first|intro _|apply aW|apply aK)
 all_goals grind -mbtc
theorem aiq {aZ:List Int} {aX:bw} {JO:Bool} (U:aZ.length<=1000000) (aa:JO=as5->0<aZ.length):aH (Ga N aZ aX JO) fun r=>r.order=aX.order/\r.name=aX.name:=by
 rw[Ga];repeat' (with_reducible first|intro _|apply bU|refine bG (by omega) ?_|apply br|apply aW|apply aK)
 all_goals grind -mbtc
theorem ais {aZ hy:List Int} {cw:Int}:aH (Gb N aZ cw hy) fun r=>r=as5->cw<aZ.length/\hy.length<4:=by
 rw[Gb];repeat' (with_reducible first|intro _|apply br|apply aW|apply aK)
 all_goals grind -mbtc
theorem ait {aZ hy:List Int} {aX:bw} {cw:Int} (U:0<=cw) (aa:cw<aZ.length) (ao:hy.length<=4):aH (F0 N aZ aX cw hy) fun r=>r.2.length<=hy.length+1/\r.1.order=aX.order/\r.1.name=aX.name:=by
 rw[F0];repeat' (with_reducible first|intro _|apply ed|apply bU|apply aW|apply aK)
 all_goals grind -mbtc
theorem air {aZ:List Int} (U:aZ.length<=1000000) {n:Nat} {aX:bw} {cw:Int} {hy:(List Int)}:(0<=cw)->(cw<=aZ.length)->(aZ.length - cw<n)->(hy.length<=4)->aH (zx N aZ n aX cw hy) fun r=>r.2.length<=4/\r.1.order=aX.order/\r.1.name=aX.name:=by
 induction n generalizing aX cw hy with
 |zero=>intros;exfalso;grind -mbtc
 |succ n aq=>
  intros;rw[zx];repeat' (with_reducible first|intro _|apply aI (ais ap)|apply aI (ait ap ?_ ?_ ?_)|apply b7 (aq ?_ ?_ ?_ ?_)|refine bG (by omega) ?_|apply bo|apply aW|apply aK)
  all_goals clear aq
  all_goals grind -mbtc
theorem aiu {ai:du} {di:List Int} (U:di.length<=1000000) (aa:di.length<=40000) (ao:ai.aP.length<=24) (aN:0<ai.aP.length) {n:Nat} {x0:cx} {aX:bw} {eF:Int} {ka:(List fI)}:(0<=eF)->(eF<n)->(0<=x0.n)->(x0.n+2*eF<=800000000000)->(ka.length+eF<=10)->aH (zy N ai di n x0 aX eF ka) fun r=>x0.n<=r.1.n/\r.1.n<=x0.n+2*eF/\r.2.2.length<=10/\r.2.1.order=aX.order/\r.2.1.name=aX.name:=by
 induction n generalizing x0 aX eF ka with
 |zero=>intros;exfalso;grind -mbtc
 |succ n aq=>
  intros;rw[zy];repeat' (with_reducible first|intro _|apply aI (jm ap ?_ ?_ ?_ ?_)|apply b7 (aq ?_ ?_ ?_ ?_ ?_)|apply ed|refine bG (by omega) ?_|apply bo|apply br|apply aW|apply aK)
  all_goals clear aq
  all_goals grind -mbtc
theorem alh {x0:cx} {ak nT:Int} {ai:du} {az:bL} {aZ hy:List Int} {aX:bw} {ka:List fI} {oI:List UInt8} (U:0<=x0.n) (aa:x0.n<=700000000000) (ao:nx 40000 ai az) (aN:aZ.length<=24) (bI:aX.order.cH=[]) (eg:aX.order.name=[]) (g7:aX.name=[]) (jE:hy=[]) (nz:ka=[]) (x8:oI=[]):aH (GN N x0 ak ai az aZ aX nT hy ka oI) fun r=>x0.n<=r.1.n/\r.1.n<=x0.n+2000/\r.2.2.1.length<=10/\r.2.2.2.1.length<=10/\r.2.2.2.2.length<=300000/\r.2.1.order.cH.length<=4/\r.2.1.order.name.length<=12/\(∀d∈r.2.1.order.cH,d.length<=12)/\r.2.1.name.length<=100:=by
 rw[GN];repeat' (with_reducible first|intro _|apply aI (jm ap ?_ ?_ ?_ ?_)|apply aI (uP ap ?_ ?_ ?_ ?_)|apply aI (YA ap ?_ ?_ ?_)|apply aI (agd ap ?_ ?_)|apply aI (af0 ap ?_)|apply aI (aiq ap ?_ ?_)|apply aI (air ap ?_ ?_ ?_ ?_ ?_)|apply aI (aiu ap ?_ ?_ ?_ ?_ ?_ ?_ ?_ ?_ ?_)|apply aI (ali ap ?_ ?_)|apply aI (alj ap ?_ ?_ ?_ ?_)|apply aI (alk ap ?_ ?_ ?_ ?_ ?_ ?_)|apply aI (alm ap ?_ ?_)|apply aI (akx ap)|apply aI (aky ap)|apply aI (ae1 ap ?_ ?_ ?_ ?_)|apply ed|apply bU|apply bo|apply br|apply aW|apply aK)
 all_goals grind -mbtc
theorem YG {x0:cx} {J:du} {al:bL} {ak:Int} (U:0<=x0.n) (aa:x0.n<=600000000000) (ao:nx 40000 J al):aH (CG N x0 J al ak) fun r=>x0.n<=r.2.n/\r.2.n<=x0.n+3000/\hz r.1:=by
 rw[CG];repeat' (with_reducible first|intro _|apply aI (jm ap ?_ ?_ ?_ ?_)|apply aI (ale ap ?_ ?_)|apply aI (alh ap ?_ ?_ ?_ ?_ ?_ ?_ ?_ ?_ ?_ ?_)|apply aI (aeD ap ?_)|refine bG (by omega) ?_|apply aK)
 all_goals grind -mbtc
end Go.W
end
section
set_option maxHeartbeats 2000000
namespace Go.W
open Go.ay
def Tq (b:List UInt8):Nat->Int->Prop
 |0,_=>True
 |k+1,p=>∃d,aD b (p+14)=as4 d/\p+15+d.toNat<=b.length/\Tq b k (p+15+d.toNat)
def lF (b:List UInt8) (k p:Int):Prop:=Tq b k.toNat p
theorem Tn {b:List UInt8} {k p:Int} (h:lF b k p) (ar:0<k):∃d,aD b (p+14)=as4 d/\p+15+d.toNat<=b.length/\lF b (k - 1) (p+15+d.toNat):=by
 unfold lF at h⊢;rw[show k.toNat=(k - 1).toNat+1 by omega] at h;exact h
theorem abi {b:List UInt8} {k p:Int} {d:UInt8} (ar:0<k) (e:aD b (p+14)=as4 d) (ax:p+15+d.toNat<=b.length) (h:lF b (k - 1) (p+15+d.toNat)):lF b k p:=by
 unfold lF at h⊢;rw[show k.toNat=(k - 1).toNat+1 by omega];exact ⟨d,e,ax,h⟩
theorem abh {b:List UInt8} {k p:Int} (ar:k<=0):lF b k p:=by unfold lF;rw[show k.toNat=0 by omega];trivial
@[grind=] theorem asP (o:cb):cb.mk o.name o.bQ o.cH=o:=rfl
@[grind=] theorem asz (p:fZ):fZ.mk p.cu (cS.mk p.ia.items p.ia.c0) (gY.mk (eW.mk p.proof.fA.steps p.proof.fA.hL) p.proof.chain) p.lead p.aP p.iQ=p:=rfl
theorem abI {aB:Type} {l:List aB} {i:Int} {a y:aB} (e:aD (l.set i.toNat a) i=as4 y):y=a:=by
 unfold aD at e;split at e
 ·obtain ⟨h,rfl⟩:=atp.mp e;simp
 ·cases e
theorem Zy {aB:Type} {l:List aB} {i:Int} {y:aB} (e:aD l i=as4 y):l.set i.toNat y=l:=by
 unfold aD at e;split at e
 ·obtain ⟨h,rfl⟩:=atp.mp e;exact List.set_getElem_self h
 ·cases e
def vG (l:List Bool):Nat:=l.countP id
theorem abm {l:List Bool} {i:Int} (e:aD l i=as4 as9):vG (l.set i.toNat as5)=vG l+1:=by
 unfold aD at e;split at e
 ·obtain ⟨h,e⟩:=atp.mp e;unfold vG;rw[List.countP_set h];simp[e]
 ·cases e
theorem abl (l:List Bool):vG l<=l.length:=List.countP_le_length
def r3 (s r:List (List Int)):Prop:=∀t q,aD r t=as4 q->∃p,aD s t=as4 p/\q.length<=p.length/\∀i∈q,i∈p
def ns (s r:List (List Int)) (w to:Int):Prop:=∀t q,aD r t=as4 q->∃p,aD s t=as4 p/\q.length<=p.length+1/\∀i∈q,(t=to/\i=w)\/i∈p
theorem TT {aB:Type} {s:List aB} {i t:Int} {q u:aB} (h:0<=i) (e:aD (s.set i.toNat q) t=as4 u):(t=i/\u=q/\∃p,aD s t=as4 p)\/(t≠i/\aD s t=as4 u):=by
 unfold aD at*;split at e
 ·rename_i au;obtain ⟨k,e⟩:=atp.mp e;rw[List.getElem_set] at e;rw[List.length_set] at k;split at e
  ·exact .inl ⟨by omega,e.symm,s[t.toNat],by rw[if_pos au];exact atS k⟩
  ·exact .inr ⟨by omega,by rw[if_pos au,atS k,e]⟩
 ·cases e
theorem aad (s:List (List Int)):r3 s s:=fun _ q h=>⟨q,h,atk _,fun _ h=>h⟩
theorem aae {s:List (List Int)} {i:Int} {p q:List Int} (h:0<=i) (e:aD s i=as4 p) (l:q.length<=p.length) (k:∀v∈q,v∈p):r3 s (s.set i.toNat q):=fun t u g=>by
 rcases TT h g with ⟨rfl,rfl,_⟩|⟨_,g⟩
 ·exact ⟨p,e,l,k⟩
 ·exact ⟨u,g,atk _,fun _ h=>h⟩
theorem aaf {s:List (List Int)} {i w:Int} {p q:List Int} (h:0<=i) (e:aD s i=as4 p) (l:q.length=p.length+1) (k:∀v∈q,v=w\/v∈p):ns s (s.set i.toNat q) w i:=fun t u g=>by
 rcases TT h g with ⟨rfl,rfl,_⟩|⟨_,g⟩
 ·exact ⟨p,e,by omega,fun v ab=>(k v ab).imp (fun x=>⟨rfl,x⟩) id⟩
 ·exact ⟨u,g,by omega,fun _ h=> .inr h⟩
theorem r3.dS {s r:List (List Int)} {w t:Int} (h:r3 s r):ns s r w t:=fun a q g=>by
 obtain ⟨p,U,ax,aa⟩:=h a q g;exact ⟨p,U,by omega,fun i aj=> .inr (aa i aj)⟩
theorem ns.apZ {s r u:List (List Int)} {w t:Int} (h:r3 s r) (k:ns r u w t):ns s u w t:=fun a q g=>by
 obtain ⟨p,U,ax,aa⟩:=k a q g;obtain ⟨p8,ao,gn,aN⟩:=h a p U;exact ⟨p8,ao,by omega,fun i aj=>(aa i aj).imp id (aN i)⟩
theorem TS {aB:Type} {s:List aB} {q:aB} (h:q∈s):∃t,aD s t=as4 q:=by
 obtain ⟨i,h,rfl⟩:=List.getElem_of_mem h;exact ⟨i,by unfold aD;rw[if_pos (by omega)];exact atS (by omega)⟩
@[grind->] theorem aq7 {s r:List (List Int)} {q:List Int} (h:r3 s r) (bb:q∈r):∃p∈s,q.length<=p.length/\∀i∈q,i∈p:=by
 obtain ⟨t,g⟩:=TS bb;obtain ⟨p,g,l,k⟩:=h t q g;exact ⟨p,wg g,l,k⟩
@[grind->] theorem aq8 {s r:List (List Int)} {q:List Int} {w t a:Int} (h:ns s r w t) (bb:aD r a=as4 q):∃p∈s,q.length<=p.length+1/\∀i∈q,i=w\/i∈p:=by
 obtain ⟨p,g,l,k⟩:=h a q bb;exact ⟨p,wg g,l,fun i aj=>(k i aj).imp And.right id⟩
theorem aas {s r:List (List Int)} {w t n:Int} {k:Nat} (h:dM n 40000 s) (a:∀t∈s,t.length<=k) (b:k<=1000) (l:r.length=s.length) (c:ns s r w t) (d:0<=w) (e:w<n):dM n 40000 r:=by
 refine ⟨by unfold dM at h;omega,fun q bb=> ?_⟩;obtain ⟨t,g⟩:=TS bb;obtain ⟨p,g,l,k⟩:=c t q g;have:=a p (wg g);refine ⟨by omega,fun i aj=> ?_⟩;rcases k i aj with ⟨_,rfl⟩|k
 ·exact ⟨d,e⟩
 ·exact (h.2 p (wg g)).2 i k
def de (c:du) (y:bL):Prop:=nx 40000 c y
def k2 (w:List Int) (s:List (List Int)) (t:Int):Prop:=∀q,aD s t=as4 q->∀i∈q,i∈w
def LB (p:fZ) (s:List (List Int)):Prop:=∀t,(t=p.lead\/t∈p.aP)->k2 p.cu s t
def hX (y:bL):Prop:=y.busy=as5->y.dF=as9->LB y.bF y.aP
def xI (w:List Int) (s r:List (List Int)):Prop:=∀t p,aD s t=as4 p->∃q,aD r t=as4 q/\∀i∈p,i∈w\/i∈q
def kv (w:List Int) (y z:bL):Prop:=∃s b,z=bL.mk y.cu s y.cE y.busy y.bF b/\∀t,k2 w y.aP t->k2 w s t
def lD (to:Int) (y z:bL):Prop:=∃s b,z=bL.mk y.cu s y.cE y.busy y.bF b/\∀w t,t≠to->k2 w y.aP t->k2 w s t
theorem QS {s r:List (List Int)} {w:List Int} {v to t:Int} (h:ns s r v to) (k:v∈w\/t≠to) (g:k2 w s t):k2 w r t:=fun q e i aj=>by
 obtain ⟨p,b0,_,cK⟩:=h t q e;rcases cK i aj with ⟨a,rfl⟩|cK
 ·rcases k with k|k
  ·exact k
  ·exact absurd a k
 ·exact g p b0 i cK
theorem xP {y:bL} {s:List (List Int)} {w:List Int} {v to:Int} (h:ns y.aP s v to) (k:v∈w):kv w y (bL.mk y.cu s y.cE y.busy y.bF y.dF):=⟨s,_,rfl,fun _=>QS h (.inl k)⟩
theorem xO {y:bL} {s:List (List Int)} {v to:Int} (h:ns y.aP s v to):lD to y (bL.mk y.cu s y.cE y.busy y.bF y.dF):=⟨s,_,rfl,fun _ _ k=>QS h (.inr k)⟩
theorem r7 (w:List Int) (y:bL):kv w y y:=⟨_,_,rfl,fun _ h=>h⟩
theorem r6 (to:Int) (y:bL):lD to y y:=⟨_,_,rfl,fun _ _ _ h=>h⟩
theorem Td {w:List Int} {x y z:bL} (h:kv w x y) (k:kv w y z):kv w x z:=by
 obtain ⟨s,b,rfl,h⟩:=h;obtain ⟨r,c,rfl,k⟩:=k;exact ⟨_,_,rfl,fun t g=>k t (h t g)⟩
theorem LM {to:Int} {x y z:bL} (h:lD to x y) (k:lD to y z):lD to x z:=by
 obtain ⟨s,b,rfl,h⟩:=h;obtain ⟨r,c,rfl,k⟩:=k;exact ⟨_,_,rfl,fun w t a g=>k w t a (h w t a g)⟩
theorem QQ (w:List Int) (s:List (List Int)):xI w s s:=fun _ p h=>⟨p,h,fun _ h=> .inr h⟩
theorem QR {w:List Int} {s r:List (List Int)} {i:Int} {p q:List Int} (a:0<=i) (e:aD s i=as4 p) (k:∀v∈p,v∈w\/v∈q) (h:xI w (s.set i.toNat q) r):xI w s r:=fun t u g=>by
 by_cases au:t=i
 ·subst au;obtain rfl:p=u:=atj.inj (e.symm.trans g);obtain ⟨x,U,aa⟩:=h t q (by
   unfold aD at e⊢;rw[if_pos a] at e⊢;rw[List.getElem?_set_self (by obtain ⟨h,_⟩:=atp.mp e;exact h)])
  exact ⟨x,U,fun v ab=>(k v ab).elim .inl (aa v)⟩
 ·exact h t u (by
   unfold aD at g⊢;split at g
   ·rename_i bg;rw[if_pos bg,List.getElem?_set_ne (by omega)];exact g
   ·cases g)
variable {N:Nat} (ap:5000000000<N)
include ap
theorem anG {x0:List (List Int)} (U:x0.length<=1000) (aa:∀t∈x0,t.length<=1000000) {n:Nat} {ak:(List (List Int))} {av:Int}:(0<=av)->(av<=(x0.length:Int))->((x0.length:Int) - av<n)->(ak.length<=av)->aH (Bw N x0 n ak av) fun r=>r=ak++x0.drop av.toNat:=by
 induction n generalizing ak av with
 |zero=>intros;exfalso;grind -mbtc
 |succ n aq=>
  intros;rw[Bw];repeat' (with_reducible first|intro _|apply b7 (aq ?_ ?_ ?_ ?_)|apply ed|apply bU|refine bG (by omega) ?_|apply bo|apply br|apply aW|apply aK)
  all_goals clear aq
  all_goals grind -mbtc
theorem PU {x0:List (List Int)} (U:x0.length<=1000) (aa:∀t∈x0,t.length<=1000000):aH (xx N x0) fun r=>r=x0:=by
 rw[xx];repeat' (with_reducible first|intro _|apply aI (anG ap ?_ ?_ ?_ ?_ ?_ ?_)|apply aK)
 all_goals grind -mbtc
theorem anH {J:bL} (U:J.cE.length<=8) (aa:∀o∈J.cE,o.cH.length<=16) {n:Nat} {ak:(List cb)} {av:Int} {xh:(List (List Int))}:(0<=av)->(av<=(J.cE.length:Int))->((J.cE.length:Int) - av<n)->(ak.length<=av)->aH (Bx N J n ak av xh) fun r=>r.1=ak++J.cE.drop av.toNat/\r.2=xh:=by
 induction n generalizing ak av xh with
 |zero=>intros;exfalso;grind -mbtc
 |succ n aq=>
  intros;rw[Bx];repeat' (with_reducible first|intro _|apply b7 (aq ?_ ?_ ?_ ?_)|apply ed|apply bU|refine bG (by omega) ?_|apply bo|apply br|apply aW|apply aK)
  all_goals clear aq
  all_goals first|grind -mbtc|(rw[sc (by assumption:aD J.cE av=as4 _)];simp_all)
theorem afY {x0:bL} (U:k3 40000 x0):aH (CW N x0) fun r=>r.1=bL.mk [] x0.aP [] x0.busy x0.bF x0.dF/\r.2.1=x0.cu/\r.2.2=x0.cE:=by
 rw[CW];simp only[List.map_id'];repeat' (with_reducible first|intro _|apply aI (PU ap ?_ ?_)|apply aI (anH ap ?_ ?_ ?_ ?_ ?_ ?_)|apply ed|apply aK)
 all_goals first|grind -mbtc|simp_all [QC]
theorem an2 {J:Int} {al:du}:aH (Jw N J al) fun r=>r=as5->0<=J/\J<al.aP.length:=by
 rw[Jw];repeat' (with_reducible first|intro _|apply bo|apply br|apply aW|apply aK)
 all_goals grind -mbtc
theorem uQ {x0:du} {J:Int}:aH (pB N x0 J) fun r=>r=as5->0<=J/\J<x0.aP.length:=by
 rw[pB];repeat' (with_reducible first|intro _|apply aI (an2 ap)|apply aK)
 all_goals grind -mbtc
theorem aoY {x0:List Int} {J:Int} (U:x0.length<=1000000) {n:Nat} {ai:Int}:(0<=ai)->(ai<=(x0.length:Int))->((x0.length:Int) - ai<n)->aH (Bk N x0 J n ai) fun r=>(∀a,r= .inr a->a=as5/\J∈x0)/\(r= .inl ()->J∉x0.drop ai.toNat):=by
 induction n generalizing ai with
 |zero=>intros;exfalso;grind -mbtc
 |succ n aq=>
  intros;rw[Bk];repeat' (with_reducible first|intro _|apply b7 (aq ?_ ?_ ?_)|apply bU|refine bG (by omega) ?_|apply bo|apply br|apply aW|apply aK)
  all_goals clear aq
  all_goals grind -mbtc
theorem zK {x0:List Int} {J:Int} (U:x0.length<=1000000):aH (th N x0 J) fun r=>(r=as5->J∈x0)/\(r=as9->J∉x0):=by
 rw[th];repeat' (with_reducible first|intro _|apply dR (aoY ap ?_ ?_ ?_ ?_)|apply aK)
 all_goals grind -mbtc
theorem akW {J:Int} {al:bL} (U:al.cE.length<=1000000) {n:Nat} {ai:Int}:(0<=ai)->(ai<=(al.cE.length:Int))->((al.cE.length:Int) - ai<n)->aH (A4 N J al n ai) fun r=>True:=by
 induction n generalizing ai with
 |zero=>intros;exfalso;grind -mbtc
 |succ n aq=>
  intros;rw[A4];repeat' (with_reducible first|intro _|apply b7 (aq ?_ ?_ ?_)|apply bU|refine bG (by omega) ?_|apply bo|apply br|apply aW|apply aK)
  all_goals clear aq
  all_goals grind -mbtc
theorem w1 {x0:bL} {J:Int} (U:x0.cE.length<=1000000):aH (qy N x0 J) fun r=>True:=by
 rw[qy];repeat' (with_reducible first|intro _|apply dR (akW ap ?_ ?_ ?_ ?_)|apply aK)
 all_goals grind -mbtc
theorem anZ {x0:List (List Int)} {J az:Int} (U:0<=az) (aa:az<x0.length) (ao:x0.length<=1000) (aN:∀t∈x0,t.length<=1000000) {n:Nat} {aA:Int}:(0<=aA)->(∀t,aD x0 az=as4 t->aA<=t.length/\t.length - aA<n)->aH (B9 N x0 J az n aA) fun r=>∀a,r= .inr a->0<=a.1/\a.1<x0.length/\0<=a.2/\∀t,aD x0 a.1=as4 t->a.2<t.length:=by
 induction n generalizing aA with
 |zero=>intros;obtain ⟨t,e⟩:=jY U aa;exfalso;grind -mbtc
 |succ n aq=>
  intros;rw[B9];repeat' (with_reducible first|intro _|apply b7 (aq ?_ ?_)|apply bU|refine bG (by omega) ?_|apply bo|apply br|apply aW|apply aK)
  all_goals clear aq
  all_goals grind -mbtc
theorem anY {x0:List (List Int)} {J:Int} (U:x0.length<=1000) (aa:∀t∈x0,t.length<=1000000) {n:Nat} {az:Int}:(0<=az)->(az<=(x0.length:Int))->((x0.length:Int) - az<n)->aH (B8 N x0 J n az) fun r=>∀a,r= .inr a->0<=a.1/\a.1<x0.length/\0<=a.2/\∀t,aD x0 a.1=as4 t->a.2<t.length:=by
 induction n generalizing az with
 |zero=>intros;exfalso;grind -mbtc
 |succ n aq=>
  intros;rw[B8];repeat' (with_reducible first|intro _|apply dR (anZ ap ?_ ?_ ?_ ?_ ?_ ?_)|apply b7 (aq ?_ ?_ ?_)|refine bG (by omega) ?_|apply bo|apply br|apply aW|apply aK)
  all_goals clear aq
  all_goals grind -mbtc
theorem sZ {x0:List (List Int)} {J:Int} (U:x0.length<=1000) (aa:∀t∈x0,t.length<=1000000):aH (pA N x0 J) fun r=>0<=r.1->0<=r.1/\r.1<x0.length/\0<=r.2/\∀t,aD x0 r.1=as4 t->r.2<t.length:=by
 rw[pA];repeat' (with_reducible first|intro _|apply dR (anY ap ?_ ?_ ?_ ?_ ?_)|apply aK)
 all_goals grind -mbtc
theorem akV {x0:List b8} (U:x0.length<=1000000) {n:Nat} {ak:(List Int)} {av:Int}:(0<=av)->(av<=(x0.length:Int))->((x0.length:Int) - av<n)->(ak.length=av)->aH (A3 N x0 n ak av) fun r=>r.length=x0.length:=by
 induction n generalizing ak av with
 |zero=>intros;exfalso;grind -mbtc
 |succ n aq=>
  intros;rw[A3];repeat' (with_reducible first|intro _|apply b7 (aq ?_ ?_ ?_ ?_)|apply ed|apply bU|refine bG (by omega) ?_|apply bo|apply br|apply aW|apply aK)
  all_goals clear aq
  all_goals grind -mbtc
theorem zI {x0:List b8} (U:x0.length<=1000000):aH (te N x0) fun r=>r.length=x0.length:=by
 rw[te];repeat' (with_reducible first|intro _|apply aI (akV ap ?_ ?_ ?_ ?_ ?_)|apply aK)
 all_goals grind -mbtc
theorem aoX {x0 J:List Int} (U:J.length<=1000000) (aa:∀i∈J,0<=i/\i<x0.length) {n:Nat} {ai:Int} {az:Int}:(0<=az)->(az<=(J.length:Int))->((J.length:Int) - az<n)->aH (Bj N x0 J n ai az) fun r=>True:=by
 induction n generalizing ai az with
 |zero=>intros;exfalso;grind -mbtc
 |succ n aq=>
  intros;rw[Bj];repeat' (with_reducible first|intro _|apply b7 (aq ?_ ?_ ?_)|apply bU|refine bG (by omega) ?_|apply bo|apply br|apply aW|apply aK)
  all_goals clear aq
  all_goals grind -mbtc
theorem Zh {x0 J:List Int} (U:J.length<=1000000) (aa:∀i∈J,0<=i/\i<x0.length):aH (C1 N x0 J) fun r=>True:=by
 rw[C1];repeat' (with_reducible first|intro _|apply aI (aoX ap ?_ ?_ ?_ ?_ ?_)|apply aK)
 all_goals grind -mbtc
theorem anR {x0:List hI} {J:List Int} {al:List (List Int)}:aH (Js N x0 J al) fun r=>r=as9->al.length=x0.length:=by
 rw[Js];repeat' (with_reducible first|intro _|apply br|apply aW|apply aK)
 all_goals grind -mbtc
theorem anT {J:List Int} {aA:Int} (U:0<=aA) (aa:aA<J.length):aH (Jt N J aA) fun r=>True:=by
 rw[Jt];repeat' (with_reducible first|intro _|apply bU|apply br|apply aW|apply aK)
 all_goals grind -mbtc
theorem anS {J:List Int} (U:J.length<=1000000) {n:Nat} {aA:Int}:(0<=aA)->(aA<=(J.length:Int))->((J.length:Int) - aA<n)->aH (B5 N J n aA) fun r=>∀a,r= .inr a->a=as9:=by
 induction n generalizing aA with
 |zero=>intros;exfalso;grind -mbtc
 |succ n aq=>
  intros;rw[B5];repeat' (with_reducible first|intro _|apply aI (anT ap ?_ ?_)|apply b7 (aq ?_ ?_ ?_)|refine bG (by omega) ?_|apply bo|apply br|apply aW|apply aK)
  all_goals clear aq
  all_goals grind -mbtc
theorem anW {J:List Int} {aC:List Bool} {bk:Int} (U:aC.length=J.length):aH (Ju N J aC bk) fun r=>r=as9->0<=bk/\bk<J.length/\aD aC bk=as4 as9:=by
 rw[Ju];repeat' (with_reducible first|intro _|apply bU|apply br|apply aW|apply aK)
 all_goals grind -mbtc
theorem anV {J:List Int} {al:List (List Int)} {aZ:Int} (U:0<=aZ) (aa:aZ<al.length) (ao:al.length<=1000) (aN:∀t∈al,t.length<=1000000) {n:Nat} {aC:(List Bool)} {aX:Int}:(0<=aX)->(∀t,aD al aZ=as4 t->aX<=t.length/\t.length - aX<n)->(aC.length=J.length)->aH (B7 N J al aZ n aC aX) fun r=>(∀a,r= .inr a->a=as9)/\∀a,r= .inl a->a.length=J.length/\∀t,aD al aZ=as4 t->vG a+aX=vG aC+t.length:=by
 induction n generalizing aC aX with
 |zero=>intros;obtain ⟨t,e⟩:=jY U aa;exfalso;grind -mbtc
 |succ n aq=>
  intros;rw[B7];repeat' (with_reducible first|intro _|apply aI (anW ap ?_)|apply b7 (aq ?_ ?_ ?_)|apply bU|refine bG (by omega) ?_|apply bo|apply br|apply aW|apply aK)
  all_goals clear aq
  all_goals first|grind -mbtc|grind -mbtc [abm]
theorem anX {x0:List hI} {J:List Int} {al:List (List Int)} {aZ:Int} (U:0<=aZ) (aa:aZ<al.length) (ao:al.length=x0.length) (aN:dM J.length 1000000 al):aH (Jv N x0 J al aZ) fun r=>True:=by
 rw[Jv];repeat' (with_reducible first|intro _|apply aI (Zh ap ?_ ?_)|apply bU|apply br|apply aW|apply aK)
 all_goals grind -mbtc
theorem anU {x0:List hI} {J:List Int} {al:List (List Int)} (U:al.length=x0.length) (aa:dM J.length 1000000 al) {n:Nat} {aC:(List Bool)} {aZ:Int}:(0<=aZ)->(aZ<=(al.length:Int))->((al.length:Int) - aZ<n)->(aC.length=J.length)->aH (B6 N x0 J al n aC aZ) fun r=>(r= .inl ()->∀t∈al.drop aZ.toNat,t.length<=J.length)/\∀a,r= .inr a->a=as9:=by
 induction n generalizing aC aZ with
 |zero=>intros;exfalso;grind -mbtc
 |succ n aq=>
  intros;rw[B6];repeat' (with_reducible first|intro _|apply dR (anV ap ?_ ?_ ?_ ?_ ?_ ?_ ?_)|apply aI (anX ap ?_ ?_ ?_ ?_)|apply b7 (aq ?_ ?_ ?_ ?_)|refine bG (by omega) ?_|apply bo|apply br|apply aW|apply aK)
  all_goals clear aq
  all_goals first|grind -mbtc|(obtain ⟨t,e⟩:=jY (xs:=al) (i:=aZ) (by omega) (by omega);rw[sc e];grind -mbtc [abl])
theorem afM {x0:List hI} {J:List Int} {al:List (List Int)} (U:dM J.length 1000000 al) (aa:J.length<=1000):aH (K8 N x0 J al) fun r=>r=as5->al.length=x0.length/\∀t∈al,t.length<=J.length:=by
 rw[K8];repeat' (with_reducible first|intro _|apply aI (anR ap)|apply dR (anS ap ?_ ?_ ?_ ?_)|apply dR (anU ap ?_ ?_ ?_ ?_ ?_ ?_)|apply tu|apply aW|apply aK)
 all_goals grind -mbtc
theorem amr {J:List Int} {al:List (List Int)} {aA:dh}:aH (Jo N J al aA) fun r=>r=as9->0<=aA.oD/\aA.oD<J.length/\aA.from_<al.length/\aA.to<al.length:=by
 rw[Jo];repeat' (with_reducible first|intro _|apply br|apply aW|apply aK)
 all_goals grind -mbtc
theorem ams {aA:dh} {aX:Int}:aH (Jp N aA aX) fun r=>True:=by
 rw[Jp];repeat' (with_reducible first|intro _|apply br|apply aW|apply aK)
 all_goals grind -mbtc
theorem amt {aX bk:Int} {a8:List (List Int)} {nd:Bool} (U:nd=as5->0<=aX/\aX<a8.length/\0<=bk/\∀t,aD a8 aX=as4 t->bk<t.length) (aa:∀t∈a8,t.length<=1000000):aH (Jq N aX bk a8 nd) fun r=>r.length=a8.length/\r3 a8 r:=by
 rw[Jq];repeat' (with_reducible first|intro _|apply ed|apply bU|apply pL|refine bG (by omega) ?_|apply aW|apply aK)
 all_goals first|grind -mbtc|grind -mbtc [aae,aad]
theorem amu {aA:dh} {a8:List (List Int)} {Qw:Bool} (U:0<=aA.to) (aa:aA.to<a8.length) (ao:∀t∈a8,t.length<=1000000):aH (Jr N aA a8 Qw) fun r=>r.length=a8.length/\ns a8 r aA.oD aA.to:=by
 rw[Jr];repeat' (with_reducible first|intro _|apply ed|apply bU|apply aW|apply aK)
 all_goals first|grind -mbtc|grind -mbtc [aaf]
theorem zJ {x0:List hI} {J:List Int} {al:List (List Int)} {ak:dh} (U:dM J.length 40000 al) (aa:J.length<=1000):aH (tf N x0 J al ak) fun r=>r.2=0->r.1.length=al.length/\dM J.length 40000 r.1/\ns al r.1 ak.oD ak.to:=by
 rw[tf];simp only[List.map_id'];repeat' (with_reducible first|intro _|apply aI (amr ap)|apply aI (ams ap)|apply aI (amt ap ?_ ?_)|apply aI (amu ap ?_ ?_ ?_)|apply aI (PU ap ?_ ?_)|apply aI (afM ap ?_ ?_)|apply aI (sZ ap ?_ ?_)|apply aI (Zh ap ?_ ?_)|apply bU|apply br|apply aW|apply aK)
 all_goals first|grind -mbtc|grind -mbtc [r3.dS,ns.apZ,Zy,aas]
theorem aeB {x0:bu} {J al:Int} {cq:List dh} (U:de x0.c x0.y) (aa:cq.length<=1000000):aH (Ku N x0 J al cq) fun r=>r.2.1.length<=cq.length+1/\r.2.2.c=x0.c/\r.2.2.e=x0.e/\de x0.c r.2.2.y/\(∀W,J∈W->kv W x0.y r.2.2.y)/\lD al x0.y r.2.2.y:=by
 rw[Ku];simp only[fG];repeat' (with_reducible first|intro _|apply aI (zJ ap ?_ ?_)|apply aI (sZ ap ?_ ?_)|apply aI (zI ap ?_)|apply ed|apply aW|apply aK)
 all_goals first|grind -mbtc [de]|grind -mbtc [xP,xO,r7,r6,de]
end Go.W
end
section
set_option maxHeartbeats 2000000
namespace Go.W
open Go.ay
attribute [grind] JX fG vm xn Cy
@[grind=] theorem asN {a b:Int} (h:0<=a):a.tdiv b=a / b:=Int.tdiv_eq_ediv_of_nonneg h
@[grind=] theorem asw (a b:Int):max a b=if a<=b then b else a:=Int.max_def a b
def rV (N:Nat) (j:cS) (v:List Int) (y x r:Int):Prop:=∃k c s,tg N j x y=as4 k/\0<k/\aD v x=as4 c/\vo N j x y=as4 s/\ata .i64 (c+s)=r
def l2 (v:List Int):Prop:=∀c∈v,0<=c/\c<4096
attribute [grind] l2
theorem ZQ {N:Nat} {j:cS} {v:List Int} {y x k c s:Int} (U:tg N j x y=as4 k) (aa:0<k) (ao:aD v x=as4 c) (aN:vo N j x y=as4 s):rV N j v y x (ata .i64 (c+s)):=⟨k,c,s,U,aa,ao,aN,rfl⟩
variable {N:Nat} (ap:5000000000<N)
include ap
theorem amo {J:List UInt8} {al:cb} (U:al.cH.length<=1000000) {n:Nat} {ai:Int}:(0<=ai)->(ai<=(al.cH.length:Int))->((al.cH.length:Int) - ai<n)->aH (B3 N J al n ai) fun r=>True:=by
 induction n generalizing ai with
 |zero=>intros;exfalso;grind -mbtc
 |succ n aq=>
  intros;rw[B3];repeat' (with_reducible first|intro _|apply b7 (aq ?_ ?_ ?_)|apply bU|refine bG (by omega) ?_|apply bo|apply br|apply aW|apply aK)
  all_goals clear aq
  all_goals grind -mbtc
theorem Gy {x0:cb} {J:List UInt8} (U:x0.cH.length<=1000000):aH (vr N x0 J) fun r=>True:=by
 rw[vr];repeat' (with_reducible first|intro _|apply dR (amo ap ?_ ?_ ?_ ?_)|apply aK)
 all_goals grind -mbtc
theorem ajP {al:du} {ak:cb} (U:ak.name.length<=1000000):aH (G1 N al ak) fun r=>r=as9->0<=ak.bQ/\ak.bQ<al.aP.length/\ak.cH.length<=16:=by
 rw[G1];repeat' (with_reducible first|intro _|apply aI (Gz ap ?_ ?_)|apply br|apply aW|apply aK)
 all_goals grind -mbtc
theorem ajR {ak:cb} {ai:Int} (U:0<=ai) (aa:ai<ak.cH.length) (ao:ak.cH.length<=1000000) (aN:∀d∈ak.cH,d.length<=1000000):aH (G2 N ak ai) fun r=>True:=by
 rw[G2];repeat' (with_reducible first|intro _|apply aI (Gz ap ?_ ?_)|apply aI (Gy ap ?_)|apply bU|apply aW|apply aK)
 all_goals grind -mbtc
theorem ajQ {ak:cb} (U:ak.cH.length<=1000000) (aa:∀d∈ak.cH,d.length<=1000000) {n:Nat} {ai:Int}:(0<=ai)->(ai<=(ak.cH.length:Int))->((ak.cH.length:Int) - ai<n)->aH (z5 N ak n ai) fun r=>∀a,r= .inr a->a=as9:=by
 induction n generalizing ai with
 |zero=>intros;exfalso;grind -mbtc
 |succ n aq=>
  intros;rw[z5];repeat' (with_reducible first|intro _|apply aI (ajR ap ?_ ?_ ?_ ?_)|apply b7 (aq ?_ ?_ ?_)|refine bG (by omega) ?_|apply bo|apply br|apply aW|apply aK)
  all_goals clear aq
  all_goals grind -mbtc
theorem YD {x0:du} {J:cb} (U:J.name.length<=1000000) (aa:J.cH.length<=1000000) (ao:∀d∈J.cH,d.length<=1000000):aH (CD N x0 J) fun r=>r=as5->0<=J.bQ/\J.bQ<x0.aP.length/\J.cH.length<=16:=by
 rw[CD];repeat' (with_reducible first|intro _|apply aI (ajP ap ?_)|apply dR (ajQ ap ?_ ?_ ?_ ?_ ?_)|apply aW|apply aK)
 all_goals grind -mbtc
theorem akJ {ak ai:cb}:aH (Ie N ak ai) fun r=>True:=by
 rw[Ie];repeat' (with_reducible first|intro _|apply aW|apply aK)
 all_goals grind -mbtc
theorem akK {ak ai:cb} (U:ak.cH.length<=1000000) (aa:ai.cH.length<=1000000) {n:Nat} {az:Int}:(0<=az)->(az<=(ak.cH.length:Int))->((ak.cH.length:Int) - az<n)->aH (AZ N ak ai n az) fun r=>True:=by
 induction n generalizing az with
 |zero=>intros;exfalso;grind -mbtc
 |succ n aq=>
  intros;rw[AZ];repeat' (with_reducible first|intro _|apply aI (Gy ap ?_)|apply b7 (aq ?_ ?_ ?_)|apply bU|refine bG (by omega) ?_|apply bo|apply br|apply aW|apply aK)
  all_goals clear aq
  all_goals grind -mbtc
theorem akI {ak:cb} {gx:List cb} (U:ak.cH.length<=1000000) (aa:gx.length<=1000000) (ao:∀o∈gx,o.cH.length<=1000000) {n:Nat} {av:Int}:(0<=av)->(av<=(gx.length:Int))->((gx.length:Int) - av<n)->aH (AY N ak gx n av) fun r=>True:=by
 induction n generalizing av with
 |zero=>intros;exfalso;grind -mbtc
 |succ n aq=>
  intros;rw[AY];repeat' (with_reducible first|intro _|apply aI (akJ ap)|apply dR (akK ap ?_ ?_ ?_ ?_ ?_)|apply b7 (aq ?_ ?_ ?_)|apply bU|refine bG (by omega) ?_|apply bo|apply br|apply aW|apply aK)
  all_goals clear aq
  all_goals grind -mbtc
theorem ae' {x0:bu} {gx:List cb} (U:de x0.c (bL.mk x0.y.cu x0.y.aP gx x0.y.busy x0.y.bF x0.y.dF)) (aa:hz x0.e):aH (Kt N x0 gx) fun r=>r.1=0->de x0.c (bL.mk r.2.2.y.cu r.2.2.y.aP r.2.1 r.2.2.y.busy r.2.2.y.bF r.2.2.y.dF)/\r.2.2.y.busy=as9:=by
 rw[Kt];repeat' (with_reducible first|intro _|apply aI (YD ap ?_ ?_ ?_)|apply dR (akI ap ?_ ?_ ?_ ?_ ?_ ?_)|apply ed|apply bU|apply br|apply aW|apply aK)
 all_goals first|grind -mbtc [de]|grind -mbtc (gen:=20) (ematch:=20) [de]
theorem apd {x0:bu}:aH (Kg N x0) fun r=>r=as5->0<=x0.e.bQ/\x0.e.bQ<x0.c.aP.length/\0<=x0.e.c0/\x0.e.c0<=12:=by
 rw[Kg];repeat' (with_reducible first|intro _|apply aI (uQ ap)|apply bo|apply br|apply aW|apply aK)
 all_goals grind -mbtc
theorem apf {x0:bu} {ak:Bool} {av:Int} (U:0<=av) (aa:av<x0.e.aP.length):aH (Kh N x0 ak av) fun r=>r=as5->ak=as5/\∀t,aD x0.e.aP av=as4 t->0<=t/\t<x0.c.aP.length:=by
 rw[Kh];repeat' (with_reducible first|intro _|apply aI (uQ ap)|apply bU|apply aW|apply aK)
 all_goals grind -mbtc
theorem ape {x0:bu} (U:x0.e.aP.length<=1000000) {n:Nat} {ak:Bool} {av:Int}:(0<=av)->(av<=(x0.e.aP.length:Int))->((x0.e.aP.length:Int) - av<n)->aH (CE N x0 n ak av) fun r=>r=as5->ak=as5/\∀t∈x0.e.aP.drop av.toNat,0<=t/\t<x0.c.aP.length:=by
 induction n generalizing ak av with
 |zero=>intros;exfalso;grind -mbtc
 |succ n aq=>
  intros;rw[CE];repeat' (with_reducible first|intro _|apply aI (apf ap ?_ ?_)|apply b7 (aq ?_ ?_ ?_)|refine bG (by omega) ?_|apply bo|apply br|apply aW|apply aK)
  all_goals clear aq
  all_goals first|grind -mbtc|(obtain ⟨t,e⟩:=jY (xs:=x0.e.aP) (i:=av) (by omega) (by omega);grind -mbtc)
theorem ae9 {x0:bu} (U:x0.e.aP.length<=1000000):aH (Ks N x0) fun r=>r=as5->0<=x0.e.bQ/\x0.e.bQ<x0.c.aP.length/\0<=x0.e.c0/\x0.e.c0<=12/\∀t∈x0.e.aP,0<=t/\t<x0.c.aP.length:=by
 rw[Ks];repeat' (with_reducible first|intro _|apply aI (apd ap)|apply aI (ape ap ?_ ?_ ?_ ?_)|apply aK)
 all_goals grind -mbtc
theorem ao3 {x0:bu} {ak:Bool} {av:Int} (U:0<=av) (aa:av<x0.e.aP.length) (ao:x0.e.aP.length<=1000000) (aN:x0.y.cE.length<=1000000):aH (KG N x0 ak av) fun r=>True:=by
 rw[KG];repeat' (with_reducible first|intro _|apply aI (zK ap ?_)|apply aI (w1 ap ?_)|apply bU|apply pL|apply bo|apply aW|apply aK)
 all_goals grind -mbtc
theorem ao2 {x0:bu} (U:x0.e.aP.length<=1000000) (aa:x0.y.cE.length<=1000000) {n:Nat} {ak:Bool} {av:Int}:(0<=av)->(av<=(x0.e.aP.length:Int))->((x0.e.aP.length:Int) - av<n)->aH (CJ N x0 n ak av) fun r=>True:=by
 induction n generalizing ak av with
 |zero=>intros;exfalso;grind -mbtc
 |succ n aq=>
  intros;rw[CJ];repeat' (with_reducible first|intro _|apply aI (ao3 ap ?_ ?_ ?_ ?_)|apply b7 (aq ?_ ?_ ?_)|refine bG (by omega) ?_|apply bo|apply br|apply aW|apply aK)
  all_goals clear aq
  all_goals grind -mbtc
theorem agm {x0:bu} (U:x0.e.aP.length<=1000000) (aa:x0.y.cE.length<=1000000):aH (KS N x0) fun r=>True:=by
 rw[KS];repeat' (with_reducible first|intro _|apply aI (w1 ap ?_)|apply aI (ao2 ap ?_ ?_ ?_ ?_ ?_)|apply bo|apply aK)
 all_goals grind -mbtc
theorem an1 {x0:List cb} {J:List UInt8} (U:x0.length<=1000000) (aa:∀o∈x0,o.cH.length<=1000000) {n:Nat} {az:Int}:(0<=az)->(az<=(x0.length:Int))->((x0.length:Int) - az<n)->aH (Cb N x0 J n az) fun r=>∀a,r= .inr a->0<=a.1/\a.1<x0.length:=by
 induction n generalizing az with
 |zero=>intros;exfalso;grind -mbtc
 |succ n aq=>
  intros;rw[Cb];repeat' (with_reducible first|intro _|apply aI (Gy ap ?_)|apply b7 (aq ?_ ?_ ?_)|apply bU|refine bG (by omega) ?_|apply bo|apply br|apply aW|apply aK)
  all_goals clear aq
  all_goals grind -mbtc
theorem afO {x0:List cb} {J:List UInt8} (U:x0.length<=1000000) (aa:∀o∈x0,o.cH.length<=1000000):aH (La N x0 J) fun r=> -1<=r.1/\r.1<x0.length:=by
 rw[La];repeat' (with_reducible first|intro _|apply dR (an1 ap ?_ ?_ ?_ ?_ ?_)|apply aK)
 all_goals grind -mbtc
theorem PV {x0:List cb} {J:b8} (U:x0.length<=1000000) (aa:∀o∈x0,o.cH.length<=1000000):aH (xy N x0 J) fun r=> -1<=r.ft/\r.ft<x0.length:=by
 rw[xy];repeat' (with_reducible first|intro _|apply aI (afO ap ?_ ?_)|apply aK)
 all_goals grind -mbtc
theorem alw {J:cS}:aH (H7 N J) fun r=>r=as9->0<=J.c0/\J.c0<=12:=by
 rw[H7];repeat' (with_reducible first|intro _|apply br|apply aW|apply aK)
 all_goals grind -mbtc
theorem amV {av:eV}:aH (H8 N av) fun r=>r=as9->0<=av.block/\av.block<32:=by
 rw[H8];repeat' (with_reducible first|intro _|apply br|apply aW|apply aK)
 all_goals grind -mbtc
theorem amW {J:cS} {ak:Int} {av:eV} (U:ak<J.items.length) (aa:J.items.length<=1000000):aH (Hz N J ak av) fun r=>True:=by
 rw[Hz];repeat' (with_reducible first|intro _|apply bU|refine bG (by omega) ?_|apply br|apply aW|apply aK)
 all_goals grind -mbtc
theorem amU {J:cS} (U:J.items.length<=1000000) {n:Nat} {ak:Int}:(0<=ak)->(ak<=(J.items.length:Int))->((J.items.length:Int) - ak<n)->aH (AL N J n ak) fun r=>(r= .inl ()->∀t∈J.items.drop ak.toNat,0<=t.block/\t.block<32)/\∀a,r= .inr a->a≠0:=by
 induction n generalizing ak with
 |zero=>intros;exfalso;grind -mbtc
 |succ n aq=>
  intros;rw[AL];repeat' (with_reducible first|intro _|apply aI (amV ap)|apply aI (amW ap ?_ ?_)|apply b7 (aq ?_ ?_ ?_)|apply bU|refine bG (by omega) ?_|apply bo|apply br|apply aW|apply aK)
  all_goals clear aq
  all_goals grind -mbtc
theorem ags {x0:cS} (U:x0.items.length<=1000000):aH (KY N x0) fun r=>r=0->x0.items.length<=96/\0<=x0.c0/\x0.c0<=12/\∀t∈x0.items,0<=t.block/\t.block<32:=by
 rw[KY];repeat' (with_reducible first|intro _|apply aI (alw ap)|apply dR (amU ap ?_ ?_ ?_ ?_)|apply br|apply aW|apply aK)
 all_goals grind -mbtc
theorem anu {aA aC:eV}:aH (IM N aA aC) fun r=>r=as9->aA.block<aC.block:=by
 rw[IM];repeat' (with_reducible first|intro _|apply bo|apply aW|apply aK)
 all_goals grind -mbtc
theorem PS {x0:cS} {J al:Int} (U:0<=J) (aa:J<x0.items.length) (ao:0<=al) (aN:al<x0.items.length):aH (tg N x0 J al) fun r=>0<=r/\r<=2/\(0<r->∀a b,aD x0.items J=as4 a->aD x0.items al=as4 b->a.block<b.block):=by
 rw[tg];repeat' (with_reducible first|intro _|apply aI (anu ap)|apply bU|apply bo|apply aW|apply aK)
 all_goals grind -mbtc
theorem Yp {x0:cS} {J al:Int} (U:0<=J) (aa:J<x0.items.length) (ao:0<=al) (aN:al<x0.items.length):aH (vo N x0 J al) fun r=>0<=r/\r<=1:=by
 rw[vo];repeat' (with_reducible first|intro _|apply aI (PS ap ?_ ?_ ?_ ?_)|refine bG (by omega) ?_|apply bo|apply aK)
 all_goals grind -mbtc
theorem aoe {J:List Int} {al aA aC:Int} {ak:cS} (U:0<=al) (aa:al<ak.items.length) (ao:0<=aC) (aN:aC<ak.items.length) (bI:J.length=ak.items.length) (eg:l2 J) (g7:0<=aA) (jE:aA<=4096):aH (IL N J al ak aA aC) fun r=>0<=r/\r<=4096/\(r=aA\/rV N ak J al aC r):=by
 rw[IL];repeat' (with_reducible first|intro _|apply aI (PS ap ?_ ?_ ?_ ?_)|apply aI (Yp ap ?_ ?_ ?_ ?_)|apply bU|refine bG (by omega) ?_|apply bo|apply br|apply aW|apply aK)
 all_goals first|grind -mbtc|grind -mbtc [ZQ]
theorem aod {J:List Int} {al:Int} {ak:cS} (U:0<=al) (aa:al<ak.items.length) (ao:J.length=ak.items.length) (aN:l2 J) (bI:ak.items.length<=1000000) {n:Nat} {aA:Int} {aC:Int}:(0<=aC)->(aC<=(ak.items.length:Int))->((ak.items.length:Int) - aC<n)->(0<=aA)->(aA<=4096)->aH (Br N J al ak n aA aC) fun r=>0<=r/\r<=4096/\(r=aA\/∃x:Int,0<=x/\x<ak.items.length/\rV N ak J al x r):=by
 induction n generalizing aA aC with
 |zero=>intros;exfalso;grind -mbtc
 |succ n aq=>
  intros;rw[Br];repeat' (with_reducible first|intro _|apply aI (aoe ap ?_ ?_ ?_ ?_ ?_ ?_ ?_ ?_)|apply b7 (aq ?_ ?_ ?_ ?_ ?_)|refine bG (by omega) ?_|apply bo|apply br|apply aW|apply aK)
  all_goals clear aq
  all_goals grind -mbtc
theorem PW {x0:cS} {J:List Int} {al:Int} (U:0<=al) (aa:al<x0.items.length) (ao:J.length=x0.items.length) (aN:l2 J) (bI:x0.items.length<=1000000):aH (xv N x0 J al) fun r=>0<=r/\r<=4096/\(0<r->∃x:Int,0<=x/\x<x0.items.length/\rV N x0 J al x r):=by
 rw[xv];repeat' (with_reducible first|intro _|apply aI (aod ap ?_ ?_ ?_ ?_ ?_ ?_ ?_ ?_ ?_ ?_)|apply aK)
 all_goals grind -mbtc
end Go.W
end
section
set_option maxHeartbeats 2000000
namespace Go.W
open Go.ay
theorem aaX {c:du} {y:bL} {w ts:List Int} {j:cS} {p:gY} {l:Int} (h:de c y) (cG:0<=l) (dE:l<c.aP.length) (gf:∀t∈ts,0<=t/\t<c.aP.length) (ik:ts.length=p.fA.steps) (xR:ts.length<=100) (vB:j.items.length=w.length) (vC:p.fA.hL.length=w.length) (aa7:w.length<=1000) (aa8:∀i∈j.items,0<=i.ft/\i.ft<y.cE.length) (ew:p.chain.length<=1000):de c (bL.mk y.cu y.aP y.cE as5 (fZ.mk w j p l ts 0) as9):=by
 unfold de nx k3 at*;refine ⟨h.1,h.2.1,h.2.2.1,h.2.2.2.1,h.2.2.2.2.1,h.2.2.2.2.2.1,fun _ _=> ?_,aa7,by simp;omega,by simp;omega,by simp;omega,by simp;omega,h.2.2.2.2.2.2.2.2.2.2.2.2⟩;unfold n2;simp only;refine ⟨by omega,by omega,by omega,by omega,by omega,by omega,by omega,fun t au=> ?_,vB,vC,aa8⟩;have:=gf t au;omega
theorem ZZ {y:bL} {w ts:List Int} {j:cS} {p:gY} {l:Int} (cG:k2 w y.aP l) (dE:∀t∈ts,k2 w y.aP t):hX (bL.mk y.cu y.aP y.cE as5 (fZ.mk w j p l ts 0) as9):=fun _ _ t h=>by
 rcases h with rfl|h
 ·exact cG
 ·exact dE t h
variable {N:Nat} (ap:5000000000<N)
include ap
theorem anm {J:List Int} {al:bL} (U:J.length<=1000000) (aa:∀i∈J,0<=i/\i<al.cu.length) {n:Nat} {ai:Int} {az:Int}:(0<=az)->(az<=(J.length:Int))->((J.length:Int) - az<n)->aH (BD N J al n ai az) fun r=>True:=by
 induction n generalizing ai az with
 |zero=>intros;exfalso;grind -mbtc
 |succ n aq=>
  intros;rw[BD];repeat' (with_reducible first|intro _|apply b7 (aq ?_ ?_ ?_)|apply bU|refine bG (by omega) ?_|apply bo|apply br|apply aW|apply aK)
  all_goals clear aq
  all_goals grind -mbtc
theorem Zc {x0:bL} {J:List Int} (U:J.length<=1000000) (aa:∀i∈J,0<=i/\i<x0.cu.length):aH (CY N x0 J) fun r=>True:=by
 rw[CY];repeat' (with_reducible first|intro _|apply aI (anm ap ?_ ?_ ?_ ?_ ?_)|apply aK)
 all_goals grind -mbtc
theorem anp {aC:cS} {aZ:eW} {db cw cy:Int} (U:0<=cy) (aa:cy<aC.items.length) (ao:aZ.hL.length=aC.items.length):aH (I1 N aC aZ db cw cy) fun r=>True:=by
 rw[I1];repeat' (with_reducible first|intro _|apply Tk|apply xU|apply bU|refine bG (by omega) ?_|apply bo|apply aW|apply aK)
 all_goals grind -mbtc
theorem ano {aC:cS} {aZ:eW} {db:Int} (U:aZ.hL.length=aC.items.length) (aa:aC.items.length<=1000000) {n:Nat} {cw:Int} {cy:Int}:(0<=cy)->(cy<=(aC.items.length:Int))->((aC.items.length:Int) - cy<n)->aH (BF N aC aZ db n cw cy) fun r=>True:=by
 induction n generalizing cw cy with
 |zero=>intros;exfalso;grind -mbtc
 |succ n aq=>
  intros;rw[BF];repeat' (with_reducible first|intro _|apply aI (anp ap ?_ ?_ ?_)|apply b7 (aq ?_ ?_ ?_)|refine bG (by omega) ?_|apply bo|apply br|apply aW|apply aK)
  all_goals clear aq
  all_goals grind -mbtc
theorem ann {av:List Int} {az:du} {aC:cS} {aZ:eW} (U:aZ.hL.length=aC.items.length) (aa:aC.items.length<=1000000) (ao:aZ.steps<=av.length) (aN:av.length<=1000000) (bI:∀t∈av,0<=t/\t<az.aP.length) {n:Nat} {db:Int}:(0<=db)->(db<=av.length)->(av.length - db<n)->aH (BE N av az aC aZ n db) fun r=>True:=by
 induction n generalizing db with
 |zero=>intros;exfalso;grind -mbtc
 |succ n aq=>
  intros;rw[BE];repeat' (with_reducible first|intro _|apply aI (ano ap ?_ ?_ ?_ ?_ ?_)|apply b7 (aq ?_ ?_ ?_)|apply bU|refine bG (by omega) ?_|apply bo|apply br|apply aW|apply aK)
  all_goals clear aq
  all_goals grind -mbtc
theorem ans {aC:cS} {di eQ e8:Int} (U:0<=e8) (aa:e8<aC.items.length):aH (I2 N aC di eQ e8) fun r=>True:=by
 rw[I2];repeat' (with_reducible first|intro _|apply bU|refine bG (by omega) ?_|apply bo|apply aW|apply aK)
 all_goals grind -mbtc
theorem anr {aC:cS} {di:Int} (U:aC.items.length<=1000000) {n:Nat} {eQ:Int} {e8:Int}:(0<=e8)->(e8<=(aC.items.length:Int))->((aC.items.length:Int) - e8<n)->aH (BH N aC di n eQ e8) fun r=>True:=by
 induction n generalizing eQ e8 with
 |zero=>intros;exfalso;grind -mbtc
 |succ n aq=>
  intros;rw[BH];repeat' (with_reducible first|intro _|apply aI (ans ap ?_ ?_)|apply b7 (aq ?_ ?_ ?_)|refine bG (by omega) ?_|apply bo|apply br|apply aW|apply aK)
  all_goals clear aq
  all_goals grind -mbtc
theorem anq {ai:List (List Int)} {az:du} {aA:bL} {aC:cS} (U:aA.cE.length<=8) (aa:∀o∈aA.cE,0<=o.bQ/\o.bQ<ai.length/\o.bQ<az.aP.length) (ao:dM aA.cu.length 40000 ai) (aN:aC.items.length<=1000000) {n:Nat} {di:Int}:(0<=di)->(di<=(aA.cE.length:Int))->((aA.cE.length:Int) - di<n)->aH (BG N ai az aA aC n di) fun r=>True:=by
 induction n generalizing di with
 |zero=>intros;exfalso;grind -mbtc
 |succ n aq=>
  intros;rw[BG];repeat' (with_reducible first|intro _|apply aI (Zc ap ?_ ?_)|apply aI (anr ap ?_ ?_ ?_ ?_)|apply b7 (aq ?_ ?_ ?_)|apply bU|refine bG (by omega) ?_|apply bo|apply br|apply aW|apply aK)
  all_goals clear aq
  all_goals grind -mbtc
theorem Zd {x0:du} {J:bL} {al:cS} {ak:eW} {av:List Int} {ai:List (List Int)} (U:J.cE.length<=8) (aa:∀o∈J.cE,0<=o.bQ/\o.bQ<ai.length/\o.bQ<x0.aP.length) (ao:dM J.cu.length 40000 ai) (aN:ak.hL.length=al.items.length) (bI:al.items.length<=1000000) (eg:av.length<=1000000) (g7:∀t∈av,0<=t/\t<x0.aP.length):aH (CZ N x0 J al ak av ai) fun r=>r=as5->ak.steps<=av.length:=by
 rw[CZ];repeat' (with_reducible first|intro _|apply dR (ann ap ?_ ?_ ?_ ?_ ?_ ?_ ?_ ?_)|apply dR (anq ap ?_ ?_ ?_ ?_ ?_ ?_ ?_)|apply br|apply aW|apply aK)
 all_goals grind -mbtc
theorem YH {x0:bu} {J:List Int} {al:cS} {ak:gY} (U:0<=ak.fA.steps) (aa:ak.fA.steps<=x0.e.aP.length) (ao:x0.e.aP.length<=100) (aN:de x0.c x0.y) (bI:0<=x0.e.bQ) (eg:x0.e.bQ<x0.c.aP.length) (g7:∀t∈x0.e.aP,0<=t/\t<x0.c.aP.length) (jE:al.items.length=J.length) (nz:ak.fA.hL.length=J.length) (x8:J.length<=1000) (Mz:∀i∈al.items,0<=i.ft/\i.ft<x0.y.cE.length) (abR:ak.chain.length<=1000) (abS:k2 J x0.y.aP x0.e.bQ) (arz:∀t∈x0.e.aP,k2 J x0.y.aP t):aH (CH N x0 J al ak) fun r=>r.2.2.2.c=x0.c/\de x0.c (bL.mk r.2.2.2.y.cu r.2.2.2.y.aP r.2.2.2.y.cE r.2.2.2.y.busy (fZ.mk r.2.2.2.y.bF.cu r.2.2.2.y.bF.ia r.2.2.2.y.bF.proof r.2.2.2.y.bF.lead r.1 r.2.2.2.y.bF.iQ) r.2.2.2.y.dF)/\hX (bL.mk r.2.2.2.y.cu r.2.2.2.y.aP r.2.2.2.y.cE r.2.2.2.y.busy (fZ.mk r.2.2.2.y.bF.cu r.2.2.2.y.bF.ia r.2.2.2.y.bF.proof r.2.2.2.y.bF.lead r.1 r.2.2.2.y.bF.iQ) r.2.2.2.y.dF):=by
 rw[CH];repeat' (with_reducible first|intro _|apply ed|apply pL|apply aK)
 all_goals first|grind -mbtc|exact ⟨rfl,aaX (y:=x0.y) aN bI eg (by grind -mbtc) (by grind -mbtc) (by grind -mbtc) jE nz x8 Mz abR,ZZ (y:=x0.y) abS (by grind -mbtc)⟩
theorem aeW {x0:bu}:aH (Ke N x0) fun r=>r.c=x0.c/\r.y=bL.mk x0.y.cu x0.y.aP x0.y.cE as9 (fZ.mk [] (cS.mk [] 0) (gY.mk (eW.mk 0 []) []) 0 [] 0) as9:=by
 rw[Ke];repeat' (with_reducible first|intro _|apply aK)
 all_goals grind -mbtc
theorem ak3 {x0:bu}:aH (Hg N x0) fun r=>r=as5->0<=x0.e.bQ/\x0.e.bQ<x0.c.aP.length/\0<=x0.e.c0/\x0.e.c0<=12:=by
 rw[Hg];repeat' (with_reducible first|intro _|apply aI (uQ ap)|apply bo|apply br|apply aW|apply aK)
 all_goals grind -mbtc
theorem ak5 {x0:bu} {ak:Bool} {av:Int} (U:0<=av) (aa:av<x0.e.aP.length):aH (Hh N x0 ak av) fun r=>r=as5->ak=as5/\∀t,aD x0.e.aP av=as4 t->0<=t/\t<x0.c.aP.length:=by
 rw[Hh];repeat' (with_reducible first|intro _|apply aI (uQ ap)|apply bU|apply aW|apply aK)
 all_goals grind -mbtc
theorem ak4 {x0:bu} (U:x0.e.aP.length<=1000000) {n:Nat} {ak:Bool} {av:Int}:(0<=av)->(av<=(x0.e.aP.length:Int))->((x0.e.aP.length:Int) - av<n)->aH (zS N x0 n ak av) fun r=>r=as5->ak=as5/\∀t∈x0.e.aP.drop av.toNat,0<=t/\t<x0.c.aP.length:=by
 induction n generalizing ak av with
 |zero=>intros;exfalso;grind -mbtc
 |succ n aq=>
  intros;rw[zS];repeat' (with_reducible first|intro _|apply aI (ak5 ap ?_ ?_)|apply b7 (aq ?_ ?_ ?_)|refine bG (by omega) ?_|apply bo|apply br|apply aW|apply aK)
  all_goals clear aq
  all_goals first|grind -mbtc|(obtain ⟨t,e⟩:=jY (xs:=x0.e.aP) (i:=av) (by omega) (by omega);grind -mbtc)
theorem aeX {x0:bu} (U:x0.e.aP.length<=1000000):aH (Kf N x0) fun r=>r=as5->0<=x0.e.bQ/\x0.e.bQ<x0.c.aP.length/\0<=x0.e.c0/\x0.e.c0<=12/\∀t∈x0.e.aP,0<=t/\t<x0.c.aP.length:=by
 rw[Kf];repeat' (with_reducible first|intro _|apply aI (ak3 ap)|apply aI (ak4 ap ?_ ?_ ?_ ?_)|apply aK)
 all_goals grind -mbtc
theorem akv {x0:bu} {ak:Bool} {av:Int} (U:0<=av) (aa:av<x0.e.aP.length) (ao:x0.e.aP.length<=1000000) (aN:x0.y.cE.length<=1000000):aH (It N x0 ak av) fun r=>True:=by
 rw[It];repeat' (with_reducible first|intro _|apply aI (zK ap ?_)|apply aI (w1 ap ?_)|apply bU|apply pL|apply bo|apply aW|apply aK)
 all_goals grind -mbtc
theorem aku {x0:bu} (U:x0.e.aP.length<=1000000) (aa:x0.y.cE.length<=1000000) {n:Nat} {ak:Bool} {av:Int}:(0<=av)->(av<=(x0.e.aP.length:Int))->((x0.e.aP.length:Int) - av<n)->aH (A7 N x0 n ak av) fun r=>True:=by
 induction n generalizing ak av with
 |zero=>intros;exfalso;grind -mbtc
 |succ n aq=>
  intros;rw[A7];repeat' (with_reducible first|intro _|apply aI (akv ap ?_ ?_ ?_ ?_)|apply b7 (aq ?_ ?_ ?_)|refine bG (by omega) ?_|apply bo|apply br|apply aW|apply aK)
  all_goals clear aq
  all_goals grind -mbtc
theorem af8 {x0:bu} (U:x0.e.aP.length<=1000000) (aa:x0.y.cE.length<=1000000):aH (KF N x0) fun r=>True:=by
 rw[KF];repeat' (with_reducible first|intro _|apply aI (w1 ap ?_)|apply aI (aku ap ?_ ?_ ?_ ?_ ?_)|apply bo|apply aK)
 all_goals grind -mbtc
theorem an0 {x0:List Int} {J:Int} (U:x0.length<=1000000) {n:Nat} {ai:Int}:(0<=ai)->(ai<=(x0.length:Int))->((x0.length:Int) - ai<n)->aH (Ca N x0 J n ai) fun r=>True:=by
 induction n generalizing ai with
 |zero=>intros;exfalso;grind -mbtc
 |succ n aq=>
  intros;rw[Ca];repeat' (with_reducible first|intro _|apply b7 (aq ?_ ?_ ?_)|apply bU|refine bG (by omega) ?_|apply bo|apply br|apply aW|apply aK)
  all_goals clear aq
  all_goals grind -mbtc
theorem afN {x0:List Int} {J:Int} (U:x0.length<=1000000):aH (K9 N x0 J) fun r=>True:=by
 rw[K9];repeat' (with_reducible first|intro _|apply dR (an0 ap ?_ ?_ ?_ ?_)|apply aK)
 all_goals grind -mbtc
theorem anL {al:List cb} {db di:Int} {cy:Bool} (U:0<=di) (aa:di<al.length):aH (IW N al db cy di) fun r=>True:=by
 rw[IW];repeat' (with_reducible first|intro _|apply bU|apply bo|apply aW|apply aK)
 all_goals grind -mbtc
theorem anK {al:List cb} {db:Int} (U:al.length<=1000000) {n:Nat} {cy:Bool} {di:Int}:(0<=di)->(di<=(al.length:Int))->((al.length:Int) - di<n)->aH (Bz N al db n cy di) fun r=>True:=by
 induction n generalizing cy di with
 |zero=>intros;exfalso;grind -mbtc
 |succ n aq=>
  intros;rw[Bz];repeat' (with_reducible first|intro _|apply aI (anL ap ?_ ?_)|apply b7 (aq ?_ ?_ ?_)|refine bG (by omega) ?_|apply bo|apply br|apply aW|apply aK)
  all_goals clear aq
  all_goals grind -mbtc
theorem anM {db:Int} {cy:Bool}:aH (IX N db cy) fun r=>True:=by
 rw[IX];repeat' (with_reducible first|intro _|apply br|apply aW|apply aK)
 all_goals grind -mbtc
theorem anJ {x0:List b8} {J:List (List Int)} {al:List cb} {ak bk:List Int} {a8:Int} {oH:List eV} (U:x0.length<=192) (aa:dM x0.length 40000 J) (ao:al.length<=1000000) (aN:ak.length<=1000000) (bI:∀o∈al,o.cH.length<=1000000) (eg:0<=a8) (g7:a8<x0.length) (jE:bk.length<=1000) (nz:oH.length=bk.length) (x8:∀i∈bk,0<=i/\i<x0.length):aH (IV N x0 J al ak bk a8 oH) fun r=>r.2.1.length<=bk.length+1/\r.2.2.length=r.2.1.length/\∀i∈r.2.1,0<=i/\i<x0.length:=by
 rw[IV];repeat' (with_reducible first|intro _|apply aI (sZ ap ?_ ?_)|apply aI (zK ap ?_)|apply aI (PV ap ?_ ?_)|apply aI (anK ap ?_ ?_ ?_ ?_)|apply aI (anM ap)|apply ed|apply bU|apply aW|apply aK)
 all_goals grind -mbtc
theorem anI {x0:List b8} {J:List (List Int)} {al:List cb} {ak:List Int} (U:x0.length<=192) (aa:dM x0.length 40000 J) (ao:al.length<=1000000) (aN:ak.length<=1000000) (bI:∀o∈al,o.cH.length<=1000000) {n:Nat} {aX:cO} {bk:(List Int)} {a8:Int} {oH:(List eV)}:(0<=a8)->(a8<=(x0.length:Int))->((x0.length:Int) - a8<n)->(bk.length<=a8)->(oH.length=bk.length)->(∀i∈bk,0<=i/\i<x0.length)->aH (By N x0 J al ak n aX bk a8 oH) fun r=>r.2.1.length<=x0.length/\r.2.2.length=r.2.1.length/\∀i∈r.2.1,0<=i/\i<x0.length:=by
 induction n generalizing aX bk a8 oH with
 |zero=>intros;exfalso;grind -mbtc
 |succ n aq=>
  intros;rw[By];repeat' (with_reducible first|intro _|apply aI (anJ ap ?_ ?_ ?_ ?_ ?_ ?_ ?_ ?_ ?_ ?_)|apply b7 (aq ?_ ?_ ?_ ?_ ?_ ?_)|refine bG (by omega) ?_|apply bo|apply br|apply aW|apply aK)
  all_goals clear aq
  all_goals grind -mbtc
theorem anN {al:List cb} (U:al.length<=8) {n:Nat} {aX:cO} {eQ:Int} {xi:(List Int)}:(0<=eQ)->(eQ<=(al.length:Int))->((al.length:Int) - eQ<n)->(xi.length=eQ)->aH (BA N al n aX eQ xi) fun r=>r.2.length=al.length:=by
 induction n generalizing aX eQ xi with
 |zero=>intros;exfalso;grind -mbtc
 |succ n aq=>
  intros;rw[BA];repeat' (with_reducible first|intro _|apply b7 (aq ?_ ?_ ?_ ?_)|apply ed|apply bU|refine bG (by omega) ?_|apply bo|apply br|apply aW|apply aK)
  all_goals clear aq
  all_goals grind -mbtc
theorem anQ {J:List (List Int)} {bk eF:List Int} {e8 iV:Int} (U:0<=e8) (aa:e8<J.length) (ao:0<=iV) (aN:∀t,aD J e8=as4 t->iV<t.length) (bI:bk.length<=1000000) (eg:eF.length<=1000000):aH (IY N J bk e8 eF iV) fun r=>r.length<=eF.length+1:=by
 rw[IY];repeat' (with_reducible first|intro _|apply aI (afN ap ?_)|apply ed|apply bU|apply br|apply aW|apply aK)
 all_goals grind -mbtc
theorem anP {J:List (List Int)} {bk:List Int} {e8:Int} (U:0<=e8) (aa:e8<J.length) (ao:bk.length<=1000000) (aN:∀t∈J,t.length<=40000) {n:Nat} {eF:(List Int)} {iV:Int}:(0<=iV)->(∀t,aD J e8=as4 t->iV<=t.length/\t.length - iV<n)->(eF.length<=iV)->aH (BC N J bk e8 n eF iV) fun r=>r.length<=40000:=by
 induction n generalizing eF iV with
 |zero=>intros;obtain ⟨t,e⟩:=jY U aa;exfalso;grind -mbtc
 |succ n aq=>
  intros;rw[BC];repeat' (with_reducible first|intro _|apply aI (anQ ap ?_ ?_ ?_ ?_ ?_ ?_)|apply b7 (aq ?_ ?_ ?_)|apply bU|refine bG (by omega) ?_|apply bo|apply br|apply aW|apply aK)
  all_goals clear aq
  all_goals grind -mbtc
theorem anO {J:List (List Int)} {bk:List Int} (U:bk.length<=1000000) (aa:J.length<=24) (ao:∀t∈J,t.length<=40000) {n:Nat} {aX:cO} {e8:Int} {vj:(List (List Int))}:(0<=e8)->(e8<=(J.length:Int))->((J.length:Int) - e8<n)->(vj.length=e8)->(∀t∈vj,t.length<=40000)->aH (BB N J bk n aX e8 vj) fun r=>r.2.length=J.length/\∀t∈r.2,t.length<=40000:=by
 induction n generalizing aX e8 vj with
 |zero=>intros;exfalso;grind -mbtc
 |succ n aq=>
  intros;rw[BB];repeat' (with_reducible first|intro _|apply aI (anP ap ?_ ?_ ?_ ?_ ?_ ?_ ?_)|apply b7 (aq ?_ ?_ ?_ ?_ ?_)|apply ed|refine bG (by omega) ?_|apply bo|apply br|apply aW|apply aK)
  all_goals clear aq
  all_goals grind -mbtc
theorem afZ {x0:List b8} {J:List (List Int)} {al:List cb} {ak:List Int} (U:x0.length<=192) (aa:dM x0.length 40000 J) (ao:al.length<=1000000) (aN:ak.length<=1000000) (bI:∀o∈al,o.cH.length<=1000000) (eg:al.length<=8):aH (Lj N x0 J al ak) fun r=>r.1.items.length=r.2.length/\r.2.length<=192/\r.1.homes.length=al.length/\r.1.aP.length=J.length/\(∀t∈r.1.aP,t.length<=40000)/\∀i∈r.2,0<=i/\i<x0.length:=by
 rw[Lj];repeat' (with_reducible first|intro _|apply aI (anI ap ?_ ?_ ?_ ?_ ?_ ?_ ?_ ?_ ?_ ?_ ?_)|apply aI (anN ap ?_ ?_ ?_ ?_ ?_)|apply aI (anO ap ?_ ?_ ?_ ?_ ?_ ?_ ?_ ?_)|apply aK)
 all_goals grind -mbtc
end Go.W
end
section
set_option maxHeartbeats 2000000
namespace Go.W
open Go.ay
def hY (x:cO):Prop:=x.items.length<=96/\x.homes.length<=16/\x.aP.length<=24/\(∀t∈x.items,0<=t.ft/\t.ft<x.homes.length)/\(∀t∈x.aP,t.length<=40000)/\∀t∈x.aP,∀i∈t,0<=i/\i<x.items.length
attribute [grind] hY
def nr (n:Nat) (x:List cZ):Prop:=∀p∈x,0<=p.item/\p.item<n/\p.kx<n
attribute [grind] nr
def mT (l:List Int):Nat:=l.countP fun z=>decide (z<0)
theorem U3 {l:List Int} {i c v:Int} (e:aD l i=as4 c) (ah:c<0) (ab:0<=v):mT (l.set i.toNat v)+1=mT l:=by
 unfold aD at e;split at e
 ·obtain ⟨h,rfl⟩:=atp.mp e;unfold mT;have aL:0<l.countP fun z=>decide (z<0):=List.countP_pos_iff.mpr ⟨_,List.getElem_mem h,by simpa using ah⟩;rw[List.countP_set h];simp[ah,show ¬v<0 by omega];omega
 ·cases e
theorem U2 (l:List Int):mT l<=l.length:=List.countP_le_length
variable {N:Nat} (ap:5000000000<N)
include ap
theorem am7 {J:cO}:aH (HE N J) fun r=>r=as9->J.items.length<=96/\J.homes.length<=16/\J.aP.length<=24:=by
 rw[HE];repeat' (with_reducible first|intro _|apply br|apply aW|apply aK)
 all_goals grind -mbtc
theorem am9 {J:cO} {av:eV}:aH (HF N J av) fun r=>r=as9->0<=av.ft/\av.ft<J.homes.length:=by
 rw[HF];repeat' (with_reducible first|intro _|apply br|apply aW|apply aK)
 all_goals grind -mbtc
theorem am8 {J:cO} (U:J.items.length<=1000000) {n:Nat} {ak:Int}:(0<=ak)->(ak<=(J.items.length:Int))->((J.items.length:Int) - ak<n)->aH (Ah N J n ak) fun r=>(r= .inl ()->∀t∈J.items.drop ak.toNat,0<=t.ft/\t.ft<J.homes.length)/\∀a,r= .inr a->a=as9:=by
 induction n generalizing ak with
 |zero=>intros;exfalso;grind -mbtc
 |succ n aq=>
  intros;rw[Ah];repeat' (with_reducible first|intro _|apply aI (am9 ap)|apply b7 (aq ?_ ?_ ?_)|apply bU|refine bG (by omega) ?_|apply bo|apply br|apply aW|apply aK)
  all_goals clear aq
  all_goals grind -mbtc
theorem ana {J:cO} {ai:Int} (U:0<=ai) (aa:ai<J.homes.length):aH (HG N J ai) fun r=>True:=by
 rw[HG];repeat' (with_reducible first|intro _|apply bU|apply br|apply aW|apply aK)
 all_goals grind -mbtc
theorem anb {J:cO} {ai:Int} (U:0<=ai) (aa:ai<J.homes.length) (ao:J.homes.length<=1000) {n:Nat} {az:Int}:(0<=az)->(az<=ai)->(ai - az<n)->aH (Aj N J ai n az) fun r=>∀a,r= .inr a->a=as9:=by
 induction n generalizing az with
 |zero=>intros;exfalso;grind -mbtc
 |succ n aq=>
  intros;rw[Aj];repeat' (with_reducible first|intro _|apply b7 (aq ?_ ?_ ?_)|apply bU|refine bG (by omega) ?_|apply bo|apply br|apply aW|apply aK)
  all_goals clear aq
  all_goals grind -mbtc
theorem am' {J:cO} (U:J.homes.length<=1000) {n:Nat} {ai:Int}:(0<=ai)->(ai<=(J.homes.length:Int))->((J.homes.length:Int) - ai<n)->aH (Ai N J n ai) fun r=>∀a,r= .inr a->a=as9:=by
 induction n generalizing ai with
 |zero=>intros;exfalso;grind -mbtc
 |succ n aq=>
  intros;rw[Ai];repeat' (with_reducible first|intro _|apply aI (ana ap ?_ ?_)|apply dR (anb ap ?_ ?_ ?_ ?_ ?_ ?_)|apply b7 (aq ?_ ?_ ?_)|refine bG (by omega) ?_|apply bo|apply br|apply aW|apply aK)
  all_goals clear aq
  all_goals grind -mbtc
theorem anf {aA:List Int} {aX:Int}:aH (HH N aA aX) fun r=>r=as9->0<=aX/\aX<aA.length:=by
 rw[HH];repeat' (with_reducible first|intro _|apply br|apply aW|apply aK)
 all_goals grind -mbtc
theorem ane {J:cO} {aC:Int} (U:0<=aC) (aa:aC<J.aP.length) (ao:∀t∈J.aP,t.length<=40000) {n:Nat} {aA:(List Int)} {aZ:Int}:(0<=aZ)->(∀t,aD J.aP aC=as4 t->aZ<=t.length/\t.length - aZ<n)->aH (Al N J aC n aA aZ) fun r=>(∀a,r= .inl a->a.length=aA.length/\∀t,aD J.aP aC=as4 t->∀i∈t.drop aZ.toNat,0<=i/\i<aA.length)/\∀a,r= .inr a->a=as9:=by
 induction n generalizing aA aZ with
 |zero=>intros;obtain ⟨t,e⟩:=jY U aa;exfalso;grind -mbtc
 |succ n aq=>
  intros;rw[Al];repeat' (with_reducible first|intro _|apply aI (anf ap)|apply b7 (aq ?_ ?_)|apply bU|refine bG (by omega) ?_|apply bo|apply br|apply aW|apply aK)
  all_goals clear aq
  all_goals grind -mbtc
theorem anc {J:cO} (U:J.aP.length<=24) (aa:∀t∈J.aP,t.length<=40000) {n:Nat} {aA:(List Int)} {aC:Int}:(0<=aC)->(aC<=(J.aP.length:Int))->((J.aP.length:Int) - aC<n)->aH (Ak N J n aA aC) fun r=>(∀a,r= .inl a->a.length=aA.length/\∀t∈J.aP.drop aC.toNat,∀i∈t,0<=i/\i<aA.length)/\∀a,r= .inr a->a=as9:=by
 induction n generalizing aA aC with
 |zero=>intros;exfalso;grind -mbtc
 |succ n aq=>
  intros;rw[Ak];repeat' (with_reducible first|intro _|apply dR (ane ap ?_ ?_ ?_ ?_ ?_)|apply b7 (aq ?_ ?_ ?_)|refine bG (by omega) ?_|apply bo|apply br|apply aW|apply aK)
  all_goals clear aq
  all_goals first|grind -mbtc|(obtain ⟨t,e⟩:=jY (xs:=J.aP) (i:=aC) (by omega) (by omega);rw[sc e];simp_all;grind -mbtc)
theorem ang {aA:List Int} (U:aA.length<=1000000) {n:Nat} {bk:Int}:(0<=bk)->(bk<=(aA.length:Int))->((aA.length:Int) - bk<n)->aH (Am N aA n bk) fun r=>∀a,r= .inr a->a=as9:=by
 induction n generalizing bk with
 |zero=>intros;exfalso;grind -mbtc
 |succ n aq=>
  intros;rw[Am];repeat' (with_reducible first|intro _|apply b7 (aq ?_ ?_ ?_)|apply bU|refine bG (by omega) ?_|apply bo|apply br|apply aW|apply aK)
  all_goals clear aq
  all_goals grind -mbtc
theorem Y5 {x0:cO} (U:∀t∈x0.aP,t.length<=40000):aH (CP N x0) fun r=>r=as5->hY x0:=by
 rw[CP];repeat' (with_reducible first|intro _|apply aI (am7 ap)|apply dR (am8 ap ?_ ?_ ?_ ?_)|apply dR (am' ap ?_ ?_ ?_ ?_)|apply dR (anc ap ?_ ?_ ?_ ?_ ?_)|apply dR (ang ap ?_ ?_ ?_ ?_)|apply tu|apply aW|apply aK)
 all_goals grind -mbtc
theorem amG {J:cO} {av:Int} (U:0<=av) (aa:av<J.aP.length) (ao:hY J) {n:Nat} {ak:(List eD)} {ai:Int}:(0<=ai)->(∀t,aD J.aP av=as4 t->ai<=t.length/\t.length - ai<n)->(ak.length=J.items.length)->aH (BU N J av n ak ai) fun r=>r.length=J.items.length:=by
 induction n generalizing ak ai with
 |zero=>intros;obtain ⟨t,e⟩:=jY U aa;exfalso;grind -mbtc
 |succ n aq=>
  intros;rw[BU];repeat' (with_reducible first|intro _|apply b7 (aq ?_ ?_ ?_)|apply bU|refine bG (by omega) ?_|apply bo|apply br|apply aW|apply aK)
  all_goals clear aq
  all_goals grind -mbtc
theorem amF {J:cO} (U:hY J) {n:Nat} {ak:(List eD)} {av:Int}:(0<=av)->(av<=(J.aP.length:Int))->((J.aP.length:Int) - av<n)->(ak.length=J.items.length)->aH (BT N J n ak av) fun r=>r.length=J.items.length:=by
 induction n generalizing ak av with
 |zero=>intros;exfalso;grind -mbtc
 |succ n aq=>
  intros;rw[BT];repeat' (with_reducible first|intro _|apply aI (amG ap ?_ ?_ ?_ ?_ ?_ ?_)|apply b7 (aq ?_ ?_ ?_ ?_)|refine bG (by omega) ?_|apply bo|apply br|apply aW|apply aK)
  all_goals clear aq
  all_goals grind -mbtc
theorem Y7 {x0:cO} (U:hY x0):aH (CR N x0) fun r=>r.length=x0.items.length:=by
 rw[CR];repeat' (with_reducible first|intro _|apply aI (amF ap ?_ ?_ ?_ ?_ ?_)|apply tu|apply aK)
 all_goals grind -mbtc
theorem PT {x0:cO} {J:List eD} {al:Int} (U:hY x0) (aa:J.length=x0.items.length) (ao:0<=al) (aN:al<J.length):aH (xw N x0 J al) fun r=>True:=by
 rw[xw];repeat' (with_reducible first|intro _|apply bU|apply bo|apply aK)
 all_goals grind -mbtc
theorem alD {x0:List eD} {J al:Int} (U:0<=J) (aa:J<x0.length) (ao:0<=al) (aN:al<x0.length):aH (HS N x0 J al) fun r=>True:=by
 rw[HS];repeat' (with_reducible first|intro _|apply bU|apply bo|apply aW|apply aK)
 all_goals grind -mbtc
theorem Gx {x0:List eD} {J al:Int} (U:0<=J) (aa:J<x0.length) (ao:0<=al) (aN:al<x0.length):aH (vq N x0 J al) fun r=>True:=by
 rw[vq];repeat' (with_reducible first|intro _|apply aI (alD ap ?_ ?_ ?_ ?_)|apply aK)
 all_goals grind -mbtc
theorem alC {J al:Int} {ak:cO} (U:0<=J) (aa:J<ak.items.length) (ao:0<=al) (aN:al<ak.items.length):aH (HR N J al ak) fun r=>True:=by
 rw[HR];repeat' (with_reducible first|intro _|apply bU|apply bo|apply aW|apply aK)
 all_goals grind -mbtc
theorem Gw {x0:cO} {J al:Int} (U:0<=J) (aa:J<x0.items.length) (ao:0<=al) (aN:al<x0.items.length):aH (vp N x0 J al) fun r=>True:=by
 rw[vp];repeat' (with_reducible first|intro _|apply aI (alC ap ?_ ?_ ?_ ?_)|apply aK)
 all_goals grind -mbtc
theorem alB {J:List eD} {al ak:Int} {av:cO} (U:hY av) (aa:J.length=av.items.length) (ao:0<=al) (aN:al<J.length) (bI:0<=ak) (eg:ak<J.length):aH (HQ N J al ak av) fun r=>True:=by
 rw[HQ];repeat' (with_reducible first|intro _|apply aI (PT ap ?_ ?_ ?_ ?_)|apply aI (Gw ap ?_ ?_ ?_ ?_)|apply aI (Gx ap ?_ ?_ ?_ ?_)|apply aW|apply aK)
 all_goals grind -mbtc
theorem Yq {x0:cO} {J:List eD} {al ak:Int} (U:hY x0) (aa:J.length=x0.items.length) (ao:0<=al) (aN:al<J.length) (bI:0<=ak) (eg:ak<J.length):aH (xq N x0 J al ak) fun r=>True:=by
 rw[xq];repeat' (with_reducible first|intro _|apply aI (alB ap ?_ ?_ ?_ ?_ ?_ ?_)|apply aK)
 all_goals grind -mbtc
theorem amA {J:List eD} {al:Int} {ak:cO} (U:hY ak) (aa:J.length=ak.items.length) (ao:0<=al) (aN:al<J.length) {n:Nat} {az:cZ} {aC:Int}:(0<=aC)->(aC<=(ak.items.length:Int))->((ak.items.length:Int) - aC<n)->aH (BQ N J al ak n az aC) fun r=>∀a,r= .inr a->a.1.item=al/\a.1.kx<J.length:=by
 induction n generalizing az aC with
 |zero=>intros;exfalso;grind -mbtc
 |succ n aq=>
  intros;rw[BQ];repeat' (with_reducible first|intro _|apply aI (Yq ap ?_ ?_ ?_ ?_ ?_ ?_)|apply b7 (aq ?_ ?_ ?_)|refine bG (by omega) ?_|apply bo|apply br|apply aW|apply aK)
  all_goals clear aq
  all_goals grind -mbtc
theorem Y6 {x0:cO} {J:List eD} {al:Int} (U:hY x0) (aa:J.length=x0.items.length) (ao:0<=al) (aN:al<J.length):aH (CQ N x0 J al) fun r=>r.2=as5->r.1.item=al/\r.1.kx<J.length:=by
 rw[CQ];repeat' (with_reducible first|intro _|apply dR (amA ap ?_ ?_ ?_ ?_ ?_ ?_ ?_)|apply aI (PT ap ?_ ?_ ?_ ?_)|apply aW|apply aK)
 all_goals grind -mbtc
theorem amC {J:List eD} {al:List Int} {ak av a8:Int} (U:al.length=J.length) (aa:0<=ak) (ao:ak<J.length) (aN:0<=a8) (bI:a8<J.length):aH (Jd N J al ak av a8) fun r=>True:=by
 rw[Jd];repeat' (with_reducible first|intro _|apply aI (Gx ap ?_ ?_ ?_ ?_)|apply bU|apply br|apply aW|apply aK)
 all_goals grind -mbtc
theorem amB {J:List eD} {al:List Int} {ak av:Int} {ai:cO} (U:hY ai) (aa:J.length=ai.items.length) (ao:al.length=ai.items.length) (aN:0<=ak) (bI:ak<J.length) {n:Nat} {aX:cZ} {a8:Int}:(0<=a8)->(a8<=(ai.items.length:Int))->((ai.items.length:Int) - a8<n)->aH (BR N J al ak av ai n aX a8) fun r=>∀a,r= .inr a->a.1.item=ak/\a.1.kx<J.length:=by
 induction n generalizing aX a8 with
 |zero=>intros;exfalso;grind -mbtc
 |succ n aq=>
  intros;rw[BR];repeat' (with_reducible first|intro _|apply aI (amC ap ?_ ?_ ?_ ?_ ?_)|apply b7 (aq ?_ ?_ ?_)|refine bG (by omega) ?_|apply bo|apply br|apply aW|apply aK)
  all_goals clear aq
  all_goals grind -mbtc
theorem amE {al:List Int} {ak av db:Int} {ai:cO} (U:al.length=ai.items.length) (aa:0<=ak) (ao:ak<al.length) (aN:0<=db) (bI:db<al.length):aH (Je N al ak av ai db) fun r=>True:=by
 rw[Je];repeat' (with_reducible first|intro _|apply aI (Gw ap ?_ ?_ ?_ ?_)|apply bU|apply br|apply aW|apply aK)
 all_goals grind -mbtc
theorem amD {al:List Int} {ak av:Int} {ai:cO} (U:hY ai) (aa:al.length=ai.items.length) (ao:0<=ak) (aN:ak<al.length) {n:Nat} {aX:cZ} {db:Int}:(0<=db)->(db<=(ai.items.length:Int))->((ai.items.length:Int) - db<n)->aH (BS N al ak av ai n aX db) fun r=>∀a,r= .inr a->a.1.item=ak/\a.1.kx<al.length:=by
 induction n generalizing aX db with
 |zero=>intros;exfalso;grind -mbtc
 |succ n aq=>
  intros;rw[BS];repeat' (with_reducible first|intro _|apply aI (amE ap ?_ ?_ ?_ ?_ ?_)|apply b7 (aq ?_ ?_ ?_)|refine bG (by omega) ?_|apply bo|apply br|apply aW|apply aK)
  all_goals clear aq
  all_goals grind -mbtc
theorem agv {x0:cO} {J:List eD} {al:List Int} {ak av:Int} (U:hY x0) (aa:J.length=x0.items.length) (ao:al.length=x0.items.length) (aN:0<=ak) (bI:ak<J.length):aH (K1 N x0 J al ak av) fun r=>r.2=as5->r.1.item=ak/\r.1.kx<J.length:=by
 rw[K1];repeat' (with_reducible first|intro _|apply dR (amB ap ?_ ?_ ?_ ?_ ?_ ?_ ?_ ?_)|apply dR (amD ap ?_ ?_ ?_ ?_ ?_ ?_ ?_)|apply aK)
 all_goals grind -mbtc
theorem am1 {J:cO} {av:List eD} {ai:List cZ} {az:List Int} {aA:Int} (U:hY J) (aa:av.length=J.items.length) (ao:ai.length=J.items.length) (aN:az.length=J.items.length) (bI:nr J.items.length ai) (eg:0<=aA) (g7:aA<az.length):aH (HB N J av ai az aA) fun r=>r.1.length=J.items.length/\r.2.length=J.items.length/\nr J.items.length r.1:=by
 rw[HB];repeat' (with_reducible first|intro _|apply aI (Y6 ap ?_ ?_ ?_ ?_)|apply bU|apply bo|apply aW|apply aK)
 all_goals grind -mbtc
theorem am0 {J:cO} {av:List eD} (U:hY J) (aa:av.length=J.items.length) {n:Nat} {ai:(List cZ)} {az:(List Int)} {aA:Int}:(0<=aA)->(aA<=(az.length:Int))->((az.length:Int) - aA<n)->(ai.length=J.items.length)->(az.length=J.items.length)->(nr J.items.length ai)->aH (AO N J av n ai az aA) fun r=>r.1.length=J.items.length/\r.2.length=J.items.length/\nr J.items.length r.1:=by
 induction n generalizing ai az aA with
 |zero=>intros;exfalso;grind -mbtc
 |succ n aq=>
  intros;rw[AO];repeat' (with_reducible first|intro _|apply aI (am1 ap ?_ ?_ ?_ ?_ ?_ ?_ ?_)|apply b7 (aq ?_ ?_ ?_ ?_ ?_ ?_)|refine bG (by omega) ?_|apply bo|apply br|apply aW|apply aK)
  all_goals clear aq
  all_goals grind -mbtc
theorem am4 {J:cO} {av:List eD} {ai:List cZ} {az:List Int} {aX a8:Int} {bk:Bool} (U:hY J) (aa:av.length=J.items.length) (ao:ai.length=J.items.length) (aN:az.length=J.items.length) (bI:nr J.items.length ai) (eg:0<=a8) (g7:a8<az.length) (jE:0<=aX):aH (HC N J av ai az aX bk a8) fun r=>r.1.length=J.items.length/\r.2.1.length=J.items.length/\nr J.items.length r.1/\mT r.2.1<=mT az/\(r.2.2=as5->bk=as5\/mT r.2.1<mT az):=by
 rw[HC];repeat' (with_reducible first|intro _|apply aI (agv ap ?_ ?_ ?_ ?_ ?_)|apply bU|apply bo|apply br|apply aW|apply aK)
 all_goals first|grind -mbtc|grind -mbtc [U3]|grind -mbtc [U2]
theorem am3 {J:cO} {av:List eD} {aX:Int} (U:hY J) (aa:av.length=J.items.length) (ao:0<=aX) {n:Nat} {ai:(List cZ)} {az:(List Int)} {bk:Bool} {a8:Int}:(0<=a8)->(a8<=(az.length:Int))->((az.length:Int) - a8<n)->(ai.length=J.items.length)->(az.length=J.items.length)->(nr J.items.length ai)->aH (AQ N J av aX n ai az bk a8) fun r=>r.1.length=J.items.length/\r.2.1.length=J.items.length/\nr J.items.length r.1/\mT r.2.1<=mT az/\(r.2.2=as5->bk=as5\/mT r.2.1<mT az):=by
 induction n generalizing ai az bk a8 with
 |zero=>intros;exfalso;grind -mbtc
 |succ n aq=>
  intros;rw[AQ];repeat' (with_reducible first|intro _|apply aI (am4 ap ?_ ?_ ?_ ?_ ?_ ?_ ?_ ?_)|apply b7 (aq ?_ ?_ ?_ ?_ ?_ ?_)|refine bG (by omega) ?_|apply bo|apply br|apply aW|apply aK)
  all_goals clear aq
  all_goals grind -mbtc
theorem am2 {J:cO} {av:List eD} (U:hY J) (aa:av.length=J.items.length) {n:Nat} {ai:(List cZ)} {az:(List Int)} {aX:Int} {bk:Bool}:(bk=as5->mT az+1<n)->(0<n)->(0<=aX)->(bk=as5->aX+mT az<=1000)->(ai.length=J.items.length)->(az.length=J.items.length)->(nr J.items.length ai)->aH (AP N J av n ai az aX bk) fun r=>r.1.length=J.items.length/\r.2.length=J.items.length/\nr J.items.length r.1:=by
 induction n generalizing ai az aX bk with
 |zero=>intros;exfalso;grind -mbtc
 |succ n aq=>
  intros;rw[AP];repeat' (with_reducible first|intro _|apply aI (am3 ap ?_ ?_ ?_ ?_ ?_ ?_ ?_ ?_ ?_)|apply b7 (aq ?_ ?_ ?_ ?_ ?_ ?_ ?_)|refine bG (by omega) ?_|apply bo|apply aW|apply aK)
  all_goals clear aq
  all_goals grind -mbtc
theorem am6 {ai cy:List cZ} {az:List Int} {di:Int} (U:0<=di) (aa:di<az.length) (ao:ai.length=az.length) (aN:cy.length<=1000000):aH (HD N ai az cy di) fun r=>r.length<=cy.length+1/\∀p∈r,p∈cy\/p∈ai:=by
 rw[HD];repeat' (with_reducible first|intro _|apply ed|apply bU|apply br|apply aW|apply aK)
 all_goals grind -mbtc
theorem am5 {ai:List cZ} {az:List Int} (U:ai.length=az.length) (aa:az.length<=1000) {n:Nat} {cy:(List cZ)} {di:Int}:(0<=di)->(di<=(az.length:Int))->((az.length:Int) - di<n)->(cy.length<=di)->(∀p∈cy,p∈ai)->aH (Ag N ai az n cy di) fun r=>r.length<=az.length/\∀p∈r,p∈ai:=by
 induction n generalizing cy di with
 |zero=>intros;exfalso;grind -mbtc
 |succ n aq=>
  intros;rw[Ag];repeat' (with_reducible first|intro _|apply aI (am6 ap ?_ ?_ ?_ ?_)|apply b7 (aq ?_ ?_ ?_ ?_ ?_)|refine bG (by omega) ?_|apply bo|apply br|apply aW|apply aK)
  all_goals clear aq
  all_goals grind -mbtc
theorem agt {x0:cO} (U:∀t∈x0.aP,t.length<=40000):aH (KZ N x0) fun r=>r.1.length<=96/\nr x0.items.length r.1:=by
 rw[KZ];repeat' (with_reducible first|intro _|apply aI (am0 ap ?_ ?_ ?_ ?_ ?_ ?_ ?_ ?_)|apply aI (am2 ap ?_ ?_ ?_ ?_ ?_ ?_ ?_ ?_ ?_)|apply aI (am5 ap ?_ ?_ ?_ ?_ ?_ ?_ ?_)|apply aI (Y5 ap ?_)|apply aI (Y7 ap ?_)|apply tu|apply aW|apply aK)
 all_goals first|grind -mbtc|grind -mbtc [U3]|grind -mbtc [U2]
end Go.W
end
section
set_option maxHeartbeats 2000000
namespace Go.W
open Go.ay
variable {N:Nat} (ap:5000000000<N)
include ap
theorem aj0 {J:List eD} {av:cO} {aA:cZ} (U:hY av) (aa:J.length=av.items.length) (ao:0<=aA.item) (aN:aA.item<J.length):aH (G6 N J av aA) fun r=>True:=by
 rw[G6];repeat' (with_reducible first|intro _|apply aI (PT ap ?_ ?_ ?_ ?_)|apply bo|apply aW|apply aK)
 all_goals grind -mbtc
theorem aj1 {av:cO} {aZ:Int}:aH (G7 N av aZ) fun r=>r=as9->0<=aZ/\aZ<av.items.length:=by
 rw[G7];repeat' (with_reducible first|intro _|apply br|apply aW|apply aK)
 all_goals grind -mbtc
theorem ajt {al:List Int} {aA:cZ} {aZ:Int} (U:0<=aZ) (aa:aZ<al.length):aH (G8 N al aA aZ) fun r=>True:=by
 rw[G8];repeat' (with_reducible first|intro _|apply bU|apply bo|apply br|apply aW|apply aK)
 all_goals grind -mbtc
theorem aju {J:List eD} {aA:cZ} {aZ:Int} {aX:Bool} (U:0<=aA.item) (aa:aA.item<J.length) (ao:0<=aZ) (aN:aZ<J.length):aH (G9 N J aA aZ aX) fun r=>True:=by
 rw[G9];repeat' (with_reducible first|intro _|apply aI (Gx ap ?_ ?_ ?_ ?_)|apply aW|apply aK)
 all_goals grind -mbtc
theorem ajv {J:List eD} {av:cO} {aA:cZ} {aZ:Int} {aX:Bool} (U:hY av) (aa:J.length=av.items.length) (ao:0<=aA.item) (aN:aA.item<J.length) (bI:0<=aZ) (eg:aZ<J.length):aH (Ha N J av aA aZ aX) fun r=>True:=by
 rw[Ha];repeat' (with_reducible first|intro _|apply aI (Yq ap ?_ ?_ ?_ ?_ ?_ ?_)|apply aI (Gw ap ?_ ?_ ?_ ?_)|apply aW|apply aK)
 all_goals grind -mbtc
theorem aeT {x0:cO} {J:List eD} {al:List Int} {ak:cZ} (U:hY x0) (aa:J.length=x0.items.length) (ao:al.length=x0.items.length) (aN:0<=ak.item) (bI:ak.item<J.length):aH (Kb N x0 J al ak) fun r=>True:=by
 rw[Kb];repeat' (with_reducible first|intro _|apply aI (aj0 ap ?_ ?_ ?_ ?_)|apply aI (aj1 ap)|apply aI (ajt ap ?_ ?_)|apply aI (aju ap ?_ ?_ ?_ ?_)|apply aI (ajv ap ?_ ?_ ?_ ?_ ?_ ?_)|apply bo|apply aW|apply aK)
 all_goals grind -mbtc
theorem anh {n:Nat} {az:(List Int)} {aA:Int}:(0<=aA)->(aA<=(az.length:Int))->((az.length:Int) - aA<n)->(az.length<=1000)->aH (An N n az aA) fun r=>r.length=az.length:=by
 induction n generalizing az aA with
 |zero=>intros;exfalso;grind -mbtc
 |succ n aq=>
  intros;rw[An];repeat' (with_reducible first|intro _|apply b7 (aq ?_ ?_ ?_ ?_)|apply bU|refine bG (by omega) ?_|apply bo|apply br|apply aW|apply aK)
  all_goals clear aq
  all_goals grind -mbtc
theorem anj {J:List cZ} {az:List Int} {aC aZ:Int} (U:0<=aC) (aa:aC<J.length):aH (HI N J az aC aZ) fun r=>r=as9->0<=aZ/\aZ<az.length:=by
 rw[HI];repeat' (with_reducible first|intro _|apply bU|apply br|apply aW|apply aK)
 all_goals grind -mbtc
theorem ani {J:List cZ} (U:J.length<=1000000) {n:Nat} {az:(List Int)} {aC:Int}:(0<=aC)->(aC<=(J.length:Int))->((J.length:Int) - aC<n)->aH (Ao N J n az aC) fun r=>∀a,r= .inl a->a.length=az.length/\∀p∈J.drop aC.toNat,0<=p.item/\p.item<az.length:=by
 induction n generalizing az aC with
 |zero=>intros;exfalso;grind -mbtc
 |succ n aq=>
  intros;rw[Ao];repeat' (with_reducible first|intro _|apply aI (anj ap ?_ ?_)|apply b7 (aq ?_ ?_ ?_)|apply bU|refine bG (by omega) ?_|apply bo|apply br|apply aW|apply aK)
  all_goals clear aq
  all_goals grind -mbtc
theorem amv {J:List cZ} {al:cO} {ai:List eD} {az:List Int} (U:hY al) (aa:ai.length=al.items.length) (ao:az.length=al.items.length) (aN:J.length<=1000000) (bI:∀p∈J,0<=p.item/\p.item<ai.length) {n:Nat} {aX:Int}:(0<=aX)->(aX<=(J.length:Int))->((J.length:Int) - aX<n)->aH (Ap N J al ai az n aX) fun r=>True:=by
 induction n generalizing aX with
 |zero=>intros;exfalso;grind -mbtc
 |succ n aq=>
  intros;rw[Ap];repeat' (with_reducible first|intro _|apply aI (aeT ap ?_ ?_ ?_ ?_ ?_)|apply b7 (aq ?_ ?_ ?_)|apply bU|refine bG (by omega) ?_|apply bo|apply br|apply aW|apply aK)
  all_goals clear aq
  all_goals grind -mbtc
theorem amz {al:cO} {ai:List eD} {az:List Int} {bk cw:Int} (U:hY al) (aa:ai.length=al.items.length) (ao:az.length=al.items.length) (aN:0<=bk) (bI:bk<az.length) (eg:0<=cw) (g7:cw<az.length):aH (Jc N al ai az bk cw) fun r=>True:=by
 rw[Jc];repeat' (with_reducible first|intro _|apply aI (Gw ap ?_ ?_ ?_ ?_)|apply aI (Gx ap ?_ ?_ ?_ ?_)|apply bU|apply br|apply aW|apply aK)
 all_goals grind -mbtc
theorem amy {al:cO} {ai:List eD} {az:List Int} {bk:Int} (U:hY al) (aa:ai.length=al.items.length) (ao:az.length=al.items.length) (aN:0<=bk) (bI:bk<az.length) {n:Nat} {cw:Int}:(0<=cw)->(cw<=(az.length:Int))->((az.length:Int) - cw<n)->aH (BP N al ai az bk n cw) fun r=>True:=by
 induction n generalizing cw with
 |zero=>intros;exfalso;grind -mbtc
 |succ n aq=>
  intros;rw[BP];repeat' (with_reducible first|intro _|apply aI (amz ap ?_ ?_ ?_ ?_ ?_ ?_ ?_)|apply b7 (aq ?_ ?_ ?_)|refine bG (by omega) ?_|apply bo|apply br|apply aW|apply aK)
  all_goals clear aq
  all_goals grind -mbtc
theorem amx {al:cO} {ai:List eD} {az:List Int} {bk:Int} (U:hY al) (aa:ai.length=al.items.length) (ao:az.length=al.items.length) (aN:0<=bk) (bI:bk<az.length):aH (Jb N al ai az bk) fun r=>True:=by
 rw[Jb];repeat' (with_reducible first|intro _|apply dR (amy ap ?_ ?_ ?_ ?_ ?_ ?_ ?_ ?_)|apply aI (Y6 ap ?_ ?_ ?_ ?_)|apply bU|apply br|apply aW|apply aK)
 all_goals grind -mbtc
theorem amw {al:cO} {ai:List eD} {az:List Int} (U:hY al) (aa:ai.length=al.items.length) (ao:az.length=al.items.length) {n:Nat} {bk:Int}:(0<=bk)->(bk<=(az.length:Int))->((az.length:Int) - bk<n)->aH (BO N al ai az n bk) fun r=>True:=by
 induction n generalizing bk with
 |zero=>intros;exfalso;grind -mbtc
 |succ n aq=>
  intros;rw[BO];repeat' (with_reducible first|intro _|apply dR (amx ap ?_ ?_ ?_ ?_ ?_)|apply b7 (aq ?_ ?_ ?_)|refine bG (by omega) ?_|apply bo|apply br|apply aW|apply aK)
  all_goals clear aq
  all_goals grind -mbtc
theorem agu {x0:cO} {J:List cZ} (U:hY x0) (aa:J.length<=1000000):aH (K0 N x0 J) fun r=>True:=by
 rw[K0];repeat' (with_reducible first|intro _|apply aI (anh ap ?_ ?_ ?_ ?_)|apply dR (ani ap ?_ ?_ ?_ ?_)|apply dR (amv ap ?_ ?_ ?_ ?_ ?_ ?_ ?_ ?_)|apply dR (amw ap ?_ ?_ ?_ ?_ ?_ ?_)|apply aI (Y7 ap ?_)|apply tu|apply aK)
 all_goals grind -mbtc
theorem alA {x0:List cZ} {J:Int} (U:x0.length<=1000000) {n:Nat} {ai:Int}:(0<=ai)->(ai<=(x0.length:Int))->((x0.length:Int) - ai<n)->aH (Av N x0 J n ai) fun r=>True:=by
 induction n generalizing ai with
 |zero=>intros;exfalso;grind -mbtc
 |succ n aq=>
  intros;rw[Av];repeat' (with_reducible first|intro _|apply b7 (aq ?_ ?_ ?_)|apply bU|refine bG (by omega) ?_|apply bo|apply br|apply aW|apply aK)
  all_goals clear aq
  all_goals grind -mbtc
theorem age {x0:List cZ} {J:Int} (U:x0.length<=1000000):aH (KM N x0 J) fun r=>True:=by
 rw[KM];repeat' (with_reducible first|intro _|apply dR (alA ap ?_ ?_ ?_ ?_)|apply aK)
 all_goals grind -mbtc
theorem aoS {al:Int}:aH (ID N al) fun r=>True:=by
 rw[ID];repeat' (with_reducible first|intro _|apply bo|apply br|apply aW|apply aK)
 all_goals grind -mbtc
theorem aoV {J:List cZ} {ak:cO} {aZ:cS} {aX:List Int} {bk a8:Int} {jO:List eV} (U:hY ak) (aa:J.length<=1000000) (ao:0<=bk) (aN:bk<ak.aP.length) (bI:0<=a8) (eg:∀t,aD ak.aP bk=as4 t->a8<t.length) (g7:aX.length<=10000000) (jE:jO.length=aX.length) (nz:∀i∈jO,0<=i.ft/\i.ft<ak.homes.length) (x8:∀i∈aX,0<=i/\i<ak.items.length):aH (IE N J ak aZ aX bk a8 jO) fun r=>r.2.1.length<=aX.length+1/\r.2.2.length=r.2.1.length/\r.1.c0=aZ.c0/\(∀i∈r.2.2,0<=i.ft/\i.ft<ak.homes.length)/\∀i∈r.2.1,0<=i/\i<ak.items.length:=by
 rw[IE];repeat' (with_reducible first|intro _|apply aI (age ap ?_)|apply ed|apply bU|apply aW|apply aK)
 all_goals grind -mbtc
theorem aoU {J:List cZ} {ak:cO} {bk:Int} (U:0<=bk) (aa:bk<ak.aP.length) (ao:hY ak) (aN:J.length<=1000000) {n:Nat} {aZ:cS} {aX:(List Int)} {a8:Int} {jO:(List eV)}:(0<=a8)->(∀t,aD ak.aP bk=as4 t->a8<=t.length/\t.length - a8<n)->(aX.length<=40000*bk+a8)->(jO.length=aX.length)->(∀i∈jO,0<=i.ft/\i.ft<ak.homes.length)->(∀i∈aX,0<=i/\i<ak.items.length)->aH (Bh N J ak bk n aZ aX a8 jO) fun r=>r.2.1.length<=40000*bk+40000/\r.2.2.length=r.2.1.length/\r.1.c0=aZ.c0/\(∀i∈r.2.2,0<=i.ft/\i.ft<ak.homes.length)/\∀i∈r.2.1,0<=i/\i<ak.items.length:=by
 induction n generalizing aZ aX a8 jO with
 |zero=>intros;obtain ⟨t,e⟩:=jY U aa;exfalso;grind -mbtc
 |succ n aq=>
  intros;rw[Bh];repeat' (with_reducible first|intro _|apply aI (aoV ap ?_ ?_ ?_ ?_ ?_ ?_ ?_ ?_ ?_ ?_)|apply b7 (aq ?_ ?_ ?_ ?_ ?_ ?_)|apply bU|refine bG (by omega) ?_|apply bo|apply br|apply aW|apply aK)
  all_goals clear aq
  all_goals grind -mbtc
theorem aoT {J:List cZ} {ak:cO} (U:hY ak) (aa:J.length<=1000000) {n:Nat} {aZ:cS} {aX:(List Int)} {bk:Int} {jO:(List eV)}:(0<=bk)->(bk<=(ak.aP.length:Int))->((ak.aP.length:Int) - bk<n)->(aX.length<=40000*bk)->(jO.length=aX.length)->(∀i∈jO,0<=i.ft/\i.ft<ak.homes.length)->(∀i∈aX,0<=i/\i<ak.items.length)->aH (BN N J ak n aZ aX bk jO) fun r=>r.2.1.length<=960000/\r.2.2.length=r.2.1.length/\r.1.c0=aZ.c0/\(∀i∈r.2.2,0<=i.ft/\i.ft<ak.homes.length)/\∀i∈r.2.1,0<=i/\i<ak.items.length:=by
 induction n generalizing aZ aX bk jO with
 |zero=>intros;exfalso;grind -mbtc
 |succ n aq=>
  intros;rw[BN];repeat' (with_reducible first|intro _|apply aI (aoU ap ?_ ?_ ?_ ?_ ?_ ?_ ?_ ?_ ?_ ?_)|apply b7 (aq ?_ ?_ ?_ ?_ ?_ ?_ ?_)|refine bG (by omega) ?_|apply bo|apply br|apply aW|apply aK)
  all_goals clear aq
  all_goals grind -mbtc
theorem af5 {x0:cO} {J:List cZ} {al:Int} (U:∀t∈x0.aP,t.length<=40000) (aa:J.length<=1000000):aH (Lp N x0 J al) fun r=>r.1.items.length=r.2.1.length/\r.2.1.length<=960000/\(∀i∈r.1.items,0<=i.ft/\i.ft<x0.homes.length)/\∀i∈r.2.1,0<=i/\i<x0.items.length:=by
 rw[Lp];repeat' (with_reducible first|intro _|apply aI (aoS ap)|apply aI (aoT ap ?_ ?_ ?_ ?_ ?_ ?_ ?_ ?_ ?_)|apply aI (Y5 ap ?_)|apply aI (agu ap ?_ ?_)|apply bo|apply aW|apply aK)
 all_goals grind -mbtc
end Go.W
end
section
set_option maxHeartbeats 2000000
namespace Go.W
open Go.ay
theorem EL {aB:Type} {l:List aB} (h:(l.length:Int)=0):l=[]:=List.length_eq_zero_iff.1 (by omega)
attribute [grind->] abI Zy
variable {N:Nat} (ap:5000000000<N)
include ap
theorem aeP {x0:bu} {J al:Int} {cq:List dh} (U:de x0.c x0.y) (aa:cq.length<=1000000):aH (J7 N x0 J al cq) fun r=>r.2.1.length<=cq.length+1/\r.2.2.c=x0.c/\r.2.2.e=x0.e/\de x0.c r.2.2.y/\(∀W,J∈W->kv W x0.y r.2.2.y)/\lD al x0.y r.2.2.y:=by
 rw[J7];simp only[fG];repeat' (with_reducible first|intro _|apply aI (zJ ap ?_ ?_)|apply aI (sZ ap ?_ ?_)|apply aI (zI ap ?_)|apply ed|apply aW|apply aK)
 all_goals first|grind -mbtc [de]|grind -mbtc [xP,xO,r7,r6,de]
theorem ak7 {av:List Int} {aC:cZ} {JT:Bool} (U:JT=as5->0<=aC.kx) (aa:aC.kx<av.length):aH (Hi N av aC JT) fun r=>True:=by
 rw[Hi];repeat' (with_reducible first|intro _|apply bU|apply aW|apply aK)
 all_goals grind -mbtc
theorem ak6 {av:List Int} {ai:List cZ} (U:ai.length<=1000) (aa:nr av.length ai) {n:Nat} {x0:bu} {aA:Int} {kX:(List cZ)}:(0<=aA)->(aA<=(ai.length:Int))->((ai.length:Int) - aA<n)->(kX.length<=1000+aA)->aH (zT N av ai n x0 aA kX) fun r=>r.1.c=x0.c/\r.1.y=x0.y/\r.1.e=x0.e/\r.2.length<=3000:=by
 induction n generalizing x0 aA kX with
 |zero=>intros;exfalso;grind -mbtc
 |succ n aq=>
  intros;rw[zT];repeat' (with_reducible first|intro _|apply aI (ak7 ap ?_ ?_)|apply b7 (aq ?_ ?_ ?_ ?_)|apply ed|apply bU|refine bG (by omega) ?_|apply bo|apply br|apply aW|apply aK)
  all_goals clear aq
  all_goals grind -mbtc
theorem ak8 {av aX:List Int} (U:aX.length<=1000000) (aa:∀i∈aX,0<=i/\i<av.length) {n:Nat} {a8:(List Int)} {db:Int}:(0<=db)->(db<=(aX.length:Int))->((aX.length:Int) - db<n)->(a8.length=db)->(∀i∈a8,i∈av)->aH (zU N av aX n a8 db) fun r=>r.length=aX.length/\∀i∈r,i∈av:=by
 induction n generalizing a8 db with
 |zero=>intros;exfalso;grind -mbtc
 |succ n aq=>
  intros;rw[zU];repeat' (with_reducible first|intro _|apply b7 (aq ?_ ?_ ?_ ?_ ?_)|apply ed|apply bU|refine bG (by omega) ?_|apply bo|apply br|apply aW|apply aK)
  all_goals clear aq
  all_goals grind -mbtc
theorem ala {a8 di:List Int} {cw:List (List Int)} {cy eQ:Int} (U:0<=cy) (aa:cy<cw.length) (ao:a8.length<=1000000) (aN:0<=eQ) (bI:∀t,aD cw cy=as4 t->eQ<t.length) (eg:di.length<=1000000):aH (Hj N a8 cw cy di eQ) fun r=>r.2.length<=di.length+1/\r.1=cw/\(∀v∈r.2,v∈di\/∃t,aD cw cy=as4 t/\v∈t)/\(∀v∈di,v∈r.2)/\∀t y,aD cw cy=as4 t->aD t eQ=as4 y->y∈a8\/y∈r.2:=by
 rw[Hj];repeat' (with_reducible first|intro _|apply aI (zK ap ?_)|apply ed|apply bU|apply aW|apply aK)
 all_goals grind -mbtc
theorem ak' {a8:List Int} {cy:Int} (U:a8.length<=1000000) {n:Nat} {cw:(List (List Int))} {di:(List Int)} {eQ:Int}:(0<=eQ)->(∀t,aD cw cy=as4 t->eQ<=t.length/\t.length - eQ<n)->(0<=cy)->(cy<cw.length)->(∀t∈cw,t.length<=40000)->(di.length<=eQ)->aH (zW N a8 cy n cw di eQ) fun r=>r.2.length<=40000/\r.1=cw/\(∀v∈r.2,v∈di\/∃t,aD cw cy=as4 t/\v∈t)/\(∀v∈di,v∈r.2)/\∀t,aD cw cy=as4 t->∀y∈t.drop eQ.toNat,y∈a8\/y∈r.2:=by
 induction n generalizing cw di eQ with
 |zero=>intros;obtain ⟨t,e⟩:=jY (xs:=cw) (i:=cy) (by omega) (by omega);exfalso;grind -mbtc
 |succ n aq=>
  intros;rw[zW];repeat' (with_reducible first|intro _|apply aI (ala ap ?_ ?_ ?_ ?_ ?_ ?_)|apply b7 (aq ?_ ?_ ?_ ?_ ?_ ?_)|apply bU|refine bG (by omega) ?_|apply bo|apply br|apply aW|apply aK)
  all_goals clear aq
  all_goals first|grind -mbtc|(obtain ⟨t,e⟩:=jY (xs:=cw) (i:=cy) (by omega) (by omega);obtain ⟨u,f⟩:=jY (xs:=t) (i:=eQ) (by omega) (by grind -mbtc);have:=sc f;grind -mbtc)
theorem ak9 {a8:List Int} (U:a8.length<=1000000) {n:Nat} {cw:(List (List Int))} {cy:Int}:(0<=cy)->(cy<=(cw.length:Int))->((cw.length:Int) - cy<n)->(∀t∈cw,t.length<=40000)->(cw.length<=24)->aH (zV N a8 n cw cy) fun r=>r.length=cw.length/\(∀m,dM m 40000 cw->dM m 40000 r)/\xI a8 cw r:=by
 induction n generalizing cw cy with
 |zero=>intros;exfalso;grind -mbtc
 |succ n aq=>
  intros;rw[zV];repeat' (with_reducible first|intro _|apply aI (ak' ap ?_ ?_ ?_ ?_ ?_ ?_ ?_)|apply b7 (aq ?_ ?_ ?_ ?_ ?_)|apply bU|refine bG (by omega) ?_|apply bo|apply br|apply aW|apply aK)
  all_goals clear aq
  all_goals first|grind -mbtc|grind -mbtc [QR,QQ]|(simp only[avw,avf] at*;grind -mbtc [QR,QQ])
theorem alc {x0:bu} {cw:List (List Int)} {e8:Bool} {eF:Int} (U:0<=eF) (aa:eF<x0.e.aP.length) (ao:∀t∈x0.e.aP,0<=t/\t<cw.length):aH (Hk N x0 cw e8 eF) fun r=>r.1=cw/\(r.2=as5->e8=as5/\∀t,aD x0.e.aP eF=as4 t->aD cw t=as4 []):=by
 rw[Hk];repeat' (with_reducible first|intro _|apply bU|apply bo|apply aW|apply aK)
 all_goals first|grind -mbtc|grind -mbtc [EL]
theorem alb {x0:bu} (U:x0.e.aP.length<=1000000) {n:Nat} {cw:(List (List Int))} {e8:Bool} {eF:Int}:(0<=eF)->(eF<=(x0.e.aP.length:Int))->((x0.e.aP.length:Int) - eF<n)->(∀t∈x0.e.aP,0<=t/\t<cw.length)->aH (AR N x0 n cw e8 eF) fun r=>r.1=cw/\(r.2=as5->e8=as5/\∀t∈x0.e.aP.drop eF.toNat,aD cw t=as4 []):=by
 induction n generalizing cw e8 eF with
 |zero=>intros;exfalso;grind -mbtc
 |succ n aq=>
  intros;rw[AR];repeat' (with_reducible first|intro _|apply aI (alc ap ?_ ?_ ?_)|apply b7 (aq ?_ ?_ ?_ ?_)|refine bG (by omega) ?_|apply bo|apply br|apply aW|apply aK)
  all_goals clear aq
  all_goals first|grind -mbtc|(obtain ⟨t,e⟩:=jY (xs:=x0.e.aP) (i:=eF) (by omega) (by omega);have:=sc e;grind -mbtc)
theorem ald {a8:List Int} (U:a8.length<=1000) {n:Nat} {x0:bu} {px:Int} {cq:(List dh)}:(0<=px)->(px<=(a8.length:Int))->((a8.length:Int) - px<n)->(de x0.c x0.y)->(cq.length<=1000+px)->aH (AS N a8 n x0 px cq) fun r=>r.1.c=x0.c/\r.1.e=x0.e/\de x0.c r.1.y/\kv a8 x0.y r.1.y:=by
 induction n generalizing x0 px cq with
 |zero=>intros;exfalso;grind -mbtc
 |succ n aq=>
  intros;rw[AS];repeat' (with_reducible first|intro _|apply aI (aeP ap ?_ ?_)|apply b7 (aq ?_ ?_ ?_ ?_ ?_)|apply bU|refine bG (by omega) ?_|apply bo|apply br|apply aW|apply aK)
  all_goals clear aq
  all_goals first|grind -mbtc|grind -mbtc [Td,r7]
end Go.W
end
section
set_option maxHeartbeats 2000000
namespace Go.W
open Go.ay
variable {N:Nat} (ap:5000000000<N)
include ap
theorem alP {x0:List (List Int)} {J al:Int}:aH (HZ N x0 J al) fun r=>r=as9->0<=J/\J<x0.length/\0<=al/\al<x0.length:=by
 rw[HZ];repeat' (with_reducible first|intro _|apply br|apply aW|apply aK)
 all_goals grind -mbtc
theorem alQ {x0:List (List Int)} {J ak:Int} (U:0<=J) (aa:J<x0.length):aH (H0 N x0 J ak) fun r=>r=as9->0<=ak/\∀t,aD x0 J=as4 t->ak<=t.length:=by
 rw[H0];repeat' (with_reducible first|intro _|apply bU|apply br|apply aW|apply aK)
 all_goals grind -mbtc
theorem alR {x0:List (List Int)} {J al:Int} (U:0<=J) (aa:J<x0.length) (ao:∀t∈x0,t.length<=40000) {n:Nat} {aX:(List dh)} {bk:Int}:(0<=bk)->(∀t,aD x0 J=as4 t->bk<=t.length/\t.length - bk<n)->(aX.length<=bk)->aH (AB N x0 J al n aX bk) fun r=>∀t,aD x0 J=as4 t->r.length<=aX.length+t.length - bk:=by
 induction n generalizing aX bk with
 |zero=>intros;obtain ⟨t,e⟩:=jY U aa;exfalso;grind -mbtc
 |succ n aq=>
  intros;rw[AB];repeat' (with_reducible first|intro _|apply b7 (aq ?_ ?_ ?_)|apply ed|apply bU|refine bG (by omega) ?_|apply bo|apply br|apply aW|apply aK)
  all_goals clear aq
  all_goals grind -mbtc
theorem agk {x0:List (List Int)} {J al ak:Int} (U:∀t∈x0,t.length<=40000):aH (KR N x0 J al ak) fun r=>∀t,aD x0 J=as4 t->0<=ak->r.1.length<=ak:=by
 rw[KR];repeat' (with_reducible first|intro _|apply aI (alP ap)|apply aI (alQ ap ?_ ?_)|apply aI (alR ap ?_ ?_ ?_ ?_ ?_ ?_)|apply bU|refine bG (by omega) ?_|apply bo|apply aW|apply aK)
 all_goals grind -mbtc
theorem aeL {x0:bu} {J al:Int} {cq:List dh} (U:de x0.c x0.y) (aa:cq.length<=1000000):aH (J3 N x0 J al cq) fun r=>r.2.1.length<=cq.length+1/\r.2.2.c=x0.c/\r.2.2.e=x0.e/\de x0.c r.2.2.y/\(∀W,J∈W->kv W x0.y r.2.2.y)/\lD al x0.y r.2.2.y:=by
 rw[J3];simp only[fG];repeat' (with_reducible first|intro _|apply aI (zJ ap ?_ ?_)|apply aI (sZ ap ?_ ?_)|apply aI (zI ap ?_)|apply ed|apply aW|apply aK)
 all_goals first|grind -mbtc [de]|grind -mbtc [xP,xO,r7,r6,de]
theorem akw {x0:bu}:aH (Iu N x0) fun r=>r=as9->0<=x0.e.bQ/\x0.e.bQ<x0.c.aP.length/\0<=x0.e.to/\x0.e.to<x0.c.aP.length:=by
 rw[Iu];repeat' (with_reducible first|intro _|apply aI (uQ ap)|apply bo|apply aW|apply aK)
 all_goals grind -mbtc
theorem alX {x0:bu} (U:x0.y.cE.length<=1000000):aH (Iv N x0) fun r=>True:=by
 rw[Iv];repeat' (with_reducible first|intro _|apply aI (w1 ap ?_)|apply aW|apply aK)
 all_goals grind -mbtc
theorem alY {x0:bu} (U:0<=x0.e.bQ) (aa:x0.e.bQ<x0.y.aP.length):aH (Iw N x0) fun r=>r=as9->1<=x0.e.count/\∃t,aD x0.y.aP x0.e.bQ=as4 t/\x0.e.count<=t.length:=by
 rw[Iw];repeat' (with_reducible first|intro _|apply bU|apply bo|apply br|apply aW|apply aK)
 all_goals grind -mbtc
theorem alZ {ak:List dh} (U:ak.length<=40000) {n:Nat} {x0:bu} {ai:Int} {cq:(List dh)}:(0<=ai)->(ai<=(ak.length:Int))->((ak.length:Int) - ai<n)->(de x0.c x0.y)->(cq.length<=1000+ai)->aH (A8 N ak n x0 ai cq) fun r=>(∀a,r= .inl a->a.1.c=x0.c/\a.1.e=x0.e/\de x0.c a.1.y/\lD x0.e.to x0.y a.1.y)/\∀a,r= .inr a->a.2.1≠0:=by
 induction n generalizing x0 ai cq with
 |zero=>intros;exfalso;grind -mbtc
 |succ n aq=>
  intros;rw[A8];repeat' (with_reducible first|intro _|apply aI (aeL ap ?_ ?_)|apply b7 (aq ?_ ?_ ?_ ?_ ?_)|apply bU|refine bG (by omega) ?_|apply bo|apply br|apply aW|apply aK)
  all_goals clear aq
  all_goals first|grind -mbtc|grind -mbtc [LM,r6]
theorem af9 {x0:bu} {cq:List dh} (U:de x0.c x0.y) (aa:hz x0.e) (ao:cq.length<=1000):aH (KH N x0 cq) fun r=>r.1=0->r.2.2.c=x0.c/\de x0.c r.2.2.y/\hX r.2.2.y:=by
 rw[KH];repeat' (with_reducible first|intro _|apply aI (agk ap ?_)|apply aI (akw ap)|apply aI (alX ap ?_)|apply aI (alY ap ?_ ?_)|apply dR (alZ ap ?_ ?_ ?_ ?_ ?_ ?_)|apply aW|apply aK)
 all_goals first|grind -mbtc [de]|grind -mbtc [de,hX,lD]
theorem afL {x0:du} {J:cb} {al:List b8} (U:nj x0) (aa:J.name.length<=1000000) (ao:J.cH.length<=1000000) (aN:∀d∈J.cH,d.length<=1000000) (bI:al.length<=1000000) (eg:∀w∈al,w.dest.length<=1000000):aH (K7 N x0 J al) fun r=>r=0->0<=J.bQ/\J.bQ<x0.aP.length/\J.cH.length<=16/\al.length<=96:=by
 rw[K7];repeat' (with_reducible first|intro _|apply aI (Gv ap ?_ ?_)|apply aI (YB ap ?_)|apply aI (YD ap ?_ ?_ ?_)|apply aW|apply aK)
 all_goals grind -mbtc
theorem alO {J:List b8} {al:cb} (U:J.length<=1000000) (aa:al.cH.length<=1000000) {n:Nat} {aA:(List Int)} {aC:Int}:(0<=aC)->(aC<=(J.length:Int))->((J.length:Int) - aC<n)->(aA.length=aC)->aH (AA N J al n aA aC) fun r=>∀a,r= .inl a->a.length=J.length:=by
 induction n generalizing aA aC with
 |zero=>intros;exfalso;grind -mbtc
 |succ n aq=>
  intros;rw[AA];repeat' (with_reducible first|intro _|apply aI (Gy ap ?_)|apply b7 (aq ?_ ?_ ?_ ?_)|apply ed|apply bU|refine bG (by omega) ?_|apply bo|apply br|apply aW|apply aK)
  all_goals clear aq
  all_goals grind -mbtc
theorem agj {x0:cb} {J:List b8} (U:J.length<=1000000) (aa:x0.cH.length<=1000000):aH (KQ N x0 J) fun r=>r.2.2=0->r.1.length=J.length\/r.1.length=0:=by
 rw[KQ];repeat' (with_reducible first|intro _|apply dR (alO ap ?_ ?_ ?_ ?_ ?_ ?_)|apply aK)
 all_goals grind -mbtc
end Go.W
end
section
set_option maxHeartbeats 2000000
namespace Go.W
open Go.ay
variable {N:Nat} (ap:5000000000<N)
include ap
theorem als {x0:List b8} (U:x0.length<=1000000) {n:Nat} {al:Int} {ak:Int} {av:Int} {aA:Int}:(0<=aA)->(aA<=(x0.length:Int))->((x0.length:Int) - aA<n)->aH (AK N x0 n al ak av aA) fun r=>True:=by
 induction n generalizing al ak av aA with
 |zero=>intros;exfalso;grind -mbtc
 |succ n aq=>
  intros;rw[AK];repeat' (with_reducible first|intro _|apply b7 (aq ?_ ?_ ?_)|apply bU|refine bG (by omega) ?_|apply bo|apply br|apply aW|apply aK)
  all_goals clear aq
  all_goals grind -mbtc
theorem agq {x0:List b8} (U:x0.length<=1000000) (aa:∀w∈x0,w.dest.length<=1000000):aH (KW N x0) fun r=>True:=by
 rw[KW];repeat' (with_reducible first|intro _|apply aI (als ap ?_ ?_ ?_ ?_)|apply aI (Gv ap ?_ ?_)|apply aW|apply aK)
 all_goals grind -mbtc
theorem aoW {x0:List Int} {J:Int} (U:x0.length<=1000000) {n:Nat} {ai:Int}:(0<=ai)->(ai<=(x0.length:Int))->((x0.length:Int) - ai<n)->aH (Bi N x0 J n ai) fun r=>True:=by
 induction n generalizing ai with
 |zero=>intros;exfalso;grind -mbtc
 |succ n aq=>
  intros;rw[Bi];repeat' (with_reducible first|intro _|apply b7 (aq ?_ ?_ ?_)|apply bU|refine bG (by omega) ?_|apply bo|apply br|apply aW|apply aK)
  all_goals clear aq
  all_goals grind -mbtc
theorem P8 {x0:List Int} {J:Int} (U:x0.length<=1000000):aH (xA N x0 J) fun r=>True:=by
 rw[xA];repeat' (with_reducible first|intro _|apply dR (aoW ap ?_ ?_ ?_ ?_)|apply aK)
 all_goals grind -mbtc
theorem agh {x0:Int}:aH (KO N x0) fun r=>True:=by
 rw[KO];repeat' (with_reducible first|intro _|refine bG (by omega) ?_|apply bo|apply br|apply aW|apply aK)
 all_goals grind -mbtc
theorem amI {x0:List b8} {J:List Int} {aX:Int} (U:0<=aX) (aa:aX<J.length):aH (Jf N x0 J aX) fun r=>True:=by
 rw[Jf];repeat' (with_reducible first|intro _|apply bU|apply br|apply aW|apply aK)
 all_goals grind -mbtc
theorem amH {x0:List b8} {J:List Int} (U:J.length<=1000000) {n:Nat} {av:fp} {aX:Int}:(0<=aX)->(aX<=(J.length:Int))->((J.length:Int) - aX<n)->aH (BV N x0 J n av aX) fun r=>True:=by
 induction n generalizing av aX with
 |zero=>intros;exfalso;grind -mbtc
 |succ n aq=>
  intros;rw[BV];repeat' (with_reducible first|intro _|apply aI (amI ap ?_ ?_)|apply b7 (aq ?_ ?_ ?_)|refine bG (by omega) ?_|apply bo|apply br|apply aW|apply aK)
  all_goals clear aq
  all_goals grind -mbtc
theorem amJ {J:List Int} (U:J.length<=1000000) {n:Nat} {av:fp} {bk:Int}:(0<=bk)->(bk<=(J.length:Int))->((J.length:Int) - bk<n)->aH (BW N J n av bk) fun r=>True:=by
 induction n generalizing av bk with
 |zero=>intros;exfalso;grind -mbtc
 |succ n aq=>
  intros;rw[BW];repeat' (with_reducible first|intro _|apply aI (P8 ap ?_)|apply b7 (aq ?_ ?_ ?_)|apply bU|apply pL|refine bG (by omega) ?_|apply bo|apply br|apply aW|apply aK)
  all_goals clear aq
  all_goals grind -mbtc
theorem amL {x0:List b8} {J:List Int} {a8:fp} {db:Int} (U:0<=db) (aa:db<x0.length) (ao:J.length<=1000000):aH (Jg N x0 J a8 db) fun r=>True:=by
 rw[Jg];repeat' (with_reducible first|intro _|apply aI (P8 ap ?_)|apply bU|refine bG (by omega) ?_|apply aW|apply aK)
 all_goals grind -mbtc
theorem amK {x0:List b8} {J:List Int} (U:x0.length<=1000000) (aa:J.length<=1000000) {n:Nat} {a8:fp} {db:Int}:(0<=db)->(db<=(x0.length:Int))->((x0.length:Int) - db<n)->aH (BX N x0 J n a8 db) fun r=>True:=by
 induction n generalizing a8 db with
 |zero=>intros;exfalso;grind -mbtc
 |succ n aq=>
  intros;rw[BX];repeat' (with_reducible first|intro _|apply aI (amL ap ?_ ?_ ?_)|apply b7 (aq ?_ ?_ ?_)|refine bG (by omega) ?_|apply bo|apply br|apply aW|apply aK)
  all_goals clear aq
  all_goals grind -mbtc
theorem amM {aA:Int} {a8:fp} {JS:Bool} (U:JS=as5->0<aA):aH (Jh N aA a8 JS) fun r=>True:=by
 rw[Jh];repeat' (with_reducible first|intro _|apply Du|apply tv|refine bG (by omega) ?_|apply aW|apply aK)
 all_goals grind -mbtc
theorem PR {x0:List b8} {J:List Int} (U:x0.length<=1000000) (aa:J.length<=1000000) (ao:∀w∈x0,w.dest.length<=1000000):aH (xu N x0 J) fun r=>True:=by
 rw[xu];repeat' (with_reducible first|intro _|apply aI (agq ap ?_ ?_)|apply aI (agh ap)|apply dR (amH ap ?_ ?_ ?_ ?_)|apply dR (amJ ap ?_ ?_ ?_ ?_)|apply aI (amK ap ?_ ?_ ?_ ?_ ?_)|apply aI (amM ap ?_)|refine bG (by omega) ?_|apply aW|apply aK)
 all_goals grind -mbtc
theorem anF {x0:List gp} {J al aC aX:Int} {aZ:Bool} (U:0<=aX) (aa:aX<x0.length):aH (IU N x0 J al aC aZ aX) fun r=>True:=by
 rw[IU];repeat' (with_reducible first|intro _|apply bU|apply br|apply aW|apply aK)
 all_goals grind -mbtc
theorem anE {x0:List gp} {J al aC aX:Int} {aZ:Bool} (U:0<=aX) (aa:aX<x0.length):aH (IT N x0 J al aC aZ aX) fun r=>True:=by
 rw[IT];repeat' (with_reducible first|intro _|apply aI (anF ap ?_ ?_)|apply bU|apply aW|apply aK)
 all_goals grind -mbtc
theorem anD {x0:List gp} {J al:Int} (U:x0.length<=1000000) {n:Nat} {aC:Int} {aZ:Bool} {aX:Int}:(0<=aX)->(aX<=(x0.length:Int))->((x0.length:Int) - aX<n)->aH (Bv N x0 J al n aC aZ aX) fun r=>True:=by
 induction n generalizing aC aZ aX with
 |zero=>intros;exfalso;grind -mbtc
 |succ n aq=>
  intros;rw[Bv];repeat' (with_reducible first|intro _|apply aI (anE ap ?_ ?_)|apply b7 (aq ?_ ?_ ?_)|refine bG (by omega) ?_|apply bo|apply br|apply aW|apply aK)
  all_goals clear aq
  all_goals grind -mbtc
theorem afW {x0:List gp} {J al:Int} (U:x0.length<=1000000):aH (Lh N x0 J al) fun r=>True:=by
 rw[Lh];repeat' (with_reducible first|intro _|apply aI (anD ap ?_ ?_ ?_ ?_)|apply aK)
 all_goals grind -mbtc
theorem akG {J al:Int}:aH (Ib N J al) fun r=>True:=by
 rw[Ib];repeat' (with_reducible first|intro _|apply br|apply aW|apply aK)
 all_goals grind -mbtc
theorem ae7 {x0:List gp} {J al:Int} (U:x0.length<=1000000):aH (Kq N x0 J al) fun r=>True:=by
 rw[Kq];repeat' (with_reducible first|intro _|apply aI (akG ap)|apply aI (YC ap)|apply aI (afW ap ?_)|apply aW|apply aK)
 all_goals grind -mbtc
theorem agw {x0:List b8} {J:List Int} {al:List gp} {ak av:Int} (U:x0.length<=1000000) (aa:J.length<=1000000) (ao:al.length<=1000000) (aN:∀w∈x0,w.dest.length<=1000000):aH (K2 N x0 J al ak av) fun r=>True:=by
 rw[K2];repeat' (with_reducible first|intro _|apply aI (ae7 ap ?_)|apply aI (PR ap ?_ ?_ ?_)|refine bG (by omega) ?_|apply aW|apply aK)
 all_goals grind -mbtc
end Go.W
end
section
set_option maxHeartbeats 2000000
namespace Go.W
open Go.ay
variable {N:Nat} (ap:5000000000<N)
include ap
theorem afX {x0:Int} {J:b8}:aH (Li N x0 J) fun r=>True:=by
 rw[Li];repeat' (with_reducible first|intro _|apply bo|apply aW|apply aK)
 all_goals grind -mbtc
theorem akU {al ak:Int} {av ai:b8}:aH (Im N al ak av ai) fun r=>True:=by
 rw[Im];repeat' (with_reducible first|intro _|apply bo|apply aW|apply aK)
 all_goals grind -mbtc
theorem aeJ {x0 J:b8} {al ak:Int}:aH (KC N x0 J al ak) fun r=>True:=by
 rw[KC];repeat' (with_reducible first|intro _|apply aI (akU ap)|apply aK)
 all_goals grind -mbtc
theorem alH {a8:Int} {db:Bool}:aH (HV N a8 db) fun r=>True:=by
 rw[HV];repeat' (with_reducible first|intro _|apply bo|apply aW|apply aK)
 all_goals grind -mbtc
theorem alI {J:List b8} {al:Int} {ak:en} (U:0<=al) (aa:al<J.length) (ao:J.length<=1000000) {n:Nat} {aA:Int} {aC:Int}:(0<=aC)->(aC<=al+1)->(al+1 - aC<n)->aH (Ax N J al ak n aA aC) fun r=>True:=by
 induction n generalizing aA aC with
 |zero=>intros;exfalso;grind -mbtc
 |succ n aq=>
  intros;rw[Ax];repeat' (with_reducible first|intro _|apply aI (afX ap)|apply b7 (aq ?_ ?_ ?_)|apply bU|refine bG (by omega) ?_|apply bo|apply br|apply aW|apply aK)
  all_goals clear aq
  all_goals grind -mbtc
theorem alK {J:List b8} {al aZ:Int} {ak:en} (U:0<=aZ) (aa:aZ<J.length) (ao:0<=al) (aN:al<J.length) (bI:J.length<=1000000):aH (HW N J al ak aZ) fun r=>True:=by
 rw[HW];repeat' (with_reducible first|intro _|apply aI (aeJ ap)|apply bU|refine bG (by omega) ?_|apply aW|apply aK)
 all_goals grind -mbtc
theorem alJ {J:List b8} {al:Int} {ak:en} (U:0<=al) (aa:al<J.length) (ao:J.length<=1000000) {n:Nat} {aZ:Int}:(0<=aZ)->(aZ<=al)->(al - aZ<n)->aH (Ay N J al ak n aZ) fun r=>True:=by
 induction n generalizing aZ with
 |zero=>intros;exfalso;grind -mbtc
 |succ n aq=>
  intros;rw[Ay];repeat' (with_reducible first|intro _|apply aI (alK ap ?_ ?_ ?_ ?_ ?_)|apply b7 (aq ?_ ?_ ?_)|refine bG (by omega) ?_|apply bo|apply br|apply aW|apply aK)
  all_goals clear aq
  all_goals grind -mbtc
theorem alL {J:List b8} {al:Int} {ak:en} (U:0<=al) (aa:al<J.length) (ao:J.length<=1000000):aH (HX N J al ak) fun r=>True:=by
 rw[HX];repeat' (with_reducible first|intro _|apply bU|apply bo|apply aW|apply aK)
 all_goals grind -mbtc
theorem alM {J:List b8} (U:J.length<=1000000) {n:Nat} {aA:Int} {aX:Int}:(0<=aX)->(aX<=(J.length:Int))->((J.length:Int) - aX<n)->aH (Az N J n aA aX) fun r=>True:=by
 induction n generalizing aA aX with
 |zero=>intros;exfalso;grind -mbtc
 |succ n aq=>
  intros;rw[Az];repeat' (with_reducible first|intro _|apply b7 (aq ?_ ?_ ?_)|apply bU|refine bG (by omega) ?_|apply bo|apply br|apply aW|apply aK)
  all_goals clear aq
  all_goals grind -mbtc
theorem alN {J:List b8} {al aA:Int} {ak:en} (U:0<=al) (aa:al<J.length) (ao:J.length<=1000000):aH (HY N J al ak aA) fun r=>True:=by
 rw[HY];repeat' (with_reducible first|intro _|apply bU|apply bo|apply br|apply aW|apply aK)
 all_goals grind -mbtc
theorem alG {J:List b8} {al aA a8:Int} {ak:en} (U:0<=al) (aa:al<J.length) (ao:J.length<=1000000):aH (HU N J al ak aA a8) fun r=>True:=by
 rw[HU];repeat' (with_reducible first|intro _|apply aI (alH ap)|apply aI (alI ap ?_ ?_ ?_ ?_ ?_ ?_)|apply dR (alJ ap ?_ ?_ ?_ ?_ ?_ ?_)|apply aI (alL ap ?_ ?_ ?_)|apply aI (alM ap ?_ ?_ ?_ ?_)|apply aI (alN ap ?_ ?_ ?_)|apply bU|refine bG (by omega) ?_|apply bo|apply aW|apply aK)
 all_goals grind -mbtc
theorem agi {x0:en} {J:List b8} {al:Int} (U:0<=al) (aa:al<J.length) (ao:J.length<=1000000):aH (KP N x0 J al) fun r=>True:=by
 rw[KP];repeat' (with_reducible first|intro _|apply dR (alG ap ?_ ?_ ?_)|apply aK)
 all_goals grind -mbtc
theorem amQ {ak:en} {aA:Int} {aC:fp}:aH (Ji N ak aA aC) fun r=>True:=by
 rw[Ji];repeat' (with_reducible first|intro _|apply br|apply aW|apply aK)
 all_goals grind -mbtc
theorem amT {J:List b8} {al:List Int} {a8:Int} (U:0<=a8) (aa:a8<J.length) (ao:al.length<=1000000):aH (Jk N J al a8) fun r=>True:=by
 rw[Jk];repeat' (with_reducible first|intro _|apply aI (P8 ap ?_)|apply bU|apply br|apply aW|apply aK)
 all_goals grind -mbtc
theorem amS {J:List b8} {al:List Int} {bk a8:Int} (U:0<=a8) (aa:a8<J.length) (ao:al.length<=1000000):aH (Jj N J al bk a8) fun r=>True:=by
 rw[Jj];repeat' (with_reducible first|intro _|apply aI (amT ap ?_ ?_ ?_)|refine bG (by omega) ?_|apply bo|apply aW|apply aK)
 all_goals grind -mbtc
theorem amR {J:List b8} {al:List Int} {aA:Int} (U:aA<=J.length) (aa:J.length<=1000000) (ao:al.length<=1000000) {n:Nat} {bk:Int} {a8:Int}:(0<=a8)->(a8<=aA)->(aA - a8<n)->aH (B1 N J al aA n bk a8) fun r=>True:=by
 induction n generalizing bk a8 with
 |zero=>intros;exfalso;grind -mbtc
 |succ n aq=>
  intros;rw[B1];repeat' (with_reducible first|intro _|apply aI (amS ap ?_ ?_ ?_)|apply b7 (aq ?_ ?_ ?_)|refine bG (by omega) ?_|apply bo|apply br|apply aW|apply aK)
  all_goals clear aq
  all_goals grind -mbtc
theorem aml {J:List b8} {ak:en} {aA:Int} (U:aA<=J.length) (aa:J.length<=1000000) {n:Nat} {db:Int}:(0<=db)->(db<=aA)->(aA - db<n)->aH (B2 N J ak aA n db) fun r=>True:=by
 induction n generalizing db with
 |zero=>intros;exfalso;grind -mbtc
 |succ n aq=>
  intros;rw[B2];repeat' (with_reducible first|intro _|apply aI (agi ap ?_ ?_ ?_)|apply b7 (aq ?_ ?_ ?_)|refine bG (by omega) ?_|apply bo|apply br|apply aW|apply aK)
  all_goals clear aq
  all_goals grind -mbtc
theorem afI {x0:en} {J:List b8} {al:List Int} (U:0<=x0.a) (aa:J.length<=1000000) (ao:al.length<=1000000) (aN:∀w∈J,w.dest.length<=1000000):aH (K4 N x0 J al) fun r=>True:=by
 rw[K4];repeat' (with_reducible first|intro _|apply aI (PR ap ?_ ?_ ?_)|apply aI (amQ ap)|apply aI (amR ap ?_ ?_ ?_ ?_ ?_ ?_)|apply dR (aml ap ?_ ?_ ?_ ?_ ?_)|refine bG (by omega) ?_|apply bo|apply br|apply aW|apply aK)
 all_goals grind -mbtc
theorem alF {x0:List Int} {J ai:Int} (U:0<=ai) (aa:ai<x0.length):aH (HT N x0 J ai) fun r=>True:=by
 rw[HT];repeat' (with_reducible first|intro _|apply bU|apply br|apply aW|apply aK)
 all_goals grind -mbtc
theorem alE {x0:List Int} {J:Int} (U:x0.length<=1000000) {n:Nat} {ai:Int}:(0<=ai)->(ai<=(x0.length:Int))->((x0.length:Int) - ai<n)->aH (Aw N x0 J n ai) fun r=>True:=by
 induction n generalizing ai with
 |zero=>intros;exfalso;grind -mbtc
 |succ n aq=>
  intros;rw[Aw];repeat' (with_reducible first|intro _|apply aI (alF ap ?_ ?_)|apply b7 (aq ?_ ?_ ?_)|refine bG (by omega) ?_|apply bo|apply br|apply aW|apply aK)
  all_goals clear aq
  all_goals grind -mbtc
theorem agf {x0:List Int} {J:Int} (U:x0.length<=1000000):aH (KN N x0 J) fun r=>True:=by
 rw[KN];repeat' (with_reducible first|intro _|apply dR (alE ap ?_ ?_ ?_ ?_)|apply aK)
 all_goals grind -mbtc
theorem aos {ai:Int} {Qt:Bool}:aH (II N ai Qt) fun r=>True:=by
 rw[II];repeat' (with_reducible first|intro _|refine bG (by omega) ?_|apply bo|apply aW|apply aK)
 all_goals grind -mbtc
theorem aor {x0:List Int} {J av ai aA:Int} {az:Bool} (U:0<=aA) (aa:aA<x0.length):aH (IH N x0 J av ai az aA) fun r=>True:=by
 rw[IH];repeat' (with_reducible first|intro _|apply aI (aos ap)|apply bU|refine bG (by omega) ?_|apply bo|apply aW|apply aK)
 all_goals grind -mbtc
theorem aoq {x0:List Int} {J:Int} (U:x0.length<=1000000) {n:Nat} {av:Int} {ai:Int} {az:Bool} {aA:Int}:(0<=aA)->(aA<=(x0.length:Int))->((x0.length:Int) - aA<n)->aH (Bn N x0 J n av ai az aA) fun r=>True:=by
 induction n generalizing av ai az aA with
 |zero=>intros;exfalso;grind -mbtc
 |succ n aq=>
  intros;rw[Bn];repeat' (with_reducible first|intro _|apply aI (aor ap ?_ ?_)|apply b7 (aq ?_ ?_ ?_)|refine bG (by omega) ?_|apply bo|apply br|apply aW|apply aK)
  all_goals clear aq
  all_goals grind -mbtc
theorem afz {x0:List Int} {J:Int} (U:x0.length<=1000000):aH (Ls N x0 J) fun r=>True:=by
 rw[Ls];repeat' (with_reducible first|intro _|apply aI (aoq ap ?_ ?_ ?_ ?_)|apply aK)
 all_goals grind -mbtc
theorem anA {J:Int}:aH (IQ N J) fun r=>r=as9->0<=J/\J<=16:=by
 rw[IQ];repeat' (with_reducible first|intro _|apply br|apply aW|apply aK)
 all_goals grind -mbtc
theorem anC {x0:List Int} {az:List jr} {aA:Int} (U:x0.length<=1000000) (aa:az.length<=1000000):aH (IS N x0 az aA) fun r=>r.length<=az.length+1:=by
 rw[IS];repeat' (with_reducible first|intro _|apply aI (afz ap ?_)|apply ed|apply br|apply aW|apply aK)
 all_goals grind -mbtc
theorem anB {x0:List Int} {J:Int} (U:x0.length<=1000000) (aa:J<=16) {n:Nat} {az:(List jr)} {aA:Int}:(0<=aA)->(aA<=J)->(J - aA<n)->(az.length<=aA)->aH (Bu N x0 J n az aA) fun r=>True:=by
 induction n generalizing az aA with
 |zero=>intros;exfalso;grind -mbtc
 |succ n aq=>
  intros;rw[Bu];repeat' (with_reducible first|intro _|apply aI (anC ap ?_ ?_)|apply b7 (aq ?_ ?_ ?_ ?_)|refine bG (by omega) ?_|apply bo|apply br|apply aW|apply aK)
  all_goals clear aq
  all_goals grind -mbtc
theorem afV {x0:List Int} {J:Int} (U:x0.length<=1000000):aH (Lg N x0 J) fun r=>True:=by
 rw[Lg];repeat' (with_reducible first|intro _|apply aI (anA ap)|apply aI (anB ap ?_ ?_ ?_ ?_ ?_ ?_)|apply aI (agf ap ?_)|apply br|apply aW|apply aK)
 all_goals grind -mbtc
end Go.W
end
section
set_option maxHeartbeats 2000000
namespace Go.W
open Go.ay
variable {N:Nat} (ap:5000000000<N)
include ap
theorem aoN {aA:Int} {di:Bool}:aH (I9 N aA di) fun r=>(r=as5↔di=as5\/aA=5):=by
 rw[I9];repeat' (with_reducible first|intro _|apply bo|apply aW|apply aK)
 all_goals grind -mbtc
theorem aoM {ak:bw} {aA:Int} (U:aA=ak.kind):aH (I8 N ak aA) fun r=>(∀a,r= .inl a->a=uT ak.kind ak/\1<=ak.kind/\ak.kind<=7)/\∀a,r= .inr a->a=as9/\¬(1<=ak.kind/\ak.kind<=7):=by
 rw[I8];repeat' (with_reducible first|intro _|apply aI (aoN ap)|apply bo|apply aW|apply aK)
 all_goals first|grind -mbtc|grind -mbtc [uT]
theorem aoO {ak:bw} {av:cb} (U:av=ak.order):aH (Ja N ak av) fun r=>(r=as5↔uV ak):=by
 rw[Ja];repeat' (with_reducible first|intro _|apply bo|apply EA|apply aW|apply aK)
 all_goals first|grind -mbtc [uV]|simp_all [uV]
theorem af2 {x0:bw}:aH (Lm N x0) fun r=>(r=as5↔lo x0):=by
 rw[Lm];repeat' (with_reducible first|intro _|apply dR (aoM ap ?_)|apply aI (aoO ap ?_)|apply aK)
 all_goals first|grind -mbtc|grind -mbtc [JD]|grind -mbtc [JD,lo]
theorem ao0 {x0:Int}:aH (IF N x0) fun r=>r= !e6 x0:=by
 rw[IF];repeat' (with_reducible first|intro _|apply bo|apply br|apply aW|apply aK)
 all_goals first|grind -mbtc [e6]|(simp_all [e6]<;>omega)
theorem P9 {x0:Int}:aH (pC N x0) fun r=>r= !e6 x0:=by
 rw[pC];repeat' (with_reducible first|intro _|apply aI (ao0 ap)|apply aK)
 all_goals first|grind -mbtc [e6]|(simp_all [e6]<;>omega)
theorem ant {J:bw}:aH (I3 N J) fun r=>r=as5->e6 J.bQ=as9/\e6 J.to=as9/\e6 J.count=as9/\e6 J.c0=as9/\J.aP.length<=255/\J.dd.length<=255/\J.name.length<=255/\J.data.length<=8000/\e6 J.order.bQ=as9/\J.order.name.length<=255/\J.order.cH.length<=255:=by
 rw[I3];repeat' (with_reducible first|intro _|apply aI (P9 ap)|apply bo|apply br|apply aW|apply aK)
 all_goals grind -mbtc
theorem aoG {J:bw} {ak:Bool} {av:Int}:aH (I4 N J ak av) fun r=>(r=as5↔ak=as5/\av<J.aP.length):=by
 rw[I4];repeat' (with_reducible first|intro _|apply aW|apply aK)
 all_goals grind -mbtc
theorem aoF {J:bw} (U:J.aP.length<=1000000) {n:Nat} {ak:Bool} {av:Int}:(0<=av)->(av<=J.aP.length)->(J.aP.length - av<n)->aH (BI N J n ak av) fun r=>r=as5->ak=as5/\(J.aP.drop av.toNat).any e6=as9:=by
 induction n generalizing ak av with
 |zero=>intros;exfalso;grind -mbtc
 |succ n aq=>
  intros;rw[BI];repeat' (with_reducible first|intro _|apply aI (aoG ap)|apply aI (P9 ap)|apply b7 (aq ?_ ?_ ?_)|apply bU|refine bG (by omega) ?_|apply bo|apply aW|apply aK)
  all_goals clear aq
  all_goals grind -mbtc
theorem aoI {J:bw} {ak:Bool} {ai:Int}:aH (I5 N J ak ai) fun r=>(r=as5↔ak=as5/\ai<J.dd.length):=by
 rw[I5];repeat' (with_reducible first|intro _|apply aW|apply aK)
 all_goals grind -mbtc
theorem aoJ {J:bw} {ai:Int} (U:0<=ai) (aa:ai<J.dd.length):aH (I6 N J ai) fun r=>∀s,aD J.dd ai=as4 s->r= !mU s:=by
 rw[I6];repeat' (with_reducible first|intro _|apply aI (P9 ap)|apply bU|apply aW|apply aK)
 all_goals first|grind -mbtc|grind -mbtc [mU]
theorem aoH {J:bw} (U:J.dd.length<=1000000) {n:Nat} {ak:Bool} {ai:Int}:(0<=ai)->(ai<=J.dd.length)->(J.dd.length - ai<n)->aH (BJ N J n ak ai) fun r=>r=as5->ak=as5/\(J.dd.drop ai.toNat).any mU=as9:=by
 induction n generalizing ak ai with
 |zero=>intros;exfalso;grind -mbtc
 |succ n aq=>
  intros;rw[BJ];repeat' (with_reducible first|intro _|apply aI (aoI ap)|apply aI (aoJ ap ?_ ?_)|apply b7 (aq ?_ ?_ ?_)|refine bG (by omega) ?_|apply bo|apply aW|apply aK)
  all_goals clear aq
  all_goals first|grind -mbtc|(obtain ⟨t,e⟩:=jY (xs:=J.dd) (i:=ai) (by omega) (by grind -mbtc);have:=sc e;grind -mbtc)
theorem aoL {J:bw} {ak:Bool} {az:Int}:aH (I7 N J ak az) fun r=>(r=as5↔ak=as5/\az<J.order.cH.length):=by
 rw[I7];repeat' (with_reducible first|intro _|apply aW|apply aK)
 all_goals grind -mbtc
theorem aoK {J:bw} (U:J.order.cH.length<=1000000) {n:Nat} {ak:Bool} {az:Int}:(0<=az)->(az<=J.order.cH.length)->(J.order.cH.length - az<n)->aH (BK N J n ak az) fun r=>r=as5->ak=as5/\(J.order.cH.drop az.toNat).any rh=as9:=by
 induction n generalizing ak az with
 |zero=>intros;exfalso;grind -mbtc
 |succ n aq=>
  intros;rw[BK];repeat' (with_reducible first|intro _|apply aI (aoL ap)|apply b7 (aq ?_ ?_ ?_)|apply bU|refine bG (by omega) ?_|apply bo|apply aW|apply aK)
  all_goals clear aq
  all_goals first|grind -mbtc|grind -mbtc [rh,jJ]
theorem af1 {x0:bw} (U:x0.aP.length<=1000000) (aa:x0.dd.length<=1000000) (ao:x0.order.cH.length<=1000000):aH (Ll N x0) fun r=>r=as5->Lu x0:=by
 rw[Ll];repeat' (with_reducible first|intro _|apply aI (ant ap)|apply aI (aoF ap ?_ ?_ ?_ ?_)|apply aI (aoH ap ?_ ?_ ?_ ?_)|apply aI (aoK ap ?_ ?_ ?_ ?_)|apply aK)
 all_goals first|grind -mbtc|((try simp only[avw,avf] at*);grind -mbtc [Lu])
theorem P7 {x0:Int}:aH (nh N x0) fun r=>r.length=2:=by
 rw[nh];repeat' (with_reducible first|intro _|apply k4|apply aK)
 all_goals grind -mbtc
theorem Ze {x0:List UInt8} (U:x0.length<=1000000):aH (xz N x0) fun r=>r.length=x0.length+1:=by
 rw[xz];repeat' (with_reducible first|intro _|apply k4|apply ed|apply aK)
 all_goals grind -mbtc
theorem alU {J:bw} (U:hz J) {n:Nat} {av:(List UInt8)} {ai:Int}:(0<=ai)->(ai<=(J.order.cH.length:Int))->((J.order.cH.length:Int) - ai<n)->(av.length<=400000+101*ai)->aH (AE N J n av ai) fun r=>r.length<=500000:=by
 induction n generalizing av ai with
 |zero=>intros;exfalso;grind -mbtc
 |succ n aq=>
  intros;rw[AE];repeat' (with_reducible first|intro _|apply aI (Ze ap ?_)|apply b7 (aq ?_ ?_ ?_ ?_)|apply ed|apply bU|refine bG (by omega) ?_|apply bo|apply br|apply aW|apply aK)
  all_goals clear aq
  all_goals grind -mbtc
theorem alV {eF:Int} {JR:Bool}:aH (H3 N eF JR) fun r=>True:=by
 rw[H3];repeat' (with_reducible first|intro _|apply bo|apply aW|apply aK)
 all_goals grind -mbtc
theorem alW {J:bw} (U:hz J) {n:Nat} {av:(List UInt8)} {az:Int}:(0<=az)->(az<=(J.aP.length:Int))->((J.aP.length:Int) - az<n)->(av.length<=400000+2*az)->aH (AF N J n av az) fun r=>r.length<=500000:=by
 induction n generalizing av az with
 |zero=>intros;exfalso;grind -mbtc
 |succ n aq=>
  intros;rw[AF];repeat' (with_reducible first|intro _|apply aI (P7 ap)|apply b7 (aq ?_ ?_ ?_ ?_)|apply ed|apply bU|refine bG (by omega) ?_|apply bo|apply br|apply aW|apply aK)
  all_goals clear aq
  all_goals grind -mbtc
theorem aln {J:bw} (U:hz J) {n:Nat} {av:(List UInt8)} {aA:Int}:(0<=aA)->(aA<=(J.dd.length:Int))->((J.dd.length:Int) - aA<n)->(av.length<=400000+4*aA)->aH (AG N J n av aA) fun r=>r.length<=500000:=by
 induction n generalizing av aA with
 |zero=>intros;exfalso;grind -mbtc
 |succ n aq=>
  intros;rw[AG];repeat' (with_reducible first|intro _|apply aI (P7 ap)|apply b7 (aq ?_ ?_ ?_ ?_)|apply ed|apply bU|refine bG (by omega) ?_|apply bo|apply br|apply aW|apply aK)
  all_goals clear aq
  all_goals grind -mbtc
theorem alT {J:bw} {av:List UInt8} {eF:Int} (U:hz J) (aa:av.length<=10):aH (H2 N J av eF) fun r=>r.length<=600000:=by
 rw[H2];repeat' (with_reducible first|intro _|apply aI (alU ap ?_ ?_ ?_ ?_ ?_)|apply aI (alV ap)|apply aI (alW ap ?_ ?_ ?_ ?_ ?_)|apply aI (aln ap ?_ ?_ ?_ ?_ ?_)|apply aI (Ze ap ?_)|apply aI (P7 ap)|apply k4|apply ed|apply bo|apply aW|apply aK)
 all_goals grind -mbtc
theorem Ys {x0:bw} (U:hz x0):aH (xr N x0) fun r=>r.1.length<=600000/\(r.2=0->lo x0/\k5 x0.kind x0=as9):=by
 rw[xr];repeat' (with_reducible first|intro _|apply aI (alT ap ?_ ?_)|apply aI (af1 ap ?_ ?_ ?_)|apply aI (af2 ap)|apply k4|apply aW|apply aK)
 all_goals first|grind -mbtc|grind -mbtc [ZV]
end Go.W
end
section
set_option maxHeartbeats 2000000
namespace Go.W
open Go.ay
theorem abc {bK:Type} {b:Int} {f:Nat->Option bK} {P:bK->Prop} (h:0<=b/\b<=12) (g:∀y,y<=12->¬f y=as6/\∀r,f y=as4 r->P r):¬as8 (nR .i64 b) f=as6/\∀r,as8 (nR .i64 b) f=as4 r->P r:=by
 rw[show nR .i64 b=_ from if_pos h.1];exact g _ (by omega)
@[grind->] theorem asA {y:Nat} (h:y<=12):ata .i64 (1*((2 ^ y:Nat):Int))≠0:=by
 have U:2 ^ y<=2 ^ 12:=Nat.pow_le_pow_right (by omega) h;have aa:0<2 ^ y:=Nat.two_pow_pos y;rw[Qr (by omega) (by omega)];omega
theorem abD {a:Int} {y:Nat} (h:0<=a) (k:a<=5000):0<=a.fdiv ((2 ^ y:Nat):Int)/\a.fdiv ((2 ^ y:Nat):Int)<=5000:=by
 rw[Int.fdiv_eq_ediv_of_nonneg _ (Int.natCast_nonneg _)];have:=Int.ediv_le_self ((2 ^ y:Nat):Int) h;exact ⟨Int.ediv_nonneg h (Int.natCast_nonneg _),by omega⟩
theorem ael {bK:Type} {a:Int} {y:Nat} {f:Int->Option bK} {P:bK->Prop} (h:0<=a/\a<=5000) (k:∀v,0<=v/\v<=5000->¬f v=as6/\∀r,f v=as4 r->P r):¬ay.lt (a.fdiv ((2 ^ y:Nat):Int)) f=as6/\∀r,ay.lt (a.fdiv ((2 ^ y:Nat):Int)) f=as4 r->P r:=k _ (abD h.1 h.2)
variable {N:Nat} (ap:5000000000<N)
include ap
theorem anz {x0 J:Int}:aH (IP N x0 J) fun r=>r=as5->0<=x0/\x0<13/\0<=J/\J<=12:=by
 rw[IP];repeat' (with_reducible first|intro _|apply bo|apply br|apply aW|apply aK)
 all_goals grind -mbtc
theorem Y9 {x0 J:Int}:aH (CU N x0 J) fun r=>r=as5->0<=x0/\x0<13/\0<=J/\J<=12:=by
 rw[CU];repeat' (with_reducible first|intro _|apply aI (anz ap)|apply aK)
 all_goals grind -mbtc
theorem ao1 {x0 J al:Int}:aH (IG N x0 J al) fun r=>r=as9->0<=J/\J<=12/\0<=x0/\x0<4096:=by
 rw[IG];repeat' (with_reducible first|intro _|apply abc (by grind -mbtc)|apply aI (Y9 ap)|apply xU|apply Ds|refine bG (by omega) ?_|apply br|apply aW|apply aK)
 all_goals grind -mbtc
theorem aop {n:Nat} {aA:Int} {aC:Int}:(0<=aC)->(aC<=5000)->(aC<n)->aH (Bm N n aA aC) fun r=>True:=by
 induction n generalizing aA aC with
 |zero=>intros;exfalso;grind -mbtc
 |succ n aq=>
  intros;rw[Bm];repeat' (with_reducible first|intro _|apply b7 (aq ?_ ?_ ?_)|refine bG (by omega) ?_|apply bo|apply br|apply aW|apply aK)
  all_goals clear aq
  all_goals grind -mbtc
theorem afy {x0 J al:Int}:aH (Lr N x0 J al) fun r=>True:=by
 rw[Lr];repeat' (with_reducible first|intro _|apply ael (by grind -mbtc)|apply aI (ao1 ap)|apply aI (aop ap ?_ ?_ ?_)|apply xU|apply bo|apply aW|apply aK)
 all_goals grind -mbtc
theorem anw {x0 J al:Int}:aH (IN N x0 J al) fun r=>r=as9->0<=x0:=by
 rw[IN];repeat' (with_reducible first|intro _|apply aI (Y9 ap)|apply aW|apply aK)
 all_goals grind -mbtc
theorem anx {J al:Int} {n:Nat} {aC:Int}:(0<=aC)->(aC<=5000)->(5000 - aC<n)->aH (Bt N J al n aC) fun r=>∀a,r= .inr a->0<=a.1/\a.1<4096/\a.2=0:=by
 induction n generalizing aC with
 |zero=>intros;exfalso;grind -mbtc
 |succ n aq=>
  intros;rw[Bt];repeat' (with_reducible first|intro _|apply aI (afy ap)|apply b7 (aq ?_ ?_ ?_)|refine bG (by omega) ?_|apply bo|apply br|apply aW|apply aK)
  all_goals clear aq
  all_goals grind -mbtc
theorem afU {x0 J al:Int} (U:x0<=5000):aH (Lf N x0 J al) fun r=>r.2=0->0<=r.1/\r.1<4096:=by
 rw[Lf];repeat' (with_reducible first|intro _|apply aI (anw ap)|apply dR (anx ap ?_ ?_ ?_)|apply aW|apply aK)
 all_goals grind -mbtc
theorem anv {n:Nat} {x0:Int} {ak:Int}:(0<=x0)->(x0<n)->(0<=ak)->(ak+x0<=5000)->aH (Bs N n x0 ak) fun r=>0<=r:=by
 induction n generalizing x0 ak with
 |zero=>intros;exfalso;grind -mbtc
 |succ n aq=>
  intros;rw[Bs];repeat' (with_reducible first|intro _|apply b7 (aq ?_ ?_ ?_ ?_)|refine bG (by omega) ?_|apply bo|apply br|apply aW|apply aK)
  all_goals clear aq
  all_goals grind -mbtc
theorem afT {x0:Int} (U:0<=x0) (aa:x0<=5000):aH (Le N x0) fun r=>0<=r:=by
 rw[Le];repeat' (with_reducible first|intro _|apply aI (anv ap ?_ ?_ ?_ ?_)|apply aK)
 all_goals grind -mbtc
theorem amZ {J:cS} {al:eW} {ai:List Int} {az aA aC:Int} (U:0<=aC) (aa:aC<J.items.length) (ao:J.items.length<=1000000) (aN:ai.length=J.items.length) (bI:l2 ai) (eg:0<=az) (g7:az<4096):aH (HA N J al ai az aA aC) fun r=>(∀a,r= .inl a->a.2.1.length=J.items.length/\l2 a.2.1/\0<=a.2.2/\a.2.2<4096)/\∀a,r= .inr a->a.2≠0:=by
 rw[HA];repeat' (with_reducible first|intro _|apply aI (PW ap ?_ ?_ ?_ ?_ ?_)|apply aI (afU ap ?_)|apply bU|apply bo|apply aW|apply aK)
 all_goals grind -mbtc
theorem amY {J:cS} {aA:Int} (U:J.items.length<=1000000) {n:Nat} {al:eW} {ai:(List Int)} {az:Int} {aC:Int}:(0<=aC)->(aC<=J.items.length)->(J.items.length - aC<n)->(ai.length=J.items.length)->(l2 ai)->(0<=az)->(az<4096)->aH (AN N J aA n al ai az aC) fun r=>(∀a,r= .inl a->a.2.1.length=J.items.length/\l2 a.2.1/\0<=a.2.2/\a.2.2<4096)/\∀a,r= .inr a->a.2≠0:=by
 induction n generalizing al ai az aC with
 |zero=>intros;exfalso;grind -mbtc
 |succ n aq=>
  intros;rw[AN];repeat' (with_reducible first|intro _|apply dR (amZ ap ?_ ?_ ?_ ?_ ?_ ?_ ?_)|apply b7 (aq ?_ ?_ ?_ ?_ ?_ ?_ ?_)|refine bG (by omega) ?_|apply bo|apply br|apply aW|apply aK)
  all_goals clear aq
  all_goals grind -mbtc
theorem amX {J:cS} (U:J.items.length<=1000000) {n:Nat} {al:eW} {ai:(List Int)} {az:Int} {aA:Int}:(0<=aA)->(aA<=32)->((32:Int) - aA<n)->(ai.length=J.items.length)->(l2 ai)->(0<=az)->(az<4096)->aH (AM N J n al ai az aA) fun r=>(∀a,r= .inl a->a.2.1.length=J.items.length/\l2 a.2.1/\0<=a.2.2/\a.2.2<4096)/\∀a,r= .inr a->a.2≠0:=by
 induction n generalizing al ai az aA with
 |zero=>intros;exfalso;grind -mbtc
 |succ n aq=>
  intros;rw[AM];repeat' (with_reducible first|intro _|apply dR (amY ap ?_ ?_ ?_ ?_ ?_ ?_ ?_ ?_)|apply b7 (aq ?_ ?_ ?_ ?_ ?_ ?_ ?_)|refine bG (by omega) ?_|apply bo|apply br|apply aW|apply aK)
  all_goals clear aq
  all_goals grind -mbtc
theorem Yu {x0:cS} (U:x0.items.length<=1000000):aH (CO N x0) fun r=>r.2=0->r.1.hL.length=x0.items.length/\l2 r.1.hL/\0<=r.1.steps/\x0.items.length<=96/\∀t∈x0.items,0<=t.block/\t.block<32:=by
 rw[CO];repeat' (with_reducible first|intro _|apply aI (ags ap ?_)|apply aI (afT ap ?_ ?_)|apply dR (amX ap ?_ ?_ ?_ ?_ ?_ ?_ ?_ ?_)|apply tu|apply aW|apply aK)
 all_goals grind -mbtc
theorem an' {J:List Int} {ai az:Int} (U:0<=ai) (aa:ai<J.length) (ao:0<=az) (aN:az<J.length):aH (IJ N J ai az) fun r=>0<=r/\r<J.length:=by
 rw[IJ];repeat' (with_reducible first|intro _|apply bU|apply br|apply aW|apply aK)
 all_goals grind -mbtc
theorem an9 {J:List Int} (U:J.length<=1000000) {n:Nat} {ai:Int} {az:Int}:(0<=az)->(az<=(J.length:Int))->((J.length:Int) - az<n)->(0<=ai)->(ai<J.length)->aH (Bo N J n ai az) fun r=>0<=r/\r<J.length:=by
 induction n generalizing ai az with
 |zero=>intros;exfalso;grind -mbtc
 |succ n aq=>
  intros;rw[Bo];repeat' (with_reducible first|intro _|apply aI (an' ap ?_ ?_ ?_ ?_)|apply b7 (aq ?_ ?_ ?_ ?_ ?_)|refine bG (by omega) ?_|apply bo|apply br|apply aW|apply aK)
  all_goals clear aq
  all_goals grind -mbtc
theorem aoc {J:List Int} {al:cS} {ai aC aZ:Int} (U:J.length=al.items.length) (aa:al.items.length<=1000000) (ao:l2 J) (aN:0<=ai) (bI:ai<al.items.length) (eg:0<=aZ) (g7:aZ<al.items.length):aH (IK N J al ai aC aZ) fun r=>(r=as5->¬rV N al J ai aZ aC)/\(r=as9->(∀a b,aD al.items aZ=as4 a->aD al.items ai=as4 b->a.block<b.block)):=by
 rw[IK];repeat' (with_reducible first|intro _|apply aI (PS ap ?_ ?_ ?_ ?_)|apply aI (Yp ap ?_ ?_ ?_ ?_)|apply bU|refine bG (by omega) ?_|apply aW|apply aK)
 all_goals first|grind -mbtc|grind -mbtc [rV]
theorem aob {J:List Int} {al:cS} {ai aC:Int} (U:J.length=al.items.length) (aa:al.items.length<=1000000) (ao:l2 J) (aN:0<=ai) (bI:ai<al.items.length) {n:Nat} {aZ:Int}:(0<=aZ)->(∃x:Int,aZ<=x/\x<al.items.length/\rV N al J ai x aC)->(al.items.length - aZ<n)->aH (Bq N J al ai aC n aZ) fun r=>0<=r/\r<al.items.length/\(∀a b,aD al.items r=as4 a->aD al.items ai=as4 b->a.block<b.block):=by
 induction n generalizing aZ with
 |zero=>intros;exfalso;grind -mbtc
 |succ n aq=>
  intros;rw[Bq];repeat' (with_reducible first|intro _|apply aI (aoc ap ?_ ?_ ?_ ?_ ?_ ?_ ?_)|apply b7 (aq ?_ ?_ ?_)|refine bG (by omega) ?_|apply bo|apply aW|apply aK)
  all_goals clear aq
  all_goals grind -mbtc
theorem aoa {J:List Int} {al:cS} (U:J.length=al.items.length) (aa:al.items.length<=1000000) (ao:l2 J) (aN:∀t∈al.items,0<=t.block/\t.block<32) {n:Nat} {ai:Int} {aA:(List Int)} {aC:Int}:(0<=ai)->(ai<al.items.length)->(∀a,aD al.items ai=as4 a->a.block<n/\aA.length+a.block<=200)->(0<aC->∃x:Int,0<=x/\x<al.items.length/\rV N al J ai x aC)->aH (Bp N J al n ai aA aC) fun r=>r.length<=200:=by
 induction n generalizing ai aA aC with
 |zero=>intros;obtain ⟨t,e⟩:=jY (xs:=al.items) (i:=ai) (by omega) (by omega);exfalso;grind -mbtc
 |succ n aq=>
  intros;rw[Bp];repeat' (with_reducible first|intro _|apply aI (aob ap ?_ ?_ ?_ ?_ ?_ ?_ ?_ ?_)|apply aI (PW ap ?_ ?_ ?_ ?_ ?_)|apply b7 (aq ?_ ?_ ?_ ?_)|apply ed|apply br|apply aW|apply aK)
  all_goals clear aq
  all_goals first|grind -mbtc|(obtain ⟨t,e⟩:=jY (xs:=al.items) (i:=ai) (by omega) (by omega);grind -mbtc)
theorem afS {x0:cS} {J:List Int} (U:J.length=x0.items.length) (aa:x0.items.length<=1000000) (ao:l2 J) (aN:∀t∈x0.items,0<=t.block/\t.block<32):aH (Ld N x0 J) fun r=>r.length<=200:=by
 rw[Ld];repeat' (with_reducible first|intro _|apply aI (an9 ap ?_ ?_ ?_ ?_ ?_ ?_)|apply aI (aoa ap ?_ ?_ ?_ ?_ ?_ ?_ ?_ ?_)|apply aI (PW ap ?_ ?_ ?_ ?_ ?_)|apply aW|apply aK)
 all_goals first|grind -mbtc|(intro a e;have:=wg e;grind -mbtc)
theorem aeI {x0:cS} (U:x0.items.length<=1000000):aH (KB N x0) fun r=>r.1.length<=200:=by
 rw[KB];repeat' (with_reducible first|intro _|apply aI (afS ap ?_ ?_ ?_ ?_)|apply aI (Yu ap ?_)|apply aW|apply aK)
 all_goals grind -mbtc
theorem Za {x0:cS} (U:x0.items.length<=1000000):aH (CV N x0) fun r=>r.2=0->r.1.fA.hL.length=x0.items.length/\x0.items.length<=96/\0<=r.1.fA.steps/\r.1.chain.length<=200:=by
 rw[CV];repeat' (with_reducible first|intro _|apply aI (Yu ap ?_)|apply aI (aeI ap ?_)|apply aW|apply aK)
 all_goals grind -mbtc
end Go.W
end
section
set_option maxHeartbeats 2000000
namespace Go.W
open Go.ay
theorem abG {aB:Type} {xs:List aB} {a y:aB} {i:Int} (h:i=xs.length) (e:aD (xs++[a]) i=as4 y):y=a:=by
 subst h;unfold aD at e;simpa using e.symm
theorem aa0 {c:du} {y:bL} {b:Bool} (h:de c y) (k:b=as9->y.dF=as9):de c (bL.mk y.cu y.aP y.cE y.busy y.bF b):=by
 unfold de nx k3 at*;exact ⟨h.1,h.2.1,h.2.2.1,h.2.2.2.1,h.2.2.2.2.1,h.2.2.2.2.2.1,fun a b=>by have:=h.2.2.2.2.2.2.1 a (k b);unfold n2 at*;exact this,h.2.2.2.2.2.2.2⟩
theorem Tc (w:List Int) (y:bL) (b:Bool):kv w y (bL.mk y.cu y.aP y.cE y.busy y.bF b):=⟨_,_,rfl,fun _ h=>h⟩
theorem Z8 {c:du} {y:bL} {p:Int} (h:de c y) (aL:p=y.bF.iQ+1) (k:y.dF=as9->p<=y.bF.proof.fA.steps):de c (bL.mk y.cu y.aP y.cE y.busy (fZ.mk y.bF.cu y.bF.ia y.bF.proof y.bF.lead y.bF.aP p) y.dF):=by
 unfold de nx k3 at*;refine ⟨h.1,h.2.1,h.2.2.1,h.2.2.2.1,h.2.2.2.2.1,h.2.2.2.2.2.1,fun a b=> ?_,h.2.2.2.2.2.2.2⟩;have:=h.2.2.2.2.2.2.1 a b;have k:=k b;unfold n2 at*;simp only;exact ⟨by omega,by omega,this.2.2⟩
theorem Z9 {x y:bL} {p:Int} (h:hX x) (b:x.busy=as5) (f:x.dF=as9) (g:kv x.bF.cu x y):hX (bL.mk y.cu y.aP y.cE y.busy (fZ.mk y.bF.cu y.bF.ia y.bF.proof y.bF.lead y.bF.aP p) y.dF):=by
 obtain ⟨ig,cR,rfl,g⟩:=g;intro _ _ t au;exact g t (h b f t au)
theorem aa5 {w:List Int} {x y:bL} (h:kv w x y):y.bF=x.bF:=by
 obtain ⟨_,_,rfl,_⟩:=h;rfl
theorem aa3 {c:du} {y:bL} (h:de c y) (a:y.busy=as5) (b:y.dF=as9):0<=y.bF.iQ/\y.bF.iQ<=1000000:=by
 unfold de nx k3 at h;have:=h.2.2.2.2.2.2.1 a b;unfold n2 at this;omega
theorem Tb {c:du} {y:bL} (h:de c y):de c (bL.mk y.cu y.aP y.cE as9 (fZ.mk [] (cS.mk [] 0) (gY.mk (eW.mk 0 []) []) 0 [] 0) as9):=by
 unfold de nx k3 at*;exact ⟨h.1,h.2.1,h.2.2.1,h.2.2.2.1,h.2.2.2.2.1,h.2.2.2.2.2.1,nofun,by simp,by simp,by simp,by simp,by simp,h.2.2.2.2.2.2.2.2.2.2.2.2⟩
theorem QO {w:List b8} {s:List (List Int)} {o:List cb} {p:fZ} {b:Bool}:hX (bL.mk w s o as9 p b):=nofun
theorem aab {x0 aC z:bu} {q:Bool} (abT:z.c=aC.c/\(q=as9->z.y=bL.mk aC.y.cu aC.y.aP aC.y.cE aC.y.busy (fZ.mk aC.y.bF.cu aC.y.bF.ia aC.y.bF.proof aC.y.bF.lead aC.y.bF.aP (ata .i64 (aC.y.bF.iQ+1))) aC.y.dF)/\(q=as5->z.y=(bL.mk aC.y.cu aC.y.aP aC.y.cE as9 (fZ.mk [] (cS.mk [] 0) (gY.mk (eW.mk 0 []) []) 0 [] 0) as9)))
  (TY:q=as9->aC.y.dF=as9->ata .i64 (aC.y.bF.iQ+1)<=aC.y.bF.proof.fA.steps) (U:de x0.c x0.y) (aa:hX x0.y) (b:x0.y.busy=as5) (f:x0.y.dF=as9) (h:aC.c=x0.c/\de x0.c aC.y/\kv x0.y.bF.cu x0.y aC.y):z.c=x0.c/\de x0.c z.y/\hX z.y:=by
 obtain ⟨cG,dE,gf⟩:=abT;obtain ⟨c1,c2,c3⟩:=h;have c4:=aa3 U b f;have c5:=aa5 c3;refine ⟨by rw[cG,c1], ?_⟩;cases q
 ·rw[dE rfl];rw[Qr (by rw[c5];omega) (by rw[c5];omega)] at TY⊢;exact ⟨Z8 c2 rfl (TY rfl),Z9 aa b f c3⟩
 ·rw[gf rfl];exact ⟨Tb c2,QO⟩
variable {N:Nat} (ap:5000000000<N)
include ap
theorem al1 {x0:bu} {ak:Bool} {av:Int} (U:0<=av) (aa:av<x0.e.aP.length) (ao:∀t∈x0.e.aP,0<=t/\t<x0.y.aP.length):aH (Ix N x0 ak av) fun r=>r=as5->ak=as5/\∀t,aD x0.e.aP av=as4 t->aD x0.y.aP t=as4 []:=by
 rw[Ix];repeat' (with_reducible first|intro _|apply bU|apply bo|apply aW|apply aK)
 all_goals first|grind -mbtc|grind -mbtc [EL]
theorem al0 {x0:bu} (U:x0.e.aP.length<=1000000) (aa:∀t∈x0.e.aP,0<=t/\t<x0.y.aP.length) {n:Nat} {ak:Bool} {av:Int}:(0<=av)->(av<=(x0.e.aP.length:Int))->((x0.e.aP.length:Int) - av<n)->aH (A9 N x0 n ak av) fun r=>r=as5->ak=as5/\∀t∈x0.e.aP.drop av.toNat,aD x0.y.aP t=as4 []:=by
 induction n generalizing ak av with
 |zero=>intros;exfalso;grind -mbtc
 |succ n aq=>
  intros;rw[A9];repeat' (with_reducible first|intro _|apply aI (al1 ap ?_ ?_ ?_)|apply b7 (aq ?_ ?_ ?_)|refine bG (by omega) ?_|apply bo|apply br|apply aW|apply aK)
  all_goals clear aq
  all_goals first|grind -mbtc|(obtain ⟨t,e⟩:=jY (xs:=x0.e.aP) (i:=av) (by omega) (by omega);have:=sc e;grind -mbtc)
theorem al2 {x0:bu} {ai:List Int} (U:x0.y.cE.length<=8) (aa:∀o∈x0.y.cE,o.cH.length<=1000000) (ao:ai.length<=40000) (aN:∀i∈ai,0<=i/\i<x0.y.cu.length) {n:Nat} {az:cS} {aA:Int} {jN:(List eV)}:(0<=aA)->(aA<=(ai.length:Int))->((ai.length:Int) - aA<n)->(jN.length=aA)->(∀i∈jN,0<=i.ft/\i.ft<x0.y.cE.length)->aH (Ba N x0 ai n az aA jN) fun r=>(∀a,r= .inl a->a.2.length=ai.length/\a.1.c0=az.c0/\∀i∈a.2,0<=i.ft/\i.ft<x0.y.cE.length)/\∀a,r= .inr a->a≠0:=by
 induction n generalizing az aA jN with
 |zero=>intros;exfalso;grind -mbtc
 |succ n aq=>
  intros;rw[Ba];repeat' (with_reducible first|intro _|apply aI (PV ap ?_ ?_)|apply b7 (aq ?_ ?_ ?_ ?_ ?_)|apply ed|apply bU|refine bG (by omega) ?_|apply bo|apply br|apply aW|apply aK)
  all_goals clear aq
  all_goals first|grind -mbtc|grind -mbtc [abG]
theorem al4 {x0:bu} {aC aX:Int} {aZ:List Int} {jN:List eV} (U:x0.y.cE.length<=8) (aa:∀o∈x0.y.cE,o.cH.length<=1000000) (ao:∀i∈aZ,0<=i/\i<x0.y.cu.length) (aN:aX=aZ.length) (bI:aZ.length<=40000) (eg:0<=aC) (g7:aC<jN.length):aH (Iy N x0 aC aZ aX jN) fun r=>True:=by
 rw[Iy];repeat' (with_reducible first|intro _|apply aI (PV ap ?_ ?_)|apply bU|refine bG (by omega) ?_|apply br|apply aW|apply aK)
 all_goals grind -mbtc
theorem al3 {x0:bu} {ai:List Int} {jN:List eV} (U:x0.y.cE.length<=8) (aa:∀o∈x0.y.cE,o.cH.length<=1000000) (ao:ai.length<=40000) (aN:jN.length=ai.length) (bI:∀i∈jN,0<=i.ft/\i.ft<x0.y.cE.length) (eg:∀o∈x0.y.cE,0<=o.bQ/\o.bQ<x0.y.aP.length) (g7:∀t∈x0.y.aP,t.length<=40000/\∀i∈t,0<=i/\i<x0.y.cu.length) {n:Nat} {aC:Int}:(0<=aC)->(aC<=(ai.length:Int))->((ai.length:Int) - aC<n)->aH (Bb N x0 ai jN n aC) fun r=>∀a,r= .inr a->a≠0:=by
 induction n generalizing aC with
 |zero=>intros;exfalso;grind -mbtc
 |succ n aq=>
  intros;rw[Bb];repeat' (with_reducible first|intro _|apply aI (al4 ap ?_ ?_ ?_ ?_ ?_ ?_ ?_)|apply b7 (aq ?_ ?_ ?_)|apply bU|refine bG (by omega) ?_|apply bo|apply br|apply aW|apply aK)
  all_goals clear aq
  all_goals grind -mbtc
theorem af' {x0:bu} (U:de x0.c x0.y) (aa:hz x0.e):aH (KI N x0) fun r=>r.1=0->r.2.c=x0.c/\de x0.c r.2.y/\hX r.2.y:=by
 rw[KI];repeat' (with_reducible first|intro _|apply aI (Za ap ?_)|apply aI (Zd ap ?_ ?_ ?_ ?_ ?_ ?_ ?_)|apply aI (agm ap ?_ ?_)|apply aI (YH ap ?_ ?_ ?_ ?_ ?_ ?_ ?_ ?_ ?_ ?_ ?_ ?_ ?_ ?_)|apply aI (ae9 ap ?_)|apply aI (al0 ap ?_ ?_ ?_ ?_ ?_)|apply dR (al2 ap ?_ ?_ ?_ ?_ ?_ ?_ ?_ ?_ ?_)|apply dR (al3 ap ?_ ?_ ?_ ?_ ?_ ?_ ?_ ?_ ?_ ?_)|apply ed|apply bU|apply aW|apply aK)
 all_goals first|grind -mbtc [de]|(simp only[avw,avf] at*;grind -mbtc [k2])
theorem aeZ {x0:bu} {J al:Int} {cq:List dh} (U:de x0.c x0.y) (aa:cq.length<=1000000):aH (Kj N x0 J al cq) fun r=>r.2.1.length<=cq.length+1/\r.2.2.c=x0.c/\r.2.2.e=x0.e/\de x0.c r.2.2.y/\(∀W,J∈W->kv W x0.y r.2.2.y)/\lD al x0.y r.2.2.y:=by
 rw[Kj];simp only[fG];repeat' (with_reducible first|intro _|apply aI (zJ ap ?_ ?_)|apply aI (sZ ap ?_ ?_)|apply aI (zI ap ?_)|apply ed|apply aW|apply aK)
 all_goals first|grind -mbtc [de]|grind -mbtc [xP,xO,r7,r6,de]
theorem al6 {x0:bu} {av:List Int} {aC:fI}:aH (Iz N x0 av aC) fun r=>r=as9->0<=aC.place/\aC.place<av.length:=by
 rw[Iz];repeat' (with_reducible first|intro _|apply aI (uQ ap)|apply br|apply aW|apply aK)
 all_goals grind -mbtc
theorem al5 {x0:bu} {av:List Int} (U:x0.e.dd.length<=1000000) {n:Nat} {aA:Int}:(0<=aA)->(aA<=(x0.e.dd.length:Int))->((x0.e.dd.length:Int) - aA<n)->aH (Bc N x0 av n aA) fun r=>(r= .inl ()->∀s∈x0.e.dd.drop aA.toNat,0<=s.place/\s.place<av.length)/\∀a,r= .inr a->a≠0:=by
 induction n generalizing aA with
 |zero=>intros;exfalso;grind -mbtc
 |succ n aq=>
  intros;rw[Bc];repeat' (with_reducible first|intro _|apply aI (al6 ap)|apply b7 (aq ?_ ?_ ?_)|apply bU|refine bG (by omega) ?_|apply bo|apply br|apply aW|apply aK)
  all_goals clear aq
  all_goals grind -mbtc
theorem al8 {x0:bu} {aZ:Int} (U:0<=aZ) (aa:aZ<x0.e.dd.length) (ao:x0.e.dd.length<=1000000) {n:Nat} {aX:Int}:(0<=aX)->(aX<=aZ)->(aZ - aX<n)->aH (Be N x0 aZ n aX) fun r=>∀a,r= .inr a->a≠0:=by
 induction n generalizing aX with
 |zero=>intros;exfalso;grind -mbtc
 |succ n aq=>
  intros;rw[Be];repeat' (with_reducible first|intro _|apply b7 (aq ?_ ?_ ?_)|apply bU|refine bG (by omega) ?_|apply bo|apply br|apply aW|apply aK)
  all_goals clear aq
  all_goals grind -mbtc
theorem al7 {x0:bu} (U:x0.e.dd.length<=1000000) {n:Nat} {aZ:Int}:(0<=aZ)->(aZ<=(x0.e.dd.length:Int))->((x0.e.dd.length:Int) - aZ<n)->aH (Bd N x0 n aZ) fun r=>∀a,r= .inr a->a≠0:=by
 induction n generalizing aZ with
 |zero=>intros;exfalso;grind -mbtc
 |succ n aq=>
  intros;rw[Bd];repeat' (with_reducible first|intro _|apply dR (al8 ap ?_ ?_ ?_ ?_ ?_ ?_)|apply b7 (aq ?_ ?_ ?_)|refine bG (by omega) ?_|apply bo|apply br|apply aW|apply aK)
  all_goals clear aq
  all_goals grind -mbtc
theorem al9 {x0:bu} {ak:Int} (U:x0.e.dd.length<=1000000) {n:Nat} {az:(List Int)} {bk:Int}:(0<=bk)->(bk<=(x0.e.dd.length:Int))->((x0.e.dd.length:Int) - bk<n)->(∀s∈x0.e.dd,0<=s.place/\s.place<az.length)->aH (Bf N x0 ak n az bk) fun r=>(∀a,r= .inl a->a.length=az.length)/\∀a,r= .inr a->a≠0:=by
 induction n generalizing az bk with
 |zero=>intros;exfalso;grind -mbtc
 |succ n aq=>
  intros;rw[Bf];repeat' (with_reducible first|intro _|apply b7 (aq ?_ ?_ ?_ ?_)|apply bU|refine bG (by omega) ?_|apply bo|apply br|apply aW|apply aK)
  all_goals clear aq
  all_goals grind -mbtc
theorem ama {W:List Int} {x0:bu} {ai az:List Int} {a8:Int} (U:0<=a8) (aa:a8<ai.length) (ao:0<=a8) (aN:a8<az.length):aH (IA N x0 ai az a8) fun r=>r.c=x0.c/\r.e=x0.e/\(∃b,r.y=bL.mk x0.y.cu x0.y.aP x0.y.cE x0.y.busy x0.y.bF b/\(b=as9->x0.y.dF=as9))/\kv W x0.y r.y:=by
 rw[IA];repeat' (with_reducible first|intro _|apply bU|apply aW|apply aK)
 all_goals first|grind -mbtc [r7,Tc]|grind
theorem al' {W:List Int} {av ai az:List Int} (U:∀i∈av,i∈W) (aa:av.length<=ai.length) (ao:av.length<=az.length) (aN:av.length<=40000) {n:Nat} {x0:bu} {a8:Int} {cq:(List dh)}:(0<=a8)->(a8<=(av.length:Int))->((av.length:Int) - a8<n)->(de x0.c x0.y)->(cq.length<=1000+a8)->aH (Bg N av ai az n x0 a8 cq) fun r=>(∀a,r= .inl a->a.1.c=x0.c/\de x0.c a.1.y/\kv W x0.y a.1.y)/\∀a,r= .inr a->a.2.1≠0:=by
 induction n generalizing x0 a8 cq with
 |zero=>intros;exfalso;grind -mbtc
 |succ n aq=>
  intros;rw[Bg];repeat' (with_reducible first|intro _|apply aI (ama ap (W:=W) ?_ ?_ ?_ ?_)|apply aI (aeZ ap ?_ ?_)|apply b7 (aq ?_ ?_ ?_ ?_ ?_)|apply bU|refine bG (by omega) ?_|apply bo|apply br|apply aW|apply aK)
  all_goals clear aq
  all_goals first|grind -mbtc|grind -mbtc [Td,r7,Tc,aa0]
theorem amb {x0:bu}:aH (IB N x0) fun r=>r=as9->x0.y.dF=as9->x0.y.bF.iQ<=x0.y.bF.proof.fA.steps:=by
 rw[IB];repeat' (with_reducible first|intro _|apply aW|apply aK)
 all_goals grind -mbtc
theorem amc {x0:bu} {Ct:Bool} {cq:List dh}:aH (HJ N x0 Ct cq) fun r=>r.c=x0.c/\(Ct=as9->r.y=x0.y)/\(Ct=as5->r.y=bL.mk x0.y.cu x0.y.aP x0.y.cE as9 (fZ.mk [] (cS.mk [] 0) (gY.mk (eW.mk 0 []) []) 0 [] 0) as9):=by
 rw[HJ];repeat' (with_reducible first|intro _|apply aI (aeW ap)|apply aW|apply aK)
 all_goals grind -mbtc
theorem aga {x0:bu} {cq:List dh} (U:de x0.c x0.y) (aa:hX x0.y) (ao:hz x0.e) (aN:cq.length<=1000):aH (KJ N x0 cq) fun r=>r.1=0->r.2.c=x0.c/\de x0.c r.2.y/\hX r.2.y:=by
 rw[KJ];repeat' (with_reducible first|intro _|apply aI (Yr ap ?_)|apply aI (Yn ap ?_ ?_)|apply dR (al5 ap ?_ ?_ ?_ ?_)|apply dR (al7 ap ?_ ?_ ?_ ?_)|apply dR (al9 ap ?_ ?_ ?_ ?_ ?_)|apply dR (al' ap (W:=x0.y.bF.cu) ?_ ?_ ?_ ?_ ?_ ?_ ?_ ?_ ?_)|apply aI (amb ap)|apply aI (amc ap)|apply ed|apply bU|refine bG (by omega) ?_|apply bo|apply aW|apply aK)
 all_goals first|grind -mbtc [de]|grind -mbtc [hX,LB,k2]|(dsimp only at*;exact aab (by assumption) (by assumption) U aa (by grind -mbtc) (by grind -mbtc) (by grind -mbtc))|((try simp only[avw,avf] at*);first|grind -mbtc [de]|grind -mbtc [de,hX,LB,k2])
end Go.W
end
section
set_option maxHeartbeats 2000000
namespace Go.W
open Go.ay
theorem aaa {w:List Int} {s r:List (List Int)} {t:Int} {q:List Int} (h:xI w s r) (e:aD r t=as4 q) (z:(q.length:Int)=0):k2 w s t:=fun p f i aj=>by
 obtain ⟨iC,b0,k⟩:=h t p f;obtain rfl:q=iC:=atj.inj (e.symm.trans b0);obtain rfl:=EL z;exact (k i aj).elim id (by simp)
theorem aa6 {w:List Int} {x y:bL} {t:Int} (h:kv w x y) (g:k2 w x.aP t):k2 w y.aP t:=by
 obtain ⟨_,_,rfl,k⟩:=h;exact k t g
variable {N:Nat} (ap:5000000000<N)
include ap
theorem aeO {x0:bu}:aH (J6 N x0) fun r=>r.c=x0.c/\r.y=bL.mk x0.y.cu x0.y.aP x0.y.cE as9 (fZ.mk [] (cS.mk [] 0) (gY.mk (eW.mk 0 []) []) 0 [] 0) as9:=by
 rw[J6];repeat' (with_reducible first|intro _|apply aK)
 all_goals grind
theorem aeY {x0:bu} {cq:List dh} {kX:List cZ} (U:de x0.c x0.y) (aa:hz x0.e) (ao:cq.length<=1000) (aN:kX.length<=1000):aH (Ki N x0 cq kX) fun r=>r.1=0->r.2.c=x0.c/\de x0.c r.2.y/\hX r.2.y:=by
 rw[Ki];repeat' (with_reducible first|intro _|apply aI (Za ap ?_)|apply aI (af5 ap ?_ ?_)|apply aI (agt ap ?_)|apply aI (PU ap ?_ ?_)|apply aI (afZ ap ?_ ?_ ?_ ?_ ?_ ?_)|apply aI (Zc ap ?_ ?_)|apply aI (Zd ap ?_ ?_ ?_ ?_ ?_ ?_ ?_)|apply aI (af8 ap ?_ ?_)|apply aI (YH ap ?_ ?_ ?_ ?_ ?_ ?_ ?_ ?_ ?_ ?_ ?_ ?_ ?_ ?_)|apply aI (aeO ap)|apply aI (aeX ap ?_)|apply aI (ak6 ap ?_ ?_ ?_ ?_ ?_ ?_)|apply aI (ak8 ap ?_ ?_ ?_ ?_ ?_ ?_ ?_)|apply aI (ak9 ap ?_ ?_ ?_ ?_ ?_ ?_)|apply aI (alb ap ?_ ?_ ?_ ?_ ?_)|apply aI (ald ap ?_ ?_ ?_ ?_ ?_ ?_)|apply bU|apply bo|apply br|apply aW|apply aK)
 all_goals (dsimp only at*;first|grind -mbtc [de]|((try simp only[avw,avf] at*);first|grind -mbtc [de,Tb,QO]|grind -mbtc [->aaa,->aa6,kv,EL,de]))
end Go.W
end
section
set_option maxHeartbeats 2000000
namespace Go.W
open Go.ay
theorem xc (x:UInt8):x.toNat<=255:=by have:=x.toNat_lt;omega
@[grind=] theorem asX (x:UInt8):ata .i64 (x.toNat:Int)=x.toNat:=by
 have:=xc x;rw[Qr (by omega) (by omega)]
theorem abk {b:List UInt8} {k cK p q:Int} {d:UInt8} (ar:0<k) (e:aD b (p+14)=as4 d) (ax:q<=b.length) (bb:q=p+15+d.toNat) (lN:cK=k - 1) (h:lF b cK q):lF b k p:=by
 subst bb lN;exact abi ar e ax h
theorem abj {b:List UInt8} {k cK p q:Int} {d:UInt8} (h:lF b k p) (ar:0<k) (e:aD b (p+14)=as4 d) (bb:q=p+15+d.toNat) (lN:cK=k - 1):lF b cK q:=by
 subst bb lN;obtain ⟨pO,b0,_,k⟩:=Tn h ar;rw[e] at b0;cases b0;exact k
theorem To {b:List UInt8} {k p:Int} (h:lF b k p) (ar:0<k):∃d,aD b (p+14)=as4 d/\p+15+d.toNat<=b.length:=by
 obtain ⟨d,e,l,_⟩:=Tn h ar;exact ⟨d,e,l⟩
theorem TQ {b:List UInt8} {p:Int} {i:Int} (h:0<=p) (k:0<=i):aD (b.drop p.toNat) i=aD b (p+i):=by
 unfold aD;rw[if_pos k,if_pos (by omega),List.getElem?_drop,show p.toNat+i.toNat=(p+i).toNat by omega]
theorem aa4 {c:du} {y:bL} {ws:List b8} (h:de c y) (a:y.cu.length<=ws.length) (b:ws.length<=192) (d:∀w∈ws,w.dest.length<=1000000):de c (bL.mk ws y.aP y.cE y.busy y.bF y.dF):=by
 unfold de nx k3 dM n2 at*;simp only at*;refine ⟨h.1,h.2.1,⟨h.2.2.1.1,fun t au=>⟨(h.2.2.1.2 t au).1,fun i aj=> ?_⟩⟩,b,h.2.2.2.2.1,h.2.2.2.2.2.1,h.2.2.2.2.2.2.1,h.2.2.2.2.2.2.2.1,h.2.2.2.2.2.2.2.2.1,h.2.2.2.2.2.2.2.2.2.1,h.2.2.2.2.2.2.2.2.2.2.1,h.2.2.2.2.2.2.2.2.2.2.2.1,d⟩;have:=(h.2.2.1.2 t au).2 i aj;omega
theorem Z4 {ws xf:List b8} {s:List (List Int)} {o:List cb} {b f:Bool} {p:fZ} {z:bL} {t:Int} (h:hX (bL.mk ws s o b p f)) (k:lD t (bL.mk xf s o b p f) z) (f:f=as9) (n:b=as5->t≠p.lead/\t∉p.aP):hX z:=by
 obtain ⟨s,b,rfl,k⟩:=k;intro ag _ u hu;refine k _ u ?_ (h ag f u hu);rintro rfl;rcases hu with hu|hu
 ·exact (n ag).1 hu
 ·exact (n ag).2 hu
variable {N:Nat} (ap:5000000000<N)
include ap
theorem aoR {x0:List UInt8} (U:x0.length<=1000000) (aa:0<x0.length) {n:Nat} {ak:Int} {av:Int}:(0<=ak)->(ak<=x0.length)->(0<=av)->(av<=256)->(256 - av<n)->aH (BM N x0 n ak av) fun r=>(∀a,r= .inl a->0<=a/\a<=x0.length/\∀d,aD x0 0=as4 d->lF x0 (d.toNat - av) ak)/\∀a,r= .inr a->a= -1:=by
 induction n generalizing ak av with
 |zero=>intros;exfalso;grind -mbtc
 |succ n aq=>
  intros;rw[BM];repeat' (with_reducible first|intro _|apply b7 (aq ?_ ?_ ?_ ?_ ?_)|apply bU|refine bG (by omega) ?_|apply bo|apply br|apply aW|apply aK)
  all_goals clear aq
  all_goals first|grind -mbtc [xc]|grind -mbtc [xc,abk,abh]
theorem af4 {x0:List UInt8} (U:x0.length<=1000000):aH (Lo N x0) fun r=> -1<=r/\(0<=r->2<=r/\0<x0.length/\r<=x0.length/\∀d,aD x0 0=as4 d->lF x0 d.toNat 1):=by
 rw[Lo];repeat' (with_reducible first|intro _|apply dR (aoR ap ?_ ?_ ?_ ?_ ?_ ?_ ?_)|refine bG (by omega) ?_|apply bo|apply br|apply aW|apply aK)
 all_goals grind -mbtc
theorem Zg {x0:List UInt8} (U:2<=x0.length):aH (vu N x0) fun r=>True:=by
 rw[vu];repeat' (with_reducible first|intro _|apply bU|refine bG (by omega) ?_|apply bo|apply aK)
 all_goals grind -mbtc
theorem amj {aC:List UInt8} {aX:Int} (U:0<=aX) (aa:aX<aC.length):aH (HN N aC aX) fun r=>True:=by
 rw[HN];repeat' (with_reducible first|intro _|apply bU|apply br|apply aW|apply aK)
 all_goals grind -mbtc
theorem ami {aC:List UInt8} (U:6<=aC.length) {n:Nat} {aZ:(List UInt8)} {aX:Int}:(0<=aX)->(aX<=6)->((6:Int) - aX<n)->(aZ.length<=2*aX)->aH (As N aC n aZ aX) fun r=>∀a,r= .inr a->a≠0:=by
 induction n generalizing aZ aX with
 |zero=>intros;exfalso;grind -mbtc
 |succ n aq=>
  intros;rw[As];repeat' (with_reducible first|intro _|apply aI (amj ap ?_ ?_)|apply b7 (aq ?_ ?_ ?_ ?_)|apply k4|apply ed|apply bU|refine bG (by omega) ?_|apply bo|apply br|apply aW|apply aK)
  all_goals clear aq
  all_goals grind -mbtc
theorem amk {aC:List UInt8} (U:14<=aC.length):aH (HO N aC) fun r=>True:=by
 rw[HO];repeat' (with_reducible first|intro _|apply bU|apply br|apply aW|apply aK)
 all_goals grind -mbtc
theorem amh {x0:List UInt8} (U:x0.length<=1000000) (aa:0<x0.length) {n:Nat} {ai:(List b8)} {az:Int} {aA:Int}:(0<=az)->(az<=x0.length)->(0<=aA)->(aA<=256)->(256 - aA<n)->(∀d,aD x0 0=as4 d->lF x0 (d.toNat - aA) az)->(ai.length<=aA)->(∀w∈ai,w.dest.length<=1000000)->aH (Ar N x0 n ai az aA) fun r=>(∀a,r= .inl a->a.length<=256/\∀w∈a,w.dest.length<=1000000)/\∀a,r= .inr a->a≠0:=by
 induction n generalizing ai az aA with
 |zero=>intros;exfalso;grind -mbtc
 |succ n aq=>
  intros;rw[Ar];repeat' (with_reducible first|intro _|apply dR (ami ap ?_ ?_ ?_ ?_ ?_)|apply aI (amk ap ?_)|apply aI (Zg ap ?_)|apply b7 (aq ?_ ?_ ?_ ?_ ?_ ?_ ?_ ?_)|apply ed|apply bU|apply pL|refine bG (by omega) ?_|apply bo|apply br|apply aW|apply aK)
  all_goals clear aq
  all_goals first|grind -mbtc [xc]|grind -mbtc [xc,->To,TQ]|grind -mbtc [xc,abj,->To,TQ]
theorem agc {x0:List UInt8} (U:x0.length<=1000000):aH (nV N x0) fun r=>r.1.length<=256/\(∀w∈r.1,w.dest.length<=1000000)/\(r.2=0->r.1.length<=96):=by
 rw[nV];repeat' (with_reducible first|intro _|apply aI (Yt ap ?_)|apply dR (amh ap ?_ ?_ ?_ ?_ ?_ ?_ ?_ ?_ ?_ ?_)|apply aI (af4 ap ?_)|apply aI (Gv ap ?_ ?_)|apply aI (Zg ap ?_)|apply pL|refine bG (by omega) ?_|apply bo|apply aW|apply aK)
 all_goals grind -mbtc
theorem ajB {x0:bu} {ak:Int} {av:fZ} (U:av.aP.length<=1000000):aH (He N x0 ak av) fun r=>r=as9->x0.y.dF=as9/\(x0.y.busy=as5->ak≠av.lead/\ak∉av.aP):=by
 rw[He];repeat' (with_reducible first|intro _|apply aI (zK ap ?_)|apply aW|apply aK)
 all_goals grind -mbtc
theorem akY {ai hs:List b8} {aC aZ aX:Int} (U:0<=aZ) (aa:aZ<hs.length) (ao:0<=aC) (aN:aC<ai.length):aH (Hf N ai aC aZ aX hs) fun r=>True:=by
 rw[Hf];repeat' (with_reducible first|intro _|apply bU|apply br|apply aW|apply aK)
 all_goals grind -mbtc
theorem akX {x0:bu} {ai hs:List b8} {aA aC:Int} (U:0<=aC) (aa:aC<ai.length) (ao:x0.y.aP.length<=1000) (aN:∀t∈x0.y.aP,t.length<=1000000) (bI:aA=hs.length) (eg:hs.length<=1000000) {n:Nat} {aZ:Int}:(0<=aZ)->(aZ<=aA)->(aA - aZ<n)->aH (zN N x0 ai aA aC hs n aZ) fun r=>∀a,r= .inr a->a≠0:=by
 induction n generalizing aZ with
 |zero=>intros;exfalso;grind -mbtc
 |succ n aq=>
  intros;rw[zN];repeat' (with_reducible first|intro _|apply aI (sZ ap ?_ ?_)|apply aI (akY ap ?_ ?_ ?_ ?_)|apply b7 (aq ?_ ?_ ?_)|refine bG (by omega) ?_|apply bo|apply br|apply aW|apply aK)
  all_goals clear aq
  all_goals grind -mbtc
theorem ajC {x0:bu} {ai hs:List b8} {aA:Int} (U:ai.length<=1000000) (aa:hs.length<=1000000) (ao:x0.y.aP.length<=1000) (aN:∀t∈x0.y.aP,t.length<=1000000) (bI:aA=hs.length) {n:Nat} {aC:Int}:(0<=aC)->(aC<=(ai.length:Int))->((ai.length:Int) - aC<n)->aH (Ad N x0 ai aA hs n aC) fun r=>∀a,r= .inr a->a≠0:=by
 induction n generalizing aC with
 |zero=>intros;exfalso;grind -mbtc
 |succ n aq=>
  intros;rw[Ad];repeat' (with_reducible first|intro _|apply dR (akX ap ?_ ?_ ?_ ?_ ?_ ?_ ?_ ?_ ?_)|apply b7 (aq ?_ ?_ ?_)|refine bG (by omega) ?_|apply bo|apply br|apply aW|apply aK)
  all_goals clear aq
  all_goals grind -mbtc
theorem akZ {ak aA:Int} {ai:List b8} (U:ai.length<=1000) (aa:0<=aA) (ao:aA<=1000) {n:Nat} {x0:bu} {a8:Int} {cq:(List dh)}:(0<=a8)->(a8<=(ai.length:Int))->((ai.length:Int) - a8<n)->(de x0.c x0.y)->(cq.length<=1000+a8)->aH (zO N ak ai aA n x0 a8 cq) fun r=>(∀a,r= .inl a->a.1.c=x0.c/\de x0.c a.1.y/\lD ak x0.y a.1.y)/\∀a,r= .inr a->a.2.1≠0:=by
 induction n generalizing x0 a8 cq with
 |zero=>intros;exfalso;grind -mbtc
 |succ n aq=>
  intros;rw[zO];repeat' (with_reducible first|intro _|apply aI (aeB ap ?_ ?_)|apply b7 (aq ?_ ?_ ?_ ?_ ?_)|refine bG (by omega) ?_|apply bo|apply br|apply aW|apply aK)
  all_goals clear aq
  all_goals first|grind -mbtc|grind -mbtc [LM,r6]
theorem aeU {x0:bu} {hs:List b8} {cq:List dh} (U:de x0.c (bL.mk hs x0.y.aP x0.y.cE x0.y.busy x0.y.bF x0.y.dF)) (aa:hX (bL.mk hs x0.y.aP x0.y.cE x0.y.busy x0.y.bF x0.y.dF)) (ao:hz x0.e) (aN:cq.length<=1000):aH (Kc N x0 hs cq) fun r=>r.1=0->r.2.2.c=x0.c/\de x0.c r.2.2.y/\hX r.2.2.y:=by
 rw[Kc];repeat' (with_reducible first|intro _|apply aI (agc ap ?_)|apply aI (w1 ap ?_)|apply aI (uQ ap)|apply aI (ajB ap ?_)|apply dR (ajC ap ?_ ?_ ?_ ?_ ?_ ?_ ?_ ?_)|apply dR (akZ ap ?_ ?_ ?_ ?_ ?_ ?_ ?_ ?_)|apply ed|refine bG (by omega) ?_|apply bo|apply br|apply aW|apply aK)
 all_goals ((try dsimp only at*);first|grind -mbtc [de]|grind -mbtc [aa4,->Z4])
end Go.W
end
section
set_option maxHeartbeats 2000000
namespace Go.W
open Go.ay
theorem aba {aB bK:Type} {xs:List aB} {a b:Int} {f:List aB->Option bK} {P:bK->Prop} (h:0<=a/\a<=xs.length/\a<=4294967296/\a=b) (k:∀y,y=xs.take a.toNat->¬f y=as6/\∀r,f y=as4 r->P r):¬as8 (wX xs a b) f=as6/\∀r,as8 (wX xs a b) f=as4 r->P r:=by
 rw[show wX xs a b=_ from if_pos h];exact k _ rfl
structure nk (c:du):Prop where
 a:nj c
 b:c.table.length<=1000000
attribute [grind->] nk.a nk.b
theorem aa2 {c:du} {y:bL} {i j k:Nat} (h:de c y) (b:y.busy=as9) (a:i<=j):de c (bL.mk y.cu y.aP (y.cE.take i++(y.cE.take k).drop j) y.busy y.bF y.dF):=by
 unfold de nx k3 at*;refine ⟨h.1,h.2.1,h.2.2.1,h.2.2.2.1, ?_,fun o an=>h.2.2.2.2.2.1 o ?_,fun e=>by simp_all,h.2.2.2.2.2.2.2⟩
 ·have:=h.2.2.2.2.1;simp only[aua,List.length_take,List.length_drop];omega
 ·rcases List.mem_append.1 an with an|an
  ·exact avb an
  ·exact avb (List.mem_of_mem_drop an)
theorem abb {aB bK:Type} {a b c:aB} {i:Int} {Q:aB->Prop} {f:aB->Option bK} {P:bK->Prop} (h:0<=i/\i<3) (q:Q a/\Q b/\Q c) (k:∀y,Q y->¬f y=as6/\∀r,f y=as4 r->P r):¬as8 (aD [a,b,c] i) f=as6/\∀r,as8 (aD [a,b,c] i) f=as4 r->P r:=
 bU (by simpa using h) fun y e=>k y (by
  have:=wg e;simp only[ats,au5,or_false] at this;rcases this with rfl|rfl|rfl
  ·exact q.1
  ·exact q.2.1
  ·exact q.2.2)
theorem Ta {t:Int} {y z:bL} (h:lD t y z):z.busy=y.busy/\z.cE=y.cE:=by
 obtain ⟨_,_,rfl,_⟩:=h;exact ⟨rfl,rfl⟩
theorem aaZ {c:du} {s:List (List Int)} (h:0<c.aP.length) (a:c.aP.length<=24) (b:s.length=c.aP.length) (d:∀t∈s,t=[]):de c (bL.mk [] s [] as9 (fZ.mk [] (cS.mk [] 0) (gY.mk (eW.mk 0 []) []) 0 [] 0) as9):=by
 unfold de nx k3 dM;refine ⟨h,b,⟨by simp only;omega,fun t au=> ?_⟩,by simp,by simp,by simp,nofun,by simp,by simp,by simp,by simp,by simp,by simp⟩;rw[d t au];simp
theorem aa1 {c:du} {y:bL} (h:de c y):y.cE.length<=8:=by
 unfold de nx k3 at h;exact h.2.2.2.2.1
theorem aq2 (y:bL):bL.mk y.cu y.aP y.cE y.busy y.bF y.dF=y:=rfl
variable {N:Nat} (ap:5000000000<N)
include ap
theorem amN {x0:List en} {J:List b8} {al:List Int} (U:∀t∈x0,0<=t.a) (aa:x0.length<=1000000) (ao:J.length<=1000000) (aN:al.length<=1000000) (bI:∀w∈J,w.dest.length<=1000000) {n:Nat} {a8:Int}:(0<=a8)->(a8<=(x0.length:Int))->((x0.length:Int) - a8<n)->aH (BY N x0 J al n a8) fun r=>True:=by
 induction n generalizing a8 with
 |zero=>intros;exfalso;grind -mbtc
 |succ n aq=>
  intros;rw[BY];repeat' (with_reducible first|intro _|apply aI (afI ap ?_ ?_ ?_ ?_)|apply b7 (aq ?_ ?_ ?_)|apply bU|refine bG (by omega) ?_|apply bo|apply br|apply aW|apply aK)
  all_goals clear aq
  all_goals grind -mbtc
theorem afH {x0:List en} {J:List b8} {al:List Int} (U:x0.length<=1000000) (aa:J.length<=1000000) (ao:al.length<=1000000) (aN:∀w∈J,w.dest.length<=1000000):aH (K3 N x0 J al) fun r=>True:=by
 rw[K3];repeat' (with_reducible first|intro _|apply aI (PR ap ?_ ?_ ?_)|apply dR (amN ap ?_ ?_ ?_ ?_ ?_ ?_ ?_ ?_)|apply aI (Y8 ap ?_)|apply aW|apply aK)
 all_goals grind -mbtc
theorem amq {bk:List Int} {cy:Int} (U:0<=cy) (aa:cy<bk.length) (ao:bk.length<=1000000):aH (Jn N bk cy) fun r=>True:=by
 rw[Jn];repeat' (with_reducible first|intro _|apply bU|refine bG (by omega) ?_|apply br|apply aW|apply aK)
 all_goals grind -mbtc
theorem amp {av:cb} {bk:List Int} (U:bk.length<=1000000) {n:Nat} {az:jh} {cw:(List Int)} {cy:Int}:(0<=cy)->(cy<=(bk.length:Int))->((bk.length:Int) - cy<n)->(cw.length<=cy)->aH (B4 N av bk n az cw cy) fun r=>∀a,r= .inl a->a.2.length<=1000000:=by
 induction n generalizing az cw cy with
 |zero=>intros;exfalso;grind -mbtc
 |succ n aq=>
  intros;rw[B4];repeat' (with_reducible first|intro _|apply aI (amq ap ?_ ?_ ?_)|apply b7 (aq ?_ ?_ ?_ ?_)|apply ed|apply bU|refine bG (by omega) ?_|apply bo|apply br|apply aW|apply aK)
  all_goals clear aq
  all_goals grind -mbtc
theorem afK {x0:du} {J:cb} {al:List b8} (U:nk x0) (aa:J.name.length<=1000000) (ao:J.cH.length<=1000000) (aN:∀d∈J.cH,d.length<=1000000) (bI:al.length<=1000000) (eg:∀w∈al,w.dest.length<=1000000):aH (K6 N x0 J al) fun r=>True:=by
 rw[K6];repeat' (with_reducible first|intro _|apply aI (afV ap ?_)|apply aI (agw ap ?_ ?_ ?_ ?_)|apply aI (afH ap ?_ ?_ ?_ ?_)|apply aI (agj ap ?_ ?_)|apply dR (amp ap ?_ ?_ ?_ ?_ ?_)|apply aI (afL ap ?_ ?_ ?_ ?_ ?_ ?_)|apply ed|apply bo|apply aW|apply aK)
 all_goals grind -mbtc
theorem afw {x0:bu} {J al:Int} {cq:List dh} (U:de x0.c x0.y) (aa:cq.length<=1000000):aH (J0 N x0 J al cq) fun r=>r.2.1.length<=cq.length+1/\r.2.2.c=x0.c/\r.2.2.e=x0.e/\de x0.c r.2.2.y/\(∀W,J∈W->kv W x0.y r.2.2.y)/\lD al x0.y r.2.2.y:=by
 rw[J0];simp only[fG];repeat' (with_reducible first|intro _|apply aI (zJ ap ?_ ?_)|apply aI (sZ ap ?_ ?_)|apply aI (zI ap ?_)|apply ed|apply aW|apply aK)
 all_goals first|grind -mbtc [de]|grind -mbtc [xP,xO,r7,r6,de]
theorem ak1 {x0:bu} {az:List Int} (U:az.length<=40000) (aa:∀i∈az,0<=i/\i<x0.y.cu.length) (ao:∀w∈x0.y.cu,w.dest.length<=1000000) {n:Nat} {ai:(List b8)} {aA:Int}:(0<=aA)->(aA<=(az.length:Int))->((az.length:Int) - aA<n)->(ai.length<=aA)->(∀w∈ai,w.dest.length<=1000000)->aH (zQ N x0 az n ai aA) fun r=>r.length<=40000/\∀w∈r,w.dest.length<=1000000:=by
 induction n generalizing ai aA with
 |zero=>intros;exfalso;grind -mbtc
 |succ n aq=>
  intros;rw[zQ];repeat' (with_reducible first|intro _|apply b7 (aq ?_ ?_ ?_ ?_ ?_)|apply ed|apply bU|refine bG (by omega) ?_|apply bo|apply br|apply aW|apply aK)
  all_goals clear aq
  all_goals grind -mbtc
theorem ak2 {az:List Int} (U:az.length<=40000) {n:Nat} {x0:bu} {a8:Int} {cq:(List dh)}:(0<=a8)->(a8<=(az.length:Int))->((az.length:Int) - a8<n)->(de x0.c x0.y)->(cq.length<=1000+a8)->aH (zR N az n x0 a8 cq) fun r=>r.1.c=x0.c/\de x0.c r.1.y/\lD (-1) x0.y r.1.y:=by
 induction n generalizing x0 a8 cq with
 |zero=>intros;exfalso;grind -mbtc
 |succ n aq=>
  intros;rw[zR];repeat' (with_reducible first|intro _|apply aI (afw ap ?_ ?_)|apply b7 (aq ?_ ?_ ?_ ?_ ?_)|apply bU|refine bG (by omega) ?_|apply bo|apply br|apply aW|apply aK)
  all_goals clear aq
  all_goals first|grind -mbtc|grind -mbtc [LM,r6]
theorem ak0 {n:Nat} {x0:bu} {ak:Int} {gx:(List cb)} {cq:(List dh)}:(0<=ak)->(ak<=(gx.length:Int))->((gx.length:Int) - ak<n)->(de x0.c (bL.mk x0.y.cu x0.y.aP gx x0.y.busy x0.y.bF x0.y.dF))->(nk x0.c)->(x0.y.busy=as9)->(cq.length<=1000)->aH (zP N n x0 ak gx cq) fun r=>∀a,r= .inr a->a.2.1=0->a.1.c=x0.c/\de x0.c a.1.y/\a.1.y.busy=as9:=by
 induction n generalizing x0 ak gx cq with
 |zero=>intros;exfalso;grind -mbtc
 |succ n aq=>
  intros;rw[zP];repeat' (with_reducible first|intro _|apply aba|apply aI (afK ap ?_ ?_ ?_ ?_ ?_ ?_)|apply aI (ak1 ap ?_ ?_ ?_ ?_ ?_ ?_ ?_ ?_)|apply aI (ak2 ap ?_ ?_ ?_ ?_ ?_ ?_)|apply b7 (aq ?_ ?_ ?_ ?_ ?_ ?_ ?_)|apply ed|apply bU|apply pL|apply Du|apply tv|refine bG (by omega) ?_|apply bo|apply br|apply aW|apply aK)
  all_goals clear aq
  all_goals ((try dsimp only at*)<;>first|grind -mbtc [de]|grind -mbtc [de,->Ta]|grind -mbtc [aa2,->Ta,->aa1])
theorem aeV {x0:bu} {gx:List cb} {cq:List dh} (U:de x0.c (bL.mk x0.y.cu x0.y.aP gx x0.y.busy x0.y.bF x0.y.dF)) (aa:nk x0.c) (ao:cq.length<=1000):aH (Kd N x0 gx cq) fun r=>r.1=0->r.2.2.c=x0.c/\de x0.c r.2.2.y/\hX r.2.2.y:=by
 rw[Kd];repeat' (with_reducible first|intro _|apply dR (ak0 ap ?_ ?_ ?_ ?_ ?_ ?_ ?_)|apply aW|apply aK)
 all_goals ((try dsimp only at*)<;>first|grind -mbtc|grind -mbtc [de]|grind -mbtc [hX])
theorem anl {aC:bu} {aZ eQ:Int} {oF:List b8} {oG:List cb} {pv:List dh} {pw:List cZ} (U:de aC.c (bL.mk oF aC.y.aP oG aC.y.busy aC.y.bF aC.y.dF)) (aa:hX (bL.mk oF aC.y.aP oG aC.y.busy aC.y.bF aC.y.dF)) (ao:hz aC.e) (aN:nk aC.c) (bI:pv=[]) (eg:pw=[]) (g7:aZ≠0):aH (I0 N aC aZ eQ oF oG pv pw) fun r=>r.2=0->de aC.c r.1.y/\hX r.1.y:=by
 rw[I0];repeat' (with_reducible first|intro _|apply aI (aeU ap ?_ ?_ ?_ ?_)|apply aI (aeV ap ?_ ?_ ?_)|apply aI (af9 ap ?_ ?_ ?_)|apply aI (ae' ap ?_ ?_)|apply aI (af' ap ?_ ?_)|apply aI (aeY ap ?_ ?_ ?_ ?_)|apply aI (aga ap ?_ ?_ ?_ ?_)|apply bo|apply aW|apply aK)
 all_goals ((try dsimp only at*)<;>first|grind -mbtc|grind -mbtc [de,hX])
theorem Zb {x0:du} {J:bL} {al:bw} (U:de x0 J) (aa:hX J) (ao:hz al) (aN:nk x0):aH (CX N x0 J al) fun r=>de x0 r.1/\hX r.1:=by
 rw[CX];repeat' (with_reducible first|intro _|apply aI (afY ap ?_)|apply aI (anl ap ?_ ?_ ?_ ?_ ?_ ?_ ?_)|apply aW|apply aK)
 all_goals ((try dsimp only at*)<;>first|grind -mbtc [aq2]|(simp_all;done)|grind -mbtc [de])
theorem ajW {al aX:Int}:aH (G5 N al aX) fun r=>r=as5->aX<3:=by
 rw[G5];repeat' (with_reducible first|intro _|apply br|apply aW|apply aK)
 all_goals grind -mbtc
theorem ajV {al:Int} {av:du} (U:nk av) {n:Nat} {x0:cx} {aA:bL} {aZ:(List bw)} {aX:Int}:(0<=aX)->(aX<=3)->(3 - aX<n)->(0<=x0.n)->(x0.n+3000*(3 - aX)<=500000000000)->(de av aA)->(hX aA)->(aZ.length<=1000+aX)->(∀e∈aZ,hz e)->aH (z7 N al av n x0 aA aZ aX) fun r=>x0.n<=r.1.n/\r.1.n<=x0.n+3000*(3 - aX)/\de av r.2.1/\hX r.2.1/\(r.2.2.length:Int)<=aZ.length+3 - aX/\∀e∈r.2.2,hz e:=by
 induction n generalizing x0 aA aZ aX with
 |zero=>intros;exfalso;grind -mbtc
 |succ n aq=>
  intros;rw[z7];repeat' (with_reducible first|refine abb (Q:=hz) ?_ ?_ fun _ _=> ?_|refine aI (Zb ap ?_ ?_ ?_ ?_) fun _ _ _=> ?_|refine aI (YG ap ?_ ?_ ?_) fun _ _ _=> ?_|refine aI (ajW ap) fun _ _ _=> ?_|refine b7 (aq ?_ ?_ ?_ ?_ ?_ ?_ ?_ ?_ ?_) (fun _ _=> ?_)|refine ed ?_ fun _ _=> ?_|refine bU ?_ fun _ _=> ?_|refine bG (by omega) ?_|refine bo fun _ _=> ?_|refine aW (fun _=> ?_) fun _=> ?_|refine aK ?_)
  all_goals clear aq
  all_goals first|grind -mbtc|exact ⟨by simp[hz],by simp[hz],by grind -mbtc⟩|grind -mbtc [de]
theorem ajX {av:du} (U:nk av) {n:Nat} {x0:cx} {aA:bL} {aZ:(List bw)} {a8:Int}:(0<=a8)->(a8<n)->(0<=x0.n)->(x0.n+3000*a8<=500000000000)->(de av aA)->(hX aA)->(aZ.length+a8<=10000)->(∀e∈aZ,hz e)->aH (z8 N av n x0 aA aZ a8) fun r=>x0.n<=r.1.n/\r.1.n<=x0.n+3000*a8/\r.2.length<=aZ.length+a8/\∀e∈r.2,hz e:=by
 induction n generalizing x0 aA aZ a8 with
 |zero=>intros;exfalso;grind -mbtc
 |succ n aq=>
  intros;rw[z8];repeat' (with_reducible first|intro _|apply aI (Zb ap ?_ ?_ ?_ ?_)|apply aI (YG ap ?_ ?_ ?_)|apply b7 (aq ?_ ?_ ?_ ?_ ?_ ?_ ?_ ?_)|apply ed|refine bG (by omega) ?_|apply bo|apply br|apply aW|apply aK)
  all_goals clear aq
  all_goals first|grind -mbtc|grind -mbtc [de]
theorem aeS {x0:cx} {J:du} {al:Int} (U:nk J) (aa:0<=al) (ao:al<=100) (aN:0<=x0.n) (bI:x0.n<=100000000):aH (Ka N x0 J al) fun r=>x0.n<=r.2.n/\r.2.n<=x0.n+1000000/\r.1.length<=200/\∀e∈r.1,hz e:=by
 rw[Ka];repeat' (with_reducible first|intro _|apply aI (jm ap ?_ ?_ ?_ ?_)|apply aI (af6 ap ?_)|apply aI (ajV ap ?_ ?_ ?_ ?_ ?_ ?_ ?_ ?_ ?_ ?_)|apply aI (ajX ap ?_ ?_ ?_ ?_ ?_ ?_ ?_ ?_ ?_)|refine bG (by omega) ?_|apply aW|apply aK)
 all_goals first|grind -mbtc|grind -mbtc [aaZ,hX]
end Go.W
end
section
set_option maxHeartbeats 2000000
namespace Go.W
open Go.ay
def nX (N:Nat) (e:bw):Prop:=hz e/\∃b,xr N e=as4 (b,0)
theorem ZT {N:Nat} {e:bw} {r:List UInt8×Int} (h:hz e) (k:xr N e=as4 r) (z:r.2=0):nX N e:=⟨h,r.1,by rw[k,<-z]⟩
variable {N:Nat} (ap:5000000000<N)
include ap
theorem aeE {x0:Int}:aH (Kx N x0) fun r=>r.length=3:=by
 rw[Kx];repeat' (with_reducible first|intro _|apply k4|apply tv|refine bG (by omega) ?_|apply bo|apply aK)
 all_goals grind -mbtc
theorem akE {n:Nat} {x0:cx} {ak:(List gp)} {av:Int}:(0<=av)->(av<=1000)->(av<n)->(0<=x0.n)->(x0.n+3*av<=20000000)->(ak.length+av<=10000)->aH (AW N n x0 ak av) fun r=>x0.n<=r.1.n/\r.1.n<=x0.n+3*av/\r.2.length<=10000:=by
 induction n generalizing x0 ak av with
 |zero=>intros;exfalso;grind -mbtc
 |succ n aq=>
  intros;rw[AW];repeat' (with_reducible first|intro _|apply aI (uP ap ?_ ?_ ?_ ?_)|apply b7 (aq ?_ ?_ ?_ ?_ ?_ ?_)|apply ed|refine bG (by omega) ?_|apply bo|apply br|apply aW|apply aK)
  all_goals clear aq
  all_goals first|grind -mbtc|grind -mbtc (gen:=20) (ematch:=20)
theorem ae4 {x0:cx} (U:0<=x0.n) (aa:x0.n<=10000000):aH (Kn N x0) fun r=>x0.n<=r.2.n/\r.2.n<=x0.n+50/\r.1.length<=10000:=by
 rw[Kn];repeat' (with_reducible first|intro _|apply aI (jm ap ?_ ?_ ?_ ?_)|apply aI (akE ap ?_ ?_ ?_ ?_ ?_ ?_)|apply aK)
 all_goals grind -mbtc
theorem akL {x0:cx} {ai:en} {a8:Int} (U:0<=x0.n) (aa:x0.n<=20000001):aH (Ig N x0 ai a8) fun r=>x0.n<=r.1.n/\r.1.n<=x0.n+3:=by
 rw[Ig];repeat' (with_reducible first|intro _|apply aI (jm ap ?_ ?_ ?_ ?_)|apply aI (uP ap ?_ ?_ ?_ ?_)|apply bo|apply aW|apply aK)
 all_goals first|grind -mbtc|grind -mbtc (gen:=20) (ematch:=20)
theorem aeC {x0:cx} {J:Int} (U:0<=x0.n) (aa:x0.n<=20000000):aH (Kv N x0 J) fun r=>x0.n<=r.2.n/\r.2.n<=x0.n+4:=by
 rw[Kv];repeat' (with_reducible first|intro _|apply aI (jm ap ?_ ?_ ?_ ?_)|apply aI (akL ap ?_ ?_)|refine bG (by omega) ?_|apply aK)
 all_goals grind -mbtc
theorem akD {n:Nat} {x0:cx} {ai:(List en)} {az:Int}:(0<=az)->(az<=1000)->(az<n)->(0<=x0.n)->(x0.n+5*az<=20000000)->(ai.length+az<=10000)->aH (AV N n x0 ai az) fun r=>x0.n<=r.1.n/\r.1.n<=x0.n+5*az/\r.2.length<=10000:=by
 induction n generalizing x0 ai az with
 |zero=>intros;exfalso;grind -mbtc
 |succ n aq=>
  intros;rw[AV];repeat' (with_reducible first|intro _|apply aI (jm ap ?_ ?_ ?_ ?_)|apply aI (aeC ap ?_ ?_)|apply b7 (aq ?_ ?_ ?_ ?_ ?_ ?_)|apply ed|refine bG (by omega) ?_|apply bo|apply br|apply aW|apply aK)
  all_goals clear aq
  all_goals grind -mbtc
theorem ae3 {x0:cx} {J:Int} (U:0<=x0.n) (aa:x0.n<=10000000) (ao:0<=J) (aN:J<=500):aH (Km N x0 J) fun r=>x0.n<=r.2.n/\r.2.n<=x0.n+5000/\r.1.length<=10000:=by
 rw[Km];repeat' (with_reducible first|intro _|apply aI (jm ap ?_ ?_ ?_ ?_)|apply aI (akD ap ?_ ?_ ?_ ?_ ?_ ?_)|refine bG (by omega) ?_|apply aK)
 all_goals grind -mbtc
theorem ajS {n:Nat} {x0:cx} {ai:du} {az:Int} {nc:(List hI)}:(0<=az)->(az<=1000)->(az<n)->(0<=x0.n)->(x0.n+az<=20000000)->(nc.length+az<=10000)->(∀t∈nc,t.name.length=3)->aH (z6 N n x0 ai az nc) fun r=>x0.n<=r.1.n/\r.1.n<=x0.n+az/\r.2.2.length<=10000/\r.2.1.rules=ai.rules/\∀t∈r.2.2,t.name.length=3:=by
 induction n generalizing x0 ai az nc with
 |zero=>intros;exfalso;grind -mbtc
 |succ n aq=>
  intros;rw[z6];repeat' (with_reducible first|intro _|apply aI (uP ap ?_ ?_ ?_ ?_)|apply aI (aeE ap)|apply b7 (aq ?_ ?_ ?_ ?_ ?_ ?_ ?_)|apply ed|refine bG (by omega) ?_|apply bo|apply br|apply aW|apply aK)
  all_goals clear aq
  all_goals first|grind -mbtc|grind -mbtc (gen:=20) (ematch:=20)
theorem ajT {x0:cx} {J:Bool} (U:0<=x0.n) (aa:x0.n<=10000000):aH (G3 N x0 J) fun r=>x0.n<=r.1.n/\r.1.n<=x0.n+1:=by
 rw[G3];repeat' (with_reducible first|intro _|apply aI (jm ap ?_ ?_ ?_ ?_)|apply aW|apply aK)
 all_goals grind -mbtc
theorem ajU {x0:cx} {ai:du} {s9:Bool} {nc:List hI} {j9:List gp} (U:0<=x0.n) (aa:x0.n<=10000000) (ao:ai.rules.length<=10000):aH (G4 N x0 ai s9 nc j9) fun r=>x0.n<=r.1.n/\r.1.n<=x0.n+5000/\r.2.1.rules.length<=10000/\r.2.2.1=nc/\r.2.2.2=j9:=by
 rw[G4];repeat' (with_reducible first|intro _|apply aI (ae3 ap ?_ ?_ ?_ ?_)|apply aW|apply aK)
 all_goals grind -mbtc
theorem aeR {x0:cx} {J:Bool} (U:0<=x0.n) (aa:x0.n<=1000):aH (J9 N x0 J) fun r=>x0.n<=r.2.n/\r.2.n<=x0.n+10000/\nk r.1:=by
 rw[J9];repeat' (with_reducible first|intro _|apply aI (jm ap ?_ ?_ ?_ ?_)|apply aI (uP ap ?_ ?_ ?_ ?_)|apply aI (ajS ap ?_ ?_ ?_ ?_ ?_ ?_ ?_)|apply aI (ajT ap ?_ ?_)|apply aI (ajU ap ?_ ?_ ?_)|apply aI (ae4 ap ?_ ?_)|apply ed|refine bG (by omega) ?_|apply bo|apply aK)
 all_goals first|grind -mbtc|grind -mbtc [nk,nj]
theorem alq {aA aC:List bw} {aZ:Int} (U:aC.length<=1000) (aa:∀e∈aC,hz e) (ao:0<=aZ) (aN:aZ<aC.length) (bI:aA.length<=1000) (eg:∀e∈aA,nX N e):aH (H4 N aA aC aZ) fun r=>r.length<=aA.length+1/\∀e∈r,nX N e:=by
 rw[H4];repeat' (with_reducible first|intro _|apply aI (Ys ap ?_)|apply ed|apply bU|apply aW|apply aK)
 all_goals first|grind -mbtc|grind -mbtc [ZT]
theorem alp {aC:List bw} (U:aC.length<=1000) (aa:∀e∈aC,hz e) {n:Nat} {aA:(List bw)} {aZ:Int}:(0<=aZ)->(aZ<=(aC.length:Int))->((aC.length:Int) - aZ<n)->(aA.length<=aZ)->(∀e∈aA,nX N e)->aH (AI N aC n aA aZ) fun r=>r.length<=1000/\∀e∈r,nX N e:=by
 induction n generalizing aA aZ with
 |zero=>intros;exfalso;grind -mbtc
 |succ n aq=>
  intros;rw[AI];repeat' (with_reducible first|intro _|apply aI (alq ap ?_ ?_ ?_ ?_ ?_ ?_)|apply b7 (aq ?_ ?_ ?_ ?_ ?_)|refine bG (by omega) ?_|apply bo|apply br|apply aW|apply aK)
  all_goals clear aq
  all_goals grind -mbtc
theorem agn {x0:cx} {J:du} {al:Int} (U:nk J) (aa:0<=al) (ao:al<=100) (aN:0<=x0.n) (bI:x0.n<=100000000):aH (KT N x0 J al) fun r=>r.1.length<=1000/\(∀e∈r.1,nX N e)/\x0.n<=r.2.n/\r.2.n<=x0.n+1000000:=by
 rw[KT];repeat' (with_reducible first|intro _|apply aI (alp ap ?_ ?_ ?_ ?_ ?_ ?_ ?_)|apply aI (aeS ap ?_ ?_ ?_ ?_ ?_)|apply aK)
 all_goals grind -mbtc
end Go.W
end
section
set_option maxHeartbeats 2000000
namespace Go.W
open Go.ay
theorem Dt {bK:Type} {n:Int} {f:UInt8->Option bK} {P:bK->Prop} (k:¬f (ew n)=as6/\∀r,f (ew n)=as4 r->P r):¬as8 (e7 (ata .u8 n)) f=as6/\∀r,as8 (e7 (ata .u8 n)) f=as4 r->P r:=by
 rw[as'.wrap_u8,aqI (by omega)];exact k
@[grind=] theorem ars (n:Int):n.fdiv 256=n / 256:=Int.fdiv_eq_ediv_of_nonneg _ (by omega)
@[grind=] theorem ark {aB:Type} {xs:List aB} {i:Int} (h:xs.length<=i):xs.drop i.toNat=[]:=List.drop_eq_nil_of_le (by omega)
structure kb (e:bw):Prop where
 cG:e.data.length<=300000
 dE:e.aP.length<=1000
 gf:e.dd.length<=1000
 ik:e.order.cH.length<=300
 xR:e.order.name.length<=300000
 vB:e.name.length<=300000
 vC:∀d∈e.order.cH,d.length<=300
attribute [grind->] kb.cG kb.dE kb.gf kb.ik kb.xR kb.vB kb.vC
theorem kb.of {e:bw} (h:lo e) (b:k5 e.kind e=as9):kb e:=by
 obtain ⟨U,aa,ao⟩:=h;obtain ⟨ew,_⟩:=Dv b;obtain ⟨k,t,o,c,w,ts,pt,⟨n,kF,ds⟩,kE,n5⟩:=e;simp only at U aa ao ew;rcases EJ U aa with rfl|rfl|rfl|rfl|rfl|rfl|rfl<;>simp[sb] at ao<;>simp[mA,rh,mU,wo,yJ] at ew<;>(constructor<;>simp_all<;>first|omega|(intro d aQ;have:=ew.2 d aQ;omega))
theorem hz.TJ {e:bw} (h:hz e):kb e:=by
 unfold hz at h;exact ⟨h.1,by omega,by omega,by omega,by omega,by omega,fun d aQ=>by have:=h.2.2.2.2.2.1 d aQ;omega⟩
theorem f1 (a:Int):[a].flatMap g3=g3 a:=rfl
theorem f2 (a b:Int):[a,b].flatMap g3=g3 a++g3 b:=rfl
theorem f3 (a b c:Int):[a,b,c].flatMap g3=g3 a++(g3 b++g3 c):=rfl
theorem lS (a:Int):[a].any e6=e6 a:=by simp
theorem jv (a b:Int):[a,b].any e6=(e6 a||e6 b):=by simp
theorem hp (a b c:Int):[a,b,c].any e6=(e6 a||e6 b||e6 c):=by simp[Bool.or_assoc]
theorem QG {N:Nat} (ap:5000000000<N) {e:bw} (h:nX N e):lo e/\k5 e.kind e=as9:=by
 obtain ⟨U,b,aa⟩:=h;exact ((Ys ap U).2 _ aa).2 rfl
variable {N:Nat} (ap:5000000000<N)
include ap
theorem akH {x0:Int}:aH (Ic N x0) fun r=>r=decide (1<=x0/\x0<=7):=by
 rw[Ic];repeat' (with_reducible first|intro _|apply bo|apply br|apply aW|apply aK)
 all_goals grind -mbtc
theorem ae8 {x0:Int}:aH (Kr N x0) fun r=>r=decide (1<=x0/\x0<=7):=by
 rw[Kr];repeat' (with_reducible first|intro _|apply aI (akH ap)|apply aK)
 all_goals grind -mbtc
theorem akr {av:Int} {db:Bool}:aH (Iq N av db) fun r=>(r=as5↔db=as5\/av=5):=by
 rw[Iq];repeat' (with_reducible first|intro _|apply bo|apply aW|apply aK)
 all_goals grind -mbtc
theorem akq {J:bw} {av:Int} (U:av=J.kind):aH (Ip N J av) fun r=>r=uT J.kind J:=by
 rw[Ip];repeat' (with_reducible first|intro _|apply aI (akr ap)|apply bo|apply aW|apply aK)
 all_goals first|grind -mbtc|grind -mbtc [uT]
theorem aeK {x0:bw}:aH (KD N x0) fun r=>r=uT x0.kind x0:=by
 rw[KD];repeat' (with_reducible first|intro _|apply aI (akq ap ?_)|apply aK)
 all_goals grind -mbtc
theorem aks {ak:cb}:aH (Ir N ak) fun r=>(r=as5↔ak.name=[]/\ak.bQ=0/\ak.cH=[]):=by
 rw[Ir];repeat' (with_reducible first|intro _|apply bo|apply EA|apply aW|apply aK)
 all_goals first|grind -mbtc|(simp_all;done)
theorem akt {J:bw} {av:Bool}:aH (Is N J av) fun r=>(r=as5↔J.bQ=0/\J.to=0/\J.count=0/\J.c0=0/\J.aP=[]/\J.dd=[]/\av=as5/\J.name=[]/\J.data=[]):=by
 rw[Is];repeat' (with_reducible first|intro _|apply bo|apply EA|apply aW|apply aK)
 all_goals first|grind -mbtc|(simp_all;done)
theorem af7 {x0:bw}:aH (KE N x0) fun r=>(r=as5↔uV x0):=by
 rw[KE];repeat' (with_reducible first|intro _|apply aI (aks ap)|apply aI (akt ap)|apply aK)
 all_goals grind -mbtc [uV]
theorem apc {x0:cC} {J:Int}:aH (J5 N x0 J) fun r=>r=cC.mk [] (x0.bad||jJ J):=by
 rw[J5];repeat' (with_reducible first|intro _|apply br|apply aW|apply aK)
 all_goals simp_all [jJ]<;>omega
theorem PK {x0:cC} {J:Int} {fv:List UInt8} (U:fv.length<=200000000):aH (td N x0 J fv) fun r=>r.1=fv++[ew J]/\r.2=cC.mk [] (x0.bad||jJ J):=by
 rw[td];repeat' (with_reducible first|intro _|apply Dt|apply aI (apc ap)|apply k4|apply ed|apply aK)
 all_goals grind -mbtc
theorem apb {x0:cC} {ai:Int}:aH (J2 N x0 ai) fun r=>r=cC.mk [] (x0.bad||e6 ai):=by
 rw[J2];repeat' (with_reducible first|intro _|apply br|apply aW|apply aK)
 all_goals simp_all [e6]<;>omega
theorem apa {az:List Int} {aA:Int} (U:aA=az.length) (aa:az.length<=1000000) {n:Nat} {x0:cC} {aC:Int} {fv:(List UInt8)}:(0<=aC)->(aC<=aA)->(aA - aC<n)->(fv.length+2*(aA - aC)<=300000000)->aH (CA N az aA n x0 aC fv) fun r=>r.2=fv++(az.drop aC.toNat).flatMap g3/\r.1=cC.mk [] (x0.bad||(az.drop aC.toNat).any e6):=by
 induction n generalizing x0 aC fv with
 |zero=>intros;exfalso;grind -mbtc
 |succ n aq=>
  intros;rw[CA];repeat' (with_reducible first|intro _|apply Dt|apply aI (apb ap)|apply b7 (aq ?_ ?_ ?_ ?_)|apply k4|apply ed|apply bU|refine bG (by omega) ?_|apply br|apply aW|apply aK)
  all_goals clear aq
  all_goals first|grind -mbtc|grind -mbtc [g3]
theorem aeN {x0:cC} {J:List Int} {fv:List UInt8} (U:J.length<=1000000) (aa:fv.length<=200000000):aH (tc N x0 J fv) fun r=>r.1=fv++J.flatMap g3/\r.2=cC.mk [] (x0.bad||J.any e6):=by
 rw[tc];repeat' (with_reducible first|intro _|apply aI (apa ap ?_ ?_ ?_ ?_ ?_ ?_)|apply aK)
 all_goals grind -mbtc
theorem ae0 {x0:cC} {J fv:List UInt8} (U:J.length<=1000000) (aa:fv.length<=200000000):aH (CF N x0 J fv) fun r=>r.1=fv++lY J/\r.2=cC.mk [] (x0.bad||jJ J.length):=by
 rw[CF];repeat' (with_reducible first|intro _|apply aI (PK ap ?_)|apply ed|apply aK)
 all_goals first|grind -mbtc|grind -mbtc [lY]
theorem ajM {x0:cC} {J:Int}:aH (GZ N x0 J) fun r=>r=cC.mk [] (x0.bad||jJ J):=by
 rw[GZ];repeat' (with_reducible first|intro _|apply br|apply aW|apply aK)
 all_goals simp_all [jJ]<;>omega
theorem aeM {x0:cC} {J:Int} {fv:List UInt8} (U:fv.length<=200000000):aH (J4 N x0 J fv) fun r=>r.1=fv++[ew J]/\r.2=cC.mk [] (x0.bad||jJ J):=by
 rw[J4];repeat' (with_reducible first|intro _|apply Dt|apply aI (ajM ap)|apply k4|apply ed|apply aK)
 all_goals grind -mbtc
theorem aeQ {x0:cC} {J fv:List UInt8} (U:J.length<=1000000) (aa:fv.length<=200000000):aH (J8 N x0 J fv) fun r=>r.1=fv++lY J/\r.2=cC.mk [] (x0.bad||jJ J.length):=by
 rw[J8];repeat' (with_reducible first|intro _|apply aI (aeM ap ?_)|apply ed|apply aK)
 all_goals first|grind -mbtc|grind -mbtc [lY]
theorem ajF {x0:cC} {ai:Int}:aH (Hy N x0 ai) fun r=>r=cC.mk [] (x0.bad||e6 ai):=by
 rw[Hy];repeat' (with_reducible first|intro _|apply br|apply aW|apply aK)
 all_goals simp_all [e6]<;>omega
theorem ajE {az:List Int} {aA:Int} (U:aA=az.length) (aa:az.length<=1000000) {n:Nat} {x0:cC} {aC:Int} {fv:(List UInt8)}:(0<=aC)->(aC<=aA)->(aA - aC<n)->(fv.length+2*(aA - aC)<=300000000)->aH (z1 N az aA n x0 aC fv) fun r=>r.2=fv++(az.drop aC.toNat).flatMap g3/\r.1=cC.mk [] (x0.bad||(az.drop aC.toNat).any e6):=by
 induction n generalizing x0 aC fv with
 |zero=>intros;exfalso;grind -mbtc
 |succ n aq=>
  intros;rw[z1];repeat' (with_reducible first|intro _|apply Dt|apply aI (ajF ap)|apply b7 (aq ?_ ?_ ?_ ?_)|apply k4|apply ed|apply bU|refine bG (by omega) ?_|apply br|apply aW|apply aK)
  all_goals clear aq
  all_goals first|grind -mbtc|grind -mbtc [g3]
theorem afx {x0:cC} {J:List Int} {fv:List UInt8} (U:J.length<=1000000) (aa:fv.length<=200000000):aH (J1 N x0 J fv) fun r=>r.1=fv++J.flatMap g3/\r.2=cC.mk [] (x0.bad||J.any e6):=by
 rw[J1];repeat' (with_reducible first|intro _|apply aI (ajE ap ?_ ?_ ?_ ?_ ?_ ?_)|apply aK)
 all_goals grind -mbtc
theorem ajw {J:bw}:aH (Hb N J) fun r=>(r=as9↔lo J):=by
 rw[Hb];repeat' (with_reducible first|intro _|apply aI (ae8 ap)|apply aI (aeK ap)|apply aI (af7 ap)|apply aW|apply aK)
 all_goals first|grind -mbtc|grind -mbtc [JD]|grind -mbtc [JD,lo]
theorem ajy {nd:List (List UInt8)} {ta:Int} (U:ta=nd.length) (aa:nd.length<=1000) (ao:∀d∈nd,d.length<=100000) {n:Nat} {av:cC} {oJ:Int} {iD:(List UInt8)}:(0<=oJ)->(oJ<=ta)->(ta - oJ<n)->(iD.length+100001*(ta - oJ)<=110000000)->aH (Ab N nd ta n av oJ iD) fun r=>r.2=iD++(nd.drop oJ.toNat).flatMap lY/\r.1=cC.mk [] (av.bad||(nd.drop oJ.toNat).any rh):=by
 induction n generalizing av oJ iD with
 |zero=>intros;exfalso;grind -mbtc
 |succ n aq=>
  intros;rw[Ab];repeat' (with_reducible first|intro _|apply aI (aeQ ap ?_ ?_)|apply b7 (aq ?_ ?_ ?_ ?_)|apply bU|refine bG (by omega) ?_|apply br|apply aW|apply aK)
  all_goals clear aq
  all_goals first|grind -mbtc|grind -mbtc [lY,rh]
theorem ajz {iv:Int} {Cu:Bool}:aH (Hd N iv Cu) fun r=>(r=as5↔Cu=as5\/iv=5):=by
 rw[Hd];repeat' (with_reducible first|intro _|apply bo|apply aW|apply aK)
 all_goals grind -mbtc
theorem ajA {s7:List fI} {s8:Int} (U:s8=s7.length) (aa:s7.length<=1000) {n:Nat} {av:cC} {oE:Int} {iD:(List UInt8)}:(0<=oE)->(oE<=s8)->(s8 - oE<n)->(iD.length+4*(s8 - oE)<=110000000)->aH (Ac N s7 s8 n av oE iD) fun r=>r.2=iD++(s7.drop oE.toNat).flatMap qu/\r.1=cC.mk [] (av.bad||(s7.drop oE.toNat).any mU):=by
 induction n generalizing av oE iD with
 |zero=>intros;exfalso;grind -mbtc
 |succ n aq=>
  intros;rw[Ac];repeat' (with_reducible first|intro _|apply aI (afx ap ?_ ?_)|apply b7 (aq ?_ ?_ ?_ ?_)|apply bU|refine bG (by omega) ?_|apply br|apply aW|apply aK)
  all_goals clear aq
  all_goals first|grind -mbtc|grind -mbtc [qu,g3,mU,f2,jv]
theorem ajx {J:bw} {av:cC} {iv:Int} {iD:List UInt8} (U:kb J) (aa:av.bad=as9) (ao:1<=iv) (aN:iv<=7) (bI:iD.length<=10):aH (Hc N J av iv iD) fun r=>r.2=iD++lW iv J/\r.1.bad=k5 iv J:=by
 rw[Hc];repeat' (with_reducible first|intro _|apply aI (ajy ap ?_ ?_ ?_ ?_ ?_ ?_ ?_)|apply aI (ajz ap)|apply aI (ajA ap ?_ ?_ ?_ ?_ ?_ ?_)|apply aI (PK ap ?_)|apply aI (aeN ap ?_ ?_)|apply aI (ae0 ap ?_ ?_)|apply ed|apply bo|apply aW|apply aK)
 all_goals first|grind -mbtc|grind -mbtc [lW,k5,mA,lY,g3,f1,f2,f3,lS,jv,hp]
theorem YF {x0:bw} (U:kb x0):aH (xp N x0) fun r=>lo x0->k5 x0.kind x0=as9->r=(enc x0,0):=by
 rw[xp];repeat' (with_reducible first|intro _|apply aI (ajw ap)|apply aI (ajx ap ?_ ?_ ?_ ?_ ?_)|apply aI (PK ap ?_)|apply aW|apply aK)
 all_goals first|grind -mbtc|grind -mbtc [enc,lo,wo]
theorem an3 {x0 J:List Int} (U:x0.length<=1000000) (aa:x0.length=J.length) {n:Nat} {ai:Int}:(0<=ai)->(ai<=(x0.length:Int))->((x0.length:Int) - ai<n)->aH (Cc N x0 J n ai) fun r=>x0=J->r= .inl ():=by
 induction n generalizing ai with
 |zero=>intros;exfalso;grind -mbtc
 |succ n aq=>
  intros;rw[Cc];repeat' (with_reducible first|intro _|apply b7 (aq ?_ ?_ ?_)|apply bU|refine bG (by omega) ?_|apply bo|apply br|apply aW|apply aK)
  all_goals clear aq
  all_goals grind -mbtc
theorem afP {x0 J:List Int} (U:x0.length<=1000000):aH (Lb N x0 J) fun r=>x0=J->r=as5:=by
 rw[Lb];repeat' (with_reducible first|intro _|apply dR (an3 ap ?_ ?_ ?_ ?_ ?_)|apply aW|apply aK)
 all_goals grind -mbtc
theorem alo {x0 J:List UInt8} (U:x0.length<=1000000) (aa:x0.length=J.length) {n:Nat} {ai:Int}:(0<=ai)->(ai<=(x0.length:Int))->((x0.length:Int) - ai<n)->aH (AH N x0 J n ai) fun r=>x0=J->r= .inl ():=by
 induction n generalizing ai with
 |zero=>intros;exfalso;grind -mbtc
 |succ n aq=>
  intros;rw[AH];repeat' (with_reducible first|intro _|apply b7 (aq ?_ ?_ ?_)|apply bU|refine bG (by omega) ?_|apply bo|apply br|apply aW|apply aK)
  all_goals clear aq
  all_goals grind -mbtc
theorem PQ {x0 J:List UInt8} (U:x0.length<=1000000):aH (xt N x0 J) fun r=>x0=J->r=as5:=by
 rw[xt];repeat' (with_reducible first|intro _|apply dR (alo ap ?_ ?_ ?_ ?_ ?_)|apply aW|apply aK)
 all_goals grind -mbtc
theorem akT {x0 J:List (List UInt8)} (U:x0.length<=1000000) (aa:x0.length=J.length) {n:Nat} {ai:Int}:(0<=ai)->(ai<=(x0.length:Int))->((x0.length:Int) - ai<n)->aH (A2 N x0 J n ai) fun r=>x0=J->r= .inl ():=by
 induction n generalizing ai with
 |zero=>intros;exfalso;grind -mbtc
 |succ n aq=>
  intros;rw[A2];repeat' (with_reducible first|intro _|apply b7 (aq ?_ ?_ ?_)|apply bU|refine bG (by omega) ?_|apply bo|apply br|apply aW|apply aK)
  all_goals clear aq
  all_goals grind -mbtc
theorem aeH {x0 J:List (List UInt8)} (U:x0.length<=1000000):aH (KA N x0 J) fun r=>x0=J->r=as5:=by
 rw[KA];repeat' (with_reducible first|intro _|apply dR (akT ap ?_ ?_ ?_ ?_ ?_)|apply aW|apply aK)
 all_goals grind -mbtc
theorem ajD {x0 J:List cb} {ai:Int} (U:0<=ai) (aa:ai<x0.length) (ao:0<=ai) (aN:ai<J.length) (bI:∀o∈x0,o.cH.length<=1000000):aH (Hx N x0 J ai) fun r=>x0=J->r=as9:=by
 rw[Hx];repeat' (with_reducible first|intro _|apply aI (aeH ap ?_)|apply bU|apply aW|apply aK)
 all_goals grind -mbtc
theorem akm {x0 J:List cb} (U:x0.length<=1000000) (aa:x0.length=J.length) (ao:∀o∈x0,o.cH.length<=1000000) {n:Nat} {ai:Int}:(0<=ai)->(ai<=(x0.length:Int))->((x0.length:Int) - ai<n)->aH (z0 N x0 J n ai) fun r=>x0=J->r= .inl ():=by
 induction n generalizing ai with
 |zero=>intros;exfalso;grind -mbtc
 |succ n aq=>
  intros;rw[z0];repeat' (with_reducible first|intro _|apply aI (ajD ap ?_ ?_ ?_ ?_ ?_)|apply b7 (aq ?_ ?_ ?_)|refine bG (by omega) ?_|apply bo|apply br|apply aW|apply aK)
  all_goals clear aq
  all_goals grind -mbtc
theorem afv {x0 J:List cb} (U:x0.length<=1000000) (aa:∀o∈x0,o.cH.length<=1000000):aH (JZ N x0 J) fun r=>x0=J->r=as5:=by
 rw[JZ];repeat' (with_reducible first|intro _|apply dR (akm ap ?_ ?_ ?_ ?_ ?_ ?_)|apply aW|apply aK)
 all_goals grind -mbtc
theorem akk {al ak:bw} (U:kb al):aH (Hw N al ak) fun r=>(al=ak->r=as9)/\(r=as9->al.dd.length=ak.dd.length):=by
 rw[Hw];repeat' (with_reducible first|intro _|apply aI (PQ ap ?_)|apply aI (afP ap ?_)|apply aW|apply aK)
 all_goals grind -mbtc
theorem akl {al ak:bw} (U:kb al) (aa:al.dd.length=ak.dd.length) {n:Nat} {ai:Int}:(0<=ai)->(ai<=(al.dd.length:Int))->((al.dd.length:Int) - ai<n)->aH (zZ N al ak n ai) fun r=>al=ak->r= .inl ():=by
 induction n generalizing ai with
 |zero=>intros;exfalso;grind -mbtc
 |succ n aq=>
  intros;rw[zZ];repeat' (with_reducible first|intro _|apply b7 (aq ?_ ?_ ?_)|apply bU|refine bG (by omega) ?_|apply bo|apply br|apply aW|apply aK)
  all_goals clear aq
  all_goals grind -mbtc
theorem afu {x0 J:bw} (U:kb x0):aH (JY N x0 J) fun r=>x0=J->r=as5:=by
 rw[JY];repeat' (with_reducible first|intro _|apply aI (akk ap ?_)|apply dR (akl ap ?_ ?_ ?_ ?_ ?_)|apply aI (afv ap ?_ ?_)|apply aW|apply aK)
 all_goals grind -mbtc
theorem YE {x0:List UInt8} (U:x0.length<4294967296):aH (oL N x0) fun r=>r=hd x0:=by
 rw[oL];repeat' (with_reducible first|intro _|apply aW|apply aK)
 all_goals grind -mbtc
theorem akC {x0 J:Int} {bk:Bool} (U:0<J) (aa:J<=1000000) (ao: -J<x0) (aN:x0<J) (bI:bk=as5↔x0<0):aH (Ia N x0 J bk) fun r=>0<=r/\r<J:=by
 rw[Ia];repeat' (with_reducible first|intro _|refine bG (by omega) ?_|apply bo|apply aW|apply aK)
 all_goals grind -mbtc
theorem ae2 {x0 J:Int} (U:J<=1000000):aH (Kl N x0 J) fun r=>0<=r/\(0<J->r<J)/\(J<=0->r=0):=by
 rw[Kl];repeat' (with_reducible first|intro _|apply aI (akC ap ?_ ?_ ?_ ?_ ?_)|apply Ds|apply br|apply aW|apply aK)
 all_goals grind -mbtc
end Go.W
end
section
set_option maxHeartbeats 2000000
namespace Go.W
open Go.ay
theorem aqE {aB:Type} {xs:List aB} {i:Int}:(xs.take i.toNat).drop (Int.toNat 0)=xs.take i.toNat:=rfl
@[grind=] theorem arl {e:bw} {i:Int} (h:lo e) (b:k5 e.kind e=as9) (bg:0<=i) (a2:i<(enc e).length):hd (((enc e).take i.toNat).drop (Int.toNat 0))=(mK 0,10):=Tz h b (by omega)
theorem abr {e:bw} {b:List UInt8} {i:Int} (h:lo e) (ew:k5 e.kind e=as9) (bt:b=enc e) (bg:0<=i) (a2:i<b.length):hd ((b.take i.toNat).drop (Int.toNat 0))=(mK 0,10):=by subst bt;exact Tz h ew (by omega)
theorem TI (e:bw):0<(enc e).length:=by simp[enc]
theorem ZE (s:List UInt8):(lY s).length=s.length+1:=rfl
theorem Mn {e:bw} (h:kb e):(enc e).length<=900000:=by
 have cG:∀l:List Int,(l.flatMap g3).length=2*l.length:=fun l=>by induction l with
  |nil=>rfl
  |cons x l aq=>simp[aq,g3];omega
 have dE:∀l:List fI,(l.flatMap qu).length=4*l.length:=fun l=>by induction l with
  |nil=>rfl
  |cons x l aq=>simp[aq,qu,g3];omega
 have gf:∀l:List (List UInt8),(∀d∈l,d.length<=300)->(l.flatMap lY).length<=301*l.length:=fun l h=>by induction l with
  |nil=>exact atk _
  |cons x l aq=>have:=aq fun d aQ=>h d (List.mem_cons_of_mem _ aQ);have:=h x List.mem_cons_self;rw[List.flatMap_cons,aua,aun,ZE];omega
 have c:=gf _ h.vC;have:=h.cG;have:=h.dE;have:=h.gf;have:=h.ik;have:=h.xR;have:=h.vB;unfold enc lW
 repeat' split
 all_goals simp only[aua,aun,cG,dE,g3,ZE,List.length_nil]
 all_goals omega
variable {N:Nat} (ap:5000000000<N)
include ap
theorem af3 {x0:List Int}:aH (Ln N x0) fun r=>r=cx.mk x0 0:=by
 rw[Ln];repeat' (with_reducible first|intro _|apply aK)
 all_goals grind -mbtc
theorem afQ:aH (CT N) fun r=>r=as5:=by
 rw[CT];repeat' (with_reducible first|intro _|apply aK)
 all_goals grind -mbtc
theorem akg {aC:List bw} {aZ bk db:Int} {a8:bw} (U:∀e∈aC,nX N e) (aa:0<=aZ) (ao:aZ<aC.length) (aN:kb a8):aH (Hs N aC aZ bk a8 db) fun r=>bk=0->db=0->aD aC aZ=as4 a8->r=as9:=by
 rw[Hs];repeat' (with_reducible first|intro _|apply aI (afu ap ?_)|apply bU|apply aW|apply aK)
 all_goals grind -mbtc
theorem akh {cw cy:List UInt8} {di:Int} (U:di=0->cy.length<=1000000):aH (Ht N cw cy di) fun r=>di=0->cy=cw->r=as9:=by
 rw[Ht];repeat' (with_reducible first|intro _|apply aI (PQ ap ?_)|apply aW|apply aK)
 all_goals grind -mbtc
theorem akf {al aZ:Int} {aA:cx} {aC:List bw} (U:∀e∈aC,nX N e) (aa:0<=aZ) (ao:aZ<aC.length) (aN:0<=aA.n) (bI:aA.n<=800000000):aH (Hr N al aA aC aZ) fun r=>(∀a,r= .inr a->False)/\∀a,r= .inl a->aA.n<=a.n/\a.n<=aA.n+3:=by
 rw[Hr];repeat' (with_reducible first|intro _|apply aI (YA ap ?_ ?_ ?_)|apply aI (akg ap ?_ ?_ ?_ ?_)|apply aI (akh ap ?_)|apply aI (YE ap ?_)|apply aI (YF ap ?_)|apply aI (ae2 ap ?_)|apply k4|apply ed|apply bU|apply pL|apply tv|apply aW|apply aK)
 all_goals first|grind -mbtc|grind -mbtc [kb.of,Mn,TI,QG,hz.TJ,nX,Tw,abt,aqE,->Tx]|grind -mbtc [kb.of,Mn,TI,QG,hz.TJ,nX,Tw,abr]
theorem ake {al:Int} {aC:List bw} (U:aC.length<=1000) (aa:∀e∈aC,nX N e) {n:Nat} {aA:cx} {aZ:Int}:(0<=aZ)->(aZ<=(aC.length:Int))->((aC.length:Int) - aZ<n)->(0<=aA.n)->(aA.n+3*(aC.length - aZ)<=700000000)->aH (zY N al aC n aA aZ) fun r=>r= .inl ():=by
 induction n generalizing aA aZ with
 |zero=>intros;exfalso;grind -mbtc
 |succ n aq=>
  intros;rw[zY];repeat' (with_reducible first|intro _|apply dR (akf ap ?_ ?_ ?_ ?_ ?_)|apply b7 (aq ?_ ?_ ?_ ?_ ?_)|refine bG (by omega) ?_|apply bo|apply br|apply aW|apply aK)
  all_goals clear aq
  all_goals grind -mbtc
theorem akj {J eF:List UInt8} {iV:Int} (U:iV=0->eF.length<=1000000):aH (Hv N J eF iV) fun r=>iV=0->eF=J->r=as9:=by
 rw[Hv];repeat' (with_reducible first|intro _|apply aI (PQ ap ?_)|apply aW|apply aK)
 all_goals grind -mbtc
theorem aki {J:List UInt8} {eQ:bw} {JM:Bool} (U:JM=as5->hd J=(eQ,0)):aH (Hu N J eQ JM) fun r=>r= .inl ():=by
 rw[Hu];repeat' (with_reducible first|intro _|apply aI (akj ap ?_)|apply aI (YF ap ?_)|apply aW|apply aK)
 all_goals first|grind -mbtc|grind -mbtc [kb.of,Mn,->Tx]
theorem aft {x0:List Int} {J:List UInt8} {al:Int}:aH (xo N x0 J al) fun r=>r=as5:=by
 rw[xo];repeat' (with_reducible first|intro _|apply aI (af3 ap)|apply dR (ake ap ?_ ?_ ?_ ?_ ?_ ?_ ?_)|apply dR (aki ap ?_)|apply aI (agn ap ?_ ?_ ?_ ?_ ?_)|apply aI (afQ ap)|apply aI (YE ap ?_)|apply aI (aeR ap ?_ ?_)|apply br|apply aW|apply aK)
 all_goals first|grind -mbtc|grind -mbtc [Prod.ext_iff]
end Go.W
end
section
namespace Go.Proofs.YtfmpkhcaifbonaaGreatDoor.scriptRoundTripsDone
open Go.ChangeShapes Go.WideShapes Go.ChangeAt Go.RowKit
open Go.ChangeMaps (open_string shut_string)
set_option maxRecDepth 20000
theorem own:ownKnob Tryz.prog.godebug=as6:=by kernel_rfl
theorem O4:laidOutB Tryz.prog=as5:=by kernel_rfl
theorem ahj {H:Type} {enc:TypeId×as7->H} {P:Program} {w:World} {base:Nat} {sp:Nat->Bool} {held:Bool} {kz:Nat} {t e:TypeId} {n:Nat} {cs:List as7} {zs:List (List UInt8)} {p:List MemPlace}
  (au:P.underlying t=as4 (.array n e)) (he:P.underlying e=as4 .string) (acr:P.cellsOf e=1) (acy:P.cellsOf t=n)
  (h:auS enc P w base sp held kz t cs=as4 (.agg (zs.map fun z=> .lit (.string z)),p)) (i:Nat) (s:List UInt8) (aE:zs[i]? =as4 s):cs[i]? =as4 (.string ⟨s.toArray⟩):=by
 cases kz with
 |zero=>simp[auS] at h
 |succ kz=>
  simp only[auS,au,acr,acy,Nat.mul_one] at h;split at h
  ·obtain ⟨xs,hm,ad⟩:=Option.map_eq_some_iff.1 h;have v5:xs.map (·.1)=zs.map fun z=>(DataW.lit (.string z):DataW H):=by
    have:=congrArg Prod.fst ad;simpa using this
   have ad7:xs.length=n:=by simpa using Lib.mapM_length hm
   have aeb:zs.length=n:=by have:=congrArg List.length v5;simp at this;omega
   have aj:i<n:=by have:=(atp.1 aE).1;omega
   obtain ⟨b,ag,bd⟩:=Lib.mapM_at hm i i (by simp[aj]);obtain ⟨z,ah,rfl,_⟩:=DataW.trod_string he bd;have U:cs[i]? =as4 (.string z):=by have:=congrArg (·[0]?) ah;simpa[List.getElem?_take,List.getElem?_drop] using this
   have aa:(xs.map (·.1))[i]? =as4 (DataW.lit (.string z.data.toList):DataW H):=by simp[ag]
   rw[v5,List.getElem?_map,aE] at aa;simp only[Option.map_some,atj.injEq,DataW.lit.injEq,Lit.string.injEq] at aa;rw[U,aa]
  ·cases h
theorem ap4 {W:World} (h:laidMetH Tryz.prog Rows.scriptRoundTripsRow.laid W):ay.lB Tryz.prog W where
 len:=fun g a5=>by
  have tP : Tryz.prog.globalNamed "internal/bytealg.MaxLen" = as6 := by kernel_rfl
  rw[tP] at a5;cases a5
 pow:=fun g a5=>by
  have tP : Tryz.prog.globalNamed "internal/strconv.uint64pow10" = as6 := by kernel_rfl
  rw[tP] at a5;cases a5
 JJ:=fun g a5 n s a2=>by
  obtain ⟨cm,⟨arw,dZ,cs,kz,p,q,MR,mi,adY,aQ,_,_⟩,_⟩:=(h:laidMet Tryz.prog Rows.scriptRoundTripsRow.laid W)
  obtain rfl:=atj.inj (a5.symm.trans MR);have bg : Tryz.prog.globalNamed "humpyard/yardgen.dests" = as4 0 := by kernel_rfl
  obtain rfl:=atj.inj (bg.symm.trans a5);have adU:(Tryz.prog.globals[0]?).map (·.type)=as4 124:=by kernel_rfl
  obtain rfl:=atj.inj (adU.symm.trans mi);have:=ahj (t:=124) (e:=9) (n:=6) (zs:=ay.n6) (by kernel_rfl) Tryz.underlying9 (by kernel_rfl) (by kernel_rfl) aQ n s a2;exact World.var?_cell a5 adY n|>.symm▸(by simpa using this)
noncomputable def Oj (os:Os):World:=
 let bR:=World.holding Tryz.prog os ⟨#[],#[],[]⟩
 {bR with heap:=bR.heap.modify 0 fun
  | .cells _ t frozen=> .cells (ay.n6.map fun s=>as7.string ⟨s.toArray⟩).toArray t frozen
  |o=>o}
theorem aiP (os:Os):laidMet Tryz.prog Rows.scriptRoundTripsRow.laid ((Oj os).forCall (fun _ _=>0) ⟨#[],#[.slice as6 0 0, .slice as6 0 0, .int .i64 0],[]⟩).memory:=
 laidMet_of_run' 8 (by kernel_rfl) (by kernel_rfl)
theorem reads (os:Os) {H:Type} (enc:TypeId×as7->H):∃lV,DataW.whole enc Tryz.prog ((Oj os).forCall (fun _ _=>0) ⟨#[],#[.slice as6 0 0, .slice as6 0 0, .int .i64 0],[]⟩).memory Tryz.f4.params.toList Rows.scriptRoundTripsSpec.vars as9 #[.slice as6 0 0, .slice as6 0 0, .int .i64 0].toList 8=as4 ([.nil, .nil, .lit (.int .i64 0)],[],lV):=
 ⟨[],by kernel_rfl⟩
set_option maxRecDepth 100000 in
theorem ao4 (os:Os) (started:os.Started) (H:Type) (enc:TypeId×as7->H) (F:Stop.Interp):
  ReturnsInHanded {} Tryz.checked os 4 .any ((avV Rows.scriptRoundTripsSpec).preRow enc Tryz.prog Tryz.f4 Rows.scriptRoundTripsRow.domain as9 Rows.scriptRoundTripsRow.laid) (((avV Rows.scriptRoundTripsSpec).at F).post enc Tryz.prog Tryz.f4 as9 as5 as9 as9):=by
 obtain ⟨lV,ad⟩:=reads os enc;refine returnsInHanded_of_row (C:=Tryz.checked) (s:=avV Rows.scriptRoundTripsSpec) own started (by kernel_rfl) Tryz.func4
  (witness_row_at (enc:=enc) (C:=Tryz.checked) as9 (Oj os) #[.slice as6 0 0, .slice as6 0 0, .int .i64 0] rfl (by kernel_rfl) (by kernel_rfl) (by kernel_rfl)
   (OpenSpec.preRow_of_cond 8 ad (by kernel_rfl) (fun k ar=>by cases ar) (by kernel_rfl) (aiP os))) ?_
 intro W base args ds gs before UK dO _ _ _ ab2 arE _;have o4:∀(j:Nat) t v,Tryz.f4.params[j]? =as4 t->args[j]? =as4 v->as7.okWide Tryz.prog W .any base t v:=UK;have acb:=dO;obtain ⟨p,q,TZ,vQ,rfl,vV,ar'⟩:=dO;have dW:DataW.TrodAll enc Tryz.prog W 0 (fun _=>as5) as5 Tryz.f4.params.toList args.toList ds p:=TZ;rw[Tryz.params4] at dW o4;obtain ⟨kr,dc,d0,vH,sD,sF,tJ,rfl,rfl,bg,Qa⟩:=trodAll_cons dW;obtain ⟨v1,jo,d1,TF,iB,dn,rfl,rfl,rfl,U,kW⟩:=trodAll_cons Qa;obtain ⟨v2,JK,d2,arq,iP,dz,rfl,rfl,rfl,aa,lu⟩:=trodAll_cons kW;obtain ⟨rfl,rfl,rfl⟩:=trodAll_nil lu;obtain rfl:args=#[kr,v1,v2]:=by cases args;simp_all
 obtain ⟨rfl,rfl⟩:=trodVars_none vQ;have j2:=bg;have aeq:∀x∈sD,x.block<W.heap.size:=by obtain ⟨m,hm⟩:=j2;exact DataW.trod_lt m _ _ _ hm
 obtain ⟨aqL,cg,je,bR⟩:=ay.Xf (T:=Go.W.hA) (ay.nq.conv (xM:=Go.W.hA) (ay.aou Tryz.underlying3 Tryz.type3 rfl) rfl rfl fun z x cs h=>by obtain rfl:cs=[_]:=h;exact ⟨rfl,trivial⟩) Tryz.underlying22 (o4 0 22 kr rfl rfl) bg;have b5:=U;have NF:∀x∈iB,x.block<W.heap.size:=by obtain ⟨m,hm⟩:=b5;exact DataW.trod_lt m _ _ _ hm
 obtain ⟨aqM,cv,s1,dk⟩:=ay.Xf (T:=Go.W.nw) (ay.apU Tryz.underlying5 Tryz.type5 rfl) Tryz.underlying27 (o4 1 27 v1 rfl rfl) U;have cc:=aa;have EK:∀x∈iP,x.block<W.heap.size:=by obtain ⟨m,hm⟩:=cc;exact DataW.trod_lt m _ _ _ hm
 obtain ⟨cT,rfl,rfl,rfl,g2⟩:=open_int Tryz.underlying3 (o4 2 3 v2 rfl rfl) aa;have aqN:ay.cL (ay.hk W) (.int .i64 cT) (.int .i64 cT):=rfl;clear TZ UK;obtain ⟨N,ap⟩:∃N,Go.W.xo N cg cv cT=as4 as5:=by
  obtain ⟨U,aa⟩:= @Go.W.aft 5000000001 (by omega) cg cv cT;cases bJ:Go.W.xo 5000000001 cg cv cT with
  |none=>exact absurd bJ U
  |some r=>exact ⟨_,by rw[bJ,aa r bJ]⟩
 have hB:Go.W.DI.call Go.W.bB (Go.W.C5 N) [.c (.ae 3 cg), .c (.ae 5 cv), .c (.int .i64 cT)] [] (fun df _=>as4 df)=as8 (Go.W.xo N cg cv cT) fun y=>as4 (.c (.bool y)):=by kernel_rfl
 rw[ap] at hB;have cV:ay.bp (ay.rel Go.W.bB.G (ay.ho W).aS []) [.c (.ae 3 cg), .c (.ae 5 cv), .c (.int .i64 cT)] [kr,v1, .int .i64 cT]:=⟨je,s1,rfl,trivial⟩
 refine ((ay.ag3 (by kernel_rfl) (ap4 ab2) ?_ (ay.ih.law (X:=Go.W.bB) (F:=Go.W.C5 N) (Go.W.ZH N) (ay.akb W) (ay.We W) cV hB))).mono fun e ara ⟨he,Dw⟩=> ?_
 ·intro a aY;simp only[ats,au5,or_false] at aY;rcases aY with rfl|rfl|rfl
  ·exact aqL
  ·exact aqM
  ·exact aqN
 ·subst he;exact ⟨_,rfl,_,_,_,[],_,[],acb,trodAll_mk1 (shut_bool Tryz.underlying4 _),(trodAll_cons_mk (Below.trod O4 (by kernel_rfl) (of_decide_eq_true (by kernel_rfl)) j2 Dw aeq) (trodAll_cons_mk (Below.trod O4 (by kernel_rfl) (of_decide_eq_true (by kernel_rfl)) b5 Dw NF) (trodAll_cons_mk (Below.trod O4 (by kernel_rfl) (of_decide_eq_true (by kernel_rfl)) cc Dw EK) trodAll_mk0))),rfl,Dw.frame _,fun h=>by cases h⟩
end Go.Proofs.YtfmpkhcaifbonaaGreatDoor.scriptRoundTripsDone
end
