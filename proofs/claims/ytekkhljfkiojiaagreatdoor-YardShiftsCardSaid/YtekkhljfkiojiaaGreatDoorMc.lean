import Derived.Recover
import Derived.Shelf.SlSortCmp.NoneTotal
import Derived.Shelf.SlicesG.Cmp
import Derived.Shelf.Sort.Plain
import Derived.Shelf.Slices.In.SortNone
import Derived.Shelf.SlSortCmp.Whole1
import Derived.Test.YtekkhljfkiojiaaGreatDoorMb
set_option linter.defProp false
set_option linter.unusedSimpArgs false
set_option linter.unusedVariables false
set_option linter.unusedSectionVars false
open Array renaming replicate->nj
open Bool renaming and_eq_true->fx,and_eq_true_iff->tY,and_self->vK,noConfusion->Yy,not_eq_true'->Aq,or_eq_true->Ar,false->ak,true->aa
open Classical renaming choose->YA
open Go renaming IntKind->aG,Operand->bS,Program->bI,TypeId->bV,Value->af
open Go.Act renaming put->qB
open Go.IntKind renaming i64->Aw
open Go.Lib renaming bitLen->Ty
open Go.Region renaming wanted->qK
open Go.Sort renaming ahead->TL
open Go.Value renaming int->mu
open Go.World renaming cell?->rG
open List renaming all_cons->ml,all_eq_true->iA,eq_nil_of_length_eq_zero->yl,ext_getElem?->rv,flatMap_cons->II,getD_eq_getElem?_getD->YV,getElem?_append->AB,getElem?_append_left->kS,getElem?_append_right->kT,getElem?_cons_succ->qH,getElem?_eq_getElem->mm,getElem?_eq_none->Tz,getElem?_eq_some_iff->fq,getElem?_map->sH,getElem?_set->ll,length_append->sI,length_cons->ry,length_map->ug,map_congr_left->YW,map_cons->rA,mem_append->kU,mem_cons->ha,mem_cons_of_mem->kn,mem_cons_self->oG,mem_map->l2,mem_of_getElem?->mM,range->mN
open Nat renaming add_mul->ko,add_zero->pS,beq->fi,ble->iJ,blt->mn,eq_of_beq_eq_true->kA,le_of_ble_eq_true->pk,le_refl->e4,le_succ->mo,le_trans->jd,lt_of_lt_of_le->hS,zero_add->lH
open Option renaming bind->ab,getD_some->IV,map_eq_some_iff->vT,map_some->vU,some->kB,none->ae,some->J
section
namespace Go.aF
section
variable {P:bI} {D:Nat->Type} {X:e3 P D} {ap:Type} {z z':Nat->bW} {e m m':Mem} {k:Option Nat} {vs:List af} {fr:Nat->af} {E:List (Nat×bc D)} {O:List (ba D)} {o:Oper} {r:ap}
variable {x y:bS} {t u:bV} {K:bc D->List (ba D)->Option ap}
def gG (m m':Mem) (q:Option Nat):Prop:=m.next<=m'.next/\∀b,b<m.next->q≠J b->m'.blk b=m.blk b
def oI (vs:List af) (ts:List Nat) (q:Option Nat):Prop:=q=ae\/∃i,i∈ts/\∃v,vs[i]? =J v/\q=dQ v
def cH.mono {ap:bS->af} {K mj:Tag->af->Mem->Prop} (h:cH P ap o m K) (hk:∀t v m',K t v m'->mj t v m'):cH P ap o m mj:=by
 rcases h with ⟨v,h,g⟩|⟨v,I,h,g⟩|⟨v,h,g⟩|⟨Y,v,h,g⟩|⟨n,v,m',h,g⟩
 ·exact .inl ⟨v,h,hk _ _ _ g⟩
 ·exact .inr (.inl ⟨v,I,h,hk _ _ _ g⟩)
 ·exact .inr (.inr (.inl ⟨v,h,hk _ _ _ g⟩))
 ·exact .inr (.inr (.inr (.inl ⟨Y,v,h,hk _ _ _ g⟩)))
 ·exact .inr (.inr (.inr (.inr ⟨n,v,m',h,hk _ _ _ g⟩)))
def iV (X:e3 P D):Prop:=∀(f:Nat) (cX:List (bc D)) (O:List (ba D)) {ap:Type} (K:bc D->List (ba D)->Option ap) (r:ap) {z:Nat->bW} {e m:Mem} {k:Option Nat} {vs:List af} (args:List af),
 b9 X.G O z e m k vs->bP (rel X.G z vs) cX args->X.C f cX O K=J r->h2 P f args.toArray m λv m'=>dH X O z e k vs K r v m'/\(X.F f cX O=aa->m'=m)/\(X.W f=ak->∃q,gG m m' q/\oI vs (q1 cX) q)
def bP.caps {caps:List (Nat×List (cv D))} {gs:List af} (h:bP (λc g=>lU X.G z vs c.2 0 g) caps gs):bP (rel X.G z vs) (caps.map λp=>bc.hd p.1 p.2 0) gs:=by
 induction caps generalizing gs with
 |nil=>cases gs with
  |nil=>trivial
  |cons _ _=>exact h.elim
 |cons c caps a1=>cases gs with
  |nil=>exact h.elim
  |cons g gs=>exact ⟨h.1,a1 h.2⟩
def acf {aK:Type} {T:cM aK} {aW:aK->List af} (aD:∀z x ds,T.rd z x ds->ds=aW x) {L:List af}:∀{xs:List aK} {o:Nat},(∀(i:Nat) (x:aK),xs[i]? =J x->∃cs,T.rd z x cs/\ql L (o+i*T.bM) cs)->(∀x∈xs,(aW x).length=T.bM)->
  ∀(i:Nat) (v:af),(xs.flatMap aW)[i]? =J v->L[o+i]? =J v
 |[],o,_,_,i,v,h=>by grind
 |x::xs,o,h,aR,i,v,az=>by
  obtain ⟨cs,h1,ai⟩:=h 0 x rfl;have:=aD _ _ _ h1;subst this;have Vj:=aR x oG;rw[II,AB] at az;split at az
  ·have:=ai i v az
   grind
  ·rename_i hA;have:=acf aD (xs:=xs) (o:=o+T.bM) (L:=L) (λj y bn=>by
    obtain ⟨cs,g1,g2⟩:=h (j+1) y (by grind)
    grind) (λy aZ=>aR y (kn _ aZ)) _ v az
   grind
def adJ {aK:Type} {aW:aK->List af} {n:Nat}:∀{xs:List aK},(∀x∈xs,(aW x).length=n)->∀(i j:Nat) (x:aK) (v:af),xs[i]? =J x->(aW x)[j]? =J v->(xs.flatMap aW)[i*n+j]? =J v
 |[],_,i,j,x,v,h,_=>by grind
 |y::xs,aR,0,j,x,v,h,bn=>by
  grind
 |y::xs,aR,i+1,j,x,v,h,bn=>by have aZ:=aR y oG;rw[II,ko,Nat.one_mul,kT (by omega),show i*n+n+j - (aW y).length=i*n+j by omega];exact adJ (λx an=>aR x (kn _ an)) i j x v (by grind) bn
def WI {aK:Type} {aW:aK->List af} {n:Nat}:∀{xs:List aK},(∀x∈xs,(aW x).length=n)->(xs.flatMap aW).length=xs.length*n
 |[],_=>by simp
 |x::xs,h=>by rw[II,sI,h x oG,WI λy aZ=>h y (kn _ aZ),ry,ko];omega
def KK {f:Nat} {caps:List (Nat×List (cv D))} {cX:List (bc D)} {ke:ns P X.G}:∀{l:List (ns P X.G)},xk X l f caps cX=J ke->ke.f=f/\caps=[]/\ke.acc cX.tail=aa
 |[],h=>by cases h
 |s::l,h=>by
  unfold xk at h;by_cases ay:(fi s.f f&&(caps.isEmpty&&s.acc cX.tail))=aa
  ·simp_all
  ·rw[if_neg ay] at h;exact KK h
theorem acG {f:Nat} {cX:List (bc D)} {ke:ns P X.G} {args:List af} {caps:List (Nat×List (cv D))} (bF:xk X X.S f caps cX=J ke) (aN:b9 X.G O z e m k vs) (dE:bP (rel X.G z vs) cX args) (h:XD X ke cX O K=J r):
  h2 P f args.toArray m λv m'=>dH X O z e k vs K r v m'/\∃q,gG m m' q/\oI vs (zC cX) q:=by
 obtain ⟨rfl,_,yU⟩:=KK bF
 match cX,args,dE with
 |[],_,_=>cases h
 |s::gV,ec::al9,⟨h1,ai⟩=>
  unfold XD at h;split at h
  ·rename_i i l bf;cases bf;split at h
   ·rename_i t xs w aM;split at h
    ·rename_i he;subst he;obtain ⟨b4,aZ,h⟩:=bind_some h;have cG:dU (X.G.T ke.e) z e m k xs ec:=aN.obj i _ ec aM h1.1;have kI:∀{b4:List (D ke.e)} {m':Mem} {u:af},dU (X.G.T ke.e) z e m' k b4 u->dQ u=da u:=λhu=>hi (by obtain ⟨a,c,cp⟩:=hu.bT.len;grind);obtain ⟨cc,m',ay,n4,uX,UW,wA⟩:=ke.run z e m k vs al9 gV xs b4 ec yU aZ aN.aS.bZ ai cG;refine ay.mono ?_;rintro u m1 ⟨rfl,rfl⟩;have k2:∃q,gl m m1 q/\dL z e m1 k/\(q=ae\/da ec=q):=by
      rcases n4 with rfl|⟨b,Y,aw,rfl⟩
      ·exact ⟨ae,⟨e4 _,aN.aS.dead,λ_ _ _=>rfl⟩,aN.aS, .inl rfl⟩
      ·have bm:=cG.bm b aw;exact ⟨J b,zm aN.aS.dead (cG.lt b aw),aN.aS.put _ bm.1 (cG.lt b aw) bm.2, .inr aw⟩
     obtain ⟨q,Bw,fb,bm⟩:=k2;have anz:∃q,gG m m1 q/\oI vs (zC (.c (.own i)::gV)) q:=⟨q,⟨Bw.next,Bw.blk⟩,by
      rcases bm with bm|bm
      ·exact .inl bm
      ·cases q with
       |none=>exact .inl rfl
       |some b=>exact .inr ⟨i,by simp[zC],_,h1.1,by grind⟩⟩
     refine ⟨?_,anz⟩;have aa5:gl m m1 (dQ ec):=by
      rcases bm with rfl|bm
      ·exact ⟨Bw.next,Bw.dead,λb aw _=>Bw.blk b aw (λe=>by grind)⟩
      grind
     by_cases aaY:ke.u5=aa
     ·rw[if_pos aaY] at h⊢;have axO:dQ cc=dQ ec:=by grind
      have fP:=λj qj w hq bn aR hw=>aN.fD j i qj _ w _ hq bn aM aR rfl hw h1.1;exact ⟨z,vs++[cc], .c (.own O.length),O.set i .dead++[.bh ke.e b4 ak ak],(Inv.set O i (.inl rfl)).trans (Inv.push _ _),dT.refl z,j0,
       (aN.kill i).push (q:=dQ ec) (o':= .bh ke.e b4 ak ak) aa5 fb (λj p w bn hw aR=>by
        rw[ll] at bn;split at bn
        ·split at bn
         ·cases bn;cases aR
         grind
        grind) uX (λp bb US=>by grind),oi aN (by obtain ⟨a,c,cp⟩:=uX.bT.len;exact ⟨a,c,cp⟩),h⟩
     ·rw[if_neg aaY] at h⊢;have:=wA (by grind);subst this;exact ⟨z,vs, .sq [],_,Inv.set O i (.inr rfl),dT.refl z,λ_ _ h=>h,aN.pF (o':= .bh ke.e b4 ak aa) aM h1.1 rfl aa5 fb uX,⟨[],rfl,trivial⟩,h⟩
    grind
   grind
  grind
 |_::_,[],h=>exact h.elim
def ac':∀{is:List Nat} {gs:List af},bP (sQ vs) is gs->bP (rel X.G z vs) (is.map λi=>bc.box i 0) gs
 |[],[],_=>trivial
 |[],_::_,h=>h.elim
 |_::_,[],h=>h.elim
 |_::_,_::_,⟨⟨bR,b,h⟩,ai⟩=>⟨⟨b,by grind,h⟩,ac' ai⟩
def arf (cW:iV X) {c:Call} (aM:o.op= .call c) (aN:b9 X.G O z e m k vs) (bp:∀x,rel X.G z vs (dp E x) (bk fr x)) (h:sa X c E O K=J r):cH P (bk fr) o m λ_ v m'=>dH X O z e k vs K r v m':=by
 obtain ⟨ce,dK,ts⟩:=c;cases ce with
 |invoke r m=>cases h
 |value f=>
  simp only[sa] at h;split at h
  ·rename_i ma caps bF;have hU:=bp f;rw[bF] at hU;obtain ⟨gs,s4,bs⟩:=hU;split at h
   ·rename_i ke qT;have U1:caps=[]:=(KK qT).2.1;subst U1;have wk:gs=[]:=by cases gs with
     |nil=>rfl
     |cons _ _=>exact bs.elim
    subst wk;refine cH.call (B2 (args:=(dK.toList.map (bk fr)).toArray) (caps:=#[]) aM s4 (by grind) rfl) ?_;have:=(acG qT aN (w3 bp) h).mono λ_ _ h=>h.1
    grind
   refine cH.call (B2 (args:=(dK.toList.map (bk fr)).toArray) (caps:=gs.toArray) aM s4 (by grind) rfl) ?_;have:=(cW ma _ O K r (dK.toList.map (bk fr)++gs) aN ((w3 bp).append bs.caps) h).mono λ_ _ h=>h.1
   grind
  ·rename_i ma is bF;have hU:=bp f;rw[bF] at hU;obtain ⟨gs,s4,bs⟩:=hU;refine cH.call (B2 (args:=(dK.toList.map (bk fr)).toArray) (caps:=gs.toArray) aM s4 (by grind) rfl) ?_;have:=(cW ma _ O K r (dK.toList.map (bk fr)++gs) aN ((w3 bp).append (ac' bs)) h).mono λ_ _ h=>h.1
   grind
  grind
 |builtin b=>
  cases b with
  |len=>
   simp only[sa] at h;split at h
   ·rename_i x t bl aJ;have uP:dK=#[x]:=by grind
    have oc:ts=#[t]:=by grind
    subst uP oc;exact arN (ts:=#[t]) aM aN (bp x) h
   grind
  |append=>
   simp only[sa] at h;split at h
   ·rename_i x y t u bl aJ;have uP:dK=#[x,y]:=by grind
    have oc:ts=#[t,u]:=by grind
    grind [aqz,are,ard,arG]
   grind
  |cap=>
   simp only[sa] at h;split at h
   ·rename_i x t bl aJ;have uP:dK=#[x]:=by grind
    have oc:ts=#[t]:=by grind
    subst uP oc;split at h
    ·rename_i hE an hu;have aD:=bp x;rw[an] at aD;exact cH.pure (.Jj x t hE aM hu aD) (dH.here (dR:= .c (.int .i64 0)) aN rfl h)
    grind
   grind
  |max=>
   simp only[sa] at h;split at h
   ·rename_i x y bl;have uP:dK=#[x,y]:=by grind
    subst uP;have an:=bp x;have aZ:=bp y;split at h
    ·rename_i cL a c9 b h1 ai;rw[h1] at an;rw[ai] at aZ;split at h
     ·rename_i hk;subst hk;exact j1 aN h (auP aM an aZ) rfl
     grind
    grind
   grind
  |min=>
   simp only[sa] at h;split at h
   ·rename_i x y bl;have uP:dK=#[x,y]:=by grind
    subst uP;have an:=bp x;have aZ:=bp y;split at h
    ·rename_i cL a c9 b h1 ai;rw[h1] at an;rw[ai] at aZ;split at h
     ·rename_i hk;subst hk;exact j1 aN h (auQ aM an aZ) rfl
     grind
    grind
   grind
  |_=>cases h
def arz {s:bc D} {v:af} {p:YR D} (aN:b9 X.G O z e m k vs) (h:XY O s=J p) (aD:rel X.G z vs s v):nn (X.G.M p.u p.bG p.bA) z p.es v\/jD (X.G.M p.u p.bG p.bA) z e m k p.es v:=by
 unfold XY at h;split at h
 ·cases h;exact .inl aD
 ·split at h
  ·rename_i u bG bA es bZ dX aM;cases h;have cG:=aN.obj _ _ v aM aD.1;cases bZ with
   |true=>exact .inl cG
   |false=>exact .inr cG
  grind
 grind
def arp {r:ap} {v:af} {m':Mem} (h:dH X O z e k vs (V3 K) r v m'):dH X O z e k vs K r v m':=by
 obtain ⟨dv,jK,dR,cu,h1,ai,aT,br,cK,fJ⟩:=h;refine ⟨dv,jK, ?_⟩;unfold V3 at fJ;split at fJ
 ·rename_i j;split at fJ
  ·rename_i t1 cs bZ dX hO;have cG:=br.obj _ _ _ hO cK.1;have bb:∃b,v= .pointer (J ⟨b,0,ae⟩):=by cases bZ<;>exact ⟨_,cG.choose_spec.choose_spec.1⟩
   obtain ⟨b,rfl⟩:=bb;exact ⟨.box j 0,cu,h1,ai,aT,br,⟨b,cK.1,rfl⟩,fJ⟩
  grind
 grind
def Ln (cW:iV X) {op:Op} (aM:o.op=op) (aN:b9 X.G O z e m k vs) (bp:∀x,rel X.G z vs (dp E x) (bk fr x)) (h:iR X op E O K=J r):cH P (bk fr) o m λ_ v m'=>dH X O z e k vs K r v m':=by
 cases op with
 |move x=>exact j1 aN h (auR aM rfl) (bp x)
 |assign x=>exact j1 aN h (asF aM rfl) (bp x)
 |nilCheck x=>
  have an:=bp x;simp only[iR] at h;split at h
  ·rename_i i off bf;have oT:=an;rw[bf] at oT;obtain ⟨b,_,aD⟩:=oT;exact j1 aN h (by rw[aD];exact .nilCheck x _ aM aD) an
  ·rename_i i bf;have oT:=an;rw[bf] at oT;obtain ⟨b,l,_,aD⟩:=oT;exact j1 aN h (by rw[aD];exact .nilCheck x _ aM aD) an
  ·rename_i i bX dx off bf;have oT:=an;rw[bf] at oT;obtain ⟨b,f0,l,c,_,aD⟩:=oT;exact j1 aN h (by rw[aD];exact .nilCheck x _ aM aD) an
  ·rename_i t cs off bf;have oT:=an;rw[bf] at oT;obtain ⟨b,iw,ds,aD,_⟩:=oT;exact j1 aN h (by rw[aD];exact .nilCheck x _ aM aD) an
  grind
 |extract x i=>
  have an:=bp x;simp only[iR] at h;split at h
  ·rename_i l bf;rw[bf] at an;obtain ⟨ds,aD,aR⟩:=an;split at h
   ·rename_i c ay;obtain ⟨w,hw,aV⟩:=aR.get i _ ay;exact j1 aN h (adm aM aD hw) aV
   ·rename_i p ay;obtain ⟨w,hw,aV⟩:=aR.get i _ ay;exact j1 aN h (adm aM aD hw) aV
   grind
  grind
 |pick c a b=>
  have ay:=bp c;simp only[iR] at h;split at h
  ·rename_i bf;rw[bf] at ay;exact j1 aN h (aeH (t:=aa) aM ay (if_pos rfl)) (bp a)
  ·rename_i bf;rw[bf] at ay;exact j1 aN h (aeH (t:=ak) aM ay (if_neg (by simp))) (bp b)
  grind
 |binOp op t x y u=>
  simp only[iR] at h;have an:=bp x;have aZ:=bp y;split at h
  ·rename_i t1 c1 t2 c2 h1 ai;rw[h1] at an;rw[ai] at aZ;obtain ⟨c,v,k1,bb,aV⟩:=ats aM an aZ h;exact j1 aN k1 bb aV
  ·obtain ⟨c,v,k1,bb,aV⟩:=asr aM aN an aZ h;exact j1 aN k1 bb aV
 |unOp op t x=>
  have an:=bp x;cases op with
  |not=>
   simp only[iR] at h;split at h
   ·rename_i b bf;rw[bf] at an;exact j1 aN h (apX aM an) rfl
   grind
  |neg=>
   simp only[iR] at h;split at h
   ·rename_i kk a bf;rw[bf] at an;exact j1 aN h (apV aM an) rfl
   grind
  |_=>grind [iR]
 |convert s t x=>exact arh aM aN (bp x) h
 |indexAddr t x y=>
  cases x with
  |global g=>exact arL aM aN (bp y) h
  |_=>exact arM aM aN (bp _) (bp y) h
 |field t x n=>exact aqC aM aN (bp x) h
 |fieldAddr t x n=>exact arJ aM aN (bp x) h
 |load t x=>
  simp only[iR] at h;split at h
  ·unfold aea at h;refine (acF aM aN (bp x) h).mono λ_ v m' bB=> ?_;obtain ⟨dv,jK,dR,cu,bR,h1,ai,aT,br,cK⟩:=bB;dsimp only at cK;split at cK
   ·rename_i j;split at cK
    ·rename_i c dz bF;obtain ⟨z2,ec,a2,a3,a4⟩:=adL aT bF br.1;exact ⟨z2,jK, .c c,dz,bR.trans ec,h1.trans a2,ai,a3,a4,cK⟩
    grind
   grind
  ·split at h
   ·grind [aqD]
   ·exact (acF aM aN (bp x) h).mono λ_ _ _ h=>arp h
 |store t x y=>exact aqG aM aN (bp x) (bp y) h
 |alloc t=>exact aqy aM aN h
 |box t x=>
  simp only[iR] at h;split at h
  ·rename_i i cs az ay;split at h
   ·rename_i aR;exact (arH aM aN (bp x) az ay aR h).mono λ_ _ _ h=>aro h
   grind
  grind
 |makeSlice t x y=>
  have an:=bp x;simp only[iR] at h;split at h
  ·rename_i ht kk n aJ bf;rw[bf] at an;split at h
   ·exact aqF aM aJ aN an h
   ·split at h
    ·rename_i ti iE y2;exact arm aM aJ aN an y2 h
    grind
  grind
 |buildSlice t l cQ=>
  simp only[iR] at h;split at h
  ·grind [arP]
  ·split at h
   ·rename_i ht aJ;split at h
    ·rename_i ti iE;exact aqB aM aJ aN bp h
    grind
   grind
 |build t cQ=>
  simp only[iR] at h;split at h
  ·rename_i bY ti aJ iE;split at h
   ·rename_i bb;split at h
    ·rename_i cs ay;exact aqf aM aJ aN bp bb ay h
    grind
   grind
  ·rename_i n Jq ti aJ iE;split at h
   ·rename_i kk hk;split at h
    ·rename_i cs ay;exact aqA aM aJ hk aN bp ay h
    grind
   grind
  grind
 |slice t x cf az h8=>
  cases h8 with
  |none=>exact ari aM aN bp (bp x) h
  |some h8=>
   cases cf with
   |some _=>grind [iR]
   |none=>
    cases az with
    |none=>grind [iR]
    |some y=>exact arj aM aN bp h
 |index t x y=>
  have an:=bp x;have aZ:=bp y;simp only[iR] at h;split at h
  ·rename_i s kk n aJ h1 ai;rw[h1] at an;rw[ai] at aZ;obtain ⟨c,ay,h⟩:=bind_some h;exact as6 aM aJ an aZ ay (dH.here (dR:= .c (.int .u8 (UInt8.toNat c:Int))) aN rfl h)
  grind [ark]
 |makeFunc fn first cap=>
  cases fn with
  |func f=>
   simp only[iR] at h;split at h
   ·split at h
    ·rename_i is bF ay;exact arK aM bF aN bp ay h
    grind
   ·split at h
    ·rename_i caps cu bF ay;exact asC aM bF aN bp ay h
    grind
  |_=>grind [iR]
 |makeMap t rs=>
  cases rs with
  |none=>
   simp only[iR] at h;split at h
   ·rename_i bG bA aJ;exact arO aM aJ aN h
   grind
  |some _=>grind [iR]
 |lookup t x y ok=>
  have an:=bp x;have aZ:=bp y;simp only[iR] at h;split at h
  ·rename_i u bG bA es aR;have hm:=arz aN aR an;split at h
   ·rename_i cL v1 c9 v2 aJ hu;split at h
    ·rename_i eB;obtain ⟨rfl,rfl,rfl,rfl⟩:=eB;split at h
     ·rename_i eP aau;split at h
      ·rename_i a bl;exact arl aM aJ hu aN hm aZ bl h
      grind
     grind
    grind
   grind
  grind
 |mapUpdate t x y w=>
  have an:=bp x;have aZ:=bp y;have hw:=bp w;simp only[iR] at h;split at h
  ·rename_i i d h1 aT;rw[h1] at an;rw[aT] at hw;split at h
   ·rename_i u bG bA es dX hO;split at h
    ·rename_i cL v1 c9 v2 aJ hu;split at h
     ·rename_i eB;obtain ⟨rfl,rfl,rfl,rfl⟩:=eB;split at h
      ·rename_i eP aau;split at h
       ·rename_i a b bl aw;exact adk (.inl aM) aJ hu aN hO an.1 aZ hw bl aw h
       grind
      grind
     grind
    grind
   grind
  grind
 |insert t x y w=>
  have an:=bp x;have aZ:=bp y;have hw:=bp w;simp only[iR] at h;split at h
  ·rename_i i d h1 aT;rw[h1] at an;rw[aT] at hw;split at h
   ·rename_i u bG bA es dX hO;split at h
    ·rename_i cL v1 c9 v2 aJ hu;split at h
     ·rename_i eB;obtain ⟨rfl,rfl,rfl,rfl⟩:=eB;split at h
      ·rename_i eP aau;split at h
       ·rename_i a b bl aw;exact adk (.inr aM) aJ hu aN hO an.1 aZ hw bl aw h
       grind
      grind
     grind
    grind
   grind
  grind
 |call c=>exact arf cW aM aN bp h
 |_=>grind [iR]
end
end Go.aF
end
section
namespace Go.aF
section
variable {P:bI} {D:Nat->Type} {X:e3 P D} {ap:Type} {z z':Nat->bW} {e m m':Mem} {k:Option Nat} {vs vs':List af} {fr:Nat->af} {E:List (Nat×bc D)} {O cr:List (ba D)} {o:Oper} {r:ap}
theorem gG.refl (m:Mem):gG m m ae:=⟨e4 _,λ_ _ _=>rfl⟩
def gG.push (m:Mem) (Y:bW):gG m (m.push Y) ae:=⟨mo _,λb aw _=>if_neg (by omega)⟩
def gG.put (m:Mem) (c:Nat) (Y:bW):gG m (m.put c Y) (J c):=⟨e4 _,λb aw bB=>if_neg (λh=>bB (by rw[h]))⟩
def gG.any (h:gG m m' ae) (q:Option Nat):gG m m' q:=⟨h.1,λb aw _=>h.2 b aw (by simp)⟩
def cH.Ke {ap:bS->af} {K mj:Tag->af->Mem->Prop} (h:cH P ap o m K)
  (h1:∀v,dD P ap o v->(∃t,K t v m)->mj .pure v m) (ai:∀v,fH P ap o m v->K (.read λm=>fH P ap o m v) v m->mj (.read λm=>fH P ap o m v) v m)
  (aT:∀Y v,jC P ap o m.next Y v->K .new v (m.push Y)->mj .new v (m.push Y)) (br:∀n v m',hR P (jn P n) ap o m v m'->K .fX v m'->mj .fX v m'):cH P ap o m mj:=by
 rcases h with ⟨v,h,g⟩|⟨v,I,h,g⟩|⟨v,h,g⟩|⟨Y,v,h,g⟩|⟨n,v,m',h,g⟩
 ·exact .inl ⟨v,h,h1 v h ⟨_,g⟩⟩
 ·exact .inl ⟨v,h,h1 v h ⟨_,g⟩⟩
 ·exact .inr (.inr (.inl ⟨v,h,ai v h g⟩))
 ·exact .inr (.inr (.inr (.inl ⟨Y,v,h,aT Y v h g⟩)))
 ·exact .inr (.inr (.inr (.inr ⟨n,v,m',h,br n v m' h g⟩)))
def ash {C:FuncId->Array af->Mem->af->Mem->Prop} {v:af} (bp:∀x,rel X.G z vs (dp E x) (bk fr x)) (h:hR P C (bk fr) o m v m') {ts:List Nat} (aJ:sj X E o.op=J ts)
  (aD:∀x dK sr,o.op≠ .call {callee:= .value x,args:=dK,argTypes:=sr}):∃q,gG m m' q/\oI vs ts q:=by
 cases h with
 |store t x y b off i L e h an az hm aD bf aR=>
  simp only[sj,h] at aJ;have aV:=bp x;split at aJ
  ·rename_i j p bf;cases aJ;rw[bf] at aV;obtain ⟨dJ,g1,g2⟩:=aV;rw[an] at g2;cases g2;exact ⟨_,gG.put m b _, .inr ⟨j,by simp,_,g1,rfl⟩⟩
  ·rename_i j u dx p bf;cases aJ;rw[bf] at aV;obtain ⟨dJ,f0,l,c,g1,g2⟩:=aV;rw[an] at g2;cases g2;exact ⟨_,gG.put m b _, .inr ⟨j,by simp,_,g1,rfl⟩⟩
  grind
 |call f args v m' h cW=>
  obtain ⟨x,dK,sr,first,cap,h,_⟩:=h
  grind
 |vZ x y t u e i a l c h _ _ _ _ _ _=>exact ⟨ae,gG.refl _, .inl rfl⟩
 |sP x y t u e i z a l c n ew new h _ _ _ _ _ _ _ _ _ _ _ _ _ _=>exact ⟨ae,gG.push _ _, .inl rfl⟩
 |yy x y t u e i b off l c k n L new h _ _ an _ _ kK aoc _ qR _=>
  simp only[sj,h] at aJ;have aV:=bp x;split at aJ
  ·rename_i bf;rw[bf] at aV;have aV:bk fr x= .slice ae 0 0:=aV
   grind
  ·rename_i j bf;cases aJ;rw[bf] at aV;exact ⟨_,gG.put m b _, .inr ⟨j,by simp,_,aV.1,by rw[an];rfl⟩⟩
  ·rename_i j _ _ _ bf;cases aJ;rw[bf] at aV;obtain ⟨w,g1,g2⟩:=aV;exact ⟨_,gG.put m b _, .inr ⟨j,by simp,_,g1.1,by rw[<-g2.blk,an];rfl⟩⟩
  ·rename_i bf;cases aJ;rw[bf] at aV;obtain ⟨_,_,a,bl⟩:=aV
   grind
  grind
 |vY x y t u e i b off l c n L new h _ _ an _ kK aoc _ qR _=>
  simp only[sj,h] at aJ;have aV:=bp x;split at aJ
  ·rename_i bf;rw[bf] at aV;have aV:bk fr x= .slice ae 0 0:=aV
   grind
  ·rename_i j bf;cases aJ;rw[bf] at aV;exact ⟨_,gG.put m b _, .inr ⟨j,by simp,_,aV.1,by rw[an];rfl⟩⟩
  ·rename_i j _ _ _ bf;cases aJ;rw[bf] at aV;obtain ⟨w,g1,g2⟩:=aV;exact ⟨_,gG.put m b _, .inr ⟨j,by simp,_,g1.1,by rw[<-g2.blk,an];rfl⟩⟩
  ·rename_i bf;cases aJ;rw[bf] at aV;obtain ⟨_,_,a,bl⟩:=aV;rw[an] at bl;cases bl;have bR:n=0:=by omega
   have yT:new=[]:=yl (by grind);subst yT;refine ⟨ae,⟨e4 _,λc _ _=> ?_⟩, .inl rfl⟩
   grind [Mem.put,eY]
  grind
 |append x y t u e i z b off l n L new h _ _ _ _ _ _ an _ _ _ _ _ _=>
  simp only[sj,h] at aJ;have aV:=bp x;have ay:gG m ((m.put b .dead).push (.own ((L.drop off).take (l*i.size)++new) e)) (J b):=by have:=gG.put m b .dead;exact ⟨mo _,λc ay bB=>by rw[show ((m.put b .dead).push _).blk c=(m.put b .dead).blk c from if_neg (by show c≠m.next;omega)];exact this.2 c ay bB⟩
  split at aJ
  ·rename_i bf;rw[bf] at aV;have aV:bk fr x= .slice ae 0 0:=aV
   grind
  ·rename_i j bf;cases aJ;rw[bf] at aV;exact ⟨_,ay, .inr ⟨j,by simp,_,aV.1,by rw[an];rfl⟩⟩
  ·rename_i j _ _ _ bf;cases aJ;rw[bf] at aV;obtain ⟨w,g1,g2⟩:=aV;exact ⟨_,ay, .inr ⟨j,by simp,_,g1.1,by rw[<-g2.blk,an];rfl⟩⟩
  ·rename_i bf;cases aJ;rw[bf] at aV;obtain ⟨_,mS,a,bl⟩:=aV
   grind
  grind
 |clear x t e i z b off l c L h _ _ _ _ _ _ _ _ _=>grind [sj]
 |copy x y t u e i b off l c L cs h _ _ _ _ _ _ _=>grind [sj]
 |mapUpdate hZ x jW j3 u bG bA b L eo vc F mJ ho h _ _ an _ _ _ _ _ _ _ _ _ _ _ _ _ _ _=>
  have aV:=bp x;have aJ:(match dp E x with| .c (.own j)=>J [j]|_=>ae)=J ts:=by rcases h with h|h<;>(rw[h] at aJ;exact aJ)
  split at aJ
  ·rename_i j bf;cases aJ;rw[bf] at aV;exact ⟨_,gG.put m b _, .inr ⟨j,by simp,_,aV.1,by rw[an];rfl⟩⟩
  grind
theorem ab3 {caps:List (Nat×List (cv D))}:∀{l:List (bc D)},q1 (l++caps.map λp=>bc.hd p.1 p.2 0)=q1 l
 |[]=>by
  induction caps with
  |nil=>rfl
  |cons c caps a1=>exact a1
 |s::l=>by cases s<;>simp only[List.cons_append,q1,ab3 (l:=l)]
def ate (cW:iV X) {K:bc D->List (ba D)->Option ap} (aN:b9 X.G O z e m k vs) (bp:∀x,rel X.G z vs (dp E x) (bk fr x)) (qQ:lT o.op=aa) {ts:List Nat} (aJ:sj X E o.op=J ts) (h:iR X o.op E O K=J r):
  cH P (bk fr) o m λ_ v m'=>dH X O z e k vs K r v m'/\(tA X E O o.op=aa->m'=m)/\∃q,gG m m' q/\oI vs ts q:=by
 have abG:(∀x dK sr,o.op≠ .call {callee:= .value x,args:=dK,argTypes:=sr})->∀{p:Prop},tA X E O o.op=aa->p:=λaD p bm=>by
  unfold tA at bm;split at bm
  ·rename_i c ay;split at bm
   ·rename_i f bF;obtain ⟨ce,dK,ts⟩:=c
    grind
   grind
  grind
 have gen:(∀x dK sr,o.op≠ .call {callee:= .value x,args:=dK,argTypes:=sr})->cH P (bk fr) o m λ_ v m'=>dH X O z e k vs K r v m'/\(tA X E O o.op=aa->m'=m)/\∃q,gG m m' q/\oI vs ts q:=λaD=>
  (Ln cW rfl aN bp h).Ke (λv _ ⟨_,hk⟩=>⟨hk,λ_=>rfl,ae,gG.refl _, .inl rfl⟩) (λv _ hk=>⟨hk,λ_=>rfl,ae,gG.refl _, .inl rfl⟩) (λY v _ hk=>⟨hk,abG aD,ae,gG.push _ _, .inl rfl⟩) λn v m' he hk=>⟨hk,abG aD,ash bp he aJ aD⟩
 by_cases aD:∀x dK sr,o.op≠ .call {callee:= .value x,args:=dK,argTypes:=sr}
 ·grind
 ·simp only[Classical.not_forall,ne_eq,Classical.not_not] at aD;obtain ⟨f,dK,sr,aM⟩:=aD;rw[aM] at h aJ;simp only[sj] at aJ;have h:sa X {callee:= .value f,args:=dK,argTypes:=sr} E O K=J r:=h;simp only[sa] at h;split at h
  ·rename_i ma caps bF;rw[bF] at aJ;simp only at aJ;have hU:=bp f;rw[bF] at hU;obtain ⟨gs,s4,bs⟩:=hU;split at h
   ·rename_i ke qT;rw[qT] at aJ;cases aJ;have U1:caps=[]:=(KK qT).2.1;subst U1;have wk:gs=[]:=by cases gs with
     |nil=>rfl
     |cons _ _=>exact bs.elim
    subst wk;refine cH.call (B2 (args:=(dK.toList.map (bk fr)).toArray) (caps:=#[]) aM s4 (by grind) rfl) ?_
    grind [tA,acG,w3]
   rename_i aa6;rw[aa6] at aJ;simp only at aJ;split at aJ
   ·grind
   rename_i hw;have hw:X.W ma=ak:=by grind
   cases aJ;refine cH.call (B2 (args:=(dK.toList.map (bk fr)).toArray) (caps:=gs.toArray) aM s4 (by grind) rfl) ?_;have:=(cW ma _ O K r (dK.toList.map (bk fr)++gs) aN ((w3 bp).append bs.caps) h).mono λv m' cp=>(⟨cp.1,cp.2.1,cp.2.2 hw⟩:_/\_/\_)
   grind [ab3,tA]
  ·grind
  grind
def WB {C:FuncId->Array af->Mem->af->Mem->Prop} (cW:∀f args m v m',C f args m v m'->m.next<=m'.next) {ap:bS->af} {v:af} (h:hR P C ap o m v m'):m.next<=m'.next:=by
 cases h with
 |call f args v m' h ay=>grind
 |sP=>exact mo _
 |append=>exact mo _
 |_=>exact e4 _
def aq' {C:FuncId->Array af->Mem->af->Mem->Prop} (cW:∀f args m v m',C f args m v m'->m.next<=m'.next) {ap:bS->af} {v:af} (h:ln P C ap o m v m'):m.next<=m'.next:=by
 cases h with
 |new h=>exact mo _
 |fX h=>exact WB cW h
 |_=>grind
def WW {C:FuncId->Array af->Mem->af->Mem->Prop} (cW:∀f args m v m',C f args m v m'->m.next<=m'.next) {ops:List Oper}:∀{l:List Oper} {fr cb:Nat->af} {m m':Mem},k6 P C ops l fr m cb m'->m.next<=m'.next
 |[],_,_,_,_,⟨_,h⟩=>by grind
 |o::l,fr,cb,m,m',h=>by
  unfold k6 at h;split at h
  ·obtain ⟨v,m1,h1,ai⟩:=h;exact jd (aq' cW h1) (WW cW ai)
  ·exact WW cW h
def zp {C:FuncId->Array af->Mem->af->Mem->Prop} (cW:∀f args m v m',C f args m v m'->m.next<=m'.next) {ops:List Oper} {B:Array Nat}:∀{l:List Oper} {i:Nat} {A:Acc} {fr cb:Nat->af} {m m':Mem},hW P C ops B i l A fr m cb m'->m.next<=m'.next
 |[],_,_,_,_,_,_,⟨_,h⟩=>by grind
 |o::l,i,A,fr,cb,m,m',h=>by
  unfold hW at h;split at h
  ·rcases h with ⟨v,_,h⟩|⟨v,_,_,h⟩|⟨Y,v,_,h⟩|⟨v,m1,h1,_,_,h⟩
   ·exact zp cW h
   ·exact zp cW h
   ·exact jd (mo _) (zp cW h)
   ·exact jd (WB cW h1) (zp cW h)
  ·exact zp cW h
def aqZ {C:FuncId->Array af->Mem->af->Mem->Prop} (cW:∀f args m v m',C f args m v m'->m.next<=m'.next):∀(n:Nat) {c:Code} {fr cb:Nat->af} {m m':Mem} {e:fG},lS P C n c fr m e cb m'->m.next<=m'.next:=by
 intro n;induction n with
 |zero=>intro c fr cb m m' e h;exact h.elim
 |succ n a1=>
  intro c fr cb m m' e h;cases c with
  |skip=>obtain ⟨_,rfl,rfl⟩:=h;grind
  |label l=>obtain ⟨_,rfl,rfl⟩:=h;grind
  |exit id=>obtain ⟨_,rfl,rfl⟩:=h;grind
  |ret=>obtain ⟨_,rfl,rfl⟩:=h;grind
  |region id ops d=>
   cases d with
   |false=>exact WW cW h.2
   |true=>exact zp cW h.2
  |seq a b=>
   rcases h with ⟨bX,fY,m1,h1,ai⟩|h
   rotate_left
   ·exact h.2.next
   grind
  |cond c a b=>obtain ⟨t,_,h1⟩:=h;grind
  |block id c=>obtain ⟨bX,h1,_⟩:=h;grind
  |scope c=>exact a1 h
  |loop c=>
   obtain ⟨bX,fY,m1,h1,ai⟩:=h
   grind
  |rangeFunc f cQ x y=>exact h.elim
  |goto l=>exact h.elim
  |refuse s=>exact h.elim
def ab6:∀(n:Nat) (f:FuncId) (args:Array af) (m:Mem) (v:af) (m':Mem),jn P n f args m v m'->m.next<=m'.next
 |0,_,_,_,_,_,h=>h.elim
 |n+1,f,args,m,v,m',h=>by
  rcases h with ⟨_,h⟩|⟨fn,c,e,fr,m1,vs,_,_,_,_,h,_,_,_,_,ai⟩
  ·cases h<;>first|grind|grind|grind
  ·have h1:=aqZ (ab6 n) n h;rcases ai with rfl|⟨rfl,_⟩
   ·grind
   ·exact e4 _
def AM (m:Mem) (I:Mem->Prop) (ob:Option Nat):Prop:=∀m',(∀b,ob=J b->m'.blk b=m.blk b)->I m'
def ac5 {b off:Nat} {v:af} (h:m.load b off=J v) (aw:m'.blk b=m.blk b):m'.load b off=J v:=by
 grind [Mem.load]
theorem KY {b:Nat} (aw:m'.blk b=m.blk b):∀(n off:Nat),kd m' b off n=kd m b off n
 |0,_=>rfl
 |n+1,off=>by
  have:∀o,m'.load b o=m.load b o:=λo=>by grind [Mem.load]
  simp only[kd,this,KY aw n]
def uv (z:Nat->bW) (vs:List af) (ob:Option Nat):l4->Prop| .py=>False| .lost=>False| .bZ=>∀b,ob=J b->(z b).iD| .ob j=>∀b,ob=J b->∃u,vs[j]? =J u/\dQ u=J b
def vW (z:Nat->bW) (vs:List af) (b:Nat):l4->Prop| .py=>False| .lost=>False| .bZ=>(z b).iD| .ob j=>∃u,vs[j]? =J u/\dQ u=J b
def vW.at {b:Nat} {s:l4} (h:vW z vs b s):uv z vs (J b) s:=by
 cases s with
 |py=>exact h
 |lost=>exact h
 |bZ=>intro c ay;cases ay;exact h
 |ob j=>intro c ay;cases ay;exact h
def aue {s:l4} {v:af} (aN:b9 X.G O z e m k vs) (bp:∀x,rel X.G z vs (dp E x) (bk fr x)) (bf:q9 E o.op=J s) (h:fH P (bk fr) o m v):
  ∃ob,AM m (λm=>fH P (bk fr) o m v) ob/\uv z vs ob s:=by
 have amR:∀{t:Nat} {c:cv D} {cs:List (cv D)} {off b VX:Nat},rel X.G z vs (.hd t (c::cs) off) (.pointer (J ⟨b,VX,ae⟩))->(z b).iD:=by
  rintro t c cs off b VX ⟨dJ,o',ds,h1,ai,aT⟩;cases h1;cases ds with
  |nil=>exact aT.elim
  |cons d ds=>exact w5 (ai 0 d rfl)
 have ptr:∀{x:bS} {b off:Nat},bk fr x= .pointer (J ⟨b,off,ae⟩)->(match dp E x with| .wb _ _=>J l4.bZ| .hd _ (_::_) _=>J l4.bZ| .box j _=>J (.ob j)| .el j _ _ _=>J (.ob j)|_=>ae)=J s->vW z vs b s:=by
  intro x b off an bf;have aV:=bp x;split at bf
  ·rename_i h1;rw[h1,an] at aV;obtain ⟨_,_,g2⟩:=aV
   grind
  ·rename_i h1;cases bf;rw[h1,an] at aV;exact amR aV
  ·rename_i h1;cases bf;rw[h1,an] at aV;obtain ⟨dJ,g1,g2⟩:=aV;cases g2;exact ⟨_,g1,rfl⟩
  ·rename_i h1;cases bf;rw[h1,an] at aV;obtain ⟨dJ,f0,l,c,g1,g2⟩:=aV;cases g2;exact ⟨_,g1,rfl⟩
  grind
 have bh:∀{t:Nat} {xs:List (D t)} {b off l c:Nat},fA (X.G.T t) z xs (.slice (J ⟨b,off,ae⟩) l c)->(z b).iD:=by
  rintro t xs b off l c (⟨h1,_⟩|⟨dJ,o',c3,h1,ai,_⟩)
  ·grind
  grind
 cases h with
 |load t x b off d v h an aJ bg aD=>simp only[q9,h] at bf;exact ⟨J b,λm' hm=> .load t x b off d v h an aJ bg (ac5 aD (hm b rfl)),(ptr an bf).at⟩
 |wc t x g n jx h an bB aJ bs=>
  have aV:=bp x;simp only[q9,h] at bf;have wj:s= .bZ:=by
   split at bf
   ·grind
   ·grind
   ·rename_i g1;rw[g1,an] at aV;obtain ⟨_,_,g2⟩:=aV
    grind
   ·rename_i g1;rw[g1,an] at aV;obtain ⟨_,_,_,_,_,g2⟩:=aV
    grind
   grind
  subst wj;exact ⟨ae,λm' _=> .wc t x g n jx h an bB aJ bs,λb aw=>by grind⟩
 |wI t x b off d i cs h an aJ bg az aD=>simp only[q9,h] at bf;exact ⟨J b,λm' hm=> .wI t x b off d i cs h an aJ bg az (by grind [KY]),(ptr an bf).at⟩
 |slice t x cf az cz i L b off l n dG h aJ fm an hm eW eN h1 ai aT=>
  simp only[q9,h] at bf;refine ⟨J b,λm' n4=> .slice t x cf az cz i L b off l n dG h aJ fm an (by grind) eW eN h1 ai aT,vW.at ?_⟩;have aV:=bp x;split at bf
  ·rename_i g;rw[g,an] at aV;cases aV
  ·rename_i g;cases bf;rw[g,an] at aV;exact bh aV
  ·rename_i g;cases bf;rw[g,an] at aV;exact ⟨_,aV.1,rfl⟩
  grind
 |vx t x cf az cz i L b off l c k n dG h aJ fm an hk hm eW eN h1 ai aT=>
  simp only[q9,h] at bf;refine ⟨J b,λm' n4=> .vx t x cf az cz i L b off l c k n dG h aJ fm an hk (by grind) eW eN h1 ai aT,vW.at ?_⟩;have aV:=bp x;split at bf
  ·rename_i g;rw[g,an] at aV;cases aV
  ·rename_i g;cases bf;rw[g,an] at aV;exact bh aV
  ·rename_i g;cases bf;rw[g,an] at aV;exact ⟨_,aV.1,rfl⟩
  grind
 |str jx t x cz b off l c cs h oa he aJ an aD=>
  simp only[q9,h] at bf;refine ⟨J b,λm' n4=> .str jx t x cz b off l c cs h oa he aJ an (by grind [KY]),vW.at ?_⟩;have aV:=bp x;split at bf
  ·rename_i g;cases bf;rw[g,an] at aV;exact bh aV
  ·rename_i g;cases bf;rw[g,an] at aV;exact ⟨_,aV.1,rfl⟩
  ·rename_i g;rw[g,an] at aV;cases aV
  ·rename_i g;rw[g,an] at aV;cases aV
  grind
 |zQ jx t x cz l c h oa he aJ an=>
  simp only[q9,h] at bf;refine ⟨ae,λm' n4=> .zQ jx t x cz l c h oa he aJ an, ?_⟩;have aV:=bp x;split at bf
  ·cases bf;intro b aw;grind
  ·cases bf;intro b aw;grind
  ·rename_i g;rw[g,an] at aV;cases aV
  ·rename_i g;rw[g,an] at aV;cases aV
  grind
 |lookup hZ x dx ok u bG bA b L F i z' v0 t ho h jk hu an nC tf mj bF hk bs az bx dw aR=>
  simp only[q9,h] at bf;rcases an with ⟨an,hm,qN⟩|⟨an,qN⟩
  ·refine ⟨J b,λm' n4=> .lookup hZ x dx ok u bG bA b L F i z' v0 t ho h jk hu (.inl ⟨an,by grind,qN⟩) nC tf mj bF hk bs az bx dw aR,vW.at ?_⟩;have aV:=bp x;split at bf
   ·rename_i g;cases bf;rw[g,an] at aV;rcases aV with ⟨h1,_⟩|⟨r,h1,ai⟩
    ·grind
    ·cases h1;show (z _).iD;rw[ai];exact True.intro
   ·rename_i g;cases bf;rw[g,an] at aV;exact ⟨_,aV.1,rfl⟩
   grind
  ·refine ⟨ae,λm' n4=> .lookup hZ x dx ok u bG bA b L F i z' v0 t ho h jk hu (.inr ⟨an,qN⟩) nC tf mj bF hk bs az bx dw aR, ?_⟩;split at bf
   ·cases bf;intro b aw;grind
   ·cases bf;intro b aw;grind
   grind
def agz (z:Nat->bW) (m:Mem) (vs:List af) (I:Mem->Prop) (s:l4):Prop:=s= .lost\/∃ob,AM m I ob/\(∀b,ob=J b->b<m.next)/\uv z vs ob s
structure iI (z:Nat->bW) (m:Mem) (vs:List af) (A:Acc) (L:gk):Prop where
 rd:∀x∈A.reads,∃y∈L.rd,y.1=x.1/\agz z m vs x.2 y.2
 j7:∀x∈A.iC,∃y∈L.j7,y.1=x.1/\(y.2.1=aa->m=x.2)/\∀j∈y.2.2,∃v,vs[j]? =J v/\∀b,dQ v=J b->b<m.next/\m.blk b=x.2.blk b
 jZ:∀x∈A.news,∃y∈L.jZ,y.1=x.1/\x.2<m.next/\∃v,vs[y.2]? =J v/\dQ v=J x.2
def AM.step {I:Mem->Prop} {ob q:Option Nat} (h:AM m I ob) (aw:∀b,ob=J b->b<m.next) (ay:gG m m' q) (bm:∀b,ob=J b->q≠J b):AM m' I ob:=λm2 hm=>h m2 λb e5=>by
 rw[hm b e5,ay.2 b (aw b e5) (bm b e5)]
def uv.mono {ob:Option Nat} {s:l4} (h:uv z vs ob s) (bx:fl z z') (aD:∀(i:Nat) (u:af),vs[i]? =J u->vs'[i]? =J u):uv z' vs' ob s:=by
 cases s with
 |py=>exact h
 |lost=>exact h
 |bZ=>intro b aw;rw[bx b (h b aw)];exact h b aw
 |ob j=>intro b aw;obtain ⟨u,g1,g2⟩:=h b aw;grind
def iI.step {A:Acc} {L:gk} {q:Option Nat} (h:iI z m vs A L) (bx:fl z z') (aD:∀(i:Nat) (u:af),vs[i]? =J u->vs'[i]? =J u) (ay:gG m m' q)
  (L':gk) (aV:∀y∈L.rd,∃la∈L'.rd,la.1=y.1/\(la.2= .lost\/la.2=y.2/\∀ob,uv z vs ob y.2->∀b,ob=J b->q≠J b))
  (he:∀y∈L.j7,∃la∈L'.j7,la.1=y.1/\(la.2.1=aa->y.2.1=aa/\m'=m)/\∀j∈la.2.2,j∈y.2.2/\∀v b,vs[j]? =J v->dQ v=J b->q≠J b) (bB:∀y∈L.jZ,y∈L'.jZ):iI z' m' vs' A L' where
 rd:=λx an=>by
  obtain ⟨y,aZ,h1,ai⟩:=h.rd x an;obtain ⟨la,wB,g1,g2⟩:=aV y aZ;refine ⟨la,wB,by grind, ?_⟩;rcases g2 with g2|⟨g2,g3⟩
  ·exact .inl g2
  ·rcases ai with ai|⟨ob,cL,c9,fo⟩
   ·exact .inl (by grind)
   ·exact .inr ⟨ob,cL.step c9 ay (g3 ob fo),λb aw=>hS (c9 b aw) ay.1,by rw[g2];exact fo.mono bx aD⟩
 j7:=λx an=>by obtain ⟨y,aZ,h1,bR,ai⟩:=h.j7 x an;obtain ⟨la,wB,g1,g0,g2⟩:=he y aZ;refine ⟨la,wB,by grind,λbF=>by grind,λj bn=> ?_⟩;obtain ⟨g3,g4⟩:=g2 j bn;obtain ⟨v,cL,c9⟩:=ai j g3;refine ⟨v,aD _ _ cL,λb aw=> ?_⟩;obtain ⟨fo,k4⟩:=c9 b aw;exact ⟨hS fo ay.1,by rw[ay.2 b fo (g4 v b cL aw)];grind⟩
 jZ:=λx an=>by obtain ⟨y,aZ,h1,ai,v,aT,br⟩:=h.jZ x an;exact ⟨y,bB y aZ,h1,hS ai ay.1,v,aD _ _ aT,br⟩
def iI.quiet {A:Acc} {L:gk} (h:iI z m vs A L) (bx:fl z z') (aD:∀(i:Nat) (u:af),vs[i]? =J u->vs'[i]? =J u) (hm:m'=m):iI z' m' vs' A L:=
 h.step (q:=ae) bx aD (by grind [gG.refl]) L (λy aZ=>⟨y,aZ,rfl, .inr ⟨rfl,λ_ _ _ _=>by simp⟩⟩) (λy aZ=>⟨y,aZ,rfl,λh=>⟨h,hm⟩,λj bn=>⟨bn,λ_ _ _ _=>by simp⟩⟩) λy aZ=>aZ
theorem adP {j:Nat} (aN:b9 X.G O z e m k vs) (h:Lc O j=aa):∃v,vs[j]? =J v/\∀b,dQ v=J b->b<m.next/\(z b≠ .dead\/∃o,O[j]? =J o/\o.live=aa):=by
 unfold Lc at h;have fin:∀{o:ba D},O[j]? =J o->o≠ .dead->(∀t w,o≠ .box t [] aa w)->∃v,vs[j]? =J v/\∀b,dQ v=J b->b<m.next/\(z b≠ .dead\/∃o,O[j]? =J o/\o.live=aa):=by
  intro o aM bg n2;obtain ⟨v,aD,cG⟩:=aN.at aM;refine ⟨v,aD,λb aw=> ?_⟩;cases aR:o.live with
  |true=>exact ⟨(cG.lt aR b aw).1, .inr ⟨o,aM,aR⟩⟩
  |false=>
   have bx:z b≠ .dead:=by
    cases o with
    |dead=>grind
    |bh t xs bZ w=>
     cases bZ with
     |false=>cases aR
     |true=>
      rcases (cG:fA (X.G.T t) z xs v) with ⟨rfl,_⟩|⟨dJ,o',c3,rfl,ai,_⟩
      ·cases aw
      ·cases aw;exact ai.ne
    |box t cs bZ w=>
     cases bZ with
     |false=>cases aR
     |true=>
      obtain ⟨dJ,ds,rfl,ai,aT⟩:=cG;cases aw;cases cs with
      |nil=>grind
      |cons c cs=>
       cases ds with
       |nil=>exact aT.elim
       |cons d ds=>
        have:=ai 0 d rfl
        grind [nH]
    |recv t cs w=>cases aR
    |arr _ _ _ _ _=>cases aR
    |nest _ _ _ _ _ _=>cases aR
    |map t bG bA es bZ w=>
     cases bZ with
     |false=>cases aR
     |true=>
      rcases (cG:nn (X.G.M t bG bA) z es v) with ⟨rfl,_⟩|⟨r,rfl,ai⟩
      ·cases aw
      ·cases aw
       grind
   refine ⟨?_, .inl bx⟩;exact (aN.aS.bZ b bx).2
 split at h
 ·grind
 ·grind
 ·grind
 grind
theorem asl {l:List Nat} {j:Nat}:l.any (fi j)=aa↔j∈l:=by
 simp_all
def adz {j:Nat} (h:tB O j=aa):∃o,O[j]? =J o/\o.live=aa:=by
 grind [tB]
theorem KH {ts:List Nat} {q:Option Nat} (aN:b9 X.G O z e m k vs) (aR:ts.all (tB O)=aa) (bm:oI vs ts q) {j:Nat} (h:vo O ts j=aa) {v:af} {b:Nat} (aD:vs[j]? =J v) (aw:dQ v=J b):q≠J b:=by
 simp only[vo,fx,Aq] at h;rcases bm with rfl|⟨i,az,w,hw,rfl⟩
 ·simp
 ·intro uY;have hq:i≠j:=by
   grind [asl]
  obtain ⟨o,aM,nF⟩:=adz (iA.1 aR i az);have bg:=((aN.obj i o w aM hw).lt nF b uY).2.1;obtain ⟨cc,qa,h1⟩:=adP aN h.1;rw[aD] at qa;cases qa;rcases (h1 b aw).2 with ai|⟨p,bb,Br⟩
  ·grind
  ·exact aN.fD i j o p w v hq aM bb nF Br hw aD b uY aw
def ar0 {ts:List Nat} {q:Option Nat} (aN:b9 X.G O z e m k vs) (aR:ts.all (tB O)=aa) (bm:oI vs ts q) {b:Nat} (bx:z b≠ .dead):q≠J b:=by
 rcases bm with rfl|⟨i,az,w,hw,rfl⟩
 ·simp
 ·intro uY;obtain ⟨o,aM,nF⟩:=adz (iA.1 aR i az);exact bx ((aN.obj i o w aM hw).lt nF b uY).2.1
theorem acK {ts:List Nat} {q:Option Nat} (aN:b9 X.G O z e m k vs) (aR:ts.all (tB O)=aa) (bm:oI vs ts q) {s:l4} (h:G5 O ts s=aa) {ob:Option Nat} (bf:uv z vs ob s):∀b,ob=J b->q≠J b:=by
 intro b aw;cases s with
 |py=>exact bf.elim
 |lost=>exact bf.elim
 |bZ=>exact ar0 aN aR bm (bf b aw).ne
 |ob j=>obtain ⟨u,g1,g2⟩:=bf b aw;exact KH aN aR bm h g1 g2
def ach:∀{l:List (ba D)} {i j:Nat},j∈vf O i l->∃n o,j=i+n/\l[n]? =J o/\o.live=aa
 |[],i,j,h=>by grind [vf]
 |o::l,i,j,h=>by
  simp only[vf] at h;have tail:j∈vf O (i+1) l->∃n p,j=i+n/\(o::l)[n]? =J p/\p.live=aa:=λh=>by obtain ⟨n,p,h1,ai,aT⟩:=ach h;exact ⟨n+1,p,by omega,ai,aT⟩
  split at h
  ·rename_i aM;rcases ha.1 h with rfl|h
   ·grind
   grind
  grind
def iI.fX {A:Acc} {L:gk} {q:Option Nat} {B:Array Nat} {i:Nat} {ts:List Nat} {ra:Bool} (h:iI z m vs A L) (aN:b9 X.G O z e m k vs) (bx:fl z z') (aD:∀(i:Nat) (u:af),vs[i]? =J u->vs'[i]? =J u) (ay:gG m m' q) (bm:oI vs ts q) (yW:ra=aa->m'=m)
  (hk:XF B i O L ts=aa):u7 B i A m .fX m'/\iI z' m' vs' (qL A i m .fX) (A0 i O ts ra L):=by
 simp only[XF,fx,iA,Ar] at hk;obtain ⟨aR,Vd,Bn⟩:=hk;have aR:ts.all (tB O)=aa:=iA.2 aR;refine ⟨⟨λx an bl=> ?_,λx an bl=> ?_⟩, ?_⟩
 ·obtain ⟨y,aZ,h1,ai⟩:=h.rd x an;have:=Vd y aZ;rw[h1,bl] at this;have bf:G5 O ts y.2=aa:=by grind
  rcases ai with ai|⟨ob,cL,c9,fo⟩
  ·rw[ai] at bf;cases bf
  ·exact cL m' λb aw=>ay.2 b (c9 b aw) (acK aN aR bm bf fo b aw)
 ·obtain ⟨y,aZ,h1,ai,v,aT,br⟩:=h.jZ x an;have:=Bn y aZ;rw[h1,bl] at this;have bf:vo O ts y.2=aa:=by grind
  exact ay.2 _ ai (KH aN aR bm bf aT br)
 ·have aS:=h.step (L':=A0 i O ts ra L) bx aD ay (λy aZ=> ?_) (λy aZ=> ?_) λy aZ=>aZ
  ·refine ⟨aS.rd,λx an=> ?_,aS.jZ⟩;rcases ha.1 an with rfl|an
   ·refine ⟨(i,aa&&ra,(vf O 0 O).filter (vo O ts)),by simp[A0],rfl,λbF=>yW (by grind),λj bn=> ?_⟩;obtain ⟨anU,aaN⟩:=List.mem_filter.1 bn;obtain ⟨n,o,g1,g2,g3⟩:=ach anU;rw[lH] at g1;subst g1;obtain ⟨v,g4,g5⟩:=aN.at g2;refine ⟨v,aD _ _ g4,λb aw=> ?_⟩;have cF:=(g5.lt g3 b aw).1;exact ⟨hS cF ay.1,ay.2 b cF (KH aN aR bm aaN g4 aw)⟩
   ·exact aS.j7 x an
  ·refine ⟨if G5 O ts y.2=aa then y else (y.1, .lost),l2.2 ⟨y,aZ,rfl⟩,by grind, ?_⟩
   grind [acK]
  ·refine ⟨(y.1,y.2.1&&ra,y.2.2.filter (vo O ts)),l2.2 ⟨y,kn _ aZ,rfl⟩,rfl,λbF=>by grind,λj bn=> ?_⟩
   grind [KH]
def iI.A1 {A:Acc} {L:gk} {B:Array Nat} {i:Nat} (h:iI z m vs A L) (aD:∀(i:Nat) (u:af),vs[i]? =J u->vs'[i]? =J u) (bB:m.next<=m'.next)
  (hk:Xo B i L=aa):u7 B i A m .fX m'/\iI z' m' vs' (qL A i m .fX) (XG i L):=by
 simp only[Xo,fx,iA] at hk;refine ⟨⟨λx an bl=> ?_,λx an bl=> ?_⟩,⟨λx an=> ?_,λx an=> ?_,λx an=> ?_⟩⟩
 ·obtain ⟨y,aZ,h1,_⟩:=h.rd x an
  grind
 ·obtain ⟨y,aZ,h1,_⟩:=h.jZ x an
  grind
 ·obtain ⟨y,aZ,h1,_⟩:=h.rd x an;exact ⟨(y.1, .lost),l2.2 ⟨y,aZ,rfl⟩,h1, .inl rfl⟩
 ·rcases ha.1 an with rfl|an
  ·exact ⟨(i,ak,[]),oG,rfl,λcp=>Yy cp,λj bn=>absurd bn (by simp)⟩
  ·obtain ⟨y,aZ,h1,_⟩:=h.j7 x an;exact ⟨(y.1,ak,[]),kn _ (l2.2 ⟨y,aZ,rfl⟩),h1,λcp=>Yy cp,λj bn=>absurd bn (by simp)⟩
 ·obtain ⟨y,aZ,h1,ai,v,aT,br⟩:=h.jZ x an;exact ⟨y,aZ,h1,hS ai bB,v,aD _ _ aT,br⟩
def iI.afq {A:Acc} {L:gk} (h:iI z m vs A L) (i:Nat) (s:l4) (n:Option Nat):iI z m vs A (pD i s n L) where
 rd:=λx an=>by
  obtain ⟨y,aZ,h1,ai⟩:=h.rd x an;refine ⟨y, ?_,h1,ai⟩;unfold pD
  grind
 j7:=λx an=>by
  obtain ⟨y,aZ,h1,ai,aT⟩:=h.j7 x an;cases n with
  |none=>exact ⟨y,aZ,h1,ai,aT⟩
  |some j=>exact ⟨(y.1,ak,y.2.2),l2.2 ⟨y,aZ,rfl⟩,h1,(by simp),aT⟩
 jZ:=λx an=>by
  obtain ⟨y,aZ,h1⟩:=h.jZ x an;refine ⟨y, ?_,h1⟩;unfold pD
  grind
structure gC (fK:Nat) (z0 z:Nat->bW) (fr:Nat->af) (E:List (Nat×bc D)) (m:Mem) (A:Acc) (L:gk):Prop where
 le:fl z0 z
 n:fK<=m.next
 lt:∀b,(z0 b).iD->b<fK
 lK:∀x∈A.iC,∀b,(z0 b).iD->m.blk b=x.2.blk b
 ew:∀d,(L.pg.any (fi d))=ak->y4 (eI E d)=aa->∀b,dQ (fr d)=J b->(z0 b).iD
variable {z0:Nat->bW}
def gC.at {fK:Nat} {A:Acc} {L:gk} (h:gC fK z0 z fr E m A L) {x:bS} (an:tr E L x=aa):∀b,dQ (bk fr x)=J b->(z0 b).iD:=by
 unfold tr at an;split at an
 ·rename_i d;simp only[fx,Aq] at an;exact h.ew d an.1 an.2
 grind
def gC.read {fK:Nat} {A:Acc} {L:gk} {B:Array Nat} {i:Nat} {v:af} (h:gC fK z0 z fr E m A L) (aR:abf E L o.op=aa) (aV:fH P (bk fr) o m v):∀x∈A.iC,gD B i x.1=ak->fH P (bk fr) o x.2 v:=by
 intro x an bl;have aw:=h.lK x an;cases aV with
 |load t q b off d v dG bm aJ bg aD=>rw[dG] at aR;have:=h.at aR b (by rw[bm];rfl);exact .load t q b off d v dG bm aJ bg (ac5 aD (aw b this).symm)
 |wc t q g n jx dG bm bB aJ bs=>exact .wc t q g n jx dG bm bB aJ bs
 |wI t q b off d i cs dG bm aJ bg az aD=>rw[dG] at aR;have:=h.at aR b (by rw[bm];rfl);exact .wI t q b off d i cs dG bm aJ bg az (by grind [KY])
 |slice t q cf az cz i L' b off l n dG bR aJ fm bm hm eW eN g1 g2 g3=>rw[bR] at aR;have:=h.at aR b (by rw[bm];rfl);exact .slice t q cf az cz i L' b off l n dG bR aJ fm bm (by grind) eW eN g1 g2 g3
 |vx t q cf az cz i L' b off l c k n dG bR aJ fm bm hk hm eW eN g1 g2 g3=>rw[bR] at aR;have:=h.at aR b (by rw[bm];rfl);exact .vx t q cf az cz i L' b off l c k n dG bR aJ fm bm hk (by grind) eW eN g1 g2 g3
 |str jx t q cz b off l c cs bR oa he aJ bm aD=>rw[bR] at aR;cases aR
 |zQ jx t q cz l c bR oa he aJ bm=>rw[bR] at aR;cases aR
 |lookup hZ q dx ok u bG bA b L' F i z' v0 t ho bR jk hu bm nC tf mj bF hk bs az bx dw hB=>rw[bR] at aR;cases aR
def gC.jP {fK:Nat} {A:Acc} {L:gk} (h:gC fK z0 z fr E m A L) (bx:fl z z'):gC fK z0 z' fr E m A L:=⟨h.le.trans bx,h.n,h.lt,h.lK,h.ew⟩
def arq {L:gk} {v:af} {fK:Nat} {A:Acc} (h:gC fK z0 z fr E m A L) (bg:rK E L o.op=aa) (bb:dD P (bk fr) o v):∀b,dQ v=J b->(z0 b).iD:=by
 have lK:∀{w:af},flat w=aa->∀b,dQ w=J b->(z0 b).iD:=by
  intro w hw b aw;cases w with
  |pointer a=>cases a with
   |none=>cases aw
   |some a=>cases hw
  |slice a l c=>cases a with
   |none=>cases aw
   |some a=>cases hw
  |map r=>cases r with
   |none=>cases aw
   |some r=>cases hw
  |_=>cases aw
 cases bb with
 |flat v bf an aD aV=>grind
 |move x aM=>
  rcases aM with aM|aM
  ·rw[aM] at bg;exact h.at bg
  ·rw[aM] at bg;exact h.at bg
 |nilCheck x a aM an=>rw[aM] at bg;intro b aw;exact h.at bg b (by grind)
 |fieldAddr t x i bY f k b off aM aJ bF hk bf an=>rw[aM] at bg;intro c ay;exact h.at bg c (by rw[an];exact ay)
 |indexAddr t x y e i b off l c k n aM aJ az an aZ bR h1=>rw[aM] at bg;intro c ay;exact h.at bg c (by rw[an];exact ay)
 |JC t x y bX i l g kk n dG aJ az bf an aZ bR h1 aR=>intro b aw;cases aw
 |J4 t x y e i b off l k n aM aJ az an aZ bR h1=>rw[aM] at bg;intro c ay;exact h.at bg c (by rw[an];exact ay)
 |pick c a b t aM ay=>rw[aM] at bg;cases bg
 |extract x i us v aM an aD=>rw[aM] at bg;cases bg
 |field t x i bY f d cs v aM _ _ _ _ _=>rw[aM] at bg;cases bg
 |J6 t x y e d i l k n cs aM=>rw[aM] at bg;cases bg
 |J5 t x y e d i l k n cs v aM=>rw[aM] at bg;cases bg
 |build t cQ bY i z cs aM _ _ _ _ _ _=>rw[aM] at bg;cases bg
 |Jg t cQ n e i k z cs aM _ _ _ _ _ _=>rw[aM] at bg;cases bg
 |slice t x cf az e i b off l c n dG aM _ _ _ _ _ _ _ _ _=>rw[aM] at bg;cases bg
 |nc t x cf az e i aM _ _ _ _ _=>rw[aM] at bg;cases bg
 |slice3 t x h8 az e i b off l c dG k' oV aM _ _ _ _ _ _ _=>rw[aM] at bg;cases bg
 |P5 t x cf az h8 e i b off l c n dG k' Kb J9 oV aM _ _ _ _ _ _ _ _ _=>rw[aM] at bg;cases bg
 |P4 t x h8 az e i oV aM _ _ _ _ _=>rw[aM] at bg;cases bg
 |len x t e a l c aM _ _=>rw[aM] at bg;cases bg
 |Jj x t e aM _ _=>rw[aM] at bg;cases bg
 |A2 neq x y t u e a l c aM _ _ _=>rw[aM] at bg;cases neq<;>cases bg
 |func fn first captured aM _=>rw[aM] at bg;cases bg
def gC.put {fK:Nat} {A:Acc} {L:gk} {v:af} {dR:bc D} (h:gC fK z0 z fr E m A L) (aD:rK E L o.op=aa->∀b,dQ v=J b->(z0 b).iD):gC fK z0 z (set fr o.dst v) (na E o.dst dR) m A (sx E o L):=by
 cases bg:o.dst with
 |none=>
  have e:sx E o L=L:=by grind [sx]
  rw[e];exact ⟨h.le,h.n,h.lt,h.lK,h.ew⟩
 |some d=>
  refine ⟨h.le,h.n,h.lt,h.lK,λc ay bF b aw=> ?_⟩;by_cases U2:c=d
  ·subst U2;simp only[set,if_true] at aw;by_cases axU:rK E L o.op=aa
   ·grind
   simp_all [sx]
  ·simp only[set,if_neg U2] at aw;have aR:eI (na E (J d) dR) c=eI E c:=by
    grind [na,eI,kA]
   rw[aR] at bF;refine h.ew c ?_ bF b aw
   grind [sx,kA]
def gC.log {fK:Nat} {A iH:Acc} {L L':gk} (h:gC fK z0 z fr E m A L) (eL:iH.iC=A.iC) (aZ:L'.pg=L.pg):gC fK z0 z fr E m iH L':=⟨h.le,h.n,h.lt,by rw[eL];exact h.lK,by rw[aZ];exact h.ew⟩
theorem gC.grow {fK:Nat} {A:Acc} {L:gk} (h:gC fK z0 z fr E m A L) (ay:gG m m' ae):gC fK z0 z fr E m' A L:=⟨h.le,jd h.n ay.1,h.lt,λx an b aw=>by
 rw[ay.2 b (hS (h.lt b aw) h.n) (by simp)];exact h.lK x an b aw,h.ew⟩
def gC.fX {fK i:Nat} {A:Acc} {L:gk} {q:Option Nat} {ts:List Nat} {ra:Bool} (h:gC fK z0 z fr E m A L) (ay:gG m m' q) (bm:∀b,(z0 b).iD->q≠J b):gC fK z0 z fr E m' (qL A i m .fX) (A0 i O ts ra L):=by
 have key:∀b,(z0 b).iD->m'.blk b=m.blk b:=λb aw=>ay.2 b (hS (h.lt b aw) h.n) (λcp=>bm b aw cp);refine ⟨h.le,jd h.n ay.1,h.lt,λx an b aw=> ?_,h.ew⟩;rcases ha.1 an with rfl|an
 ·grind
 ·rw[key b aw];exact h.lK x an b aw
def gC.A1 {fK i:Nat} {A:Acc} {L:gk} {k':Option Nat} (h:gC fK z0 z fr E m A L) (bB:m.next<=m'.next) (bx:fl z z') (s1:dL z e m k) (s2:dL z' e m' k'):gC fK z0 z' fr E m' (qL A i m .fX) (XG i L):=by
 have key:∀b,(z0 b).iD->m'.blk b=m.blk b:=λb aw=>by have h1:=h.le b aw;have ai:=bx b (by grind);rw[(s1.bZ b (by rw[h1];exact aw.ne)).1,(s2.bZ b (by rw[ai,h1];exact aw.ne)).1,ai]
 refine ⟨h.le.trans bx,jd h.n bB,h.lt,λx an b aw=> ?_,h.ew⟩;rcases ha.1 an with rfl|an
 ·grind
 ·rw[key b aw];exact h.lK x an b aw
def asa {ts:List Nat} {q:Option Nat} (aN:b9 X.G O z e m k vs) (aR:ts.all (tB O)=aa) (bm:oI vs ts q) (bx:fl z0 z):∀b,(z0 b).iD->q≠J b:=by
 intro b aw uY;rcases bm with bm|⟨i,az,v,aD,he⟩
 ·grind
 ·have:=iA.1 aR i az;unfold tB at this;split at this
  ·rename_i p bb;have:=((aN.obj i p v bb aD).lt this b (by grind)).2.1;rw[bx b aw] at this;rw[this] at aw;exact aw.elim
  grind
def gC.start {E:List (Nat×bc D)} (aN:b9 X.G O z e m k vs) (bp:∀d,rel X.G z vs (eI E d) (fr d)):gC m.next z z fr E m ⟨[],[],[]⟩ ⟨[],[],[],[],[]⟩:=by
 refine ⟨fl.refl z,e4 _,λb aw=>(aN.aS.bZ b aw.ne).2,by simp,λd _ bF b aw=> ?_⟩;have aV:=bp d;unfold y4 at bF;split at bF
 ·rename_i bX xs bf;rw[bf] at aV;rcases (aV:fA (X.G.T bX) z xs (fr d)) with ⟨h1,_⟩|⟨dJ,o',c3,h1,ai,_⟩
  ·rw[h1] at aw;cases aw
  ·rw[h1] at aw;cases aw
   grind
 ·rename_i t c cs off bf;rw[bf] at aV;obtain ⟨b,o',ds,h1,ai,aT⟩:=aV;rw[h1] at aw;cases aw;cases ds with
  |nil=>exact aT.elim
  |cons d ds=>
   have br:=ai 0 d rfl
   grind [w5]
 grind
def w9 {A:Acc} {L:gk} {E:List (Nat×bc D)} (h:iI z m vs A L):iI z m vs A (sx E o L):=by
 unfold sx;split
 ·grind
 ·split<;>exact ⟨h.rd,h.j7,h.jZ⟩
def iI.read {A:Acc} {L:gk} {B:Array Nat} {i:Nat} {s:l4} {v:af} {n:Option Nat} (h:iI z m vs A L) (aN:b9 X.G O z e m k vs) (bp:∀x,rel X.G z vs (dp E x) (bk fr x)) (bx:fl z z') (aD:∀(i:Nat) (u:af),vs[i]? =J u->vs'[i]? =J u)
  {fK:Nat} (bf:q9 E o.op=J s) (hk:(zO B i O L s||Lm B i E L s o.op)=aa) (aV:fH P (bk fr) o m v) (bs:gC (D:=D) fK z0 z fr E m A L):
  u7 B i A m (.read λm=>fH P (bk fr) o m v) m/\iI z' m vs' (qL A i m (.read λm=>fH P (bk fr) o m v)) (pD i s n L):=by
 obtain ⟨ob,h1,ai⟩:=aue aN bp bf aV;rw[Ar] at hk;have lt:∀b,ob=J b->b<m.next:=by
  intro b aw;cases s with
  |py=>exact ai.elim
  |lost=>exact ai.elim
  |bZ=>have bx:=ai b aw;exact (aN.aS.bZ b bx.ne).2
  |ob j=>
   have hk:zO B i O L (.ob j)=aa:=hk.resolve_right (by simp[Lm,aaj]);simp only[zO,fx] at hk;obtain ⟨u,g1,g2⟩:=ai b aw
   grind [adP]
 refine ⟨λx an bl=> ?_, ?_⟩
 ·rcases hk with hk|hk
  case inr=>
   simp only[Lm,fx] at hk;exact bs.read (B:=B) hk.2 aV x an bl
  obtain ⟨y,aZ,cL,lu,c9⟩:=h.j7 x an;refine h1 x.2 λb aw=> ?_;cases s with
  |py=>exact ai.elim
  |lost=>exact ai.elim
  |bZ=>
   grind [zO]
  |ob j=>
   simp only[zO,fx,iA,Ar] at hk;have:=hk.2 y aZ;rw[cL,bl] at this;have bn:y.2.1=aa\/j∈y.2.2:=by
    rcases this with h|h|h
    ·grind
    ·grind
    simp_all
   rcases bn with bn|bn
   ·grind
   obtain ⟨cc,g1,g2⟩:=c9 j bn;obtain ⟨u,g3,g4⟩:=ai b aw
   grind
 ·have aS:=((h.quiet (fl.refl z) (λ_ _ h=>h) rfl).afq i s n).quiet (m':=m) bx aD rfl;refine ⟨λx an=> ?_,aS.j7,aS.jZ⟩;rcases ha.1 an with rfl|an
  ·refine ⟨(i,s), ?_,rfl, .inr ⟨ob,h1,lt,ai.mono bx aD⟩⟩;unfold pD;cases s<;>first|exact ai.elim|grind
  ·exact aS.rd x an
def ato {Y:bW} {v:af} {dR:bc D} {n:Option Nat} {N:Nat} (h:jC P (bk fr) o N Y v) (aV:rel X.G z vs dR v) (bB:XZ dR=J n):∃j,n=J j/\∃u,vs[j]? =J u/\dQ u=J N:=by
 have aD:dQ v=J N:=by cases h<;>rfl
 unfold XZ at bB;split at bB
 ·cases bB;exact ⟨_,rfl,v,aV.1,aD⟩
 ·cases bB;obtain ⟨b,g1,rfl⟩:=aV;exact ⟨_,rfl,_,g1,aD⟩
 ·cases bB;obtain ⟨b,l,g1,rfl⟩:=aV;exact ⟨_,rfl,_,g1,aD⟩
 ·have aV:v= .int _ _:=aV;rw[aV] at aD;cases aD
 ·have aV:v=aF.str _:=aV;rw[aV] at aD;cases aD
 grind
def iI.new {A:Acc} {L:gk} {i:Nat} {s:l4} {j:Nat} {Y:bW} (h:iI z m vs A L) (bx:fl z z') (aD:∀(i:Nat) (u:af),vs[i]? =J u->vs'[i]? =J u) (bn:∃u,vs'[j]? =J u/\dQ u=J m.next):
  iI z' (m.push Y) vs' (qL A i m .new) (pD i s (J j) L):=by
 have aS:=h.step (m':=m.push Y) (q:=ae) bx aD (gG.push m Y) (pD i s (J j) L) (λy aZ=>⟨y,by unfold pD;grind,rfl, .inr ⟨rfl,λ_ _ _ _=>by simp⟩⟩)
  (λy aZ=>⟨(y.1,ak,y.2.2),l2.2 ⟨y,aZ,rfl⟩,rfl,by simp,λj bn=>⟨bn,λ_ _ _ _=>by simp⟩⟩) λy aZ=>kn _ aZ
 refine ⟨aS.rd,aS.j7,λx an=> ?_⟩;rcases ha.1 an with rfl|an
 ·obtain ⟨u,g1,g2⟩:=bn;exact ⟨(i,j),by simp[pD],rfl,Nat.lt_succ_self _,u,g1,g2⟩
 ·exact aS.jZ x an
end
end Go.aF
end
section
namespace Go.aF
section
variable {P:bI} {D:Nat->Type} {X:e3 P D} {ap:Type} {z z':Nat->bW} {e m m':Mem} {k:Option Nat} {vs:List af} {fr:Nat->af} {E:List (Nat×bc D)} {O:List (ba D)} {o:Oper} {r:ap}
def fj (X:e3 P D) (z:Nat->bW) (vs:List af) (E:List (Nat×bc D)) (fr:Nat->af):Prop:=∀d,rel X.G z vs (eI E d) (fr d)
def fj.mono (h:fj X z vs E fr) {vs':List af} (bx:fl z z') (aD:∀(i:Nat) (u:af),vs[i]? =J u->vs'[i]? =J u):fj X z' vs' E fr:=λd=>rel.mono (h d) bx aD
theorem fj.cons (h:fj X z vs E fr) {d:Nat} {s:bc D} (bf:rel X.G z vs s (fr d)):fj X z vs ((d,s)::E) fr:=λi=>by
 simp only[eI];split
 ·simp_all
 ·exact h i
def fj.put (h:fj X z vs E fr) {d:Option Nat} {s:bc D} {v:af} (bf:rel X.G z vs s v):fj X z vs (na E d s) (set fr d v):=by
 cases d with
 |none=>exact h
 |some d=>
  intro i;simp only[na,eI,set];split
  ·simp_all
  ·rename_i az;rw[if_neg]
   ·exact h i
   ·intro cp;simp_all
def je (X:e3 P D) (O:List (ba D)) (z:Nat->bW) (e:Mem) (k:Option Nat) (vs:List af) (K:List (Nat×bc D)->List (ba D)->Option ap) (r:ap) (cb:Nat->af) (m':Mem):Prop:=∃z' vs' E' cr,Inv O cr/\dT e.next z z'/\(∀(i:Nat) (u:af),vs[i]? =J u->vs'[i]? =J u)/\b9 X.G cr z' e m' k vs'/\fj X z' vs' E' cb/\K E' cr=J r
def je.from {K:List (Nat×bc D)->List (ba D)->Option ap} {cb:Nat->af} {dv:Nat->bW} {jK:List af} {cu:List (ba D)} (az:Inv O cu) (bx:dT e.next z dv) (aD:∀(i:Nat) (u:af),vs[i]? =J u->jK[i]? =J u) (h:je X cu dv e k jK K r cb m'):je X O z e k vs K r cb m':=by
 obtain ⟨z',vs',dR,cr,bR,h1,ai,aT,br,cK⟩:=h;exact ⟨z',vs',dR,cr,az.trans bR,bx.trans h1,λi u hu=>ai i u (aD i u hu),aT,br,cK⟩
def je.here {K:List (Nat×bc D)->List (ba D)->Option ap} (aN:b9 X.G O z e m k vs) (bp:fj X z vs E fr) (k1:K E O=J r):je X O z e k vs K r fr m:=⟨z,vs,E,O,Inv.refl O,dT.refl z,λ_ _ h=>h,aN,bp,k1⟩
def acJ {d:Nat} {K:List (Nat×bc D)->Option ap} (bp:fj X z vs E fr) (h:vn E d K=J r):∃E',fj X z vs E' fr/\K E'=J r:=by
 unfold vn at h;have bg:=bp d;split at h
 ·rename_i b bf;rw[bf] at bg;cases b with
  |true=>rw[if_pos rfl] at h;exact ⟨_,bp.cons (s:= .c (.bool aa)) bg,h⟩
  |false=>rw[if_neg (by simp)] at h;exact ⟨_,bp.cons (s:= .c (.bool ak)) bg,h⟩
 ·grind
 grind
def atd (cW:iV X) {K:List (Nat×bc D)->List (ba D)->Option ap} (aN:b9 X.G O z e m k vs) (bp:fj X z vs E fr) (h:BI X o E O K=J r):cH P (bk fr) o m λ_ v m'=>je X O z e k vs K r (set fr o.dst v) m':=by
 have go:∀{E:List (Nat×bc D)},fj X z vs E fr->iR X o.op E O (λv O=>K (na E o.dst v) O)=J r->cH P (bk fr) o m λ_ v m'=>je X O z e k vs K r (set fr o.dst v) m':=by intro E bp h;refine cH.mono (Ln cW rfl aN (WN bp) h) ?_;rintro t v m' ⟨z',vs',dR,cr,bR,h1,ai,aT,br,cK⟩;exact ⟨z',vs',_,cr,bR,h1,ai,aT,(bp.mono h1.le ai).put br,cK⟩
 unfold BI at h;split at h
 ·obtain ⟨E',qN,h⟩:=acJ bp h
  grind
 grind
def B9 (cW:iV X) {ops:List Oper} {K:List (Nat×bc D)->List (ba D)->Option ap}:∀{l:List Oper} {E:List (Nat×bc D)} {O:List (ba D)} {z:Nat->bW} {vs:List af} {m:Mem} {fr:Nat->af},b9 X.G O z e m k vs->fj X z vs E fr->tM X ops l E O K=J r->ea P ops l (je X O z e k vs K r) fr m
 |[],E,O,z,vs,m,fr,aN,bp,h=>ea.nil (je.here aN bp h)
 |o::l,E,O,z,vs,m,fr,aN,bp,h=>by
  unfold tM at h;have step:∀{E:List (Nat×bc D)},fj X z vs E fr->(BI X o E O λE O=>tM X ops l E O K)=J r->cH P (bk fr) o m λ_ v m1=>ea P ops l (je X O z e k vs K r) (set fr o.dst v) m1:=by intro E bp h;refine cH.mono (atd cW aN bp h) ?_;rintro t v m1 ⟨z',vs',E',cr,bR,h1,ai,aT,br,cK⟩;exact ea.mono (B9 cW aT br cK) λ_ _ bB=>bB.from bR h1 ai
  split at h
  ·grind [ea.Ue,wanted]
  ·rename_i j want bs;split at h
   ·grind
   ·rename_i d bg;obtain ⟨ia,p6,h⟩:=acJ bp h;have aD:=p6 d;split at h
    ·rename_i b bf;rw[bf] at aD;split at h
     ·rename_i aw;exact ea.Ud bs bg aD aw (step p6 h)
     ·rename_i aw;exact ea.P3 bs bg aD (by cases b<;>cases want<;>simp at aw⊢) (B9 cW aN (p6.put (s:= .undef) rfl) h)
    ·rename_i bf;rw[bf] at aD;exact ea.X6 bs bg aD (B9 cW aN (p6.put (s:= .undef) rfl) h)
    grind
variable {z0:Nat->bW}
def acq {d:Nat} {K:List (Nat×bc D)->Option ap} (bp:fj X z vs E fr) (h:vn E d K=J r):∃E',fj X z vs E' fr/\(∀c,eI E' c=eI E c\/y4 (eI E' c)=ak)/\K E'=J r:=by
 have bg:=bp d;have abI:∀{b:Bool} (c:Nat),eI ((d, .c (.bool b))::E) c=eI E c\/y4 (eI ((d, .c (.bool b))::E) c)=ak:=by
  intro b c;simp only[eI];split
  ·exact .inr rfl
  grind
 unfold vn at h;split at h
 ·rename_i b aw;rw[aw] at bg;have bg:fr d= .bool b:=bg;split at h
  ·rename_i aJ;exact ⟨_,bp.cons (by grind),abI,h⟩
  ·rename_i aJ;exact ⟨_,bp.cons (by grind),abI,h⟩
 ·grind
 grind
def gC.split {fK:Nat} {A:Acc} {L:gk} {E':List (Nat×bc D)} (h:gC fK z0 z fr E m A L) (bm:∀c,eI E' c=eI E c\/y4 (eI E' c)=ak):gC fK z0 z fr E' m A L:=⟨h.le,h.n,h.lt,h.lK,λd bg bF=>by
 rcases bm d with bm|bm
 ·rw[bm] at bF;exact h.ew d bg bF
 grind⟩
def gC.skip {fK:Nat} {A:Acc} {L:gk} {dst:Option Nat} (h:gC fK z0 z fr E m A L):gC fK z0 z (set fr dst undef) (na E dst .undef) m A L:=by
 cases dst with
 |none=>exact h
 |some d=>
  refine ⟨h.le,h.n,h.lt,h.lK,λc ay bF b aw=> ?_⟩;simp only[na,eI] at bF;split at bF
  ·cases bF
  ·rename_i U2;have:c≠d:=by rintro rfl;simp_all
   simp only[set,if_neg this] at aw;exact h.ew c ay bF b aw
def ad' (cW:iV X) {B:Array Nat} {ops l:List Oper} {i:Nat} {A:Acc} {L:gk} {fK:Nat} {Q:(Nat->af)->Mem->Prop} {K:gk->List (Nat×bc D)->List (ba D)->Option ap} (aN:b9 X.G O z e m k vs) (bp:fj X z vs E fr) (dE:iI z m vs A L) (bs:gC fK z0 z fr E m A L) (h:Km X B i o L E O K=J r)
  (hk:∀{z':Nat->bW} {vs':List af} {m':Mem} {iH:Acc} {L':gk} {E':List (Nat×bc D)} {cr:List (ba D)} {v:af},Inv O cr->dT e.next z z'->(∀(i:Nat) (u:af),vs[i]? =J u->vs'[i]? =J u)->b9 X.G cr z' e m' k vs'->fj X z' vs' E' (set fr o.dst v)->iI z' m' vs' iH L'->gC fK z0 z' (set fr o.dst v) E' m' iH L'->K L' E' cr=J r->hQ P ops B (i+1) l iH Q (set fr o.dst v) m'):
  cH P (bk fr) o m λt v m1=>u7 B i A m t m1/\hQ P ops B (i+1) l (qL A i m t) Q (set fr o.dst v) m1:=by
 have cY:=WN bp;unfold Km at h;split at h
 ·rename_i qQ;split at h
  ·rename_i ts aJ;obtain ⟨my,h⟩:=gz h;have sR:∀{v:af},fH P (bk fr) o m v->False:=λaV=>by
    have:=Ks aV;revert this qQ;cases o.op<;>simp[lT,looks]
   have Ub:∀{Y:bW} {v:af},jC P (bk fr) o m.next Y v->False:=λaV=>by have:=BK aV;revert this qQ;cases o.op<;>simp[lT,sg]
   have r5:rK E L o.op=aa->False:=λbg=>by revert bg qQ;cases o.op<;>simp[lT,rK]
   refine (ate cW aN cY qQ aJ h).Ke (λv _ cp=> ?_) (λv aV _=>(sR aV).elim) (λY v aV _=>(Ub aV).elim) λn v m' he cp=> ?_
   ·obtain ⟨_,⟨z',vs',dR,cr,bR,h1,ai,aT,br,cK⟩,yW,q,ay,bm⟩:=cp;obtain ⟨g1,g2⟩:=dE.fX (B:=B) (ra:=tA X E O o.op) aN h1.le ai (gG.any (gG.refl m) ae) (.inl rfl) (λ_=>rfl) my;have e2:=(bs.fX (O:=O) (ts:=ts) (q:=ae) (i:=i) (ra:=tA X E O o.op) (gG.refl m) (λb _=>by simp)).jP h1.le;exact ⟨trivial,hk bR h1 ai aT ((bp.mono h1.le ai).put br) (w9 ⟨g2.rd,λx an=>g2.j7 x (kn _ an),g2.jZ⟩) (gC.put ⟨e2.le,e2.n,e2.lt,λx an=>e2.lK x (kn _ an),e2.ew⟩ λbg=>(r5 bg).elim) cK⟩
   ·obtain ⟨⟨z',vs',dR,cr,bR,h1,ai,aT,br,cK⟩,yW,q,ay,bm⟩:=cp;obtain ⟨g1,g2⟩:=dE.fX (B:=B) aN h1.le ai ay bm yW my;exact ⟨g1,hk bR h1 ai aT ((bp.mono h1.le ai).put br) (w9 g2) (gC.put ((bs.fX ay (asa aN (tY.1 my).1 bm bs.le)).jP h1.le) λbg=>(r5 bg).elim) cK⟩
  ·obtain ⟨my,h⟩:=gz h;have sR:∀{v:af},fH P (bk fr) o m v->False:=λaV=>by
    have:=Ks aV;revert this qQ;cases o.op<;>simp[lT,looks]
   have Ub:∀{Y:bW} {v:af},jC P (bk fr) o m.next Y v->False:=λaV=>by have:=BK aV;revert this qQ;cases o.op<;>simp[lT,sg]
   have r5:rK E L o.op=aa->False:=λbg=>by revert bg qQ;cases o.op<;>simp[lT,rK]
   refine (Ln cW rfl aN cY h).Ke (λv _ cp=> ?_) (λv aV _=>(sR aV).elim) (λY v aV _=>(Ub aV).elim) λn v m' he cp=> ?_
   ·obtain ⟨_,z',vs',dR,cr,bR,h1,ai,aT,br,cK⟩:=cp;obtain ⟨g1,g2⟩:=dE.A1 (z':=z') (m':=m) ai (e4 _) my;have e2:=bs.A1 (i:=i) (e4 _) h1.le aN.aS aT.aS;exact ⟨trivial,hk bR h1 ai aT ((bp.mono h1.le ai).put br) (w9 ⟨g2.rd,λx an=>g2.j7 x (kn _ an),g2.jZ⟩) (gC.put ⟨e2.le,e2.n,e2.lt,λx an=>e2.lK x (kn _ an),e2.ew⟩ λbg=>(r5 bg).elim) cK⟩
   ·obtain ⟨z',vs',dR,cr,bR,h1,ai,aT,br,cK⟩:=cp;have bB:=WB (ab6 n) he;obtain ⟨g1,g2⟩:=dE.A1 (z':=z') ai bB my;exact ⟨g1,hk bR h1 ai aT ((bp.mono h1.le ai).put br) (w9 g2) (gC.put (bs.A1 bB h1.le aN.aS aT.aS) λbg=>(r5 bg).elim) cK⟩
 ·rename_i qQ;split at h
  ·rename_i s bf;obtain ⟨my,h⟩:=gz h;refine (Ln cW rfl aN cY h).Ke (λv bb cp=> ?_) (λv aV cp=> ?_) (λY v aV cp=> ?_) λn v m' he _=>absurd (Wt he) qQ
   ·obtain ⟨_,z',vs',dR,cr,bR,h1,ai,aT,br,cK⟩:=cp;dsimp only at cK;split at cK
    ·rename_i n bB;exact ⟨trivial,hk bR h1 ai aT ((bp.mono h1.le ai).put br) (w9 ((dE.quiet h1.le ai rfl).afq i s n)) (gC.put (L:=pD i s n L) ((bs.jP h1.le).log rfl rfl) λbg=>arq bs bg bb) cK⟩
    grind
   ·obtain ⟨z',vs',dR,cr,bR,h1,ai,aT,br,cK⟩:=cp;dsimp only at cK;split at cK
    ·rename_i n bB;obtain ⟨g1,g2⟩:=dE.read (n:=n) (B:=B) (i:=i) aN cY h1.le ai bf my aV bs;exact ⟨g1,hk bR h1 ai aT ((bp.mono h1.le ai).put br) (w9 g2) (gC.put (L:=pD i s n L) ((bs.jP h1.le).log rfl rfl) λbg=>(by
      have:=Ks aV;revert this bg;cases o.op<;>simp[rK,looks])) cK⟩
    grind
   ·obtain ⟨z',vs',dR,cr,bR,h1,ai,aT,br,cK⟩:=cp;dsimp only at cK;split at cK
    ·rename_i n bB;rw[abH,if_pos (BK aV)] at bB;obtain ⟨j,rfl,bn⟩:=ato aV br bB;exact ⟨trivial,hk bR h1 ai aT ((bp.mono h1.le ai).put br) (w9 (dE.new (i:=i) (s:=s) (Y:=Y) h1.le ai bn)) (gC.put (L:=pD i s (J j) L) (((bs.grow (gG.push m Y)).jP h1.le).log rfl rfl) λbg=>(by
      have:=BK aV;revert this bg;cases o.op<;>simp[rK,sg])) cK⟩
    grind
  grind
def atq (cW:iV X) {B:Array Nat} {ops l:List Oper} {i:Nat} {A:Acc} {L:gk} {fK:Nat} {Q:(Nat->af)->Mem->Prop} {K:gk->List (Nat×bc D)->List (ba D)->Option ap} (aN:b9 X.G O z e m k vs) (bp:fj X z vs E fr) (dE:iI z m vs A L) (bs:gC fK z0 z fr E m A L) (h:BH X B i o L E O K=J r)
  (hk:∀{z':Nat->bW} {vs':List af} {m':Mem} {iH:Acc} {L':gk} {E':List (Nat×bc D)} {cr:List (ba D)} {v:af},Inv O cr->dT e.next z z'->(∀(i:Nat) (u:af),vs[i]? =J u->vs'[i]? =J u)->b9 X.G cr z' e m' k vs'->fj X z' vs' E' (set fr o.dst v)->iI z' m' vs' iH L'->gC fK z0 z' (set fr o.dst v) E' m' iH L'->K L' E' cr=J r->hQ P ops B (i+1) l iH Q (set fr o.dst v) m'):
  cH P (bk fr) o m λt v m1=>u7 B i A m t m1/\hQ P ops B (i+1) l (qL A i m t) Q (set fr o.dst v) m1:=by
 unfold BH at h;split at h
 ·rename_i Ug aoy;obtain ⟨E',qN,bm,h⟩:=acq bp h;have U7:=bs.split bm;exact ad' cW aN qN dE U7 h hk
 ·exact ad' cW aN bp dE bs h hk
def hQ.mono {ops l:List Oper} {B:Array Nat} {i:Nat} {A:Acc} {K mj:(Nat->af)->Mem->Prop} (h:hQ P ops B i l A K fr m) (hk:∀fr m,K fr m->mj fr m):hQ P ops B i l A mj fr m:=
 let ⟨n,cb,m',h1,ai⟩:=h;⟨n,cb,m',h1,hk _ _ ai⟩
def K0 (cW:iV X) {B:Array Nat} {ops:List Oper} {fK:Nat} {K:List (Nat×bc D)->List (ba D)->Option ap}:∀{l:List Oper} {i:Nat} {A:Acc} {L:gk} {E:List (Nat×bc D)} {O:List (ba D)} {z:Nat->bW} {vs:List af} {m:Mem} {fr:Nat->af},b9 X.G O z e m k vs->fj X z vs E fr->iI z m vs A L->gC fK z0 z fr E m A L->vu X B ops i l L E O K=J r->hQ P ops B i l A (je X O z e k vs K r) fr m
 |[],i,A,L,E,O,z,vs,m,fr,aN,bp,dE,qO,h=>hQ.done λcb bF=>by rw[bF];exact je.here aN bp h
 |o::l,i,A,L,E,O,z,vs,m,fr,aN,bp,dE,qO,h=>by
  unfold vu at h;have step:∀{E:List (Nat×bc D)},fj X z vs E fr->gC fK z0 z fr E m A L->(BH X B i o L E O λL E O=>vu X B ops (i+1) l L E O K)=J r->cH P (bk fr) o m λt v m1=>u7 B i A m t m1/\hQ P ops B (i+1) l (qL A i m t) (je X O z e k vs K r) (set fr o.dst v) m1:=by intro E bp bs h;refine atq cW aN bp dE bs h ?_;intro z' vs' m' iH L' E' cr v bR h1 ai aT br cK jH fJ;exact hQ.mono (K0 cW aT br cK jH fJ) λ_ _ bB=>bB.from bR h1 ai
  split at h
  ·grind [hQ.cons,wanted]
  ·rename_i j want bs;split at h
   ·grind
   ·rename_i d bg;obtain ⟨ia,p6,Vw,h⟩:=acq bp h;have s5:=qO.split Vw;have aD:=p6 d;split at h
    ·rename_i b bf;rw[bf] at aD;split at h
     ·rename_i aw;exact hQ.Ud bs bg aD aw (step p6 s5 h)
     ·rename_i aw;exact hQ.P3 bs bg aD (by cases b<;>cases want<;>simp at aw⊢) (K0 cW aN (p6.put (s:= .undef) rfl) dE s5.skip h)
    ·rename_i bf;rw[bf] at aD;exact hQ.X6 bs bg aD (K0 cW aN (p6.put (s:= .undef) rfl) dE s5.skip h)
    grind
def iI.start:iI z m vs ⟨[],[],[]⟩ ⟨[],[],[],[],[]⟩:=⟨by simp,by simp,by simp⟩
def qJ (X:e3 P D) (B:Code) (u:mP D):Prop:=∀{ap:Type} (E:List (Nat×bc D)) (O:List (ba D)) (K:fG->List (Nat×bc D)->List (ba D)->Option ap) (r:ap) {z:Nat->bW} {e m:Mem} {k:Option Nat} {vs:List af} {fr:Nat->af},
 u.fits E O=aa->b9 X.G O z e m k vs->fj X z vs E fr->u.run E O K=J r->W P (sub B u.path) (λx=>je X O z e k vs (K x) r) fr m
theorem WZ:∀(c:Code) (p q:List Nat),sub (sub c p) q=sub c (p++q):=by
 intro c p;induction p generalizing c with
 |nil=>intro q;cases c<;>rfl
 |cons i p a1=>
  intro q;cases c with
  |seq a b=>cases i with
   |zero=>exact a1 a q
   |succ i=>exact a1 b q
  |cond x a b=>cases i with
   |zero=>exact a1 a q
   |succ i=>exact a1 b q
  |block n c=>cases i with
   |zero=>exact a1 c q
   |succ i=>exact a1 c q
  |scope c=>cases i with
   |zero=>exact a1 c q
   |succ i=>exact a1 c q
  |loop c=>cases i with
   |zero=>exact a1 c q
   |succ i=>exact a1 c q
  |_=>rcases q with _|⟨_|j,q⟩<;>cases i<;>rfl
def zo {B c:Code} {p:List Nat} {i:Nat} (h:sub B p.reverse=c):sub B (i::p).reverse=sub c [i]:=by grind [WZ]
def sc (c:Code):sub c []=c:=by cases c<;>rfl
theorem aev:∀{p q:List Nat},Jr p q=aa->p=q
 |[],[],_=>rfl
 |a::p,b::q,h=>by simp only[Jr,fx] at h;rw[kA h.1,aev h.2]
 |[],_::_,h=>by cases h
 |_::_,[],h=>by cases h
def aqt {us:List (mP D)} {p:List Nat} {u:mP D} (h:sf us p E O=J u):u∈us/\u.path=p/\u.fits E O=aa:=by
 induction us with
 |nil=>cases h
 |cons w us a1=>
  grind [sf,aev]
def adf:∀{n:Nat} {O cu:List (ba D)} {z:Nat->bW} {m:Mem} {vs:List af},b9 X.G O z e m k vs->LK n O=J cu->∃z',Inv O cu/\dT e.next z z'/\b9 X.G cu z' e m k vs
 |0,O,cu,z,m,vs,aN,h=>by cases h;grind [Inv.refl,dT.refl]
 |n+1,O,cu,z,m,vs,aN,h=>by
  simp only[LK] at h;split at h
  ·rename_i dz ai;obtain ⟨dv,ec,a2,a3⟩:=adf aN ai;split at h
   ·split at h
    ·grind
    ·obtain ⟨z2,js,jR,Jc⟩:=BZ a3 h;exact ⟨z2,ec.trans js,a2.trans jR,Jc⟩
   grind
  grind
def je.fill {K:List (Nat×bc D)->List (ba D)->Option ap} {r:ap} {vs:List af} {m':Mem} {cb:Nat->af} (h:je X O z e k vs (vq K) r cb m'):je X O z e k vs K r cb m':=by
 obtain ⟨dv,jK,ia,cu,bR,h1,ai,aT,br,cK⟩:=h;unfold vq at cK;split at cK
 ·rename_i dz bF;obtain ⟨z2,ec,a2,a3⟩:=adf aT bF;exact ⟨z2,jK,ia,dz,bR.trans ec,h1.trans a2,ai,a3,br.mono a2.le λ_ _ h=>h,cK⟩
 grind
def Lh (cW:iV X) {B:Code} {us:List (mP D)} {L:Nat} (te:∀u∈us,L<u.path.length->qJ X B u):
  ∀(c:Code) (top:Bool) (p:List Nat) (E:List (Nat×bc D)) (O:List (ba D)) (K:fG->List (Nat×bc D)->List (ba D)->Option ap) (r:ap) {z:Nat->bW} {vs:List af} {m:Mem} {fr:Nat->af},
   sub B p.reverse=c->L<=p.length->(top=ak->L<p.length)->b9 X.G O z e m k vs->fj X z vs E fr->j8 X us calm top p c E O K=J r->W P c (λx=>je X O z e k vs (K x) r) fr m:=by
 intro c;have piece:∀{c:Code} {top:Bool} {p:List Nat} {E:List (Nat×bc D)} {O:List (ba D)} {K:fG->List (Nat×bc D)->List (ba D)->Option ap} {r:ap} {z:Nat->bW} {vs:List af} {m:Mem} {fr:Nat->af} {u:mP D},
   sub B p.reverse=c->(top=ak->L<p.length)->b9 X.G O z e m k vs->fj X z vs E fr->(if top=aa then ae else sf us p.reverse E O)=J u->u.run E O K=J r->W P c (λx=>je X O z e k vs (K x) r) fr m:=by
  intro c top p E O K r z vs m fr u bb aJ aN bp hu h;cases top with
  |true=>grind
  |false=>
   obtain ⟨h1,ai,aT⟩:=aqt hu;have:=te u h1 (by grind) E O K r aT aN bp h
   grind
 induction c with
 |seq a b VI VJ=>
  intro top p E O K r z vs m fr bb dE aJ aN bp h;simp only[j8] at h;split at h
  ·rename_i u hu;exact piece bb aJ aN bp hu h
  ·refine W.seq ((VI ak (0::p) E O _ r (by rw[zo bb];exact sc a) (by grind) (λ_=>by grind) aN bp h).mono ?_);rintro x fY m1 ⟨dv,jK,ia,cu,bR,h1,ai,aT,br,cK⟩;cases x with
   |normal=>have cK:=(if_pos rfl).symm.trans cK;exact (VJ ak (1::p) ia cu K r (by rw[zo bb];exact sc b) (by grind) (λ_=>by grind) aT br cK).mono λ_ _ _ bB=>bB.from bR h1 ai
   |exit i=>exact ⟨dv,jK,ia,cu,bR,h1,ai,aT,br,(if_neg (by simp)).symm.trans cK⟩
   |ret=>exact ⟨dv,jK,ia,cu,bR,h1,ai,aT,br,(if_neg (by simp)).symm.trans cK⟩
 |cond x a b VI VJ=>
  intro top p E O K r z vs m fr bb dE aJ aN bp h;simp only[j8] at h;split at h
  ·rename_i u hu;exact piece bb aJ aN bp hu h
  ·split at h
   ·rename_i t bf;have an:=WN bp x;rw[bf] at an;cases t with
    |true=>rw[if_pos rfl] at h;exact W.amu an rfl (VI ak (0::p) E O K r (by rw[zo bb];exact sc a) (by grind) (λ_=>by grind) aN bp h)
    |false=>rw[if_neg (by simp)] at h;exact W.Z0 an rfl (VJ ak (1::p) E O K r (by rw[zo bb];exact sc b) (by grind) (λ_=>by grind) aN bp h)
   grind
 |scope c a1=>
  intro top p E O K r z vs m fr bb dE aJ aN bp h;simp only[j8] at h;split at h
  ·rename_i u hu;exact piece bb aJ aN bp hu h
  ·exact W.scope (a1 ak (0::p) E O K r (by rw[zo bb];exact sc c) (by grind) (λ_=>by grind) aN bp h)
 |block i c a1=>
  intro top p E O K r z vs m fr bb dE aJ aN bp h;simp only[j8] at h;split at h
  ·rename_i u hu;exact piece bb aJ aN bp hu h
  ·refine W.block ((a1 ak (0::p) E O _ r (by rw[zo bb];exact sc c) (by grind) (λ_=>by grind) aN bp h).mono ?_);rintro x fY m1 bB;obtain ⟨dv,jK,ia,cu,bR,h1,ai,aT,br,cK⟩:=bB;cases x with
   |normal=>exact ⟨dv,jK,ia,cu,bR,h1,ai,aT,br,by grind⟩
   |exit j=>
    by_cases hq:j=i
    ·subst hq;exact pZ.rS ⟨dv,jK,ia,cu,bR,h1,ai,aT,br,by grind⟩
    ·exact pZ.qZ (by grind) ⟨dv,jK,ia,cu,bR,h1,ai,aT,br,by grind⟩
   |ret=>exact ⟨dv,jK,ia,cu,bR,h1,ai,aT,br,by grind⟩
 |region id ops d=>
  intro top p E O K r z vs m fr bb dE aJ aN bp h;simp only[j8] at h;split at h
  ·rename_i u hu;exact piece bb aJ aN bp hu h
  ·cases d with
   |true=>
    rw[if_pos rfl] at h;split at h
    ·rename_i ay;exact (W.calm (Q:=λx=>je X O z e k vs (vq (K x)) r) ay (B9 cW aN bp h)).mono λ_ _ _ bB=>bB.fill
    ·exact (W.draw (Q:=λx=>je X O z e k vs (vq (K x)) r) (K0 cW aN bp iI.start (gC.start aN bp) h)).mono λ_ _ _ bB=>bB.fill
   |false=>rw[if_neg (by simp)] at h;exact (W.region (Q:=λx=>je X O z e k vs (vq (K x)) r) (B9 cW aN bp h)).mono λ_ _ _ bB=>bB.fill
 |loop c a1=>
  intro top p E O K r z vs m fr bb dE aJ aN bp h;simp only[j8] at h;split at h
  ·rename_i u hu;exact piece bb aJ aN bp hu h
  grind
 |skip=>intro top p E O K r z vs m fr bb dE aJ aN bp h;exact W.skip (je.here aN bp h)
 |label l=>intro top p E O K r z vs m fr bb dE aJ aN bp h;exact W.label (je.here aN bp h)
 |exit i=>intro top p E O K r z vs m fr bb dE aJ aN bp h;exact W.exit (je.here aN bp h)
 |ret=>intro top p E O K r z vs m fr bb dE aJ aN bp h;exact W.ret (je.here aN bp h)
 |_=>grind [j8]
end
end Go.aF
end
section
namespace Go.aF
inductive gR where
 |int (k:aG)|bool|str
 |bh (e:Nat)|mp (t bG bA:Nat)
 |agg (t:Nat)|hd (t:Nat)
 |fn (f:Nat) (ts:List Nat)
 |cut (j e:Nat)
inductive cw where
 |bh (e:Nat)|box (t:Nat)|recv (t:Nat)|arr (e t n:Nat)|map (t bG bA:Nat)
 |bL (t:Nat) (l:List (Nat×Nat))
 |uI (t f:Nat) (is:List Nat)
 |ne (e t:Nat)
inductive dt where
 |v (d:Nat) (c:gR)
 |o (d:Nat) (c:cw)
 |u (j:Nat) (c:cw)
noncomputable section
section
variable {P:bI} {D:Nat->Type}
def wF (D:Nat->Type):List Nat->Type|[]=>Unit|t::ts=>D t×wF D ts
def gR.ty (D:Nat->Type):gR->Type| .int _=>Int| .bool=>Bool| .str=>List UInt8| .bh e=>List (D e)| .mp _ bG bA=>List (D bG×D bA)| .agg t=>D t| .hd t=>D t| .fn _ ts=>wF D ts| .cut _ _=>Nat×Nat
def cw.ty (D:Nat->Type):cw->Type| .bh e=>List (D e)| .box t=>D t| .recv t=>D t| .arr e _ _=>List (D e)| .map _ bG bA=>List (D bG×D bA)| .bL t _=>D t| .uI _ _ _=>Unit| .ne _ t=>List (List (D t))
def dt.ty (D:Nat->Type):dt->Type| .v _ c=>c.ty D| .o _ c=>c.ty D| .u _ c=>c.ty D
def ft (D:Nat->Type):List dt->Type|[]=>Unit|i::is=>i.ty D×ft D is
variable (X:e3 P D)
def jl (t:Nat) (x:D t):List (cv D):=match X.I t with|some ti=>ti.kM x|none=>[]
def mA (t:Nat) (cs:List (cv D)):Option (D t):=match X.I t with|some ti=>ti.qk cs|none=>ae
def tD:(ts:List Nat)->wF D ts->List (Nat×List (cv D))|[],_=>[]|t::ts,x=>(t,jl X t x.1)::tD ts x.2
def xa:(ts:List Nat)->List (Nat×List (cv D))->Option (wF D ts)
 |[],[]=>J ()
 |t::ts,p::l=>if p.1=t then (match mA X t p.2,xa ts l with|some a,J b=>J (a,b)|_,_=>ae) else ae
 |_,_=>ae
def gR.mk:(c:gR)->c.ty D->bc D| .int k,n=> .c (.int k n)| .bool,b=> .c (.bool b)| .str,s=> .c (.str s)| .bh e,xs=> .c (.bh e xs)| .mp t bG bA,es=> .c (.mp t bG bA es)| .agg t,x=> .agg t (jl X t x)| .hd t,x=> .hd t (jl X t x) 0| .fn f ts,x=> .fn f (tD X ts x)| .cut j e,x=> .cut j e x.1 x.2
def gR.get:(c:gR)->bc D->Option (c.ty D)| .int k, .c (.int k' n)=>if k'=k then J n else ae| .bool, .c (.bool b)=>J b| .str, .c (.str s)=>J s| .bh e, .c .gE=>J []| .mp t bG bA, .c .oY=>J []| .bh e, .c (.bh cz xs)=>if h:cz=e then J (h▸xs) else ae| .mp t bG bA, .c (.mp eu lv lA es)=>if h:lv=bG/\lA=bA then (if eu=t then J (h.1▸h.2▸es) else ae) else ae| .agg t, .agg eu cs=>if eu=t then mA X t cs else ae| .hd t, .hd eu cs off=>if eu=t/\off=0 then mA X t cs else ae| .fn f ts, .fn ma l=>if ma=f then xa X ts l else ae| .cut _ e, .cut _ cz cf n=>if cz=e then J (cf,n) else ae|_,_=>ae
def nw:List (Nat×Nat)->Nat->Option Nat|[],_=>ae|p::l,i=>if fi p.1 i=aa then J p.2 else nw l i
def qi (cJ:Nat->Nat) (l:List (Nat×Nat)):Nat->List (cv D)->List (cv D)
 |_,[]=>[]
 |i,c::cs=>(match nw l i with|some n=> .own (cJ n)|none=>c)::qi cJ l (i+1) cs
def nQ (t:Nat):List (cv D):=match X.I t with|some ti=>ti.rk|none=>[]
def u6 (zs:List (cv D)) (l:List (Nat×Nat)):Nat->List (cv D)->List (cv D)
 |_,[]=>[]
 |i,c::cs=>(match nw l i with|some _=>zs.getD i .gE|none=>c)::u6 zs l (i+1) cs
def cw.gO (cJ:Nat->Nat):(c:cw)->c.ty D->Bool->ba D| .bh e,xs,w=> .bh e xs ak w| .box t,x,w=> .box t (jl X t x) ak w| .recv t,x,w=> .recv t (jl X t x) w| .arr e t n,xs,w=> .arr e t n xs w| .map t bG bA,es,w=> .map t bG bA es ak w| .bL t l,x,w=> .box t (qi cJ l 0 (jl X t x)) ak w| .uI t f is,_,w=> .box t [.fn f (is.map cJ)] ak w| .ne e t,eh,w=> .nest e t ((X.N e t).map vO.up) eh ae w
def cw.mk (c:cw) (x:c.ty D) (w:Bool):ba D:=cw.gO X (λn=>n) c x w
def cw.hs:cw->List Nat| .bL _ l=>l.map Prod.snd| .uI _ _ is=>is|_=>[]
def oZ (a:Option Nat) (i:Nat):Bool:=match a with|some j=>fi j i|none=>ak
def Lv (bO:List Nat) (cs:List (cv D)):List (Nat×Nat)->Bool
 |[]=>aa
 |p::l=>(match cs[p.1]? with|some (.own i)=>oZ (bO[p.2]?) i|_=>ak)&&Lv bO cs l
def Ji (bO:List Nat):List Nat->List Nat->Bool|[],[]=>aa|n::l,i::k=>oZ (bO[n]?) i&&Ji bO l k|_,_=>ak
def cw.get (bO:List Nat):(c:cw)->ba D->Option (c.ty D)| .bh e, .bh cz xs ak _=>if h:cz=e then J (h▸xs) else ae| .box t, .box eu cs ak _=>if eu=t then mA X t cs else ae| .recv t, .recv eu cs _=>if eu=t then mA X t cs else ae| .arr e t n, .arr cz eu n' xs _=>if h:cz=e then (if eu=t/\n'=n then J (h▸xs) else ae) else ae| .map t bG bA, .map eu lv lA es ak _=>if h:lv=bG/\lA=bA then (if eu=t then J (h.1▸h.2▸es) else ae) else ae| .bL t l, .box eu cs ak _=>if eu=t/\Lv bO cs l=aa then mA X t (u6 (nQ X t) l 0 cs) else ae| .uI t f is, .box eu [.fn ma u2] ak _=>if eu=t/\ma=f/\Ji bO is u2=aa then J () else ae| .ne e t, .nest cz eu _ eh ae _=>if h:eu=t then (if cz=e then J (h▸eh) else ae) else ae|_,_=>ae
def ba.clean:ba D->Bool| .box _ cs _ _=>cs.all zM| .recv _ cs _=>cs.all zM| .nest _ _ _ _ _ _=>ak|_=>aa
def UI (O:List (ba D)):bc D->Option (bc D×List (ba D))
 | .c c=>(match sY O c with|some (c3,cr)=>J (.c c3,cr)|none=>ae)
 | .agg t cs=>(match uJ O cs with|some (cs',cr)=>J (.agg t cs',cr)|none=>ae)
 | .cut i e cf n=>(match v8 O i with|some (.bh cz xs,cr)=>if cz=e then J (.c (.bh cz ((xs.take n).drop cf)),cr) else ae|_=>ae)
 |s=>J (s,O)
def LM:bc D->Option Nat| .c (.own i)=>J i| .box i _=>J i| .arr i=>J i| .el i _ _ _=>J i|_=>ae
def xB (l:List (Nat×Nat)):Nat->List (cv D)->Bool
 |_,[]=>ak
 |i,c::cs=>(match c with| .own _=>(match nw l i with|none=>aa|_=>ak)|_=>ak)||xB l (i+1) cs
def Jw (l:List (Nat×Nat)):Nat->List (cv D)->List (ba D)->Option (List (cv D)×List (ba D))
 |_,[],O=>J ([],O)
 |i,c::cs,O=>
  match (match nw l i with|some _=>J (c,O)|none=>sY O c) with
  |some (c3,cr)=>(match Jw l (i+1) cs cr with|some (cs',uo)=>J (c3::cs',uo)|none=>ae)
  |none=>ae
def uK (l:List (Nat×Nat)) (O:List (ba D)) (i:Nat):Option (List (ba D)):=
 match O[i]? with
 |some (.box t cs ak _)=>if xB l 0 cs=aa then (match Jw l 0 cs O with|some (cs',cr)=>J (cr.set i (.box t cs' ak aa))|none=>ae) else J O
 |_=>J O
def UJ (c:gR) (O:List (ba D)) (s:bc D):Option (bc D×List (ba D)):=
 match c,s with
 | .cut _ _,s=>J (s,O)
 | .hd _, .box i off=>
  (match uK [] O i with
  |some cu=>(match vp cu (.box i off) with|some (p,dz)=>J (.hd p.1 p.2 0,dz)|none=>ae)
  |none=>ae)
 |_,s=>UI O s
def rL (E:List (Nat×bc D)):List dt->List (ba D)->Option (List (bc D)×List (ba D))
 |[],O=>J ([],O)
 | .v d c::aQ,O=>
  match UJ c O (eI E d) with
  |some (s,cr)=>(match rL E aQ cr with|some (l,uo)=>J (s::l,uo)|none=>ae)
  |none=>ae
 |_::aQ,O=>match rL E aQ O with|some (l,cr)=>J (.un::l,cr)|none=>ae
def rF:Nat:=2000000
def ZD:Nat:=100000000
def ZE:Nat:=200000000
def Co:List (cv D)->List Nat|[]=>[]| .own i::cs=>i::Co cs| .fn _ is::cs=>is++Co cs|_::cs=>Co cs
def ae8 (O:List (ba D)) (i:Nat):List Nat:=match O[i]? with|some (.box _ cs _ _)=>Co cs|some (.recv _ cs _)=>Co cs|_=>[]
def Xs (O:List (ba D)):Nat->List Nat->List Nat->List Nat|0,_,s=>s|_+1,[],s=>s|n+1,i::l,s=>if s.any (fi i)=aa then Xs O n l s else Xs O n (ae8 O i++l) (s++[i])
def ae3:List (Nat×bc D)->List Nat
 |[]=>[]
 |p::E=>(match LM p.2 with|some i=>[i]|none=>[])++ae3 E
def ae2 (E:List (Nat×bc D)) (O:List (ba D)):Nat->Nat->Option Nat
 |0,_=>ae
 |n+1,m=>if fi (m%64) 0=aa then LM (eI E (m / 64)) else (match ae2 E O n (m / 64) with|some i=>(ae8 O i)[m%64 - 1]? |none=>ae)
def T4 (E:List (Nat×bc D)) (O:List (ba D)) (d:Nat):Option Nat:=
 if iJ 1000000000 d=aa then LM (eI E d) else
 if iJ ZE d=aa then ae2 E O 8 (d - ZE) else
 if mn d rF=aa then LM (eI E d)
 else if iJ ZD d=aa then J (d - ZD)
 else match eI E ((d - rF) / 1000) with
  | .box i 0=>(match O[i]? with|some (.box _ cs _ _)=>(match cs[(d - rF)%1000]? with|some (.own n)=>J n|_=>ae)|_=>ae)
  |_=>ae
def I9 (E:List (Nat×bc D)) (O:List (ba D)):List dt->Option (List Nat)
 |[]=>J []
 | .o d _::aQ=>(match T4 E O d,I9 E O aQ with|some i,J l=>J (i::l)|_,_=>ae)
 |_::aQ=>I9 E O aQ
def pt (E:List (Nat×bc D)):List dt->List (ba D)->Option (List (ba D))
 |[],O=>J O
 | .o d (.box _)::aQ,O=>(match T4 E O d with|some i=>(match uK [] O i with|some cr=>pt E aQ cr|none=>ae)|none=>ae)
 | .o d (.bL _ l)::aQ,O=>(match T4 E O d with|some i=>(match uK l O i with|some cr=>pt E aQ cr|none=>ae)|none=>ae)
 | .u j (.box _)::aQ,O=>(match uK [] O j with|some cr=>pt E aQ cr|none=>ae)
 | .u j (.bL _ l)::aQ,O=>(match uK l O j with|some cr=>pt E aQ cr|none=>ae)
 |_::aQ,O=>pt E aQ O
def Z4 (bO:List Nat):gR->bc D->Bool| .cut j _, .cut i _ _ _=>oZ (bO[j]?) i|_,_=>aa
def iG (gr:List Nat) (O:List (ba D)):(aQ:List dt)->List (bc D)->List Nat->Option (ft D aQ)
 |[],_,[]=>J ()
 | .v d c::aQ,s::l,bO=>if Z4 gr c s=aa then (match gR.get X c s,iG gr O aQ l bO with|some x,J y=>J (x,y)|_,_=>ae) else ae
 | .o d c::aQ,_::l,i::bO=>
  match O[i]? with
  |some o=>(match cw.get X gr c o,iG gr O aQ l bO with|some x,J y=>J (x,y)|_,_=>ae)
  |none=>ae
 | .u j c::aQ,_::l,bO=>
  match O[j]? with
  |some o=>(match cw.get X gr c o,iG gr O aQ l bO with|some x,J y=>J (x,y)|_,_=>ae)
  |none=>ae
 |_,_,_=>ae
def eU:(aQ:List dt)->ft D aQ->List (ba D)|[],_=>[]| .o _ c::aQ,x=>cw.mk X c x.1 ak::eU aQ x.2| .v _ _::aQ,x=>eU aQ x.2| .u _ _::aQ,x=>eU aQ x.2
def hc:(aQ:List dt)->ft D aQ->List (Nat×bc D)|[],_=>[]| .v d c::aQ,x=>(d,gR.mk X c x.1)::hc aQ x.2| .o _ _::aQ,x=>hc aQ x.2| .u _ _::aQ,x=>hc aQ x.2
def wa (bO:List Nat):bc D->bc D->Bool| .c (.own j), .c (.own i)=>oZ (bO[j]?) i| .box j o, .box i p=>oZ (bO[j]?) i&&fi o p| .arr j, .arr i=>oZ (bO[j]?) i| .c .gE, .c .gE=>aa| .c .za, .c .za=>aa| .c .oY, .c .oY=>aa| .undef, .undef=>aa| .un,_=>aa| .c (.int k n), .c (.int k' n')=>decide (k=k')&&(n==n')| .c (.bool b), .c (.bool dJ)=>b==dJ| .fn f [], .fn ma []=>fi f ma| .hd t [.own j] o, .hd eu [.own i] p=>oZ (bO[j]?) i&&(fi t eu&&fi o p)| .fn f [(t,[.own j])], .fn ma [(eu,[.own i])]=>oZ (bO[j]?) i&&(fi t eu&&fi f ma)|_,_=>ak
def pE (cJ:Nat->Nat):bc D->bc D| .c (.own j)=> .c (.own (cJ j))| .box j o=> .box (cJ j) o| .arr j=> .arr (cJ j)| .hd t [.own j] o=> .hd t [.own (cJ j)] o| .fn f [(t,[.own j])]=> .fn f [(t,[.own (cJ j)])]|s=>s
def tE:List Nat->Bool|[]=>aa|i::l=> !(l.any λj=>fi j i)&&tE l
def Ci (l:List (Nat×Nat)):Nat->List (cv D)->Bool
 |_,[]=>aa
 |i,c::cs=>(match nw l i with|some _=>aa|none=>zM c)&&Ci l (i+1) cs
def cw.uF:cw->ba D->Bool| .bL _ l, .box _ cs _ _=>Ci l 0 cs|_,o=>o.clean
def zF (c:cw) (O:List (ba D)) (i:Nat):Bool:=match O[i]? with|some o=>o.nd|| !(c.uF o)|none=>aa
def mY (gr:List Nat):(aQ:List dt)->ft D aQ->List Nat->List (ba D)->List (ba D)| .o _ c::aQ,x,i::bO,O=>mY gr aQ x.2 bO (O.set i (cw.gO X (λn=>gr.getD n 0) c x.1 (zF c O i)))| .v _ _::aQ,x,bO,O=>mY gr aQ x.2 bO O| .u _ _::aQ,x,bO,O=>mY gr aQ x.2 bO O|_,_,_,O=>O
def Lu (aQ:List dt) (fg:List (Nat×bc D)) (E:List (Nat×bc D)) (O:List (ba D)):Option (ft D aQ×List Nat×List (ba D)):=match rL E aQ O,I9 E O aQ with|some (cX,cu),J bO=>if tE bO&&fg.all λp=>wa bO p.2 (eI E p.1) then match iG X bO cu aQ cX bO with|some x=>J (x,bO,mY X bO aQ x bO cu)|none=>ae else ae|_,_=>ae
def sl (aQ:List dt) (fg:List (Nat×bc D)) (E:List (Nat×bc D)) (O:List (ba D)):Option (ft D aQ×List Nat×List (ba D)):=match pt E aQ O with|some pU=>Lu X aQ fg E pU|none=>ae
end
section
variable {P:bI} {D:Nat->Type} {X:e3 P D} {z z':Nat->bW} {e m m':Mem} {k:Option Nat} {vs vs':List af} {fr:Nat->af} {E:List (Nat×bc D)} {O cr:List (ba D)}
def tC {t:Nat} {x:D t} {ds:List af} (h:bP (ed X.G z vs) (jl X t x) ds):bP (ed X.G z vs') (jl X t x) ds:=by
 unfold jl at h⊢;split at h
 ·rename_i ti _;exact ti.rc z vs' x ds (ti.r6 z vs _ x ds (ti.V1 x) h)
 ·exact bP.mono (λ_ _ h=>h) (by cases ds with|nil=>trivial|cons _ _=>exact h.elim)
def vl {t:Nat} {x:D t} {cs:List (cv D)} {ds:List af} (bb:mA X t cs=J x) (h:bP (ed X.G z vs) cs ds):bP (ed X.G z vs') (jl X t x) ds:=by
 unfold mA at bb;unfold jl;split at bb
 ·rename_i ti iE;exact ti.rc z vs' x ds (ti.r6 z vs cs x ds bb h)
 grind
def LA {t:Nat} {x:D t} {cs:List (cv D)} (bb:mA X t cs=J x) (h:cs.all zM=aa):cs=jl X t x:=by
 unfold mA at bb;unfold jl;split at bb
 ·rename_i ti iE;exact (ti.Ko cs x bb).eq h
 grind
def auW {t:Nat} {x:D t} {cs:List (cv D)} (bb:mA X t cs=J x):pR cs (jl X t x):=by
 unfold mA at bb;unfold jl;split at bb
 ·rename_i ti iE;exact ti.Ko cs x bb
 grind
def acC:∀{ts:List Nat} {x:wF D ts} {gs:List af},bP (λc g=>lU X.G z vs c.2 0 g) (tD X ts x) gs->bP (λc g=>lU X.G z vs' c.2 0 g) (tD X ts x) gs
 |[],_,[],_=>trivial
 |[],_,_::_,h=>h.elim
 |t::ts,x,[],h=>h.elim
 |t::ts,x,g::gs,⟨⟨b,o,ds,h1,ai,aT⟩,br⟩=>⟨⟨b,o,ds,h1,ai,tC aT⟩,acC br⟩
def acw:∀{ts:List Nat} {l:List (Nat×List (cv D))} {x:wF D ts} {gs:List af},xa X ts l=J x->bP (λc g=>lU X.G z vs c.2 0 g) l gs->bP (λc g=>lU X.G z vs' c.2 0 g) (tD X ts x) gs
 |[],[],_,[],_,_=>trivial
 |[],[],_,_::_,_,h=>h.elim
 |[],_::_,_,_,h,_=>by cases h
 |_::_,[],_,_,h,_=>by cases h
 |t::ts,p::l,x,[],_,h=>h.elim
 |t::ts,p::l,x,g::gs,h,⟨⟨b,o,ds,h1,ai,aT⟩,br⟩=>by
  simp only[xa] at h;split at h
  ·split at h
   ·rename_i a dJ bl aw;cases h;exact ⟨⟨b,o,ds,h1,ai,vl bl aT⟩,acw aw br⟩
   grind
  grind
def gR.y9:gR->Bool| .cut _ _=>ak|_=>aa
theorem gR.VP {c:gR} {x:c.ty D} {v:af} (ay:c.y9=aa) (h:rel X.G z vs (gR.mk X c x) v):rel X.G z vs' (gR.mk X c x) v:=by
 cases c with
 |cut j e=>cases ay
 |agg t=>obtain ⟨ds,h1,ai⟩:=h;exact ⟨ds,h1,tC ai⟩
 |hd t=>obtain ⟨b,o,ds,h1,ai,aT⟩:=h;exact ⟨b,o,ds,h1,ai,tC aT⟩
 |fn f ts=>obtain ⟨gs,h1,ai⟩:=h;exact ⟨gs,h1,acC ai⟩
 |_=>exact h
def ad1 {a:Option Nat} {i:Nat} (h:oZ a i=aa):a=J i:=by
 unfold oZ at h
 grind [kA]
def gR.A7 {bO:List Nat} {c:gR} {x:c.ty D} {s:bc D} {v:af} (hm:∀(j i:Nat) (u:af),bO[j]? =J i->vs[i]? =J u->vs'[j]? =J u) (gN:Z4 bO c s=aa) (bs:gR.get X c s=J x) (h:rel X.G z vs s v):rel X.G z vs' (gR.mk X c x) v:=by
 unfold gR.get at bs;split at bs
 ·split at bs
  ·rename_i hk;cases bs;subst hk;exact h
  grind
 ·cases bs;exact h
 ·cases bs;exact h
 ·cases bs;exact .inl ⟨h,rfl⟩
 ·cases bs;exact .inl ⟨h,rfl⟩
 ·split at bs
  ·rename_i hk;cases bs;subst hk;exact h
  grind
 ·split at bs
  ·rename_i hk;split at bs
   ·rename_i aJ;obtain ⟨h1,ai⟩:=hk;subst h1 ai aJ;cases bs;exact h
   grind
  grind
 ·obtain ⟨_,bs⟩:=gz bs;obtain ⟨ds,h1,ai⟩:=h;exact ⟨ds,h1,vl bs ai⟩
 ·obtain ⟨hk,bs⟩:=gz bs;obtain ⟨b,o,ds,h1,ai,aT⟩:=h;exact ⟨b,o,ds,by grind,ai,vl bs aT⟩
 ·obtain ⟨hk,bs⟩:=gz bs;subst hk;obtain ⟨gs,h1,ai⟩:=h;exact ⟨gs,h1,acw bs ai⟩
 ·obtain ⟨hk,bs⟩:=gz bs;subst hk;cases bs;obtain ⟨w,h1,ai⟩:=h;exact ⟨w,⟨hm _ _ _ (ad1 gN) h1.1,h1.2⟩,ai⟩
 grind
theorem cw.tn {cJ:Nat->Nat} {c:cw} {x:c.ty D} {w:Bool}:(cw.gO X cJ c x w).live=aa:=by cases c<;>rfl
theorem cw.Kc {cJ:Nat->Nat} {c:cw} {x:c.ty D} {w:Bool}:(cw.gO X cJ c x w).nd=w:=by cases c<;>first|rfl|simp[cw.gO,ba.nd]
theorem cw.u4 {c:cw} {x:c.ty D} {w:Bool}:(cw.mk X c x w).live=aa:=cw.tn
theorem lx {aK cg:Type} {R:aK->cg->Prop}:∀{l:List aK} {k:List cg},bP R l k↔l.length=k.length/\∀(i:Nat) (a:aK) (b:cg),l[i]? =J a->k[i]? =J b->R a b
 |[],[]=>by simp[bP]
 |[],_::_=>by simp[bP]
 |_::_,[]=>by simp[bP]
 |a::l,b::k=>by
  simp only[bP,lx (l:=l) (k:=k),ry];constructor
  ·grind
  ·rintro ⟨h1,ai⟩;exact ⟨ai 0 a b rfl rfl,by omega,λi x y an aZ=>ai (i+1) x y (by grind) (by grind)⟩
theorem B5 {cJ:Nat->Nat} {l:List (Nat×Nat)}:∀{cs:List (cv D)} {i0 i:Nat},(qi cJ l i0 cs)[i]? =(cs[i]?).map λc=>match nw l (i0+i) with|some n=> .own (cJ n)|none=>c
 |[],i0,i=>by rfl
 |c::cs,i0,0=>by rfl
 |c::cs,i0,i+1=>by simp only[qi,qH];rw[B5 (cs:=cs),show i0+1+i=i0+(i+1) by omega]
theorem ac7 {zs:List (cv D)} {l:List (Nat×Nat)}:∀{cs:List (cv D)} {i0 i:Nat},(u6 zs l i0 cs)[i]? =(cs[i]?).map λc=>match nw l (i0+i) with|some _=>zs.getD (i0+i) .gE|none=>c
 |[],i0,i=>by rfl
 |c::cs,i0,0=>by rfl
 |c::cs,i0,i+1=>by simp only[u6,qH];rw[ac7 (cs:=cs),show i0+1+i=i0+(i+1) by omega]
theorem Wy {cJ:Nat->Nat} {l:List (Nat×Nat)}:∀{cs:List (cv D)} {i0:Nat},(qi cJ l i0 cs).length=cs.length
 |[],_=>rfl
 |c::cs,i0=>by simp[qi,Wy (cs:=cs)]
def XE {t:Nat} (i:Nat):∃v,∀(z:Nat->bW) (vs:List af),ed X.G z vs ((nQ X t).getD i .gE) v:=by
 unfold nQ;cases iE:X.I t with
 |none=>exact ⟨.slice ae 0 0,λz vs=>rfl⟩
 |some ti=>
  simp only;cases ay:ti.rk[i]? with
  |none=>exact ⟨.slice ae 0 0,λz vs=>by rw[YV,ay];rfl⟩
  |some c=>obtain ⟨v,aD,_⟩:=(ti.qX (λ_=> .dead) []).get i c ay;refine ⟨v,λz vs=> ?_⟩;rw[YV,ay];exact (lx.1 (ti.qX z vs)).2 i c v ay aD
theorem adj {zs:List (cv D)} {l:List (Nat×Nat)}:∀{cs:List (cv D)} {i0:Nat},(u6 zs l i0 cs).length=cs.length
 |[],_=>rfl
 |c::cs,i0=>by simp[u6,adj (cs:=cs)]
def B1:∀{l:List (Nat×Nat)} {i n:Nat},nw l i=J n->(i,n)∈l
 |[],_,_,h=>by cases h
 |p::l,i,n,h=>by
  simp only[nw] at h;split at h
  ·grind [kA]
  ·exact kn _ (B1 h)
theorem KP {bO:List Nat} {cs:List (cv D)}:∀{l:List (Nat×Nat)},Lv bO cs l=aa->∀p∈l,∃i,cs[p.1]? =J (.own i)/\bO[p.2]? =J i
 |[],_,_,h=>by grind
 |q::l,h,p,bb=>by
  simp only[Lv,fx] at h;rcases ha.1 bb with rfl|bb
  ·grind [oZ,kA]
  ·exact KP h.2 p bb
theorem as9 {t:Nat} {x:D t}:(jl X t x).all qf=aa:=by
 unfold jl;split
 ·rename_i ti _;exact ti.VN x
 rfl
theorem aqH {c:cv D} {v:af} (ay:qf c=aa) (h:ed X.G z vs c v) (bF:∀f is,c≠ .fn f is):ed X.G z vs' c v:=by
 cases c<;>first|exact h|cases ay|grind
theorem aq6 {c:cv D} {v:af} (ay:qf c=aa) (h:ed X.G z vs c v):ed X.G z vs' c v:=by
 cases c with
 |fn f is=>
  cases is with
  |nil=>obtain ⟨gs,h1,ai⟩:=h;exact ⟨gs,h1,by cases gs with|nil=>trivial|cons _ _=>exact ai.elim⟩
  |cons _ _=>cases ay
 |_=>grind [aqH]
def XH (i:Nat):ba D->Prop| .box _ cs _ _=> .own i∈cs\/∃f is, .fn f is∈cs/\i∈is|_=>False
def Lb {bO:List Nat}:∀{l k:List Nat},Ji bO l k=aa->bP (λn i=>bO[n]? =J i) l k
 |[],[],_=>trivial
 |n::l,i::k,h=>by simp only[Ji,fx] at h;exact ⟨ad1 h.1,Lb h.2⟩
 |[],_::_,h=>by cases h
 |_::_,[],h=>by cases h
def adR {cJ nR:Nat->Nat}:∀{is:List Nat} {gs:List af},(∀n∈is,∀u,vs[cJ n]? =J u->vs'[nR n]? =J u)->bP (sQ vs) (is.map cJ) gs->bP (sQ vs') (is.map nR) gs
 |[],[],_,_=>trivial
 |[],_::_,_,h=>h.elim
 |_::_,[],_,h=>h.elim
 |n::is,g::gs,aD,⟨h1,ai⟩=>⟨⟨aD n oG g h1.1,h1.2⟩,adR (λm hm=>aD m (kn _ hm)) ai⟩
def adS {bO:List Nat} {cJ:Nat->Nat} (aD:∀n i u,bO[n]? =J i->vs[i]? =J u->vs'[cJ n]? =J u):∀{is u2:List Nat} {gs:List af},bP (λn i=>bO[n]? =J i) is u2->bP (sQ vs) u2 gs->bP (sQ vs') (is.map cJ) gs
 |[],[],[],_,_=>trivial
 |_::_,[],_,h,_=>h.elim
 |[],_::_,_,h,_=>h.elim
 |[],[],_::_,_,h=>h.elim
 |_::_,_::_,[],_,h=>h.elim
 |n::is,j::u2,g::gs,⟨h1,ai⟩,⟨cL,c9⟩=>⟨⟨aD n j g h1 cL.1,cL.2⟩,adS aD ai c9⟩
def cw.abB {cJ nR:Nat->Nat} {c:cw} {x:c.ty D} {v:af} {w:Bool} (w':Bool) (h:hf X.G z e m k vs (cw.gO X cJ c x w) v) (aD:∀n∈c.hs,XH (cJ n) (cw.gO X cJ c x w)->∀u,vs[cJ n]? =J u->vs'[nR n]? =J u):hf X.G z e m k vs' (cw.gO X nR c x w') v:=by
 cases c with
 |box t=>obtain ⟨b,ds,h1,ai,aT,br⟩:=h;exact ⟨b,ds,h1,ai,aT,tC br⟩
 |recv t=>obtain ⟨b,ds,h1,ai,br⟩:=h;exact ⟨b,ds,h1,ai,tC br⟩
 |bL t l=>
  obtain ⟨b,ds,h1,ai,aT,br⟩:=h;refine ⟨b,ds,h1,ai,aT,lx.2 ⟨?_,λi a d bl bg=> ?_⟩⟩
  ·grind [lx,Wy]
  ·rw[B5] at bl;obtain ⟨a0,bR,bl⟩:=vT.1 bl;have aV:=(lx.1 br).2 i _ d (by rw[B5,bR];rfl) bg;rw[lH] at bl aV;cases bF:nw l i with
   |none=>
    grind [aq6,as9]
   |some n=>rw[bF] at bl aV;subst bl;exact ⟨aD n (l2.2 ⟨_,B1 bF,rfl⟩) (.inl (mM (i:=i) (by grind [B5]))) d aV.1,aV.2⟩
 |uI t f is=>
  obtain ⟨b,ds,h1,ai,aT,br⟩:=h;refine ⟨b,ds,h1,ai,aT, ?_⟩
  match ds,br with
  |[d],⟨⟨gs,g1,g2⟩,_⟩=>exact ⟨⟨gs,g1,adR (λn bB=>aD n bB (.inr ⟨f,_,oG,l2.2 ⟨n,bB,rfl⟩⟩)) g2⟩,trivial⟩
 |ne e t=>obtain ⟨hu,ws,h⟩:=h;exact ⟨hu,ws,h.bT,h.len,h.oU,λp bb=>by grind⟩
 |_=>exact h
def cw.y8 {cJ nR:Nat->Nat} {c:cw} {x:c.ty D} {v:af} {w:Bool} (w':Bool) (h:hf X.G z e m k vs (cw.gO X cJ c x w) v) (aD:∀n∈c.hs,∀u,vs[cJ n]? =J u->vs'[nR n]? =J u):hf X.G z e m k vs' (cw.gO X nR c x w') v:=cw.abB w' h λn bB _=>aD n bB
def auf {e t:Nat}:ZB X.G e t ((X.N e t).map vO.up):=by
 intro f bF;cases bB:X.N e t with
 |none=>grind
 |some eG=>rw[bB] at bF;cases bF;exact ⟨eG.cN,eG.tid,eG.aV⟩
theorem cw.A7 {bO:List Nat} {cJ:Nat->Nat} {c:cw} {x:c.ty D} {o:ba D} {v:af} (bs:cw.get X bO c o=J x) (h:hf X.G z e m k vs o v) (aD:∀n i u,bO[n]? =J i->vs[i]? =J u->vs'[cJ n]? =J u) (w:Bool):hf X.G z e m k vs' (cw.gO X cJ c x w) v:=by
 unfold cw.get at bs;split at bs
 ·split at bs
  ·rename_i hk;cases bs;subst hk;exact h
  grind
 ·obtain ⟨hk,bs⟩:=gz bs;subst hk;obtain ⟨b,ds,h1,ai,aT,br⟩:=h;exact ⟨b,ds,h1,ai,aT,vl bs br⟩
 ·obtain ⟨hk,bs⟩:=gz bs;subst hk;obtain ⟨b,ds,h1,ai,br⟩:=h;exact ⟨b,ds,h1,ai,vl bs br⟩
 ·split at bs
  ·rename_i hk;split at bs
   ·rename_i aJ;obtain ⟨h1,ai⟩:=aJ;subst hk h1 ai;cases bs;exact h
   grind
  grind
 ·split at bs
  ·rename_i hk;split at bs
   ·rename_i aJ;obtain ⟨h1,ai⟩:=hk;subst h1 ai aJ;cases bs;exact h
   grind
  grind
 ·rename_i t l eu cs ez;obtain ⟨hk,bs⟩:=gz bs;obtain ⟨rfl,aR⟩:=hk;obtain ⟨b,ds,h1,ai,aT,br⟩:=h;have hlen:=(lx.1 br).1;have bB:bP (ed X.G z vs) (u6 (nQ X eu) l 0 cs) ((mN ds.length).map λi=>match nw l i with|some _=>YA (XE (X:=X) (t:=eu) i)|none=>ds.getD i undef):=by
   grind [lx,adj,ac7]
  have bB:=vl (vs':=vs') bs bB;refine ⟨b,ds,h1,ai,aT,lx.2 ⟨by grind [Wy,lx],λi a d bl bg=> ?_⟩⟩;rw[B5] at bl;obtain ⟨a0,bR,bl⟩:=vT.1 bl;rw[lH] at bl;have az:i<ds.length:=(fq.1 bg).1;cases bF:nw l i with
  |none=>
   grind [lx]
  |some n=>rw[bF] at bl;subst bl;obtain ⟨i0,g1,g2⟩:=KP aR _ (B1 bF);have aV:=(lx.1 br).2 i _ d g1 bg;exact ⟨aD n i0 d g2 aV.1,aV.2⟩
 ·obtain ⟨⟨rfl,rfl,ay⟩,bs⟩:=gz bs;obtain ⟨b,ds,h1,ai,aT,br⟩:=h;refine ⟨b,ds,h1,ai,aT, ?_⟩
  match ds,br with
  |[d],⟨⟨gs,g1,g2⟩,_⟩=>exact ⟨⟨gs,g1,adS aD (Lb ay) g2⟩,trivial⟩
 ·split at bs
  ·rename_i hk;subst hk;obtain ⟨hk,bs⟩:=gz bs;subst hk;cases bs;obtain ⟨_,ws,h⟩:=h;exact ⟨auf,ws,h.bT,h.len,h.oU,λp bb=>by grind⟩
  grind
 grind
theorem cw.amY {bO:List Nat} {c:cw} {x:c.ty D} {o:ba D} (bs:cw.get X bO c o=J x):∀n∈c.hs,∃i,bO[n]? =J i:=by
 intro n bB;unfold cw.get at bs;split at bs
 ·grind [cw.hs]
 ·grind [cw.hs]
 ·grind [cw.hs]
 ·grind [cw.hs]
 ·grind [cw.hs]
 ·obtain ⟨⟨_,aR⟩,_⟩:=gz bs;obtain ⟨p,bb,rfl⟩:=l2.1 bB
  grind [KP]
 ·rename_i t f is eu ma u2 ez;obtain ⟨⟨_,_,ay⟩,_⟩:=gz bs;have:∀{l k:List Nat},bP (λn i=>bO[n]? =J i) l k->∀n∈l,∃i,bO[n]? =J i:=by
   intro l;induction l with
   |nil=>grind
   |cons a l a1=>
    intro k hk n bB;cases k with
    |nil=>exact hk.elim
    |cons b k=>
     rcases ha.1 bB with rfl|bB
     ·exact ⟨b,hk.1⟩
     ·exact a1 hk.2 n bB
  exact this (Lb ay) n bB
 ·grind [cw.hs]
 grind
theorem cw.UL {bO:List Nat} {c:cw} {x:c.ty D} {o:ba D} (bs:cw.get X bO c o=J x):o.live=aa:=by
 unfold cw.get at bs;split at bs<;>first|rfl|grind
def acH {cJ:Nat->Nat} {zs:List (cv D)} {l:List (Nat×Nat)}:∀{cs ds:List (cv D)} {i:Nat},pR (u6 zs l i cs) ds->Ci l i cs=aa->(∀j n,nw l (i+j)=J n->cs[j]? =ae\/cs[j]? =J (.own (cJ n)))->qi cJ l i ds=cs
 |[],[],_,_,_,_=>rfl
 |[],_::_,_,h,_,_=>h.elim
 |_::_,[],_,h,_,_=>h.elim
 |c::cs,d::ds,i,h,ay,aM=>by
  simp only[Ci,fx] at ay;have ai:=acH (cs:=cs) (ds:=ds) (i:=i+1) h.2 ay.2 λj n bn=>by have:=aM (j+1) n (by grind);simpa using this
  simp only[qi,ai];have bR:=aM 0;rw[pS] at bR;cases bF:nw l i with
  |some n=>
   grind
  |none=>
   have h1:=h.1
   grind
theorem cw.amX {bO:List Nat} {c:cw} {x:c.ty D} {o:ba D} (bs:cw.get X bO c o=J x) (h:c.uF o=aa):o=cw.gO X (λn=>bO.getD n 0) c x o.nd:=by
 unfold cw.get at bs;split at bs
 ·split at bs
  ·rename_i hk;cases bs;subst hk;rfl
  grind
 ·obtain ⟨hk,bs⟩:=gz bs;subst hk;simp only[cw.gO,ba.nd];rw[<-LA bs h]
 ·obtain ⟨hk,bs⟩:=gz bs;subst hk;simp only[cw.gO,ba.nd];rw[<-LA bs h]
 ·split at bs
  ·rename_i hk;split at bs
   ·rename_i aJ;obtain ⟨h1,ai⟩:=aJ;subst hk h1 ai;cases bs;rfl
   grind
  grind
 ·split at bs
  ·rename_i hk;split at bs
   ·rename_i aJ;obtain ⟨h1,ai⟩:=hk;subst h1 ai aJ;cases bs;rfl
   grind
  grind
 ·rename_i t l eu cs ez;obtain ⟨⟨rfl,aR⟩,bs⟩:=gz bs;simp only[cw.gO,ba.nd];rw[acH (auW bs) (h:Ci l 0 cs=aa) λj n bn=> .inr ?_];obtain ⟨i,g1,g2⟩:=KP aR (j,n) (B1 (by grind))
  grind
 ·rename_i t f is eu ma u2 ez;obtain ⟨⟨rfl,rfl,ay⟩,bs⟩:=gz bs;have:∀{l k:List Nat},bP (λn i=>bO[n]? =J i) l k->l.map (λn=>bO.getD n 0)=k:=by
   intro l;induction l with
   |nil=>intro k hk;cases k with
    |nil=>rfl
    |cons _ _=>exact hk.elim
   |cons a l a1=>
    intro k hk;cases k with
    |nil=>exact hk.elim
    |cons b k=>rw[rA,a1 hk.2,YV,hk.1];rfl
  simp only[cw.gO,ba.nd];rw[this (Lb ay)]
 ·split at bs
  ·rename_i hk;subst hk;obtain ⟨hk,bs⟩:=gz bs;subst hk;cases h
  grind
 grind
end
end
end Go.aF
end
section
namespace Go.aF
section
variable {P:bI} {D:Nat->Type} {X:e3 P D} {z z':Nat->bW} {e m m':Mem} {k:Option Nat} {vs vs':List af} {fr:Nat->af} {E:List (Nat×bc D)} {O cr:List (ba D)}
def b9.G3 (h:b9 X.G O z e m k vs) (len:vs'.length=cr.length) (Ap:Nat->Nat)
  (aR:∀(i:Nat) (o:ba D),cr[i]? =J o->o.live=aa->∃p v,O[Ap i]? =J p/\p.live=aa/\vs[Ap i]? =J v/\vs'[i]? =J v/\hf X.G z e m k vs' o v)
  (bF:∀(i:Nat) (o:ba D) (v:af),cr[i]? =J o->o.live=ak->vs'[i]? =J v->hf X.G z e m k vs' o v)
  (inj:∀(i j:Nat) (o p:ba D),cr[i]? =J o->cr[j]? =J p->o.live=aa->p.live=aa->Ap i=Ap j->i=j):b9 X.G cr z e m k vs' where
 aS:=h.aS
 len:=len
 obj:=λi o v aM aD=>by
  grind
 fD:=λi j o p v w hq aM bb cf bE aD hw=>by obtain ⟨kN,v1,g1,g2,g3,g4,_⟩:=aR i o aM cf;obtain ⟨iS,v2,cL,c9,fo,k4,_⟩:=aR j p bb bE;rw[aD] at g4;cases g4;rw[hw] at k4;cases k4;exact h.fD (Ap i) (Ap j) kN iS v w (λcp=>hq (inj i j o p aM bb cf bE cp)) g1 cL g2 c9 g3 fo
def hf.frozen {o:ba D} {v:af} (aR:o.live=ak) (h:hf X.G z e m k vs o v) (bx:fl z z') (aD:∀(i:Nat) (u:af),vs[i]? =J u->vs'[i]? =J u):hf X.G z' e m' k vs' o v:=by
 cases o with
 |dead=>trivial
 |bh t xs bZ _=>cases bZ with
  |true=>exact fA.mono bx h
  |false=>cases aR
 |box t cs bZ _=>cases bZ with
  |true=>obtain ⟨b,ds,h1,ai,aT⟩:=h;exact ⟨b,ds,h1,Kp bx ai,pb.mono aT bx aD⟩
  |false=>cases aR
 |map t bG bA es bZ _=>cases bZ with
  |true=>exact nn.mono h bx
  |false=>cases aR
 |_=>cases aR
def Cm (h:∀p∈E,rel X.G z vs p.2 (fr p.1)):fj X z vs E fr:=by
 induction E with
 |nil=>intro d;trivial
 |cons p E a1=>exact (a1 λq bm=>h q (kn _ bm)).cons (h p oG)
def asY {s jx:bc D} {v:af} (aN:b9 X.G O z e m k vs) (h:UI O s=J (jx,cr)) (aD:rel X.G z vs s v):∃z',Inv O cr/\dT e.next z z'/\b9 X.G cr z' e m k vs/\rel X.G z' vs jx v:=by
 unfold UI at h;split at h
 ·split at h
  ·rename_i c c3 cu ay;cases h;exact zw aN ay aD
  grind
 ·split at h
  ·rename_i t cs cs' cu ay;cases h;obtain ⟨ds,h1,ai⟩:=aD;obtain ⟨z',g0,g1,g2,g3⟩:=K1 aN ay ai;exact ⟨z',g0,g1,g2,ds,h1,g3⟩
  grind
 ·split at h
  ·rename_i bX xs cu ay;split at h
   ·rename_i he;subst he;cases h;obtain ⟨w,h1,ai⟩:=aD;obtain ⟨z',g0,g1,g2,g3⟩:=zw (c:= .own _) aN ay h1;exact ⟨z',g0,g1,g2,ai.avG g3⟩
   grind
  grind
 grind [Inv.refl,dT.refl]
theorem arZ {i j t:Nat} {c:cv D} {cs:List (cv D)} {bZ w:Bool} (h:v8 O j=J (c,cr)) (az:O[i]? =J (.box t cs bZ w)):cr[i]? =J (.box t cs bZ w):=by
 unfold v8 at h;split at h
 ·grind
 ·grind
 ·grind
 grind
theorem arY {i t:Nat} {c c3:cv D} {cs:List (cv D)} {bZ w:Bool} (h:sY O c=J (c3,cr)) (az:O[i]? =J (.box t cs bZ w)):cr[i]? =J (.box t cs bZ w):=by
 unfold sY at h
 grind [arZ]
def adK {l:List (Nat×Nat)}:∀{cs cs':List (cv D)} {n:Nat} {O cr:List (ba D)} {ds:List af} {z:Nat->bW},b9 X.G O z e m k vs->Jw l n cs O=J (cs',cr)->bP (ed X.G z vs) cs ds->
  ∃z',Inv O cr/\dT e.next z z'/\b9 X.G cr z' e m k vs/\bP (ed X.G z' vs) cs' ds/\∀(i t:Nat) (eZ:List (cv D)) (bZ w:Bool),O[i]? =J (.box t eZ bZ w)->cr[i]? =J (.box t eZ bZ w)
 |[],cs',n,O,cr,[],z,aN,h,_=>by cases h;grind [Inv.refl,dT.refl]
 |c::cs,cs',n,O,cr,d::ds,z,aN,h,⟨h1,ai⟩=>by
  unfold Jw at h;split at h
  ·rename_i c3 cu ay;split at h
   ·rename_i amv dz jI;cases h;have step:∃dv,Inv O cu/\dT e.next z dv/\b9 X.G cu dv e m k vs/\ed X.G dv vs c3 d/\∀(i t:Nat) (eZ:List (cv D)) (bZ w:Bool),O[i]? =J (.box t eZ bZ w)->cu[i]? =J (.box t eZ bZ w):=by
     split at ay
     ·grind [Inv.refl,dT.refl]
     ·obtain ⟨dv,g0,g1,g2,g3⟩:=zw aN ay h1
      grind [arY]
    obtain ⟨dv,g0,g1,g2,g3,g4⟩:=step;obtain ⟨z2,lu,cL,c9,fo,k4⟩:=adK g2 jI (pb.mono ai g1.le λ_ _ h=>h);exact ⟨z2,g0.trans lu,g1.trans cL,c9,⟨ed.mono g3 cL.le λ_ _ h=>h,fo⟩,λ_ _ _ _ _ h=>k4 _ _ _ _ _ (g4 _ _ _ _ _ h)⟩
   grind
  grind
 |[],_,_,_,_,_::_,_,_,_,h=>h.elim
 |_::_,_,_,_,_,[],_,_,_,h=>h.elim
def adN {l:List (Nat×Nat)} {i:Nat} (aN:b9 X.G O z e m k vs) (h:uK l O i=J cr):∃z',Inv O cr/\dT e.next z z'/\b9 X.G cr z' e m k vs:=by
 unfold uK at h;split at h
 ·rename_i t cs w aM;split at h
  ·split at h
   ·rename_i cs' cu bF;cases h;obtain ⟨v,aD,b,ds,h1,ai,aT,br⟩:=aN.at aM;obtain ⟨dv,g0,g1,g2,g3,g4⟩:=adK aN bF br;have aaZ:=g4 _ _ _ _ _ aM;obtain ⟨dJ,nv,fv,fQ,kb,nb⟩:=g2.obj i _ v aaZ aD;have n2:jQ dv e m k b ds t:=by
     rw[h1] at fv;cases fv;exact ⟨ai.blk,fQ.lt,fQ.dead,fQ.fresh⟩
    refine ⟨dv,g0.trans (Inv.set cu i (.inr rfl)),g1,g2.pF (m':=m) aaZ aD rfl ⟨e4 _,g2.aS.dead,λ_ _ _=>rfl⟩ g2.aS ⟨b,ds,h1,n2,aT,g3⟩⟩
   grind
  grind [Inv.refl,dT.refl]
 grind [Inv.refl,dT.refl]
def zv:∀{aQ:List dt} {O cr:List (ba D)} {z:Nat->bW},b9 X.G O z e m k vs->pt E aQ O=J cr->∃z',Inv O cr/\dT e.next z z'/\b9 X.G cr z' e m k vs
 |[],O,cr,z,aN,h=>by cases h;grind [Inv.refl,dT.refl]
 |it::aQ,O,cr,z,aN,h=>by
  have go:∀{l:List (Nat×Nat)} {i:Nat},(match uK l O i with|some cr=>pt E aQ cr|none=>ae)=J cr->∃z',Inv O cr/\dT e.next z z'/\b9 X.G cr z' e m k vs:=by
   intro l i h;split at h
   ·rename_i cu bF;obtain ⟨dv,g0,g1,g2⟩:=adN aN bF;obtain ⟨z2,lu,cL,c9⟩:=zv g2 h;exact ⟨z2,g0.trans lu,g1.trans cL,c9⟩
   grind
  cases it with
  |v d c=>exact zv (aQ:=aQ) aN h
  |o d c=>
   cases c with
   |box t=>
    grind [pt]
   |bL t l=>
    grind [pt]
   |_=>exact zv (aQ:=aQ) aN h
  |u j c=>
   cases c with
   |box t=>grind [pt]
   |bL t l=>grind [pt]
   |_=>exact zv (aQ:=aQ) aN h
def yd (X:e3 P D) (z:Nat->bW) (vs:List af) (fr:Nat->af):List dt->List (bc D)->Prop|[],[]=>True| .v d _::aQ,s::l=>rel X.G z vs s (fr d)/\yd X z vs fr aQ l| .o _ _::aQ,_::l=>yd X z vs fr aQ l| .u _ _::aQ,_::l=>yd X z vs fr aQ l|_,_=>False
def asZ {c:gR} {s jx:bc D} {v:af} (aN:b9 X.G O z e m k vs) (h:UJ c O s=J (jx,cr)) (aD:rel X.G z vs s v):∃z',Inv O cr/\dT e.next z z'/\b9 X.G cr z' e m k vs/\rel X.G z' vs jx v:=by
 unfold UJ at h;split at h
 ·grind [Inv.refl,dT.refl]
 ·rename_i t i off;split at h
  ·rename_i cu an;split at h
   ·rename_i p dz bb;cases h;obtain ⟨dv,g0,g1,g2⟩:=adN aN an;obtain ⟨z2,lu,cL,c9,fo⟩:=KJ g2 (rel.mono aD g1.le λ_ _ h=>h) bb;exact ⟨z2,g0.trans lu,g1.trans cL,c9,fo⟩
   grind
  grind
 ·exact asY aN h aD
def w2:∀{aQ:List dt} {O cr:List (ba D)} {l:List (bc D)} {z:Nat->bW},b9 X.G O z e m k vs->fj X z vs E fr->rL E aQ O=J (l,cr)->∃z',Inv O cr/\dT e.next z z'/\b9 X.G cr z' e m k vs/\yd X z' vs fr aQ l
 |[],O,cr,l,z,aN,bp,h=>by cases h;exact ⟨z,Inv.refl _,dT.refl z,aN,trivial⟩
 | .v d c::aQ,O,cr,l,z,aN,bp,h=>by
  simp only[rL] at h;split at h
  ·rename_i s cu bf;split at h
   ·rename_i fE dz aR;cases h;obtain ⟨dv,g0,g1,g2,g3⟩:=asZ aN bf (bp d);obtain ⟨z2,lu,cL,c9,fo⟩:=w2 g2 (bp.mono g1.le λ_ _ h=>h) aR;exact ⟨z2,g0.trans lu,g1.trans cL,c9,rel.mono g3 cL.le λ_ _ h=>h,fo⟩
   grind
  grind
 | .o d c::aQ,O,cr,l,z,aN,bp,h=>by
  simp only[rL] at h;split at h
  ·rename_i fE dz aR;cases h;exact w2 (aQ:=aQ) aN bp aR
  grind
 | .u d c::aQ,O,cr,l,z,aN,bp,h=>by
  simp only[rL] at h;split at h
  ·rename_i fE dz aR;cases h;exact w2 (aQ:=aQ) aN bp aR
  grind
structure yh (D:Nat->Type) where
 c:cw
 x:c.ty D
def cos:(aQ:List dt)->ft D aQ->List (yh D)|[],_=>[]| .o _ c::aQ,x=>⟨c,x.1⟩::cos aQ x.2| .v _ _::aQ,x=>cos aQ x.2| .u _ _::aQ,x=>cos aQ x.2
theorem mD:∀{aQ:List dt} {x:ft D aQ},eU X aQ x=(cos aQ x).map λq=>cw.mk X q.c q.x ak
 |[],_=>rfl
 | .o d c::aQ,x=>by show cw.mk X c x.1 ak::eU X aQ x.2=cw.mk X c x.1 ak::(cos aQ x.2).map _;rw[mD]
 | .v d c::aQ,x=>mD (aQ:=aQ)
 | .u d c::aQ,x=>mD (aQ:=aQ)
def yq (X:e3 P D) (gr:List Nat) (O:List (ba D)):List Nat->List (yh D)->Prop:=bP λi q=>∃o,O[i]? =J o/\cw.get X gr q.c o=J q.x
theorem zN {gr:List Nat} (hm:∀(j i:Nat) (u:af),gr[j]? =J i->vs[i]? =J u->vs'[j]? =J u):∀{aQ:List dt} {l:List (bc D)} {bO:List Nat} {x:ft D aQ},iG X gr O aQ l bO=J x->yd X z vs fr aQ l->∀p∈hc X aQ x,rel X.G z vs' p.2 (fr p.1)
 |[],_,_,_,_,_=>by simp[hc]
 | .v d c::aQ,[],_,_,_,h=>h.elim
 | .o d c::aQ,[],_,_,_,h=>h.elim
 | .u d c::aQ,[],_,_,_,h=>h.elim
 | .v d c::aQ,s::l,bO,x,h,bl=>by
  simp only[iG] at h;obtain ⟨gN,h⟩:=gz h;split at h
  ·rename_i a b h1 ai;cases h;intro p bb;simp only[hc,ha] at bb;rcases bb with rfl|bb
   ·exact gR.A7 hm gN h1 bl.1
   ·exact zN hm ai bl.2 p bb
  grind
 | .o d c::aQ,s::l,[],x,h,bl=>by cases h
 | .o d c::aQ,s::l,i::bO,x,h,bl=>by
  simp only[iG] at h;split at h
  ·split at h
   ·rename_i a b h1 ai;cases h;intro p bb;exact zN hm ai bl p bb
   grind
  grind
 | .u d c::aQ,s::l,bO,x,h,bl=>by
  simp only[iG] at h;split at h
  ·split at h
   ·rename_i a b h1 ai;cases h;intro p bb;exact zN hm ai bl p bb
   grind
  grind
def CG {gr:List Nat}:∀{aQ:List dt} {l:List (bc D)} {bO:List Nat} {x:ft D aQ},iG X gr O aQ l bO=J x->yq X gr O bO (cos aQ x)
 |[],[],[],_,_=>trivial
 |[],_::_,[],_,_=>trivial
 |[],_,_::_,_,h=>by grind [iG]
 | .v d c::aQ,[],_,_,h=>by grind [iG]
 | .o d c::aQ,[],_,_,h=>by grind [iG]
 | .u d c::aQ,[],_,_,h=>by grind [iG]
 | .v d c::aQ,s::l,bO,x,h=>by
  simp only[iG] at h;obtain ⟨_,h⟩:=gz h;split at h
  ·rename_i a b h1 ai;cases h;show yq X gr O bO (cos aQ b);exact CG ai
  grind
 | .o d c::aQ,s::l,[],x,h=>by cases h
 | .o d c::aQ,s::l,i::bO,x,h=>by
  simp only[iG] at h;split at h
  ·rename_i o aM;split at h
   ·rename_i a b h1 ai;cases h;exact ⟨⟨o,aM,h1⟩,CG ai⟩
   grind
  grind
 | .u d c::aQ,s::l,bO,x,h=>by
  simp only[iG] at h;split at h
  ·split at h
   ·rename_i a b h1 ai;cases h;show yq X gr O bO (cos aQ b);exact CG ai
   grind
  grind
def ab' {i:Nat} {l:List Nat} (h:tE (i::l)=aa):i∉l/\tE l=aa:=by
 simp only[tE,fx,Aq,List.any_eq_false] at h;refine ⟨λaz=> ?_,h.2⟩;exact h.1 i az (by simp)
theorem We:∀{l:List Nat},tE l=aa->∀(a b i:Nat),l[a]? =J i->l[b]? =J i->a=b
 |[],_,a,b,i,h,_=>by grind
 |x::l,h,a,b,i,bl,aw=>by
  obtain ⟨h1,ai⟩:=ab' h;cases a with
  |zero=>
   grind
  |succ a=>
   cases b with
   |zero=>
    grind
   |succ b=>simp at bl aw;rw[We ai a b i bl aw]
def Y3 (X:e3 P D) (gr:List Nat) (O:List (ba D)):List Nat->List (yh D)->Prop:=bP λi q=>∃w,O[i]? =J (cw.gO X (λn=>gr.getD n 0) q.c q.x w)
def atl {gr:List Nat} (aN:b9 X.G O z e m k vs) {i:Nat} {o:ba D} {c:cw} {x:c.ty D} (aM:O[i]? =J o) (bs:cw.get X gr c o=J x) (w:Bool):b9 X.G (O.set i (cw.gO X (λn=>gr.getD n 0) c x w)) z e m k vs:=by
 obtain ⟨v,aD,cG⟩:=aN.at aM;have az:=(fq.1 aM).1;refine aN.G3 (by rw[List.length_set];exact aN.len) id (λj p bb aR=> ?_) (λj p u bb aR hu=> ?_) (λi j _ _ _ _ _ _ h=>h)
 ·rw[ll] at bb;split at bb
  ·grind [cw.UL,cw.A7]
  ·obtain ⟨u,hu,wv⟩:=aN.at bb
   grind
 ·rw[ll] at bb;split at bb
  ·grind [cw.tn]
  ·exact aN.obj j p u bb hu
def aez {gr:List Nat} {i:Nat} {p:ba D}:∀{bO:List Nat} {C:List (yh D)},yq X gr O bO C->i∉bO->yq X gr (O.set i p) bO C
 |[],[],_,_=>trivial
 |j::bO,q::C,⟨⟨o,h1,ai⟩,aT⟩,az=>by
  refine ⟨⟨o, ?_,ai⟩,aez aT λh=>az (kn _ h)⟩
  grind
 |[],_::_,h,_=>h.elim
 |_::_,[],h,_=>h.elim
theorem ar5 {aK:Type} {l:List aK} {i:Nat} {a:aK} (h:l[i]? =J a):l.set i a=l:=by
 apply rv
 grind
def Ll {gr:List Nat}:∀{aQ:List dt} {x:ft D aQ} {bO:List Nat} {O:List (ba D)},b9 X.G O z e m k vs->yq X gr O bO (cos aQ x)->tE bO=aa->
  Inv O (mY X gr aQ x bO O)/\b9 X.G (mY X gr aQ x bO O) z e m k vs/\Y3 X gr (mY X gr aQ x bO O) bO (cos aQ x)/\∀i,i∉bO->(mY X gr aQ x bO O)[i]? =O[i]?
 |[],x,[],O,aN,_,_=>⟨Inv.refl _,aN,trivial,λ_ _=>rfl⟩
 |[],x,_::_,O,aN,h,_=>h.elim
 | .v d c::aQ,x,bO,O,aN,h,bB=>by
  have:=Ll (aQ:=aQ) (x:=x.2) (bO:=bO) aN h bB
  grind [mY,cos]
 | .u d c::aQ,x,bO,O,aN,h,bB=>by
  have:=Ll (aQ:=aQ) (x:=x.2) (bO:=bO) aN h bB
  grind [mY,cos]
 | .o d c::aQ,x,[],O,aN,h,bB=>h.elim
 | .o d c::aQ,x,i::bO,O,aN,⟨⟨o,h1,ai⟩,aT⟩,bB=>by
  obtain ⟨tp,mX⟩:=ab' bB;have jg:=atl aN h1 ai (zF c O i);obtain ⟨g1,g2,g3,g4⟩:=Ll (aQ:=aQ) (x:=x.2) (bO:=bO) jg (aez aT tp) mX;have az:=(fq.1 h1).1;refine ⟨Inv.trans ?_ g1,g2,⟨⟨zF c O i, ?_⟩,g3⟩,λj bn=> ?_⟩
  ·grind [zF,Inv.set,cw.Kc,cw.amX,ar5,Inv.refl]
  ·grind [mY]
  grind [mY]
theorem zx {a:Option Nat} {i:Nat} (h:oZ a i=aa):a=J i:=by
 unfold oZ at h
 grind [kA]
def Wz {i j off:Nat} {v:af} (aD:∀u,vs[i]? =J u->vs'[j]? =J u) (h:lU X.G z vs [.own i] off v):lU X.G z vs' [.own j] off v:=by
 obtain ⟨b,o,ds,h1,ai,aT⟩:=h;refine ⟨b,o,ds,h1,ai, ?_⟩
 match ds,aT with
 |[d],⟨br,_⟩=>exact ⟨⟨aD _ br.1,br.2⟩,trivial⟩
def ada {i j t eu:Nat} {gs:List af} (aD:∀u,vs[i]? =J u->vs'[j]? =J u) (h:bP (λc g=>lU X.G z vs c.2 0 g) [(t,[.own i])] gs):bP (λc g=>lU X.G z vs' c.2 0 g) [(eu,[.own j])] gs:=by
 match gs,h with
 |[g],⟨h1,_⟩=>exact ⟨Wz aD h1,trivial⟩
def Xi {bO:List Nat} {s jx:bc D} {v:af} (cJ:Nat->Nat) (h:wa bO s jx=aa) (aV:rel X.G z vs jx v) (aD:∀(j i:Nat) (u:af),bO[j]? =J i->vs[i]? =J u->vs'[cJ j]? =J u):rel X.G z vs' (pE cJ s) v:=by
 unfold wa at h;split at h
 ·exact ⟨aD _ _ _ (zx h) aV.1,aV.2⟩
 ·simp only[fx] at h;obtain ⟨b,h1,ai⟩:=aV;have:=kA h.2;subst this;exact ⟨b,aD _ _ _ (zx h.1) h1,ai⟩
 ·obtain ⟨b,l,h1,ai⟩:=aV;exact ⟨b,l,aD _ _ _ (zx h) h1,ai⟩
 ·exact aV
 ·exact aV
 ·exact aV
 ·exact aV
 ·trivial
 ·simp only[fx,decide_eq_true_eq,beq_iff_eq] at h;obtain ⟨rfl,rfl⟩:=h;exact aV
 ·have:=eq_of_beq h;subst this;exact aV
 ·have:=kA h;subst this;obtain ⟨gs,h1,ai⟩:=aV;refine ⟨gs,h1, ?_⟩;cases gs with
  |nil=>trivial
  |cons _ _=>exact ai.elim
 ·simp only[fx] at h;obtain ⟨h1,ai,aT⟩:=h;have:=kA aT;subst this;exact Wz (aD _ _ · (zx h1)) aV
 ·simp only[fx] at h;obtain ⟨h1,ai,aT⟩:=h;have:=kA aT;subst this;obtain ⟨gs,br,cK⟩:=aV;exact ⟨gs,br,ada (aD _ _ · (zx h1)) cK⟩
 grind
theorem Lp (s:bc D):pE id s=s:=by
 unfold pE
 grind
structure YC (X:e3 P D) (aQ:List dt) (fg:List (Nat×bc D)) (x:ft D aQ) (bO:List Nat) (dz:List (ba D)) (z:Nat->bW) (e m:Mem) (k:Option Nat) (vs dB:List af) (fr:Nat->af):Prop where
 abC:b9 X.G dz z e m k vs
 abD:b9 X.G (eU X aQ x) z e m k dB
 afm:fj X z dB (hc X aQ x++fg) fr
 r5:tE bO=aa
 wQ:Y3 X bO dz bO (cos aQ x)
 len:dB.length=bO.length
 ep:∀(j i:Nat),bO[j]? =J i->∃u,dB[j]? =J u/\vs[i]? =J u
 gt:∀q∈cos aQ x,∀n∈q.c.hs,∃i,bO[n]? =J i
def atr {aQ:List dt} {fg:List (Nat×bc D)} {x:ft D aQ} {bO:List Nat} {dz:List (ba D)} (aN:b9 X.G O z e m k vs) (bp:fj X z vs E fr) (h:Lu X aQ fg E O=J (x,bO,dz)):
  ∃z' dB,Inv O dz/\dT e.next z z'/\YC X aQ fg x bO dz z' e m k vs dB fr:=by
 unfold Lu at h;split at h
 ·rename_i cX cu azo bF bl;split at h
  ·rename_i ay;simp only[fx] at ay;split at h
   ·rename_i jL aw;cases h;obtain ⟨dv,g0,g1,g2,g3⟩:=w2 aN bp bF;have wP:=CG aw;obtain ⟨tp,mX,Kf,ayN⟩:=Ll g2 wP ay.1;have yY:∀(j i:Nat),bO[j]? =J i->∃u,(bO.map λi=>vs.getD i undef)[j]? =J u/\vs[i]? =J u:=by
     intro j i bn;obtain ⟨q,_,w,hw⟩:=Kf.get j i bn;obtain ⟨v,aD,_⟩:=mX.at hw
     grind
    have hlen:(eU X aQ x).length=bO.length:=by rw[mD,ug];exact Kf.length.symm
    have anQ:∀(j:Nat) (mZ:ba D),(eU X aQ x)[j]? =J mZ->∃i q,q∈cos aQ x/\mZ=cw.mk X q.c q.x ak/\bO[j]? =J i/\∃w,(mY X bO aQ x bO cu)[i]? =J (cw.gO X (λn=>bO.getD n 0) q.c q.x w):=by
     intro j mZ bn;have cF:=(fq.1 bn).1;have bf:bO[j]? =J (bO[j]'(by omega)):=mm (by omega);obtain ⟨q,fo,w,k4⟩:=Kf.get j _ bf
     grind [mD]
    have rU:∀q∈cos aQ x,∀n∈q.c.hs,∃i,bO[n]? =J i:=by
     intro q bm;obtain ⟨j,bn,he⟩:=List.mem_iff_getElem.1 bm;have aaM:(cos aQ x)[j]? =J q:=by grind
     have bf:bO[j]? =J (bO[j]'(by rw[wP.length];grind)):=mm _;obtain ⟨ka,cL,o,_,c9⟩:=wP.get j _ bf
     grind [cw.amY]
    refine ⟨dv,bO.map λi=>vs.getD i undef,g0.trans tp,g1,mX, ?_, ?_,ay.1,Kf,by simp,yY,rU⟩
    ·refine mX.G3 (by grind) (λj=>bO.getD j 0) (λj mZ bn aR=> ?_) (λj mZ u bn aR hu=> ?_) (λi j o p az bn _ _ hq=> ?_)
     ·obtain ⟨i,q,bm,rfl,bf,w,hw⟩:=anQ j mZ bn;obtain ⟨u,aoX,aoY⟩:=yY j i bf;have bg:bO.getD j 0=i:=by grind
      refine ⟨_,u,by rw[bg];omega,cw.tn,by grind,aoX, ?_⟩;have:=mX.obj i _ u hw aoY;refine cw.y8 ak this λn bB xz oS=> ?_
      grind
     ·grind [cw.u4]
     grind [We]
    ·refine Cm λp bb=> ?_;rcases kU.1 bb with bb|bb
     ·grind [zN]
     ·have aJ:=iA.1 ay.2 p bb;have:=Xi (X:=X) (z:=dv) (vs:=vs) (vs':=bO.map λi=>vs.getD i undef) id aJ ((bp.mono g1.le λ_ _ h=>h) p.1) λj i u bn hu=>by
       grind
      grind [Lp]
   grind
  grind
 grind
def ae4 {aQ:List dt} {fg:List (Nat×bc D)} {x:ft D aQ} {bO:List Nat} {dz:List (ba D)} (aN:b9 X.G O z e m k vs) (bp:fj X z vs E fr) (h:sl X aQ fg E O=J (x,bO,dz)):
  ∃z' dB,Inv O dz/\dT e.next z z'/\YC X aQ fg x bO dz z' e m k vs dB fr:=by
 unfold sl at h;split at h
 ·rename_i pU bF;obtain ⟨dv,g0,g1,g2⟩:=zv aN bF;obtain ⟨z2,dB,lu,cL,c9⟩:=atr g2 (bp.mono g1.le λ_ _ h=>h) h;exact ⟨z2,dB,g0.trans lu,g1.trans cL,c9⟩
 grind
def ae0 (E:List (Nat×bc D)) (O:List (ba D)) (q off:Nat):Option (Nat×Nat×List (cv D)×Bool):=
 match eI E q with
 | .box i 0=>(match O[i]? with|some (.box t cs ak w)=>(match cs[off]? with|some .gE=>J (i,t,cs,w)|_=>ae)|_=>ae)
 |_=>ae
def jJ:List dt->List (Nat×bc D)->List (ba D)->List (Nat×bc D)×List (ba D)
 | .o d (.bh t)::aQ,E,O=>
  if mn d rF=aa then (match eI E d with| .c .gE=>jJ aQ ((d, .c (.own O.length))::E) (O++[.bh t [] ak ak])|_=>jJ aQ E O)
  else (match ae0 E O ((d - rF) / 1000) ((d - rF)%1000) with|some (i,u,cs,_)=>jJ aQ E (O.set i (.box u (cs.set ((d - rF)%1000) (.own O.length)) ak aa)++[.bh t [] ak ak])|none=>jJ aQ E O)
 | .o d (.ne e t)::aQ,E,O=>if mn d rF=aa then (match eI E d with| .c .gE=>jJ aQ ((d, .c (.own O.length))::E) (O++[.nest e t ae [] ae ak])|_=>jJ aQ E O) else jJ aQ E O
 |_::aQ,E,O=>jJ aQ E O
 |[],E,O=>(E,O)
def mf:∀{aQ:List dt} {E:List (Nat×bc D)} {O:List (ba D)} {vs:List af},b9 X.G O z e m k vs->fj X z vs E fr->∃vs',Inv O (jJ aQ E O).2/\(∀(i:Nat) (u:af),vs[i]? =J u->vs'[i]? =J u)/\b9 X.G (jJ aQ E O).2 z e m k vs'/\fj X z vs' (jJ aQ E O).1 fr
 |[],E,O,vs,aN,bp=>⟨vs,Inv.refl _,λ_ _ h=>h,aN,bp⟩
 | .v _ _::aQ,E,O,vs,aN,bp=>mf (aQ:=aQ) aN bp
 | .u _ _::aQ,E,O,vs,aN,bp=>mf (aQ:=aQ) aN bp
 | .o _ (.box _)::aQ,E,O,vs,aN,bp=>mf (aQ:=aQ) aN bp
 | .o _ (.recv _)::aQ,E,O,vs,aN,bp=>mf (aQ:=aQ) aN bp
 | .o _ (.arr _ _ _)::aQ,E,O,vs,aN,bp=>mf (aQ:=aQ) aN bp
 | .o _ (.map _ _ _)::aQ,E,O,vs,aN,bp=>mf (aQ:=aQ) aN bp
 | .o _ (.bL _ _)::aQ,E,O,vs,aN,bp=>mf (aQ:=aQ) aN bp
 | .o _ (.uI _ _ _)::aQ,E,O,vs,aN,bp=>mf (aQ:=aQ) aN bp
 | .o d (.ne eV t)::aQ,E,O,vs,aN,bp=>by
  have JH:b9 X.G (O++[.nest eV t ae [] ae ak]) z e m k (vs++[.slice ae 0 0]):=by refine aN.push (q:=ae) ⟨e4 _,aN.aS.dead,λ_ _ _=>rfl⟩ aN.aS (λ_ _ _ _ _ _=>e6.qg) ?_ λ_ _ _=>e6.qg;exact ⟨λf bF=>(by grind),[],⟨⟨.inl ⟨rfl,rfl⟩,λb aw=>(by cases aw)⟩,rfl,λj w xs h=>(by grind),λp bb=>(by grind)⟩⟩
  unfold jJ;split
  ·split
   ·rename_i bf;have bg:=bp d;rw[bf] at bg;have bg:fr d= .slice ae 0 0:=bg;obtain ⟨vs',g1,g2,g3,g4⟩:=mf (aQ:=aQ) (E:=(d, .c (.own O.length))::E) JH ((bp.mono (fl.refl z) j0).cons ⟨by rw[bg,<-aN.len];simp,by rw[bg];rfl,by rw[bg];rfl⟩);exact ⟨vs',(Inv.push O _).trans g1,λi u hu=>g2 i u (j0 i u hu),g3,g4⟩
   ·exact mf (aQ:=aQ) aN bp
  ·exact mf (aQ:=aQ) aN bp
 | .o d (.bh t)::aQ,E,O,vs,aN,bp=>by
  have JH:∀{O:List (ba D)},b9 X.G O z e m k vs->b9 X.G (O++[.bh t [] ak ak]) z e m k (vs++[.slice ae 0 0]):=λ{O} aN=>by refine aN.push (q:=ae) ⟨e4 _,aN.aS.dead,λ_ _ _=>rfl⟩ aN.aS (λ_ _ _ _ _ _=>e6.qg) ?_ λ_ _ _=>e6.qg;exact (⟨.inl ⟨rfl,rfl⟩,λb aw=>by cases aw⟩:dU (X.G.T t) z e m k [] (.slice ae 0 0))
  unfold jJ;split
  ·split
   ·rename_i bf;have bg:=bp d;rw[bf] at bg;have bg:fr d= .slice ae 0 0:=bg;obtain ⟨vs',g1,g2,g3,g4⟩:=mf (aQ:=aQ) (E:=(d, .c (.own O.length))::E) (JH aN) ((bp.mono (fl.refl z) j0).cons ⟨by rw[bg,<-aN.len];simp,by rw[bg];rfl,by rw[bg];rfl⟩);exact ⟨vs',(Inv.push O _).trans g1,λi u hu=>g2 i u (j0 i u hu),g3,g4⟩
   ·exact mf (aQ:=aQ) aN bp
  ·generalize (d - rF) / 1000=q;generalize (d - rF)%1000=off;split
   ·rename_i i u cs w bB;have aw:O[i]? =J (.box u cs ak w)/\cs[off]? =J .gE:=by
     grind [ae0]
    obtain ⟨v,aD,b,ds,h1,ai,aT,br⟩:=aN.at aw.1;have Bc:=JH aN;have az:=(fq.1 aw.1).1;have JX:O.set i (.box u (cs.set off (.own O.length)) ak aa)++[(.bh t [] ak ak:ba D)]=(O++[(.bh t [] ak ak:ba D)]).set i (.box u (cs.set off (.own O.length)) ak aa):=by
     grind
    have Bd:b9 X.G (O.set i (.box u (cs.set off (.own O.length)) ak aa)++[.bh t [] ak ak]) z e m k (vs++[.slice ae 0 0]):=by
     rw[JX];refine Bc.pF (m':=m) (v:=v) (o:= .box u cs ak w) (by grind) (j0 _ _ aD) rfl ⟨e4 _,aN.aS.dead,λ_ _ _=>rfl⟩ aN.aS ?_;refine ⟨b,ds,h1,ai,aT,lx.2 ⟨by grind [lx],λj a d bl bg=> ?_⟩⟩;rw[ll] at bl;split at bl
     ·rename_i bn;split at bl
      ·cases bl;subst bn;have aV:d= .slice ae 0 0:=(lx.1 br).2 off _ d aw.2 bg;exact ⟨by rw[aV,<-aN.len];simp,by rw[aV];rfl,by rw[aV];rfl⟩
      grind
     grind [ed.mono,lx,fl.refl]
    obtain ⟨vs',g1,g2,g3,g4⟩:=mf (aQ:=aQ) (E:=E) Bd (bp.mono (fl.refl z) j0);exact ⟨vs',((Inv.set O i (.inr rfl)).trans (Inv.push _ _)).trans g1,λi u hu=>g2 i u (j0 i u hu),g3,g4⟩
   ·exact mf (aQ:=aQ) aN bp
end
end Go.aF
end
section
namespace Go.aF
structure lF (D:Nat->Type) where
 ex:fG
 outs:List dt
 fg:List (Nat×bc D)
noncomputable section
section
variable {P:bI} {D:Nat->Type}
def mz (D:Nat->Type):List dt->Type|[]=>Unit|[i]=>i.ty D|i::j::is=>i.ty D×mz D (j::is)
def Mn:(aQ:List dt)->ft D aQ->mz D aQ|[],_=>()|[_],x=>x.1|_::j::is,x=>(x.1,Mn (j::is) x.2)
def gn:(aQ:List dt)->mz D aQ->ft D aQ|[],_=>()|[_],y=>(y,())|_::j::is,y=>(y.1,gn (j::is) y.2)
def so:List (lF D)->Type|[]=>Empty|[x]=>mz D x.outs|x::y::xs=>mz D x.outs⊕so (y::xs)
def Jb {aK:Type}:(iM:List (lF D))->so iM->((x:lF D)->mz D x.outs->aK)->aK
 |[],e,_=>nomatch (e:Empty)
 |[x],y,k=>k x y
 |x::y::xs,r,k=>match (r:mz D x.outs⊕so (y::xs)) with| .inl a=>k x a| .inr b=>Jb (y::xs) b k
variable (X:e3 P D)
def aeI (n:Nat):ba D->Bool
 | .box _ cs _ _=>cs.all λc=>match c with| .own i=>mn i n| .fn _ is=>is.all λi=>mn i n|_=>aa
 |_=>aa
def Cs (n:Nat) (O:List (ba D)):Nat->List Nat->Bool
 |_,[]=>aa
 |j,k::ks=>(if k=1 then (match O[j]? with|some o=>o.live&& !o.nd&&aeI n o|none=>ak) else aa)&&Cs n O (j+1) ks
def X3 (n:Nat) (ks:List Nat) (x:lF D) (E:List (Nat×bc D)) (O:List (ba D)):Option (mz D x.outs):=match rL E x.outs O,I9 E O x.outs with|some (cX,cu),J bO=>if tE bO&&(bO.all λi=>iJ n i||fi (ks.getD i 0) 0)&&Cs n cu 0 ks&&x.fg.all λp=>wa (mN n++bO) p.2 (eI E p.1) then match iG X (mN n++bO) cu x.outs cX bO with|some y=>J (Mn x.outs y)|none=>ae else ae|_,_=>ae
def xv (n:Nat) (ks:List Nat) (x:lF D) (E:List (Nat×bc D)) (O:List (ba D)):Option (mz D x.outs):=match pt (jJ x.outs E O).1 x.outs (jJ x.outs E O).2 with|some cr=>X3 X n ks x (jJ x.outs E O).1 cr|none=>ae
def sk (n:Nat) (ks:List Nat):(iM:List (lF D))->fG->List (Nat×bc D)->List (ba D)->Option (so iM)
 |[],_,_,_=>ae
 |[x],e,E,O=>if e=x.ex then xv X n ks x E O else ae
 |x::y::xs,e,E,O=>if e=x.ex then (match xv X n ks x E O with|some a=>J (Sum.inl a)|none=>ae) else (match sk n ks (y::xs) e E O with|some b=>J (Sum.inr b)|none=>ae)
def kc (cJ:Nat->Nat):(aQ:List dt)->ft D aQ->Nat->ba D| .u i c::aQ,x,j=>if fi i j=aa then cw.gO X cJ c x.1 aa else kc cJ aQ x.2 j| .v _ _::aQ,x,j=>kc cJ aQ x.2 j| .o _ _::aQ,x,j=>kc cJ aQ x.2 j|[],_,_=> .dead
def wE (n:Nat):Nat:=n
def o0 (outs:List dt) (y:ft D outs):Nat->List Nat->List (ba D)->List (ba D)|i,k::ks,o::O=>(if k=1 then o else if k=2 then kc X wE outs y i else .dead)::o0 outs y (i+1) ks O|i,[],o::O=> .dead::o0 outs y (i+1) [] O|_,_,[]=>[]
def ly (ks:List Nat) (pU:List (ba D)) (outs:List dt) (y:ft D outs):List (ba D):=o0 X outs y 0 ks pU++eU X outs y
end
section
variable {P:bI} {D:Nat->Type} {X:e3 P D} {z z':Nat->bW} {e m m':Mem} {k:Option Nat} {vs vs':List af} {fr:Nat->af} {E:List (Nat×bc D)} {O cr:List (ba D)}
def ae1:∀{aQ:List dt} (x:ft D aQ),gn aQ (Mn aQ x)=x
 |[],_=>rfl
 |[_],_=>rfl
 |_::j::is,x=>by show (x.1,gn (j::is) (Mn (j::is) x.2))=x;rw[ae1 (aQ:=j::is) x.2];rfl
def KG {n:Nat} {ks:List Nat} {ex:fG}:∀{iM:List (lF D)} {eX:so iM},sk X n ks iM ex E O=J eX->∃x y,x∈iM/\ex=x.ex/\xv X n ks x E O=J y/\∀{aK:Type} (K:(x:lF D)->mz D x.outs->aK),Jb iM eX K=K x y
 |[],_,h=>by cases h
 |[x],eX,h=>by obtain ⟨h1,ai⟩:=gz h;exact ⟨x,eX,oG,h1,ai,λ_=>rfl⟩
 |x::y::xs,eX,h=>by
  simp only[sk] at h;split at h
  ·rename_i an;split at h
   ·rename_i a bl;cases h;exact ⟨x,a,oG,an,bl,λ_=>rfl⟩
   grind
  ·split at h
   ·rename_i b aw;cases h;obtain ⟨jL,la,h1,ai,aT,br⟩:=KG aw;exact ⟨jL,la,kn _ h1,ai,aT,λK=>br K⟩
   grind
def KV {gr:List Nat} {n:Nat}:∀{aQ:List dt} {l:List (bc D)} {bO:List Nat} {x:ft D aQ} {j:Nat},iG X gr O aQ l bO=J x->(∀cJ,kc X cJ aQ x j= .dead)\/∃c y o,O[j]? =J o/\cw.get X gr c o=J y/\∀cJ,kc X cJ aQ x j=cw.gO X cJ c y aa
 |[],_,_,_,_,_=> .inl λ_=>rfl
 | .v d c::aQ,[],_,_,_,h=>by grind [iG]
 | .o d c::aQ,[],_,_,_,h=>by grind [iG]
 | .u d c::aQ,[],_,_,_,h=>by grind [iG]
 | .v d c::aQ,s::l,bO,x,j,h=>by
  simp only[iG] at h;obtain ⟨_,h⟩:=gz h;split at h
  ·rename_i a b h1 ai;cases h;exact KV (n:=n) (aQ:=aQ) ai
  grind
 | .o d c::aQ,s::l,[],x,j,h=>by cases h
 | .o d c::aQ,s::l,i::bO,x,j,h=>by
  simp only[iG] at h;split at h
  ·split at h
   ·rename_i a b h1 ai;cases h;exact KV (n:=n) (aQ:=aQ) ai
   grind
  grind
 | .u d c::aQ,s::l,bO,x,j,h=>by
  simp only[iG] at h;split at h
  ·rename_i o aM;split at h
   ·rename_i a b h1 ai;cases h;by_cases bg:fi d j=aa
    ·have:=kA bg;subst this;refine .inr ⟨c,a,o,aM,h1,λcJ=> ?_⟩;show (if fi d d=aa then cw.gO X cJ c a aa else _)=_
     grind
    ·have bX:∀cJ,kc X cJ (.u d c::aQ) (a,b) j=kc X cJ aQ b j:=λcJ=>by
      show (if fi d j=aa then cw.gO X cJ c a aa else _)=_
      grind
     simp only[bX];exact KV (n:=n) (aQ:=aQ) (j:=j) ai
   grind
  grind
def dt.hs:dt->List Nat| .v _ _=>[]| .o _ c=>c.hs| .u _ c=>c.hs
def dt.y9:dt->Bool| .v _ c=>c.y9|_=>aa
def tx:∀{aQ:List dt} {x:ft D aQ} {j:Nat},(∀cJ,kc X cJ aQ x j= .dead)\/∃d c y,dt.u d c∈aQ/\∀cJ,kc X cJ aQ x j=cw.gO X cJ c y aa
 |[],_,_=> .inl λ_=>rfl
 | .v d c::aQ,x,j=>by
  rcases tx (aQ:=aQ) (x:=x.2) (j:=j) with h|⟨d,c,y,h1,ai⟩
  ·exact .inl h
  ·exact .inr ⟨d,c,y,kn _ h1,ai⟩
 | .o d c::aQ,x,j=>by
  rcases tx (aQ:=aQ) (x:=x.2) (j:=j) with h|⟨d,c,y,h1,ai⟩
  ·exact .inl h
  ·exact .inr ⟨d,c,y,kn _ h1,ai⟩
 | .u d c::aQ,x,j=>by
  by_cases bg:fi d j=aa
  ·exact .inr ⟨d,c,x.1,oG,λcJ=>if_pos bg⟩
  ·have bX:∀cJ,kc X cJ (.u d c::aQ) x j=kc X cJ aQ x.2 j:=λcJ=>if_neg bg;simp only[bX];rcases tx (aQ:=aQ) (x:=x.2) (j:=j) with h|⟨d,c,y,h1,ai⟩
   ·grind
   ·exact .inr ⟨d,c,y,kn _ h1,ai⟩
def xc:∀{aQ:List dt} {x:ft D aQ} {o:ba D},o∈eU X aQ x->∃d c y,dt.o d c∈aQ/\o=cw.mk X c y ak
 |[],_,_,h=>by grind [eU]
 | .v d c::aQ,x,o,h=>let ⟨d,c,y,h1,ai⟩:=xc (aQ:=aQ) (x:=x.2) h;⟨d,c,y,kn _ h1,ai⟩
 | .u d c::aQ,x,o,h=>let ⟨d,c,y,h1,ai⟩:=xc (aQ:=aQ) (x:=x.2) h;⟨d,c,y,kn _ h1,ai⟩
 | .o d c::aQ,x,o,h=>by
  simp only[eU,ha] at h;rcases h with rfl|h
  ·exact ⟨d,c,x.1,oG,rfl⟩
  ·obtain ⟨d,c,y,h1,ai⟩:=xc (aQ:=aQ) (x:=x.2) h
   grind
theorem zB:∀{aQ:List dt} {x:ft D aQ} {p:Nat×bc D},p∈hc X aQ x->∃d c y,dt.v d c∈aQ/\p.2=gR.mk X c y
 |[],_,_,h=>by grind [hc]
 | .o d c::aQ,x,o,h=>by
  obtain ⟨sS,c3,y,h1,ai⟩:=zB (aQ:=aQ) (x:=x.2) h
  grind
 | .u d c::aQ,x,o,h=>by
  obtain ⟨sS,c3,y,h1,ai⟩:=zB (aQ:=aQ) (x:=x.2) h
  grind
 | .v d c::aQ,x,o,h=>by
  simp only[hc,ha] at h;rcases h with rfl|h
  ·exact ⟨d,c,x.1,oG,rfl⟩
  ·obtain ⟨sS,c3,y,h1,ai⟩:=zB (aQ:=aQ) (x:=x.2) h
   grind
theorem q5 {outs:List dt} {y:ft D outs}:∀{i:Nat} {ks:List Nat} {O:List (ba D)},(o0 X outs y i ks O).length=O.length
 |i,[],[]=>rfl
 |i,_::_,[]=>rfl
 |i,k::ks,o::O=>by simp[o0,q5]
 |i,[],o::O=>by simp[o0,q5]
theorem xd {outs:List dt} {y:ft D outs}:∀{i:Nat} {ks:List Nat} {O:List (ba D)} {j:Nat} {o:ba D},O[j]? =J o->(o0 X outs y i ks O)[j]? =J (if ks.getD j 0=1 then o else if ks.getD j 0=2 then kc X wE outs y (i+j) else .dead)
 |i,ks,[],j,o,h=>by grind
 |i,k::ks,p::O,0,o,h=>by grind [o0]
 |i,k::ks,p::O,j+1,o,h=>by
  simp only[qH] at h;have:=xd (outs:=outs) (y:=y) (i:=i+1) (ks:=ks) h
  grind [o0]
 |i,[],p::O,0,o,h=>by rfl
 |i,[],p::O,j+1,o,h=>by
  simp only[qH] at h;have:=xd (outs:=outs) (y:=y) (i:=i+1) (ks:=[]) h
  grind [o0]
theorem aru {n:Nat} {o:ba D} (h:aeI n o=aa):∀i,XH i o->i<n:=by
 intro i az;cases o with
 |box t cs bZ w=>
  rcases az with az|⟨f,is,az,hm⟩
  ·have:=iA.1 h _ az;simp_all
  ·have:=iA.1 h _ az;simp_all
 |_=>exact az.elim
def ac3 {n:Nat}:∀{ks:List Nat} {i j:Nat},Cs n O i ks=aa->ks.getD j 0=1->∃o,O[i+j]? =J o/\o.live=aa/\o.nd=ak/\∀i,XH i o->i<n
 |[],i,j,_,h=>by grind
 |k::ks,i,0,hk,h=>by
  grind [Cs,aru]
 |k::ks,i,j+1,hk,h=>by
  simp only[Cs,fx] at hk;simp only[List.getD_cons_succ] at h;obtain ⟨o,h1,ai⟩:=ac3 hk.2 h
  grind
def arn {ins:List dt} {ks:List Nat} {x:ft D ins} {ee:lF D} {y:mz D ee.outs} {dB:List af} (az:Inv (eU X ins x) O) (aD:∀(i:Nat) (u:af),dB[i]? =J u->vs[i]? =J u) (hV:dB.length=(eU X ins x).length)
  (aN:b9 X.G O z e m k vs) (bp:fj X z vs E fr) (h:X3 X dB.length ks ee E O=J y):
  ∃z' ep,dT e.next z z'/\b9 X.G (ly X ks (eU X ins x) ee.outs (gn _ y)) z' e m k (dB++ep)/\∀p∈hc X ee.outs (gn _ y)++ee.fg,rel X.G z' (dB++ep) p.2 (fr p.1):=by
 unfold X3 at h;split at h
 ·rename_i cX cu bO bF bl;split at h
  ·rename_i ay;simp only[fx] at ay;obtain ⟨⟨⟨c1,c2⟩,yA⟩,ZP⟩:=ay;split at h
   ·rename_i la aw;cases h;rw[ae1];obtain ⟨dv,g0,g1,g2,g3⟩:=w2 aN bp bF;have wP:=CG aw;have kL:=az.trans g0;have aom:∀(j i:Nat),bO[j]? =J i->∃u,(bO.map λi=>vs.getD i undef)[j]? =J u/\vs[i]? =J u:=by
     intro j i bn;obtain ⟨q,_,o,aM,_⟩:=wP.get j i bn;obtain ⟨v,aD,_⟩:=g2.at aM
     grind
    have hlen:(eU X ee.outs la).length=bO.length:=by rw[mD,ug];exact wP.length.symm
    have iF:∀(j:Nat) (o:ba D),(ly X ks (eU X ins x) ee.outs la)[j]? =J o->
      (j<dB.length/\∃mZ,(eU X ins x)[j]? =J mZ/\o=(if ks.getD j 0=1 then mZ else if ks.getD j 0=2 then kc X wE ee.outs la j else .dead))\/
      (dB.length<=j/\(eU X ee.outs la)[j - dB.length]? =J o):=by
     grind [ly,q5,xd]
    have Vg:∀(j:Nat) (u:af),j<dB.length->vs[j]? =J u->(dB++bO.map λi=>vs.getD i undef)[j]? =J u:=by
     grind
    have rU:∀(n i:Nat) (u:af),(mN dB.length++bO)[n]? =J i->vs[i]? =J u->(dB++bO.map λi=>vs.getD i undef)[n]? =J u:=by
     grind
    refine ⟨dv,bO.map λi=>vs.getD i undef,g1, ?_, ?_⟩
    ·refine g2.G3 ?_ (λj=>if j<dB.length then j else bO.getD (j - dB.length) 0) (λj o bn aR=> ?_) (λj o u bn aR hu=> ?_) (λi j o p fm bn aaS aaT hq=> ?_)
     ·grind [ly,q5]
     ·rcases iF j o bn with ⟨cF,mZ,wu,aM⟩|⟨hA,aM⟩
      ·simp only[if_pos cF];by_cases cL:ks.getD j 0=1
       ·rw[if_pos cL] at aM;subst aM;obtain ⟨p,kN,iS,wR,V0⟩:=ac3 yA cL;rw[lH] at kN;have:=kL.ew j p (by omega) kN iS wR;rw[wu] at this;cases this;obtain ⟨v,v1,v2⟩:=g2.at kN;obtain ⟨_,c,w,_,rfl⟩:=xc (mM wu);exact ⟨_,v,kN,iS,v1,Vg j v cF v1,cw.abB ak v2 λn _ aM u hu=>Vg n u (V0 n aM) hu⟩
       ·rw[if_neg cL] at aM;by_cases c9:ks.getD j 0=2
        ·rw[if_pos c9] at aM;rcases KV (n:=0) (j:=j) aw with bg|⟨c,w,p,kN,iS,wR⟩
         ·rw[aM,bg] at aR;cases aR
         ·obtain ⟨v,v1,v2⟩:=g2.at kN;refine ⟨p,v,kN,cw.UL iS,v1,Vg j v cF v1, ?_⟩;rw[aM,wR];exact cw.A7 iS v2 rU aa
        ·rw[if_neg c9] at aM;rw[aM] at aR;cases aR
      ·have bB:¬j<dB.length:=by omega
       simp only[if_neg bB];have cF:=(fq.1 aM).1;have bf:bO[j - dB.length]? =J (bO[j - dB.length]'(by omega)):=mm (by omega);obtain ⟨q,fv,p,kN,iS⟩:=wP.get _ _ bf;rw[mD,sH,fv] at aM;have aM:=(kB.inj aM).symm;subst aM;obtain ⟨u,G7,Ya⟩:=aom _ _ bf;obtain ⟨v,v1,v2⟩:=g2.at kN;rw[Ya] at v1;cases v1;have bg:bO.getD (j - dB.length) 0=bO[j - dB.length]'(by omega):=by grind
       refine ⟨p,u,by grind,cw.UL iS,by grind, ?_, ?_⟩
       ·grind
       ·exact cw.A7 iS v2 rU ak
     ·rcases iF j o bn with ⟨cF,mZ,wu,aM⟩|⟨hA,aM⟩
      ·by_cases cL:ks.getD j 0=1
       ·rw[if_pos cL] at aM;subst aM;obtain ⟨_,c,w,_,rfl⟩:=xc (mM wu)
        grind [cw.u4]
       ·rw[if_neg cL] at aM;by_cases c9:ks.getD j 0=2
        ·rw[if_pos c9] at aM;rcases tx (X:=X) (aQ:=ee.outs) (x:=la) (j:=j) with bg|⟨_,c,w,_,bg⟩
         ·rw[aM,bg];trivial
         grind [cw.tn]
        ·rw[if_neg c9] at aM;rw[aM];trivial
      ·obtain ⟨_,c,w,_,rfl⟩:=xc (mM aM)
       grind [cw.u4]
     ·have dead:∀(i j:Nat) (o p:ba D),i<dB.length->dB.length<=j->(ly X ks (eU X ins x) ee.outs la)[i]? =J o->(ly X ks (eU X ins x) ee.outs la)[j]? =J p->o.live=aa->i=bO.getD (j - dB.length) 0->False:=by
       intro i j o p Vb aaN aM bb eW hq;rcases iF j p bb with ⟨cF,_⟩|⟨_,wv⟩
       ·omega
       ·have cF:=(fq.1 wv).1;have bf:bO[j - dB.length]? =J (bO[j - dB.length]'(by omega)):=mm (by omega);have bg:bO.getD (j - dB.length) 0=bO[j - dB.length]'(by omega):=by grind
        have hm:i∈bO:=by grind
        have:=iA.1 c2 i hm;simp only[Ar] at this;have nC:ks.getD i 0=0:=by
         grind [pk,kA]
        rcases iF i o aM with ⟨_,mZ,_,mc⟩|⟨hA,_⟩
        ·rw[nC] at mc;simp at mc;rw[mc] at eW;cases eW
        grind
      by_cases h1:i<dB.length
      ·by_cases ai:j<dB.length
       ·grind
       grind
      ·by_cases ai:j<dB.length
       ·grind
       grind [We]
    ·intro p bb;rcases kU.1 bb with bb|bb
     ·grind [zN]
     ·have aJ:=iA.1 ZP p bb;have:=Xi (X:=X) (z:=dv) (vs:=vs) (vs':=dB++bO.map λi=>vs.getD i undef) id aJ ((bp.mono g1.le λ_ _ h=>h) p.1) λj i u bn hu=>by
       grind
      grind [Lp]
   grind
  grind
 grind
def B8 {ins:List dt} {ks:List Nat} {x:ft D ins} {ee:lF D} {y:mz D ee.outs} {dB:List af} (az:Inv (eU X ins x) O) (aD:∀(i:Nat) (u:af),dB[i]? =J u->vs[i]? =J u) (hV:dB.length=(eU X ins x).length)
  (aN:b9 X.G O z e m k vs) (bp:fj X z vs E fr) (h:xv X dB.length ks ee E O=J y):
  ∃z' ep,dT e.next z z'/\b9 X.G (ly X ks (eU X ins x) ee.outs (gn _ y)) z' e m k (dB++ep)/\∀p∈hc X ee.outs (gn _ y)++ee.fg,rel X.G z' (dB++ep) p.2 (fr p.1):=by
 obtain ⟨vs',g1,g2,g3,g4⟩:=mf (aQ:=ee.outs) aN bp;unfold xv at h;split at h
 ·rename_i pU bF;obtain ⟨dv,lu,cL,c9⟩:=zv g3 bF;obtain ⟨z2,ep,r7,fv,fQ⟩:=arn ((az.trans g1).trans lu) (λi u hu=>g2 i u (aD i u hu)) hV c9 (g4.mono cL.le λ_ _ h=>h) h;exact ⟨z2,ep,cL.trans r7,fv,fQ⟩
 grind
end
end
end Go.aF
end
section
namespace Go.aF
structure h4 (D:Nat->Type) where
 path:List Nat
 ins:List dt
 fg:List (Nat×bc D)
 ks:List Nat
 iM:List (lF D)
 keep:List Nat
noncomputable section
section
variable {P:bI} {D:Nat->Type}
def h4.F (p:h4 D):Type:=ft D p.ins->Option (so p.iM)
def gU:List dt->Nat|[]=>0| .o _ _::aQ=>gU aQ+1|_::aQ=>gU aQ
def tJ:bc D->Bool| .c (.own _)| .box _ _| .arr _| .c .gE| .c .za| .c .oY| .undef| .un| .c (.int _ _)| .c (.bool _)| .fn _ []| .hd _ [.own _] _| .fn _ [(_,[.own _])]=>aa|_=>ak
def GY:bc D->Option Nat| .c (.own j)| .box j _| .arr j| .hd _ [.own j] _| .fn _ [(_,[.own j])]=>J j|_=>ae
def Jy (n:Nat) (ks:List Nat) (s:bc D):Bool:=tJ s&&match GY s with|some j=>iJ n j|| !Nat.beq (ks.getD j 0) 0|none=>aa
def q8:List Nat->Nat->Option Nat
 |[],_=>ae
 |a::bO,i=>if fi a i=aa then J 0 else (match q8 bO i with|some j=>J (j+1)|none=>ae)
variable (X:e3 P D)
def sd (cJ:Nat->Nat) (bO ks:List Nat) (outs:List dt) (y:ft D outs):Nat->List (ba D)->List (ba D)
 |_,[]=>[]
 |i,o::O=>(match q8 bO i with|some j=>(if ks.getD j 0=1 then o else if ks.getD j 0=2 then kc X cJ outs y j else .dead)|none=>if o.live=aa then .dead else o)::sd cJ bO ks outs y (i+1) O
def mkOr (cJ:Nat->Nat):(aQ:List dt)->ft D aQ->List (ba D)|[],_=>[]| .o _ c::aQ,x=>cw.gO X cJ c x.1 ak::mkOr cJ aQ x.2| .v _ _::aQ,x=>mkOr cJ aQ x.2| .u _ _::aQ,x=>mkOr cJ aQ x.2
def num (bO:List Nat) (n N:Nat) (j:Nat):Nat:=if mn j n=aa then bO.getD j 0 else N+(j - n)
def T1 (p:h4 D) (bO:List Nat) (N:Nat) (ee:lF D) (y:ft D ee.outs) (E:List (Nat×bc D)):List (Nat×bc D):=hc X ee.outs y++((ee.fg.map λq=>(q.1,pE (num bO (gU p.ins) N) q.2))++p.keep.map λd=>(d,eI E d))
def uE (p:h4 D) (bO:List Nat) (dz:List (ba D)) (ee:lF D) (y:ft D ee.outs):List (ba D):=sd X (num bO (gU p.ins) dz.length) bO p.ks ee.outs y 0 dz++mkOr X (num bO (gU p.ins) dz.length) ee.outs y
def h4.G2 (p:h4 D) (F:p.F) (E:List (Nat×bc D)) (O:List (ba D)) {ap:Type} (K:fG->List (Nat×bc D)->List (ba D)->Option ap):Option ap:=match sl X p.ins p.fg E O with|some (x,bO,dz)=>ab (F x) λeX=>Jb p.iM eX λee y=>K ee.ex (T1 X p bO dz.length ee (gn _ y) E) (uE X p bO dz ee (gn _ y))|none=>ae
def h4.run (p:h4 D) (F:p.F) (E:List (Nat×bc D)) (O:List (ba D)) {ap:Type} (K:fG->List (Nat×bc D)->List (ba D)->Option ap):Option ap:=p.G2 X F (jJ p.ins E O).1 (jJ p.ins E O).2 K
def h4.zd (p:h4 D) (F:p.F):mP D where
 path:=p.path
 fits:=λE O=>(sl X p.ins p.fg (jJ p.ins E O).1 (jJ p.ins E O).2).isSome
 run:=λE O {_} K=>p.run X F E O K
def Kk (n:Nat) (ks:List Nat) (r:Nat):Bool:=iJ n r|| !Nat.beq (ks.getD r 0) 0
def zA (n:Nat) (ks:List Nat):Nat->List dt->Bool|_,[]=>aa|j, .o _ c::aQ=>(!Nat.beq (ks.getD j 0) 1||c.hs.all (Kk n ks))&&zA n ks (j+1) aQ|j,_::aQ=>zA n ks j aQ
def h4.p0 (B:Code) (p:h4 D):Bool:=((p.iM.all λee=>ee.outs.all λi=>i.y9&&i.hs.all (Kk (gU p.ins) p.ks))&&zA (gU p.ins) p.ks 0 p.ins)&&(p.iM.all (λee=>ee.fg.all λq=>Jy (gU p.ins) p.ks q.2)&&p.keep.all λd=> !(q6 (sub B p.path)).contains d)
def y7:Nat->List Nat->List Nat->List (ba D)->Bool
 |_,[],_,_=>aa
 |j,k::ks,bO,O=>(if k=0 then aa else oZ (bO[j]?) j&&(if k=1 then (match O[j]? with|some o=> !o.nd|none=>ak) else aa))&&y7 (j+1) ks bO O
def aeY (p:h4 D) (F:p.F) (ex:fG) (E:List (Nat×bc D)) (O:List (ba D)):Option (so p.iM):=if ex= .normal then match sl X p.ins p.fg (jJ p.ins E O).1 (jJ p.ins E O).2 with|some (x,bO,dz)=>if y7 0 p.ks bO dz=aa then F x else ae|none=>ae else sk X (gU p.ins) p.ks p.iM ex E O
end
section
variable {P:bI} {D:Nat->Type} {X:e3 P D} {z z':Nat->bW} {e m m':Mem} {k:Option Nat} {vs vs':List af} {fr:Nat->af} {E:List (Nat×bc D)} {O cr:List (ba D)}
def aeE {n:Nat} {ks:List Nat} {r:Nat} (h:Kk n ks r=aa):n<=r\/ks.getD r 0≠0:=by
 simp only[Kk,Ar,Aq] at h;rcases h with h|h
 ·simp_all
 ·refine .inr λcp=> ?_;simp_all
theorem BJ {n:Nat} {ks:List Nat}:∀{aQ:List dt} {x:ft D aQ} {i j:Nat} {q:yh D},zA n ks i aQ=aa->(cos aQ x)[j]? =J q->ks.getD (i+j) 0=1->∀r∈q.c.hs,n<=r\/ks.getD r 0≠0
 |[],_,_,_,_,_,h,_=>by grind [cos]
 | .v d c::aQ,x,i,j,q,hk,h,h1=>BJ (aQ:=aQ) (x:=x.2) hk h h1
 | .u d c::aQ,x,i,j,q,hk,h,h1=>BJ (aQ:=aQ) (x:=x.2) hk h h1
 | .o d c::aQ,x,i,0,q,hk,h,h1=>by simp only[cos,List.getElem?_cons_zero] at h;cases h;simp only[zA,fx] at hk;intro r aV;have ai:=hk.1;rw[pS] at h1;rw[h1] at ai;exact aeE (iA.1 (by simp_all) r aV)
 | .o d c::aQ,x,i,j+1,q,hk,h,h1=>by simp only[cos,qH] at h;simp only[zA,fx] at hk;exact BJ (aQ:=aQ) (x:=x.2) hk.2 h (by grind)
def adl {cJ nR:Nat->Nat} {l:List (Nat×Nat)} (h:∀p∈l,cJ p.2=nR p.2):∀{cs:List (cv D)} {i:Nat},qi cJ l i cs=qi nR l i cs
 |[],_=>rfl
 |c::cs,i=>by
  simp only[qi,adl h (cs:=cs)];congr 1;cases bF:nw l i with
  |none=>rfl
  |some n=>simp only;rw[h _ (B1 bF)]
def ata {cJ nR:Nat->Nat} {c:cw} {x:c.ty D} {w:Bool} (h:∀r∈c.hs,cJ r=nR r):cw.gO X cJ c x w=cw.gO X nR c x w:=by
 cases c with
 |bL t l=>simp only[cw.gO];rw[adl λp bb=>h p.2 (l2.2 ⟨p,bb,rfl⟩)]
 |uI t f is=>simp only[cw.gO];rw[show is.map cJ=is.map nR from YW λn bB=>h n bB]
 |_=>rfl
theorem va {cJ:Nat->Nat}:∀{aQ:List dt} {x:ft D aQ},mkOr X cJ aQ x=(cos aQ x).map λq=>cw.gO X cJ q.c q.x ak
 |[],_=>rfl
 | .o d c::aQ,x=>by show cw.gO X cJ c x.1 ak::mkOr X cJ aQ x.2=cw.gO X cJ c x.1 ak::(cos aQ x.2).map _;rw[va]
 | .v d c::aQ,x=>va (aQ:=aQ)
 | .u d c::aQ,x=>va (aQ:=aQ)
theorem me:∀{aQ:List dt} {x:ft D aQ},(eU X aQ x).length=gU aQ
 |[],_=>rfl
 | .v _ _::aQ,x=>me (aQ:=aQ)
 | .u _ _::aQ,x=>me (aQ:=aQ)
 | .o _ _::aQ,x=>by show ((eU X aQ x.2).length+1)=gU aQ+1;rw[me]
def XI (X:e3 P D) (p:h4 D) (x:ft D p.ins) (eX:so p.iM) (z:Nat->bW) (e:Mem) (k:Option Nat) (dB:List af) (ex:fG) (cb:Nat->af) (m':Mem):Prop:=
 ∃z' ep ee y,ee∈p.iM/\ex=ee.ex/\(∀{aK:Type} (K:(x:lF D)->mz D x.outs->aK),Jb p.iM eX K=K ee y)/\dT e.next z z'/\
  b9 X.G (ly X p.ks (eU X p.ins x) ee.outs (gn _ y)) z' e m' k (dB++ep)/\∀q∈hc X ee.outs (gn _ y)++ee.fg,rel X.G z' (dB++ep) q.2 (cb q.1)
def sB (rn:fG->fG) (X:e3 P D) (B:Code) (p:h4 D) (F:p.F):Prop:=∀(x:ft D p.ins) (eX:so p.iM) {z:Nat->bW} {e m:Mem} {k:Option Nat} {dB:List af} {fr:Nat->af},
 F x=J eX->b9 X.G (eU X p.ins x) z e m k dB->fj X z dB (hc X p.ins x++p.fg) fr->W P (sub B p.path) (λex=>XI X p x eX z e k dB (rn ex)) fr m
def qF (X:e3 P D) (B:Code) (p:h4 D) (F:p.F):Prop:=∀(x:ft D p.ins) (eX:so p.iM) {z:Nat->bW} {e m:Mem} {k:Option Nat} {dB:List af} {fr:Nat->af},
 F x=J eX->b9 X.G (eU X p.ins x) z e m k dB->fj X z dB (hc X p.ins x++p.fg) fr->W P (sub B p.path) (XI X p x eX z e k dB) fr m
def sB.of {rn:fG->fG} (cW:iV X) {B:Code} {us:List (mP D)} {p:h4 D} {F:p.F} (te:∀u∈us,p.path.length<u.path.length->qJ X B u)
  (eB:∀x,j8 X us calm aa p.path.reverse (sub B p.path) (hc X p.ins x++p.fg) (eU X p.ins x) (λex=>sk X (gU p.ins) p.ks p.iM (rn ex))=F x):sB rn X B p F:=by
 intro x eX z e m k dB fr eF aN bp;have h:=eB x;rw[eF] at h;have bB:dB.length=gU p.ins:=by rw[aN.len,me]
 refine (Lh cW (L:=p.path.length) te (sub B p.path) aa p.path.reverse _ _ _ eX (by grind) (by simp) (by simp) aN bp h).mono ?_;rintro ex fY m1 ⟨dv,jK,ia,cu,bR,h1,ai,aT,br,cK⟩;obtain ⟨ee,y,g1,g2,g3,g4⟩:=KG cK;obtain ⟨z2,ep,cL,c9,fo⟩:=B8 (ks:=p.ks) (x:=x) bR ai aN.len aT br (by rw[bB];omega);exact ⟨z2,ep,ee,y,g1,g2,g4,h1.trans cL,c9,fo⟩
def qF.of (cW:iV X) {B:Code} {us:List (mP D)} {p:h4 D} {F:p.F} (te:∀u∈us,p.path.length<u.path.length->qJ X B u)
  (eB:∀x,j8 X us calm aa p.path.reverse (sub B p.path) (hc X p.ins x++p.fg) (eU X p.ins x) (sk X (gU p.ins) p.ks p.iM)=F x):qF X B p F:=by
 intro x eX z e m k dB fr eF aN bp;have h:=eB x;rw[eF] at h;have bB:dB.length=gU p.ins:=by rw[aN.len,me]
 refine (Lh cW (L:=p.path.length) te (sub B p.path) aa p.path.reverse _ _ _ eX (by grind) (by simp) (by simp) aN bp h).mono ?_;rintro ex fY m1 ⟨dv,jK,ia,cu,bR,h1,ai,aT,br,cK⟩;obtain ⟨ee,y,g1,g2,g3,g4⟩:=KG cK;obtain ⟨z2,ep,cL,c9,fo⟩:=B8 (ks:=p.ks) (x:=x) bR ai aN.len aT br (by rw[bB];omega);exact ⟨z2,ep,ee,y,g1,g2,g4,h1.trans cL,c9,fo⟩
theorem XU {s:bc D} {v:af} {cJ:Nat->Nat} (h:tJ s=aa) (aV:rel X.G z vs s v) (aD:∀(j:Nat) (u:af),GY s=J j->vs[j]? =J u->vs'[cJ j]? =J u):rel X.G z vs' (pE cJ s) v:=by
 unfold tJ at h;split at h
 ·exact ⟨aD _ _ rfl aV.1,aV.2⟩
 ·obtain ⟨b,h1,ai⟩:=aV;exact ⟨b,aD _ _ rfl h1,ai⟩
 ·obtain ⟨b,l,h1,ai⟩:=aV;exact ⟨b,l,aD _ _ rfl h1,ai⟩
 ·exact aV
 ·exact aV
 ·exact aV
 ·exact aV
 ·exact aV
 ·exact aV
 ·exact aV
 ·obtain ⟨gs,h1,ai⟩:=aV;refine ⟨gs,h1, ?_⟩;cases gs with
  |nil=>trivial
  |cons _ _=>exact ai.elim
 ·exact Wz (λu=>aD _ u rfl) aV
 ·obtain ⟨gs,h1,ai⟩:=aV;exact ⟨gs,h1,ada (λu=>aD _ u rfl) ai⟩
 grind
theorem adO {n:Nat} {ks:List Nat} {s:bc D} (h:Jy n ks s=aa):tJ s=aa/\∀j,GY s=J j->n<=j\/ks.getD j 0≠0:=by
 simp only[Jy,fx] at h;refine ⟨h.1,λj bn=> ?_⟩;have ai:=h.2;rw[bn] at ai;simp only[Ar,Aq] at ai;rcases ai with ai|ai
 ·simp_all
 ·refine .inr λcp=> ?_;simp_all
def K7:∀{ks:List Nat} {i j:Nat} {bO:List Nat},y7 i ks bO O=aa->ks.getD j 0≠0->bO[i+j]? =J (i+j)/\(ks.getD j 0=1->∃o,O[i+j]? =J o/\o.nd=ak)
 |[],i,j,bO,_,h=>by grind
 |k::ks,i,0,bO,hk,h=>by
  grind [y7,zx]
 |k::ks,i,j+1,bO,hk,h=>by
  simp only[y7,fx] at hk;simp only[List.getD_cons_succ] at h⊢;have:=K7 hk.2 h
  grind
def auU {outs:List dt} {y:ft D outs} {ks:List Nat} {A B:List (ba D)} (aR:A.length=B.length) (h:∀j,ks.getD j 0=1->A[j]? =B[j]?):o0 X outs y 0 ks A=o0 X outs y 0 ks B:=by
 apply rv
 grind [xd,q5]
def qF.loop (cW:iV X) {B c:Code} {us:List (mP D)} {p:h4 D} {F:Nat->p.F} (mS:sub B p.path= .loop c) (hk:p.p0 B=aa) (te:∀u∈us,p.path.length+1<u.path.length->qJ X B u) (bR:∀x,F 0 x=ae)
  (eB:∀n x,j8 X us calm aa (0::p.path.reverse) c (hc X p.ins x++p.fg) (eU X p.ins x) (aeY X p (F n))=F (n+1) x):∀n,qF X B p (F n):=by
 intro n;induction n with
 |zero=>intro x eX z e m k dB fr eF;grind
 |succ n a1=>
  intro x eX z e m k dB fr eF aN bp;have h:=eB n x;rw[eF] at h;rw[mS];have bB:dB.length=gU p.ins:=by rw[aN.len,me]
  refine W.apr ((Lh cW (L:=p.path.length+1) te c aa (0::p.path.reverse) _ _ _ eX (by rw[List.reverse_cons,List.reverse_reverse,<-WZ,mS];exact sc c) (by simp) (by simp) aN bp h).mono ?_);rintro ex fY m1 ⟨dv,jK,ia,cu,bR,h1,ai,aT,br,cK⟩;have other:sk X (gU p.ins) p.ks p.iM ex ia cu=J eX->XI X p x eX z e k dB ex fY m1:=by intro cK;obtain ⟨ee,y,g1,g2,g3,g4⟩:=KG cK;obtain ⟨z2,ep,cL,c9,fo⟩:=B8 (ks:=p.ks) (x:=x) bR ai aN.len aT br (by rw[bB];omega);exact ⟨z2,ep,ee,y,g1,g2,g4,h1.trans cL,c9,fo⟩
  cases ex with
  |exit i=>exact other cK
  |ret=>exact other cK
  |normal=>
   show W P (.loop c) _ fY m1;have cK:(match sl X p.ins p.fg (jJ p.ins ia cu).1 (jJ p.ins ia cu).2 with
    |some (x,bO,dz)=>if y7 0 p.ks bO dz=aa then F n x else ae
    |none=>ae)=J eX:=cK
   split at cK
   ·rename_i jL bO dz aV;obtain ⟨Vi,p7⟩:=gz cK;obtain ⟨awu,dX,ix,pH,G8⟩:=mf (aQ:=p.ins) aT br;obtain ⟨z2,Yf,i1,i2,k0⟩:=ae4 pH G8 aV;have i1:=dX.trans i1;have ai:∀(i:Nat) (u:af),dB[i]? =J u->awu[i]? =J u:=λi u hu=>ix i u (ai i u hu);have aaJ:=a1 jL eX p7 k0.abD k0.afm;rw[mS] at aaJ;refine aaJ.mono ?_;rintro ex ic m2 ⟨z3,ep,ee,y,g1,g2,g3,g4,g5,g6⟩;have same:∀j,p.ks.getD j 0≠0->∀u,Yf[j]? =J u->dB[j]? =J u:=by
     intro j bn u hu;obtain ⟨s1,_⟩:=K7 Vi bn;rw[lH] at s1;obtain ⟨xz,t1,t2⟩:=k0.ep _ _ s1;rw[hu] at t1;cases t1;have cF:j<dB.length:=by have:=(fq.1 hu).1;rw[k0.len,k0.wQ.length,<-ug (f:=λq=>cw.mk X q.c q.x ak),<-mD,me] at this;omega
     grind
    have lM:Yf.length=dB.length:=by rw[k0.len,k0.wQ.length,<-ug (f:=λq=>cw.mk X q.c q.x ak),<-mD,me,bB]
    have X5:∀(j:Nat) (u:af),gU p.ins<=j\/p.ks.getD j 0≠0->(Yf++ep)[j]? =J u->(dB++ep)[j]? =J u:=by
     grind
    have nB:=hk;simp only[h4.p0,fx] at nB;have aaQ:=nB.1.1;have anZ:=nB.1.2;have ayj:o0 X ee.outs (gn _ y) 0 p.ks (eU X p.ins jL)=o0 X ee.outs (gn _ y) 0 p.ks (eU X p.ins x):=by
     refine auU (by grind [me]) λj bn=> ?_;obtain ⟨s1,s2⟩:=K7 Vi (show p.ks.getD j 0≠0 by grind);obtain ⟨o,iw,iQ⟩:=s2 bn;rw[lH] at s1 iw;obtain ⟨q,fv,w,fQ⟩:=k0.wQ.get j j s1;rw[iw] at fQ;have fQ:=kB.inj fQ;subst fQ;rw[cw.Kc] at iQ;subst iQ;have V5:(eU X p.ins jL)[j]? =J (cw.mk X q.c q.x ak):=by grind [mD]
     have aaO:j<(eU X p.ins x).length:=by grind [me]
     have ew:=(bR.trans i1).ew j _ aaO iw cw.tn cw.Kc;rw[V5,ew];refine congrArg J (ata λr aV=> ?_);obtain ⟨apd,aaL⟩:=k0.gt q (mM fv) r aV;have Bt:r<gU p.ins:=by
      have:=(fq.1 aaL).1;rw[k0.wQ.length,<-ug (f:=λq=>cw.mk X q.c q.x ak),<-mD,me] at this
      grind
     rcases BJ (i:=0) anZ fv (by grind) r aV with h|h
     ·omega
     ·obtain ⟨avD,_⟩:=K7 Vi h
      grind
    have anM:∀q∈ee.fg,Jy (gU p.ins) p.ks q.2=aa:=by
     grind
    have ta:∀i∈ee.outs,∀r∈i.hs,gU p.ins<=r\/p.ks.getD r 0≠0:=λi az r aV=>aeE (iA.1 (tY.1 (iA.1 (iA.1 aaQ ee g1) i az)).2 r aV);refine ⟨z3,ep,ee,y,g1,g2,g3,(h1.trans i2).trans g4, ?_,λq bm=> ?_⟩
    ·have wy:ly X p.ks (eU X p.ins jL) ee.outs (gn _ y)=ly X p.ks (eU X p.ins x) ee.outs (gn _ y):=by grind [ly]
     rw[wy] at g5;have key:∀(i:Nat) (o:ba D),(ly X p.ks (eU X p.ins x) ee.outs (gn _ y))[i]? =J o->o.live=aa->(gU p.ins<=i\/p.ks.getD i 0≠0):=by
      intro i o aM aR;by_cases cF:i<gU p.ins
      ·refine .inr λnC=> ?_;unfold ly at aM;rw[kS (by grind [q5,me])] at aM;have bf:(eU X p.ins x)[i]? =J ((eU X p.ins x)[i]'(by grind [me])):=mm _;rw[xd bf,nC] at aM;simp at aM;subst aM;cases aR
      grind
     have mk:∀(i:Nat) (o:ba D),(ly X p.ks (eU X p.ins x) ee.outs (gn _ y))[i]? =J o->o= .dead\/∃c a w,o=cw.mk X c a w/\∀r∈c.hs,gU p.ins<=r\/p.ks.getD r 0≠0:=by
      intro i o aM;unfold ly at aM;by_cases cF:i<gU p.ins
      ·rw[kS (by grind [q5,me])] at aM;have bf:(eU X p.ins x)[i]? =J ((eU X p.ins x)[i]'(by grind [me])):=mm _;rw[xd bf] at aM;have aM:=(kB.inj aM).symm;by_cases cL:p.ks.getD i 0=1
       ·grind [mD,BJ]
       ·rw[if_neg cL] at aM;by_cases c9:p.ks.getD i 0=2
        ·rw[if_pos c9] at aM;rcases tx (X:=X) (aQ:=ee.outs) (x:=gn _ y) (j:=0+i) with bg|⟨d,c,a,bg,he⟩
         ·grind
         ·exact .inr ⟨c,a,aa,by rw[aM,he];rfl,ta _ bg⟩
        grind
      ·rw[kT (by grind [q5,me])] at aM;obtain ⟨d,c,a,bg,cp⟩:=xc (mM aM);exact .inr ⟨c,a,ak,cp,ta _ bg⟩
     refine g5.G3 (by rw[<-g5.len];grind) id (λi o aM aR=> ?_) (λi o u aM aR hu=> ?_) (λi j _ _ _ _ _ _ h=>h)
     ·obtain ⟨v,v1,v2⟩:=g5.at aM;refine ⟨o,v,aM,aR,v1,X5 i v (key i o aM aR) v1, ?_⟩;rcases mk i o aM with rfl|⟨c,a,w,rfl,aV⟩
      ·trivial
      ·exact cw.y8 w v2 λr nG u hu=>X5 r u (aV r nG) hu
     ·rcases mk i o aM with rfl|⟨c,a,w,rfl,_⟩
      ·trivial
      grind [cw.u4]
    ·have aV:=g6 q bm;rcases kU.1 bm with bm|bm
     ·obtain ⟨d,c,a,bg,ay⟩:=zB bm;rw[ay] at aV⊢;exact gR.VP (tY.1 (iA.1 (iA.1 aaQ ee g1) _ bg)).1 aV
     ·obtain ⟨s1,s2⟩:=adO (anM q bm);have:=XU (X:=X) (cJ:=id) (vs':=dB++ep) s1 aV λj u bn hu=>X5 j u (s2 j bn) hu
      grind [Lp]
   grind
def zg:∀{bO:List Nat} {i j:Nat},q8 bO i=J j->bO[j]? =J i
 |[],_,_,h=>by cases h
 |a::bO,i,j,h=>by
  simp only[q8] at h;split at h
  ·grind [kA]
  ·split at h
   ·rename_i c6 bn;cases h;rw[qH];exact zg bn
   grind
theorem Ky {cJ:Nat->Nat} {bO ks:List Nat} {outs:List dt} {y:ft D outs}:∀{i:Nat} {O:List (ba D)},(sd X cJ bO ks outs y i O).length=O.length
 |i,[]=>rfl
 |i,o::O=>by simp[sd,Ky]
theorem acN {cJ:Nat->Nat} {bO ks:List Nat} {outs:List dt} {y:ft D outs}:∀{i:Nat} {O:List (ba D)} {a:Nat} {o:ba D},O[a]? =J o->(sd X cJ bO ks outs y i O)[a]? =J (match q8 bO (i+a) with|some j=>(if ks.getD j 0=1 then o else if ks.getD j 0=2 then kc X cJ outs y j else .dead)|none=>if o.live=aa then .dead else o)
 |i,[],a,o,h=>by grind
 |i,p::O,0,o,h=>by grind [sd]
 |i,p::O,a+1,o,h=>by
  simp only[qH] at h;have:=acN (cJ:=cJ) (bO:=bO) (ks:=ks) (outs:=outs) (y:=y) (i:=i+1) h
  grind [sd]
def sB.Kn {rn:fG->fG} {B:Code} {p:h4 D} {F:p.F} (h:sB rn X B p F) (hk:p.p0 B=aa) {ap:Type} (E:List (Nat×bc D)) (O:List (ba D)) (K:fG->List (Nat×bc D)->List (ba D)->Option ap) (r:ap) {z:Nat->bW} {e m:Mem} {k:Option Nat} {vs:List af} {fr:Nat->af}
  (aN:b9 X.G O z e m k vs) (bp:fj X z vs E fr) (aV:p.G2 X F E O K=J r):W P (sub B p.path) (λx=>je X O z e k vs (K (rn x)) r) fr m:=by
 unfold h4.G2 at aV;split at aV
 ·rename_i x bO dz az;obtain ⟨eX,eF,aV⟩:=bind_some aV;obtain ⟨dv,dB,i1,i2,k0⟩:=ae4 aN bp az;simp only[h4.p0,fx] at hk;have bB:bO.length=gU p.ins:=by rw[<-me (X:=X) (x:=x),mD,ug];exact k0.wQ.length
  have wq:dB.length=gU p.ins:=by rw[k0.len,bB]
  refine (h x eX eF k0.abD k0.afm).keep ?_;rintro ex fY m1 anY ⟨z2,ep,ee,y,g1,g2,g3,g4,g5,g6⟩;rw[g3] at aV;rw[g2];have qR:ep.length=(eU X ee.outs (gn _ y)).length:=by
   have:=g5.len
   grind [ly,q5,me]
  have oM:vs.length=dz.length:=k0.abC.len;have Bl:∀(i:Nat) (u:af),vs[i]? =J u->(vs++ep)[i]? =J u:=j0;have rU:∀(j:Nat) (u:af),(dB++ep)[j]? =J u->(vs++ep)[num bO (gU p.ins) dz.length j]? =J u:=by
   intro j u hu;unfold num;by_cases cF:j<gU p.ins
   ·have aw:mn j (gU p.ins)=aa:=by simp_all
    rw[if_pos aw];rw[kS (by omega)] at hu;have bf:bO[j]? =J (bO.getD j 0):=by grind
    obtain ⟨xz,t1,t2⟩:=k0.ep _ _ bf
    grind
   grind [Nat.blt_eq]
  have iF:∀(i:Nat) (o:ba D),(uE X p bO dz ee (gn _ y))[i]? =J o->
    (i<dz.length/\∃iQ,dz[i]? =J iQ/\o=(match q8 bO i with|some j=>(if p.ks.getD j 0=1 then iQ else if p.ks.getD j 0=2 then kc X (num bO (gU p.ins) dz.length) ee.outs (gn _ y) j else .dead)|none=>if iQ.live=aa then .dead else iQ))\/
    (dz.length<=i/\(mkOr X (num bO (gU p.ins) dz.length) ee.outs (gn _ y))[i - dz.length]? =J o):=by
   grind [uE,Ky,acN]
  have wy:∀(j:Nat) (mZ:ba D),(eU X p.ins x)[j]? =J mZ->(ly X p.ks (eU X p.ins x) ee.outs (gn _ y))[j]? =J (if p.ks.getD j 0=1 then mZ else if p.ks.getD j 0=2 then kc X wE ee.outs (gn _ y) j else .dead):=by
   grind [ly,q5,xd]
  have aoA:∀(i:Nat) (o:ba D),(eU X ee.outs (gn _ y))[i]? =J o->(ly X p.ks (eU X p.ins x) ee.outs (gn _ y))[gU p.ins+i]? =J o:=by
   grind [ly,q5,me]
  have s9:∀(i:Nat) (o:ba D),(uE X p bO dz ee (gn _ y))[i]? =J o->o.live=aa->
    (∃j,q8 bO i=J j/\((p.ks.getD j 0=1/\dz[i]? =J o)\/(p.ks.getD j 0≠1/\p.ks.getD j 0=2/\o=kc X (num bO (gU p.ins) dz.length) ee.outs (gn _ y) j)))\/(dz.length<=i/\(mkOr X (num bO (gU p.ins) dz.length) ee.outs (gn _ y))[i - dz.length]? =J o):=by
   intro i o aM aR;rcases iF i o aM with ⟨cF,iQ,ai,aT⟩|h
   ·left;cases bb:q8 bO i with
    |some j=>
     rw[bb] at aT;dsimp only at aT;refine ⟨j,rfl, ?_⟩;by_cases cL:p.ks.getD j 0=1
     ·grind
     ·rw[if_neg cL] at aT;by_cases c9:p.ks.getD j 0=2
      ·grind
      ·rw[if_neg c9] at aT;rw[aT] at aR;cases aR
    |none=>
     rw[bb] at aT;dsimp only at aT;by_cases br:iQ.live=aa
     ·rw[if_pos br] at aT;rw[aT] at aR;cases aR
     grind
   grind
  refine ⟨z2,vs++ep,_,_,i1.trans ?_,i2.trans g4,Bl, ?_,Cm ?_,aV⟩
  ·refine ⟨?_,λi o az aM aR aJ=> ?_⟩
   ·grind [uE,Ky]
   ·rcases s9 i o aM aR with ⟨j,_,h|⟨_,_,h⟩⟩|h
    ·grind
    ·rcases tx (X:=X) (aQ:=ee.outs) (x:=gn _ y) (j:=j) with bg|⟨_,c,a,_,bg⟩
     ·rw[h,bg] at aR;cases aR
     grind [cw.Kc]
    grind
  ·refine g5.G3 ?_ (λi=>if i<dz.length then (q8 bO i).getD 0 else gU p.ins+(i - dz.length)) (λi o aM aR=> ?_) (λi o u aM aR hu=> ?_) (λi j o q fm bn aaS aaT hq=> ?_)
   ·grind [uE,Ky,va,mD]
   ·rcases s9 i o aM aR with ⟨j,bb,ay⟩|⟨hA,ay⟩
    ·have bf:=zg bb;obtain ⟨q,V5,w,fQ⟩:=k0.wQ.get j i bf;have fv:(eU X p.ins x)[j]? =J (cw.mk X q.c q.x ak):=by grind [mD]
     obtain ⟨u,t1,t2⟩:=k0.ep _ _ bf;have cF:i<dz.length:=(fq.1 fQ).1;simp only[if_pos cF,bb,IV];have tb:=wy j _ fv;have JZ:(dB++ep)[j]? =J u:=j0 _ _ t1;rcases ay with ⟨cL,ay⟩|⟨cL,c9,ay⟩
     ·rw[if_pos cL] at tb;rw[fQ] at ay;have ay:=kB.inj ay;subst ay;have cG:=g5.obj j _ u tb JZ;refine ⟨_,u,tb,cw.u4,JZ,Bl _ _ t2,cw.y8 w cG λr aV xz oS=> ?_⟩;obtain ⟨apd,aaL⟩:=k0.gt q (mM V5) r aV
      grind [num,Nat.blt_eq]
     ·rw[if_neg cL,if_pos c9] at tb;have cG:=g5.obj j _ u tb JZ;rcases tx (X:=X) (aQ:=ee.outs) (x:=gn _ y) (j:=j) with bg|⟨_,c,a,_,bg⟩
      ·rw[ay,bg] at aR;cases aR
      ·rw[bg] at cG;refine ⟨_,u,tb,by grind [cw.tn],JZ,Bl _ _ t2, ?_⟩;rw[ay,bg];exact cw.y8 aa cG λr _ xz oS=>rU r xz oS
    ·have aoj:¬i<dz.length:=by omega
     simp only[if_neg aoj];rw[va,sH] at ay;obtain ⟨q,bm,rfl⟩:=vT.1 ay;have tb:=aoA (i - dz.length) (cw.mk X q.c q.x ak) (by grind [mD]);obtain ⟨u,G7,Ya⟩:=g5.at tb;refine ⟨_,u,tb,cw.u4,G7, ?_, ?_⟩
     ·rw[kT (by omega),wq,show gU p.ins+(i - dz.length) - gU p.ins=i - dz.length by omega] at G7
      grind
     ·exact cw.y8 ak Ya λr _ xz oS=>rU r xz oS
   ·rcases iF i o aM with ⟨cF,iQ,ai,aT⟩|⟨_,h⟩
    ·cases bb:q8 bO i with
     |some j=>
      rw[bb] at aT;dsimp only at aT;have bf:=zg bb;obtain ⟨q,fv,w,fQ⟩:=k0.wQ.get j i bf;rw[ai] at fQ;by_cases cL:p.ks.getD j 0=1
      ·grind [cw.tn]
      ·rw[if_neg cL] at aT;by_cases c9:p.ks.getD j 0=2
       ·rw[if_pos c9] at aT;rcases tx (X:=X) (aQ:=ee.outs) (x:=gn _ y) (j:=j) with bg|⟨_,c,a,_,bg⟩
        ·rw[aT,bg];trivial
        grind [cw.tn]
       ·rw[if_neg c9] at aT;rw[aT];trivial
     |none=>
      rw[bb] at aT;dsimp only at aT;by_cases br:iQ.live=aa
      ·rw[if_pos br] at aT;rw[aT];trivial
      ·rw[if_neg br] at aT;subst aT;rw[kS (by omega)] at hu;exact (k0.abC.obj i o u ai hu).frozen aR g4.le Bl
    grind [va,cw.tn]
   ·have one:∀(i:Nat) (o:ba D),(uE X p bO dz ee (gn _ y))[i]? =J o->o.live=aa->(i<dz.length/\∃j,q8 bO i=J j/\j<gU p.ins)\/dz.length<=i:=by
     intro i o aM aR;rcases s9 i o aM aR with ⟨j,bb,_⟩|⟨hA,_⟩
     ·have bf:=zg bb
      grind
     grind
    rcases one i o fm aaS with ⟨ec,a2,a3,a4⟩|ec
    ·rcases one j q bn aaT with ⟨js,jR,Jc,aw'⟩|js
     ·simp only[if_pos ec,if_pos js,a3,Jc,IV] at hq;subst hq;have s1:=zg a3;have s2:=zg Jc
      grind
     grind
    grind
  ·intro q bm;unfold T1 at bm;rcases kU.1 bm with bm|bm
   ·obtain ⟨d,c,a,bg,ay⟩:=zB bm;have:=g6 q (kU.2 (.inl bm));rw[ay] at this⊢;exact gR.VP (tY.1 (iA.1 (iA.1 hk.1.1 ee g1) _ bg)).1 this
   ·rcases kU.1 bm with bm|bm
    ·obtain ⟨r7,aoG,rfl⟩:=l2.1 bm
     grind [adO,XU]
    ·obtain ⟨d,bg,rfl⟩:=l2.1 bm;have hw:=iA.1 hk.2.2 d bg;have:=anY d (by grind);show rel X.G z2 (vs++ep) (eI E d) (fY d);rw[this];exact rel.mono (bp d) (i2.le.trans g4.le) Bl
 grind
def qF.Kn {B:Code} {p:h4 D} {F:p.F} (h:qF X B p F) (hk:p.p0 B=aa) {ap:Type} (E:List (Nat×bc D)) (O:List (ba D)) (K:fG->List (Nat×bc D)->List (ba D)->Option ap) (r:ap) {z:Nat->bW} {e m:Mem} {k:Option Nat} {vs:List af} {fr:Nat->af}
  (aN:b9 X.G O z e m k vs) (bp:fj X z vs E fr) (aV:p.G2 X F E O K=J r):W P (sub B p.path) (λx=>je X O z e k vs (K x) r) fr m:=
 sB.Kn (rn:=id) h hk E O K r aN bp aV
def sB.zd {rn:fG->fG} {B:Code} {p:h4 D} {F:p.F} (h:sB rn X B p F) (hk:p.p0 B=aa) {ap:Type} (E:List (Nat×bc D)) (O:List (ba D)) (K:fG->List (Nat×bc D)->List (ba D)->Option ap) (r:ap) {z:Nat->bW} {e m:Mem} {k:Option Nat} {vs:List af} {fr:Nat->af}
  (aN:b9 X.G O z e m k vs) (bp:fj X z vs E fr) (aV:p.run X F E O K=J r):W P (sub B p.path) (λx=>je X O z e k vs (K (rn x)) r) fr m:=by
 obtain ⟨vs',g1,g2,g3,g4⟩:=mf (aQ:=p.ins) aN bp;exact (h.Kn hk _ _ K r g3 g4 aV).mono λ_ _ _ bB=>bB.from g1 (dT.refl z) g2
def qF.zd {B:Code} {p:h4 D} {F:p.F} (h:qF X B p F) (hk:p.p0 B=aa):qJ X B (p.zd X F):=by
 intro ap E O K r z e m k vs fr _ aN bp aV;obtain ⟨vs',g1,g2,g3,g4⟩:=mf (aQ:=p.ins) aN bp;exact (h.Kn hk _ _ K r g3 g4 aV).mono λ_ _ _ bB=>bB.from g1 (dT.refl z) g2
end
end
end Go.aF
end
section
namespace Go.aF
structure fS (D:Nat->Type) where
 f:Nat
 lQ:Nat
 ins:List dt
 fg:List (Nat×bc D)
 ij:Option (Nat×Nat)
 re:Nat
 outs:List dt
 fu:List (Nat×bc D)
 lV:List ResultVar
 flat:Bool
def pX:Nat:=1000000
def nL:Nat->List ResultVar->List Nat|_,[]=>[]|n, .tmp d::rs=>d::nL (n+1) rs|n, .cell _ _::rs=>n::nL (n+1) rs
def fS.eX {D:Nat->Type} (d:fS D):List Nat:=nL pX d.lV
noncomputable section
section
variable {P:bI} {D:Nat->Type}
def XX (P:bI) (t:Nat) (a:bc D) (O:List (ba D)):Option (bc D):=match a with| .box i off=>(match O[i]? with|some (.box _ cs _ _)=>o7 (P:=P) t cs off J|some (.recv _ cs _)=>o7 (P:=P) t cs off J|_=>ae)|_=>ae
def xx (P:bI) (E:List (Nat×bc D)) (O:List (ba D)):Nat->List ResultVar->Option (List (Nat×bc D))
 |_,[]=>J []
 |n, .tmp d::rs=>if mn d pX=aa then xx P E O (n+1) rs else ae
 |n, .cell a t::rs=>match XX P t (eI E a) O,xx P E O (n+1) rs with|some V,J l=>J ((n,V)::l)|_,_=>ae
def tL (D:Nat->Type):Option (Nat×Nat)->Type|none=>Unit|some p=>D p.2
def fS.F (d:fS D):Type:=tL D d.ij->ft D d.ins->Option (mz D d.outs)
variable (X:e3 P D)
def rb:(c:Option (Nat×Nat))->tL D c->List (ba D)|none,_=>[]|some p,x=>[.recv p.2 (jl X p.2 x) ak]
def xu:Option (Nat×Nat)->List (Nat×bc D)|none=>[]|some p=>[(p.1, .box 0 0)]
def sm (d:fS D):List Nat:=match d.ij with|none=>[]|some _=>[d.re]
def fS.ee (d:fS D):lF D:=⟨.ret,d.outs,d.fu⟩
@[irreducible] def fk:Nat:=1000000000
def tq (fu:List (Nat×bc D)) (b i:Nat):Bool:=mn i 63&&(match eI fu (b+1+i) with| .c (.own _)=>aa|_=>ak)
def x2 (fu:List (Nat×bc D)) (zs:List (cv D)) (b:Nat):Nat->List (cv D)->List (cv D)|_,[]=>[]|i,c::cs=>(if tq fu b i=aa then zs.getD i .gE else c)::x2 fu zs b (i+1) cs
def Ua (E:List (Nat×bc D)) (n:Nat):bc D:=
 if fi (n%64) 0=aa then .un else
 match eI E (n / 64) with
 | .agg _ cs=>(match cs[n%64 - 1]? with|some c=> .c c|none=> .un)
 |_=> .un
def yF (E:List (Nat×bc D)):List (Nat×bc D)->List (Nat×bc D)|[]=>[]|p::l=>if iJ fk p.1=aa then (p.1,Ua E (p.1 - fk))::yF E l else yF E l
def uH (fu E:List (Nat×bc D)):List dt->Option (List (Nat×bc D))
 |[]=>J []
 | .v s c::aQ=>
  if iJ fk s=aa then
   if fi ((s - fk)%64) 0=aa then
    match eI E ((s - fk) / 64) with
    | .agg t cs=>(match uH fu E aQ with|some l=>J ((s, .agg t (x2 fu (nQ X t) s 0 cs))::l)|none=>ae)
    |_=>ae
   else ae
  else uH fu E aQ
 | .o _ _::aQ=>uH fu E aQ
 | .u _ _::aQ=>uH fu E aQ
def wg:List dt->Bool|[]=>ak| .v s _::aQ=>iJ fk s||wg aQ|_::aQ=>wg aQ
def PY (d:fS D) (ex:fG) (E:List (Nat×bc D)) (O:List (ba D)):Option (mz D d.outs):=
 if ex= .normal\/ex= .ret then ab (xx P E O pX d.lV) λl=>
  if wg d.outs=aa then
   if ((l++E).all (λp=>mn p.1 fk)&&d.eX.all λx=>mn x fk)=aa then
    ab (uH X d.fu (l++E) d.outs) λBE=>xv X (sm d).length (sm d) d.ee (BE++(yF (l++E) d.fu++(l++E))) O
   else ae
  else xv X (sm d).length (sm d) d.ee (l++E) O
 else ae
def XT (b:Bool) (s:bc D) (c:cv D):cv D:=match b,s with|true, .c (.own n)=> .own n|_,_=>c
def wS (E:List (Nat×bc D)) (b:Nat):Nat->List (cv D)->List (cv D)|_,[]=>[]|i,c::cs=>XT (mn i 63) (eI E (b+1+i)) c::wS E b (i+1) cs
def BB (ia nU:List (Nat×bc D)):List Nat->List (Nat×bc D)
 |[]=>[]
 |d::ds=>match eI ia (fk+64*d) with| .agg t cs=>(d, .agg t (wS nU (fk+64*d) 0 cs))::BB ia nU ds|_=>BB ia nU ds
def IE (outs:List dt) (fu:List (Nat×bc D)) (fr:Nat->af):Prop:=∀d t,dt.v (fk+64*d) (.agg t)∈outs->∃yD ds:List af,fr (fk+64*d)= .agg yD.toArray/\fr d= .agg ds.toArray/\ds.length=yD.length/\
 ∀(i:Nat) (w:af),ds[i]? =J w->if tq fu (fk+64*d) i=aa then fr (fk+64*d+1+i)=w else yD[i]? =J w
def PX (ia nU:List (Nat×bc D)) (eX:List Nat):List (Nat×bc D):=BB ia nU eX++(ia++nU)
def mg:Nat->List (bc D)->List (Nat×bc D)|_,[]=>[]|i,s::l=>(i,s)::mg (i+1) l
def P7 (E:List (Nat×bc D)):List Nat->Option (List (cv D⊕(Nat×List (cv D))))|[]=>J []|d::ds=>match eI E d,P7 E ds with| .c c,J l=>J (.inl c::l)| .agg t cs,J l=>J (.inr (t,cs)::l)|_,_=>ae
def GZ (E:List (Nat×bc D)):List Nat->Option (bc D)
 |[d]=>J (eI E d)
 |ds=>match P7 E ds with|some l=>J (.sq l)|none=>ae
def Cp:cv D->Option af| .int k n=>J (.int k n)| .bool b=>J (.bool b)| .str s=>J (aF.str s)|_=>ae
def xl:List (cv D)->Option (List af)
 |[]=>J []
 |c::cs=>match Cp c,xl cs with|some v,J l=>J (v::l)|_,_=>ae
def tG:List (cv D⊕(Nat×List (cv D)))->Option (List af)
 |[]=>J []
 | .inl c::l=>(match Cp c,tG l with|some v,J vs=>J (v::vs)|_,_=>ae)
 | .inr p::l=>(match xl p.2,tG l with|some ds,J vs=>J (.agg ds.toArray::vs)|_,_=>ae)
def Cq:bc D->Option af
 | .c c=>Cp c
 | .agg _ cs=>(match xl cs with|some ds=>J (.agg ds.toArray)|none=>ae)
 | .sq l=>(match tG l with|some vs=>J (.tuple vs.toArray)|none=>ae)
 |_=>ae
def zP (t:Nat):Option (ba D)->Option (D t)|some (.box eu cs ak _)=>if eu=t then mA X t cs else ae|some (.recv eu cs _)=>if eu=t then mA X t cs else ae|_=>ae
def GW (t:Nat) (cs:List (cv D)):ba D->ba D| .box _ _ _ _=> .box t cs ak aa|_=> .recv t cs aa
def sh:List dt->Bool|[]=>aa| .o _ (.recv _)::_=>ak| .o _ _::aQ=>sh aQ| .v _ c::aQ=>c.y9&&sh aQ| .u _ _::aQ=>sh aQ
def wL (i N j:Nat):Nat:=if fi j 0=aa then i else N+(j - 1)
def Ck (outs:List dt) (fu:List (Nat×bc D)) (eX:List Nat) (flat:Bool) (re:Nat) (cX:List (bc D)) (O cu:List (ba D)) {ap:Type} (K:bc D->List (ba D)->Option ap):(ij:Option (Nat×Nat))->(tL D ij->Option (mz D outs))->Option ap
 |none,G=>
  ab (G ()) λy=>
   match GZ (PX (hc X outs (gn _ y)) (fu.map λq=>(q.1,pE (λj=>cu.length+j) q.2)) eX) eX with
   |some dR=>if flat=aa then (match Cq dR with|some _=>K dR O|none=>ae) else K dR (cu++mkOr X (λj=>cu.length+j) outs (gn _ y))
   |none=>ae
 |some p,G=>
  match eI (mg 0 cX) p.1 with
  | .box i 0=>
   match cu[i]? with
   |some o=>
    ab (zP X p.2 (J o)) λr=>
    ab (G r) λy=>
     match GZ (PX (hc X outs (gn _ y)) (fu.map λq=>(q.1,pE (wL i cu.length) q.2)) eX) eX with
     |some dR=>
      if re=2 then
       match kc X wE outs (gn _ y) 0 with
       | .recv t cs _=>if t=p.2 then K dR (cu.set i (GW p.2 cs o)++mkOr X (wL i cu.length) outs (gn _ y)) else ae
       |_=>ae
      else if re=1 then (if o.clean=aa then K dR (cu++mkOr X (wL i cu.length) outs (gn _ y)) else K dR (cu.set i (GW p.2 (jl X p.2 r) o)++mkOr X (wL i cu.length) outs (gn _ y))) else ae
     |none=>ae
   |none=>ae
  |_=>ae
def fS.call (d:fS D) (F:d.F) (cX:List (bc D)) (O:List (ba D)) {ap:Type} (K:bc D->List (ba D)->Option ap):Option ap:=if fi cX.length d.lQ then match rL (mg 0 cX) d.ins O with|some (mv,cu)=>if d.fg.all λp=>wa [] p.2 (eI (mg 0 cX) p.1) then match iG X [] cu d.ins mv [] with|some x=>Ck X d.outs d.fu d.eX d.flat d.re cX O cu K d.ij λr=>F r x|none=>ae else ae|none=>ae else ae
end
section
variable {P:bI} {D:Nat->Type} {X:e3 P D} {z dv z2:Nat->bW} {e m m1:Mem} {k q:Option Nat} {vs:List af} {fr:Nat->af} {E:List (Nat×bc D)} {O cr:List (ba D)}
def b9.call (h:b9 X.G O dv e m k vs) (bx:dT m.next dv z2) (s:gl m m1 q) (aS:dL z2 e m1 k) (aR:cr.length=O.length)
  (aM:∀(j:Nat) (o':ba D),cr[j]? =J o'->(O[j]? =J o'/\(o'.live=aa->∀v,vs[j]? =J v->e6 (dQ v) q))\/(∃o,O[j]? =J o/\o.live=aa/\∀v,vs[j]? =J v->hf X.G z2 e m1 k vs o' v)):b9 X.G cr z2 e m1 k vs where
 aS:=aS
 len:=by rw[aR];exact h.len
 obj:=λj o' v bn aD=>by
  rcases aM j o' bn with ⟨h1,ai⟩|⟨o,h1,ai,aT⟩
  ·have cG:=h.obj j o' v h1 aD;cases dE:o'.live with
   |false=>exact cG.frozen dE bx.le λ_ _ h=>h
   |true=>exact (cG.same s (λ_=>ai dE v aD) λ_ _ h=>h).jP bx.le (λ_ b aw=>bx.low b (cG.lt dE b aw).1) λ_ b j L t aw=>bx.low b (h.aS.bZ b (by grind)).2
  grind
 fD:=λa b o p v w jV bl aw hr lO aD hw=>by
  have key:∀(j:Nat) (o':ba D),cr[j]? =J o'->o'.live=aa->∃o,O[j]? =J o/\o.live=aa:=by
   grind
  obtain ⟨iw,g1,g2⟩:=key a o bl hr;obtain ⟨iQ,g3,g4⟩:=key b p aw lO;exact h.fD a b iw iQ v w jV g1 g3 g2 g4 aD hw
def b9.al6 {N:List (ba D)} {ep:List af} {lim:Nat} (h:b9 X.G O z e m k vs) (aR:ep.length=N.length)
  (cF:∀(j:Nat) (o:ba D) (v:af),O[j]? =J o->vs[j]? =J v->o.live=aa->∀b,dQ v=J b->b<lim)
  (bB:∀(j:Nat) (o:ba D) (v:af),N[j]? =J o->ep[j]? =J v->hf X.G z e m k (vs++ep) o v/\∀b,dQ v=J b->lim<=b)
  (bl:∀(i j:Nat) (o p:ba D) (v w:af),i≠j->N[i]? =J o->N[j]? =J p->ep[i]? =J v->ep[j]? =J w->e6 (dQ v) (dQ w)):b9 X.G (O++N) z e m k (vs++ep):=by
 have cs:∀(j:Nat) (o:ba D) (v:af),(O++N)[j]? =J o->(vs++ep)[j]? =J v->(j<O.length/\O[j]? =J o/\vs[j]? =J v)\/(O.length<=j/\N[j - O.length]? =J o/\ep[j - O.length]? =J v):=by
  intro j o v aM aD;by_cases bn:j<O.length
  ·rw[kS bn] at aM;rw[kS (by rw[h.len];grind)] at aD
   grind
  ·rw[kT (by omega)] at aM;rw[kT (by rw[h.len];omega),h.len] at aD
   grind
 refine ⟨h.aS,by rw[sI,sI,h.len,aR],λj o v aM aD=> ?_,λi j o p v w hq aM bb cf bE aD hw=> ?_⟩
 ·rcases cs j o v aM aD with ⟨_,h1,ai⟩|⟨_,h1,ai⟩
  ·exact (h.obj j o v h1 ai).same (m':=m) (q:=ae) ⟨e4 _,h.aS.dead,λ_ _ _=>rfl⟩ (λ_=>e6.qg) j0
  grind
 ·have mix:∀(i j:Nat) (o p:ba D) (v w:af),O[i]? =J o->vs[i]? =J v->o.live=aa->N[j]? =J p->ep[j]? =J w->e6 (dQ v) (dQ w):=by
   intro i j o p v w aM aD cf bb hw b aw e5
   grind
  rcases cs i o v aM aD with ⟨_,h1,ai⟩|⟨_,h1,ai⟩
  ·rcases cs j p w bb hw with ⟨_,aT,br⟩|⟨_,aT,br⟩
   ·exact h.fD i j o p v w hq h1 aT cf bE ai br
   grind
  ·rcases cs j p w bb hw with ⟨_,aT,br⟩|⟨_,aT,br⟩
   ·exact (mix j _ p o w v aT br bE h1 ai).symm
   grind
def KR:∀{aQ:List dt} {x:ft D aQ} {q:yh D},sh aQ=aa->q∈cos aQ x->∀t,q.c≠ .recv t
 |[],_,_,_,h=>by grind [cos]
 | .v d c::aQ,x,o,bB,h=>KR (aQ:=aQ) (x:=x.2) (tY.1 bB).2 h
 | .u d c::aQ,x,o,bB,h=>KR (aQ:=aQ) (x:=x.2) bB h
 | .o d c::aQ,x,o,bB,h=>by
  simp only[cos,ha] at h;have p9:(∀t,c≠ .recv t)/\sh aQ=aa:=by
   cases c with
   |recv t=>cases bB
   |_=>exact ⟨λt h=>(by grind),bB⟩
  rcases h with rfl|h
  ·grind
  ·exact KR (aQ:=aQ) (x:=x.2) p9.2 h
def born {c:cw} {x:c.ty D} {w:Bool} {v:af} {kk:Option Nat} {cJ:Nat->Nat} (ay:∀t,c≠ .recv t) (he:e.next<=m.next) (h:hf X.G z m m1 kk vs (cw.gO X cJ c x w) v):hf X.G z e m1 k vs (cw.gO X cJ c x w) v/\∀b,dQ v=J b->m.next<=b:=by
 cases c with
 |recv t=>grind
 |bL t l=>obtain ⟨b,ds,rfl,h1,ai,aT⟩:=h;exact ⟨⟨b,ds,rfl,⟨h1.blk,h1.lt,h1.dead, .inl (jd he ai)⟩,jd he ai,aT⟩,λc ay=>by cases ay;grind⟩
 |uI t f is=>obtain ⟨b,ds,rfl,h1,ai,aT⟩:=h;exact ⟨⟨b,ds,rfl,⟨h1.blk,h1.lt,h1.dead, .inl (jd he ai)⟩,jd he ai,aT⟩,λc ay=>by cases ay;grind⟩
 |bh t=>have h:dU (X.G.T t) z m m1 kk x v:=h;refine ⟨(⟨h.bT,λb aw=>jd he (h.fresh b aw)⟩:dU (X.G.T t) z e m1 k x v), ?_⟩;rw[hi (by obtain ⟨a,c,rfl⟩:=h.bT.len;grind)];exact h.fresh
 |box t=>obtain ⟨b,ds,rfl,h1,ai,aT⟩:=h;exact ⟨⟨b,ds,rfl,⟨h1.blk,h1.lt,h1.dead, .inl (jd he ai)⟩,jd he ai,aT⟩,λc ay=>by cases ay;grind⟩
 |arr t u n=>obtain ⟨⟨b,rfl⟩,h⟩:=h;exact ⟨⟨⟨b,rfl⟩,h.bT,λb aw=>jd he (h.fresh b aw)⟩,λc ay=>h.fresh c ay⟩
 |map t bG bA=>have h:jD (X.G.M t bG bA) z m m1 kk x v:=h;obtain ⟨r,rfl,h1,ai,aT,br⟩:=h.bT;exact ⟨(⟨⟨r,rfl,h1,ai,aT,jd he br⟩⟩:jD (X.G.M t bG bA) z e m1 k x _),λc ay=>by cases ay;grind⟩
 |ne eV t=>obtain ⟨hu,ws,h⟩:=h;refine ⟨⟨hu,ws,⟨h.bT.bT,λb aw=>jd he (h.bT.fresh b aw)⟩,h.len,λj w xs h1 ai aT=>(h.oU j w xs h1 ai aT).Ja he,λp bb=>by grind⟩, ?_⟩;rw[hi (by obtain ⟨a,c,rfl⟩:=h.bT.bT.len;grind)];exact h.bT.fresh
def W2:∀{eX:List Nat} {l:List (cv D⊕(Nat×List (cv D)))},fj X z vs E fr->P7 E eX=J l->bP (vt X.G z vs) l (eX.map fr)/\∀x∈eX.map fr,storable x=aa
 |[],l,bp,h=>by cases h;exact ⟨trivial,by simp⟩
 |d::ds,l,bp,h=>by
  simp only[P7] at h;have bg:=bp d;split at h
  ·rename_i c fE ay aR;cases h;rw[ay] at bg;obtain ⟨g1,g2⟩:=W2 bp aR;refine ⟨⟨bg,g1⟩,λx an=> ?_⟩;rcases ha.1 an with rfl|an
   ·exact (ed.afp bg).1
   grind
  ·rename_i t cs fE ay aR;cases h;rw[ay] at bg;obtain ⟨g1,g2⟩:=W2 bp aR;refine ⟨⟨bg,g1⟩,λx an=> ?_⟩;rcases ha.1 an with rfl|an
   ·obtain ⟨ds,bg,_⟩:=bg;rw[bg];rfl
   grind
  grind
def Xf {eX:List Nat} {dR:bc D} (bp:fj X z vs E fr) (h:GZ E eX=J dR):rel X.G z vs dR (pack (eX.map fr))/\((eX.map fr).length=1\/∀x∈eX.map fr,storable x=aa):=by
 unfold GZ at h;split at h
 ·cases h;exact ⟨bp _, .inl rfl⟩
 ·rename_i ds oP;split at h
  ·rename_i l aR;cases h;obtain ⟨g1,g2⟩:=W2 bp aR;refine ⟨?_, .inr g2⟩;have:pack (eX.map fr)= .tuple (eX.map fr).toArray:=by
    simp_all [pack]
   rw[this];exact ⟨_,rfl,g1⟩
  grind
def WE {c:cv D} {v w:af} (h:Cp c=J w) (aV:ed X.G z vs c v):v=w/\dy w=aa:=by
 cases c<;>first|(cases h;done)|(cases h;exact ⟨aV,rfl⟩)
def WG:∀{cs:List (cv D)} {ds ws:List af},xl cs=J ws->bP (ed X.G z vs) cs ds->ds=ws/\ws.all dy=aa
 |[],[],_,h,_=>by cases h;grind
 |c::cs,d::ds,ws,h,⟨h1,ai⟩=>by
  simp only[xl] at h;split at h
  ·rename_i v l aD aR;cases h;obtain ⟨rfl,g1⟩:=WE aD h1;obtain ⟨rfl,g2⟩:=WG aR ai
   grind
  grind
 |[],_::_,_,_,h=>h.elim
 |_::_,[],_,_,h=>h.elim
def WH:∀{l:List (cv D⊕(Nat×List (cv D)))} {ds ws:List af},tG l=J ws->bP (vt X.G z vs) l ds->ds=ws/\ws.all kz=aa
 |[],[],_,h,_=>by cases h;grind
 | .inl c::l,d::ds,ws,h,⟨h1,ai⟩=>by
  simp only[tG] at h;split at h
  ·rename_i v fE aD aR;cases h;obtain ⟨rfl,g1⟩:=WE aD h1;obtain ⟨rfl,g2⟩:=WH aR ai;have:kz d=aa:=by cases d<;>first|exact g1|cases g1
   grind
  grind
 | .inr p::l,d::ds,ws,h,⟨⟨cs,bR,h1⟩,ai⟩=>by
  simp only[tG] at h;split at h
  ·rename_i v fE aD aR;cases h;obtain ⟨rfl,g1⟩:=WG aD h1;obtain ⟨rfl,g2⟩:=WH aR ai;subst bR;exact ⟨rfl,by simp only[ml,g2,Bool.and_true];exact g1⟩
  grind
 |[],_::_,_,_,h=>h.elim
 |_::_,[],_,_,h=>h.elim
def arX {s:bc D} {v w:af} (h:Cq s=J w) (aV:rel X.G z vs s v):v=w/\aF.flat w=aa:=by
 unfold Cq at h;split at h
 ·obtain ⟨rfl,g⟩:=WE h aV;refine ⟨rfl, ?_⟩;cases v<;>first|exact g|cases g
 ·split at h
  ·rename_i ds bg;cases h;obtain ⟨es,rfl,ai⟩:=aV;obtain ⟨rfl,g⟩:=WG bg ai;exact ⟨rfl,g⟩
  grind
 ·split at h
  ·rename_i ws bg;cases h;obtain ⟨es,rfl,ai⟩:=aV;obtain ⟨rfl,g⟩:=WH bg ai;exact ⟨rfl,g⟩
  grind
 grind
def PW:Option (Nat×Nat)->List dt|none=>[]|some p=>[.o p.1 (.recv p.2)]
def X2:(c:Option (Nat×Nat))->tL D c->ft D (PW c)|none,_=>()|some _,r=>(r,())
def auZ (c:Option (Nat×Nat)) (r:tL D c):eU X (PW c) (X2 c r)=rb X c r:=by cases c<;>rfl
def ati {c:Option (Nat×Nat)} {r:tL D c} {n:Nat}:(match c with|none=>[]|some _=>[n]).length=(rb X c r).length:=by cases c<;>rfl
def asL {d:fS D} {r:tL D d.ij}:(rb X d.ij r).length=(sm d).length:=by
 unfold sm;rw[<-ati (X:=X) (r:=r) (n:=d.re)]
def at2 (X:e3 P D) (d:fS D) (r:tL D d.ij) (y:mz D d.outs) (z:Nat->bW) (m:Mem) (kk:Option Nat) (dB:List af) (ex:fG) (cb:Nat->af) (m1:Mem):Prop:=(ex= .normal\/ex= .ret)/\∃ic,q2 P cb m1 d.lV (d.eX.map ic)/\∃z2 ep,dT m.next z z2/\b9 X.G (ly X (sm d) (rb X d.ij r) d.outs (gn _ y)) z2 m m1 kk (dB++ep)/\(∀q∈hc X d.outs (gn _ y)++d.fu,rel X.G z2 (dB++ep) q.2 (ic q.1))/\IE d.outs d.fu ic
def Au (X:e3 P D) (B:Code) (d:fS D) (F:d.F):Prop:=∀(r:tL D d.ij) (x:ft D d.ins) (y:mz D d.outs) {z:Nat->bW} {m:Mem} {kk:Option Nat} {dB:List af} {fr:Nat->af},
 F r x=J y->b9 X.G (rb X d.ij r) z m m kk dB->fj X z dB (hc X d.ins x++(d.fg++xu d.ij)) fr->W P B (at2 X d r y z m kk dB) fr m
def arx {t:Nat} {a:bc D} {V:bc D} {v:af} (aN:b9 X.G O z e m k vs) (bl:rel X.G z vs a v) (h:XX P t a O=J V):∃b off w,v= .pointer (J ⟨b,off,ae⟩)/\rel X.G z vs V w/\∃d,P.underlying t=J d/\
  (if lI d=aa then ∃i cs,P.info? t=J i/\kd m b off i.size=J cs/\w= .agg cs.toArray else m.load b off=J w):=by
 have fin:∀{b n:Nat} {cs:List (cv D)} {ds:List af},(∀(j:Nat) (w:af),ds[j]? =J w->m.load b (0+j)=J w)->bP (ed X.G z vs) cs ds->o7 (P:=P) t cs n J=J V->∃w,rel X.G z vs V w/\∃d,P.underlying t=J d/\(if lI d=aa then ∃i cs,P.info? t=J i/\kd m b n i.size=J cs/\w= .agg cs.toArray else m.load b n=J w):=by
  intro b n cs ds ay aV h;unfold o7 at h;split at h
  ·grind
  ·rename_i d bg;split at h
   ·rename_i sZ;split at h
    ·grind
    ·rename_i i az;split at h
     ·rename_i hlen;cases h;have nG:bP (ed X.G z vs) ((cs.drop n).take i.size) ((ds.drop n).take i.size):=bP.take _ (bP.drop _ aV);have lM:((ds.drop n).take i.size).length=i.size:=by rw[<-nG.length];grind
      refine ⟨.agg ((ds.drop n).take i.size).toArray,⟨_,rfl,nG⟩,d,bg, ?_⟩
      grind [Cc]
     grind
   ·rename_i sZ;split at h
    ·rename_i c jI;cases h;obtain ⟨w,hw,Bv⟩:=aV.get n c jI;refine ⟨w,Bv,d,bg, ?_⟩
     grind
    grind
 unfold XX at h;split at h
 ·rename_i i off;obtain ⟨b,aD,an⟩:=bl;split at h
  ·rename_i u cs bZ dX hO;have cG:=aN.obj i _ _ hO aD;cases bZ with
   |true=>
    obtain ⟨dJ,ds,he,ay,aV⟩:=cG;cases he;obtain ⟨w,h1,ai⟩:=fin (b:=b) (aN.aS.tm ay) aV h
    grind
   |false=>
    obtain ⟨dJ,ds,he,aw,_,aV⟩:=cG;cases he;obtain ⟨w,h1,ai⟩:=fin (b:=b) aw.tm aV h
    grind
  ·rename_i u cs dX hO;obtain ⟨dJ,ds,he,aw,aV⟩:=aN.obj i _ _ hO aD;cases he;obtain ⟨w,h1,ai⟩:=fin (b:=b) aw.tm aV h
   grind
  grind
 grind
def Xt:∀{rs:List ResultVar} {n:Nat} {l:List (Nat×bc D)},xx P E O n rs=J l->∀x∈nL n rs,x<pX\/n<=x
 |[],n,l,_,x,an=>by grind [nL]
 | .tmp d::rs,n,l,h,x,an=>by
  obtain ⟨h1,ai⟩:=gz h;simp only[nL,ha] at an;rcases an with rfl|an
  ·simp_all
  ·rcases Xt ai x an with h|h
   ·grind
   grind
 | .cell a t::rs,n,l,h,x,an=>by
  simp only[xx] at h;split at h
  ·rename_i V r3 _ ai;simp only[nL,ha] at an;rcases an with rfl|an
   ·grind
   ·rcases Xt ai x an with h|h
    ·grind
    grind
  grind
def Xu (aN:b9 X.G O z e m k vs) (bp:fj X z vs E fr):∀{rs:List ResultVar} {n:Nat} {l:List (Nat×bc D)},pX<=n->xx P E O n rs=J l->∃ic,(∀d,d<n->ic d=fr d)/\fj X z vs (l++E) ic/\q2 P fr m rs ((nL n rs).map ic)
 |[],n,l,_,h=>by cases h;exact ⟨fr,λ_ _=>rfl,bp,trivial⟩
 | .tmp d::rs,n,l,bB,h=>by
  obtain ⟨h1,ai⟩:=gz h;have bg:d<pX:=by simp_all
  obtain ⟨ic,g1,g2,g3⟩:=Xu aN bp (Nat.le_succ_of_le bB) ai;exact ⟨ic,λd bg=>g1 d (Nat.lt_succ_of_lt bg),g2,g1 d (Nat.lt_succ_of_lt (hS bg bB)),g3⟩
 | .cell a t::rs,n,l,bB,h=>by
  simp only[xx] at h;split at h
  ·rename_i V r3 h1 ai;cases h;obtain ⟨ic,g1,g2,g3⟩:=Xu aN bp (Nat.le_succ_of_le bB) ai;obtain ⟨b,off,w,dX,ix,pH⟩:=arx aN (bp a) h1;refine ⟨λi=>if i=n then w else ic i,λd bg=> ?_,λi=> ?_, ?_⟩
   ·grind
   ·show rel X.G z vs (eI ((n,V)::(r3++E)) i) (if i=n then w else ic i);simp only[eI];split
    ·simp_all
    ·rename_i az;rw[if_neg (by rintro rfl;simp_all)];exact g2 i
   ·have hm:(nL (n+1) rs).map (λi=>if i=n then w else ic i)=(nL (n+1) rs).map ic:=by
     apply YW;intro x an;rw[if_neg];rintro rfl;rcases Xt ai _ an with h|h<;>omega
    refine ⟨⟨b,off,dX, ?_⟩, ?_⟩
    ·grind
    grind
  grind
def adx {fu:List (Nat×bc D)} {zs:List (cv D)} {b:Nat}:∀{cs:List (cv D)} {i0 i:Nat},(x2 fu zs b i0 cs)[i]? =(cs[i]?).map λc=>if tq fu b (i0+i)=aa then zs.getD (i0+i) .gE else c
 |[],i0,i=>by rfl
 |c::cs,i0,0=>by rfl
 |c::cs,i0,i+1=>by simp only[x2,qH];rw[adx (cs:=cs),show i0+1+i=i0+(i+1) by omega]
theorem ady {fu:List (Nat×bc D)} {zs:List (cv D)} {b:Nat}:∀{cs:List (cv D)} {i0:Nat},(x2 fu zs b i0 cs).length=cs.length
 |[],_=>rfl
 |c::cs,i0=>by simp[x2,ady (cs:=cs)]
def fj.app {A:List (Nat×bc D)} (bp:fj X z vs E fr) (h:∀p∈A,rel X.G z vs p.2 (fr p.1)):fj X z vs (A++E) fr:=by
 induction A with
 |nil=>grind
 |cons p A a1=>grind [cons]
theorem W4 {n:Nat}:∀{E:List (Nat×bc D)},(E.all λp=>mn p.1 n)=aa->∀s,n<=s->eI E s= .un
 |[],_,s,_=>rfl
 |p::E,h,s,bf=>by
  simp only[ml,fx] at h;have h1:p.1<n:=by simp_all
  simp only[eI];rw[if_neg (by simp;omega)];exact W4 h.2 s bf
def BY {fu:List (Nat×bc D)}:∀{aQ:List dt} {l:List (Nat×bc D)},uH X fu E aQ=J l->(∀p∈l,fk<=p.1/\(p.1 - fk)%64=0/\∃t cs,eI E ((p.1 - fk) / 64)= .agg t cs/\p.2= .agg t (x2 fu (nQ X t) p.1 0 cs))/\
  ∀s c,dt.v s c∈aQ->fk<=s->∃t cs,eI E ((s - fk) / 64)= .agg t cs
 |[],l,h=>by cases h;exact ⟨by simp,by simp⟩
 | .o _ _::aQ,l,h=>by
  obtain ⟨g1,g2⟩:=BY (aQ:=aQ) h
  grind
 | .u _ _::aQ,l,h=>by
  obtain ⟨g1,g2⟩:=BY (aQ:=aQ) h
  grind
 | .v PZ rI::aQ,l,h=>by
  simp only[uH] at h;split at h
  ·rename_i hle;obtain ⟨aoa,h⟩:=gz h;split at h
   ·rename_i t cs s8;split at h
    ·rename_i fE h1;cases h;obtain ⟨g1,g2⟩:=BY (aQ:=aQ) h1
     grind [pk,kA]
    grind
   grind
  ·rename_i hle;obtain ⟨g1,g2⟩:=BY (aQ:=aQ) h
   grind [Nat.ble_eq_true_of_le]
def WD:∀{l:List (Nat×bc D)},∀p∈yF E l,fk<=p.1/\p.2=Ua E (p.1 - fk)
 |[],p,h=>by cases h
 |q::l,p,h=>by
  simp only[yF] at h;split at h
  ·rename_i hle;rcases ha.1 h with rfl|h
   ·simp_all
   ·exact WD p h
  ·exact WD p h
def att {fu:List (Nat×bc D)} {outs:List dt} {BE:List (Nat×bc D)} (bp:fj X z vs E fr) (oO:(E.all λp=>mn p.1 fk)=aa) (h:uH X fu E outs=J BE):
  ∃qM,(∀s,s<fk->qM s=fr s)/\fj X z vs (BE++(yF E fu++E)) qM/\IE outs fu qM:=by
 obtain ⟨m1,m2⟩:=BY h
 let afs:Nat->Nat:=λs=>match eI E s with| .agg t _=>t|_=>0
 let qM:Nat->af:=λs=>if s<fk then fr s else match fr ((s - fk) / 64) with
  | .agg ds=>if (s - fk)%64=0 then .agg ((mN ds.toList.length).map λi=>if tq fu s i=aa then YA (XE (X:=X) (t:=afs ((s - fk) / 64)) i) else ds.toList.getD i undef).toArray else ds.toList.getD ((s - fk)%64 - 1) undef
  |v=>v
 have rT:∀s,s<fk->qM s=fr s:=λs bf=>if_pos bf;have JJ:∀s t cs,fk<=s->eI E ((s - fk) / 64)= .agg t cs->∃ds:List af,fr ((s - fk) / 64)= .agg ds.toArray/\bP (ed X.G z vs) cs ds/\
   qM s=if (s - fk)%64=0 then .agg ((mN ds.length).map λi=>if tq fu s i=aa then YA (XE (X:=X) (t:=t) i) else ds.getD i undef).toArray else ds.getD ((s - fk)%64 - 1) undef:=by
  intro s t cs bf aR;have aV:=bp ((s - fk) / 64);rw[aR] at aV;obtain ⟨ds,h1,ai⟩:=aV;refine ⟨ds,h1,ai, ?_⟩;show (if s<fk then _ else _)=_;rw[if_neg (by omega)];simp only[h1,afs,aR]
 have am4:fj X z vs E qM:=λs=>by
  by_cases bf:s<fk
  ·rw[rT s bf];exact bp s
  ·rw[W4 oO s (by omega)];trivial
 refine ⟨qM,rT,(am4.app λp bb=> ?_).app λp bb=> ?_,λd t hm=> ?_⟩
 ·obtain ⟨h1,ai⟩:=WD p bb;rw[ai];unfold Ua;split
  ·trivial
  ·rename_i bR;split
   ·rename_i t cs aR;obtain ⟨ds,_,g2,g3⟩:=JJ p.1 t cs h1 aR;split
    ·rename_i c ay;obtain ⟨w,hw,aV⟩:=g2.get _ c ay;rw[g3,if_neg (by simp_all)];have anN:ds.getD ((p.1 - fk)%64 - 1) undef=w:=by grind
     rw[anN];exact aV
    ·trivial
   ·trivial
 ·obtain ⟨h1,ai,t,cs,aR,br⟩:=m1 p bb;obtain ⟨ds,_,g2,g3⟩:=JJ p.1 t cs h1 aR;rw[br,g3,if_pos ai];have hlen:=(lx.1 g2).1;refine ⟨_,rfl,lx.2 ⟨by grind [ady],λi a b bl aw=> ?_⟩⟩;rw[adx] at bl;obtain ⟨a0,bR,bl⟩:=vT.1 bl;rw[lH] at bl;have az:i<ds.length:=by grind
  rw[sH,List.getElem?_range az] at aw
  grind [lx]
 ·obtain ⟨eu,cs,aR⟩:=m2 _ _ hm (by omega);obtain ⟨ds,g1,g2,g3⟩:=JJ (fk+64*d) eu cs (by omega) aR;have bX:(fk+64*d - fk) / 64=d:=by omega
  have e2:(fk+64*d - fk)%64=0:=by omega
  rw[if_pos e2] at g3;rw[bX] at g1 aR;have bg:d<fk:=by
   grind [W4]
  refine ⟨_,ds,g3,by grind,by simp,λi w hw=> ?_⟩;have az:=(fq.1 hw).1;split
  ·rename_i aM;have axB:i<63:=by
    grind [tq,Nat.blt_eq]
   obtain ⟨nv,cL,_,fo⟩:=JJ (fk+64*d+1+i) eu cs (by omega) (by rw[show (fk+64*d+1+i - fk) / 64=d by omega];grind);rw[show (fk+64*d+1+i - fk) / 64=d by omega,g1] at cL;have cL:ds=nv:=by
    grind
   subst cL;rw[fo,if_neg (by omega),show (fk+64*d+1+i - fk)%64 - 1=i by omega]
   grind
  simp_all
def Au.of (cW:iV X) {B:Code} {us:List (mP D)} {d:fS D} {F:d.F} (te:∀u∈us,0<u.path.length->qJ X B u)
  (eB:∀r x,j8 X us calm aa [] B (hc X d.ins x++(d.fg++xu d.ij)) (rb X d.ij r) (PY X d)=F r x):Au X B d F:=by
 intro r x y z m kk dB fr eF aN bp;have h:=eB r x;rw[eF] at h;refine (Lh cW (L:=0) te B aa [] _ _ _ y (sc B) (by simp) (by simp) aN bp h).mono ?_;rintro ex fY m1 ⟨dv,jK,ia,cu,bR,h1,ai,aT,br,cK⟩;obtain ⟨an,cK⟩:=gz cK;obtain ⟨l,hV,fJ⟩:=bind_some cK;obtain ⟨ic,fv,fQ,kb⟩:=Xu aT br (e4 _) hV;have aR:(sm d).length=dB.length:=by rw[aN.len,asL]
 rw[aR] at fJ;have aV:=auZ (X:=X) d.ij r;by_cases Vn:wg d.outs=aa
 ·replace fJ:=(if_pos Vn).symm.trans fJ
  obtain ⟨oO,fJ⟩:=gz fJ;simp only[fx] at oO;obtain ⟨BE,an7,fJ⟩:=bind_some fJ;obtain ⟨qM,kN,iS,wR⟩:=att fQ oO.1 an7;obtain ⟨z2,ep,cL,c9,fo⟩:=B8 (ks:=sm d) (ins:=PW d.ij) (x:=X2 d.ij r) (ee:=d.ee) (by grind) ai (by rw[aV];exact aN.len) aT iS fJ;rw[aV] at c9;have oR:d.eX.map ic=d.eX.map qM:=YW λx an=>(kN x (by simp_all)).symm;exact ⟨an,qM,oR▸kb,z2,ep,h1.trans cL,c9,fo,wR⟩
 replace fJ:=(if_neg Vn).symm.trans fJ
 obtain ⟨z2,ep,cL,c9,fo⟩:=B8 (ks:=sm d) (ins:=PW d.ij) (x:=X2 d.ij r) (ee:=d.ee) (by grind) ai (by rw[aV];exact aN.len) aT fQ fJ;rw[aV] at c9;refine ⟨an,ic,kb,z2,ep,h1.trans cL,c9,fo,λUg t hm=>absurd ?_ Vn⟩;have:∀{aQ:List dt},dt.v (fk+64*Ug) (.agg t)∈aQ->wg aQ=aa:=by
  intro aQ;induction aQ with
  |nil=>grind
  |cons i aQ a1=>
   intro h;rcases ha.1 h with rfl|h
   ·simp[wg]
   ·have:=a1 h;cases i<;>simp[wg,this]
 grind
end
end
end Go.aF
end
section
namespace Go.aF
noncomputable section
section
variable {P:bI} {D:Nat->Type} {X:e3 P D} {z dv z2:Nat->bW} {e m m1:Mem} {k q:Option Nat} {vs:List af} {fr:Nat->af} {E:List (Nat×bc D)} {O cr:List (ba D)} {ap:Type} {r:ap}
def WC:∀{l:List (bc D)} {args:List af} {i:Nat},bP (rel X.G z vs) l args->(∀(j:Nat) (v:af),args[j]? =J v->fr (i+j)=v)->fj X z vs (mg i l) fr
 |[],[],i,_,_=>λd=>trivial
 |s::l,a::args,i,⟨h1,ai⟩,bF=>by
  refine (WC (i:=i+1) ai λj v bn=> ?_).cons ?_
  ·rw[show i+1+j=i+(j+1) by omega];simp_all
  ·have:=bF 0 a rfl
   grind
 |[],_::_,_,h,_=>h.elim
 |_::_,[],_,h,_=>h.elim
structure Il (P:bI) (X:e3 P D) (d:fS D) (F:d.F):Prop where
 ex:∃fn c,P.funcs[d.f]? =J fn/\qm P fn c/\lR P d.f=aa/\iJ d.lQ fn.ntmps=aa/\fn.results.toList=d.lV/\Au X c d F
 new:sh d.outs=aa
 ay9:(d.fg.all λp=>tJ p.2)=aa
 avH:(d.fu.all λp=>tJ p.2)=aa
 avI:(d.fg.all λp=>(GY p.2).isNone)=aa
def Wb {c:cv D} {w:af} (h:Cp c=J w):ed X.G z vs c w/\dy w=aa/\kz w=aa/\aF.flat w=aa:=by
 cases c<;>first|(cases h;done)|(cases h;exact ⟨rfl,rfl,rfl,rfl⟩)
def Wc:∀{cs:List (cv D)} {ws:List af},xl cs=J ws->bP (ed X.G z vs) cs ws/\ws.all dy=aa
 |[],_,h=>by cases h;exact ⟨trivial,rfl⟩
 |c::cs,ws,h=>by
  simp only[xl] at h;split at h
  ·rename_i v l aD aR;cases h;obtain ⟨g1,g2,_⟩:=Wb (X:=X) (z:=z) (vs:=vs) aD;obtain ⟨g3,g4⟩:=Wc aR;exact ⟨⟨g1,g3⟩,by grind⟩
  grind
def Wd:∀{l:List (cv D⊕(Nat×List (cv D)))} {ws:List af},tG l=J ws->bP (vt X.G z vs) l ws/\ws.all kz=aa
 |[],_,h=>by cases h;exact ⟨trivial,rfl⟩
 | .inl c::l,ws,h=>by
  simp only[tG] at h;split at h
  ·rename_i v fE aD aR;cases h;obtain ⟨g1,_,g2,_⟩:=Wb (X:=X) (z:=z) (vs:=vs) aD;obtain ⟨g3,g4⟩:=Wd aR;exact ⟨⟨g1,g3⟩,by grind⟩
  grind
 | .inr p::l,ws,h=>by
  simp only[tG] at h;split at h
  ·rename_i v fE aD aR;cases h;obtain ⟨g1,g2⟩:=Wc (X:=X) (z:=z) (vs:=vs) aD;obtain ⟨g3,g4⟩:=Wd aR;exact ⟨⟨⟨v,rfl,g1⟩,g3⟩,by simp only[ml,g4,Bool.and_true];exact g2⟩
  grind
def aqu {s:bc D} {w:af} (h:Cq s=J w):rel X.G z vs s w/\aF.flat w=aa:=by
 unfold Cq at h;split at h
 ·obtain ⟨g1,_,_,g2⟩:=Wb (X:=X) (z:=z) (vs:=vs) h;exact ⟨g1,g2⟩
 ·split at h
  ·rename_i ds bg;cases h;obtain ⟨g1,g2⟩:=Wc (X:=X) (z:=z) (vs:=vs) bg;exact ⟨⟨ds,rfl,g1⟩,g2⟩
  grind
 ·split at h
  ·rename_i ws bg;cases h;obtain ⟨g1,g2⟩:=Wd (X:=X) (z:=z) (vs:=vs) bg;exact ⟨⟨ws,rfl,g1⟩,g2⟩
  grind
 grind
def Inv.app (O N:List (ba D)):Inv O (O++N):=⟨by simp,λi p az bb _ _=>by grind⟩
def b9.nil (aN:b9 X.G O z e m k vs):b9 X.G ([]:List (ba D)) z m m ae []:=⟨dL.start aN.aS.bZ aN.aS.dead,rfl,by simp,by simp⟩
def ad6 {kk:Option Nat} (h:dL dv e m k) (ai:dL z2 m m1 kk) (hk:∀b,kk=J b->e.next<=b\/k=J b):dL z2 e m1 k/\gl m m1 kk:=
 ⟨⟨ai.bZ,ai.dead,h.oL,jd h.next ai.next,λb aw bB=>by
  rw[ai.kept b (hS aw h.next) (λcp=>by grind)];exact h.kept b aw bB⟩,⟨ai.next,ai.dead,ai.kept⟩⟩
def adv {ins:List dt} {fg:List (Nat×bc D)} {cX mv:List (bc D)} {cu:List (ba D)} {x:ft D ins} {dB:List af} (bp:fj X z vs (mg 0 cX) fr) (bl:yd X z vs fr ins mv) (aw:iG X [] cu ins mv []=J x)
  (an:(fg.all λp=>wa [] p.2 (eI (mg 0 cX) p.1))=aa):∀p∈hc X ins x++fg,rel X.G z dB p.2 (fr p.1):=by
 intro p bb;rcases kU.1 bb with bb|bb
 ·grind [zN]
 ·have aJ:=iA.1 an p bb;have:=Xi (X:=X) (vs':=dB) id aJ (bp p.1) (by simp)
  grind [Lp]
def after {outs:List dt} {y:ft D outs} {pU:List (ba D)} {dB ep:List af} {kk:Option Nat} {dz sL:List (ba D)} {cJ:Nat->Nat} (h1:b9 X.G dz dv e m k vs) (aT:b9 X.G sL z2 e m1 k vs) (bR:b9 X.G (pU++eU X outs y) z2 m m1 kk (dB++ep)) (aR:dB.length=pU.length) (bB:sh outs=aa)
  (cF:∀(j:Nat) (o:ba D) (v:af),sL[j]? =J o->vs[j]? =J v->o.live=aa->∀b,dQ v=J b->b<m.next) (apb:∀(j:Nat) (u:af),(dB++ep)[j]? =J u->(vs++ep)[cJ j]? =J u):b9 X.G (sL++mkOr X cJ outs y) z2 e m1 k (vs++ep):=by
 have kK:(eU X outs y).length=(mkOr X cJ outs y).length:=by grind [mD,va]
 have qR:ep.length=(eU X outs y).length:=by
  have:=bR.len
  grind
 have up:∀(j:Nat) (o:ba D) (v:af),(mkOr X cJ outs y)[j]? =J o->ep[j]? =J v->∃q∈cos outs y,o=cw.gO X cJ q.c q.x ak/\(pU++eU X outs y)[pU.length+j]? =J (cw.mk X q.c q.x ak)/\(dB++ep)[pU.length+j]? =J v:=by
  grind [va,mD]
 refine aT.al6 (qR.trans kK) cF (λj o v aM aD=> ?_) (λi j o p v w hq aM bb aD hw=> ?_)
 ·obtain ⟨q,bm,rfl,g1,g2⟩:=up j o v aM aD;have cG:=bR.obj _ _ v g1 g2;exact born (KR bB bm) h1.aS.next (cw.y8 (nR:=cJ) (vs':=vs++ep) ak cG λn _ u hu=>apb n u hu)
 ·obtain ⟨q,bm,rfl,g1,g2⟩:=up i o v aM aD;obtain ⟨ka,aoF,rfl,g3,g4⟩:=up j p w bb hw;exact bR.fD _ _ _ _ v w (by omega) g1 g3 cw.u4 cw.u4 g2 g4
theorem KS:∀{aQ:List dt},sh aQ=aa->∀d c,dt.v d c∈aQ->c.y9=aa
 | .v d c::aQ,h,sS,c3,hm=>by
  have h:=tY.1 h;rcases ha.1 hm with he|hm
  ·grind
  ·exact KS (aQ:=aQ) h.2 sS c3 hm
 | .u d c::aQ,h,sS,c3,hm=>by
  rcases ha.1 hm with he|hm
  ·grind
  ·exact KS (aQ:=aQ) h sS c3 hm
 | .o d c::aQ,h,sS,c3,hm=>by
  rcases ha.1 hm with he|hm
  ·grind
  ·refine KS (aQ:=aQ) ?_ sS c3 hm;cases c<;>first|exact h|cases h
def K9:∀{aQ:List dt} {x:ft D aQ} {p:Nat×bc D},p∈hc X aQ x->∃c y,dt.v p.1 c∈aQ/\p.2=gR.mk X c y
 |[],_,_,h=>by grind [hc]
 | .o d c::aQ,x,p,h=>by
  obtain ⟨c3,y,h1,ai⟩:=K9 (aQ:=aQ) (x:=x.2) h
  grind
 | .u d c::aQ,x,p,h=>by
  obtain ⟨c3,y,h1,ai⟩:=K9 (aQ:=aQ) (x:=x.2) h
  grind
 | .v d c::aQ,x,p,h=>by
  rcases ha.1 h with rfl|h
  ·grind
  ·obtain ⟨c3,y,h1,ai⟩:=K9 (aQ:=aQ) (x:=x.2) h
   grind
def W5:∀{E:List (Nat×bc D)} {s:Nat} {v:bc D},eI E s=v->v≠ .un->(s,v)∈E
 |[],_,_,h,bB=>absurd h.symm bB
 |p::E,s,v,h,bB=>by
  simp only[eI] at h;split at h
  ·grind [kA]
  ·exact kn _ (W5 h bB)
def adA {cJ:Nat->Nat}:∀{l:List (Nat×bc D)} {s:Nat},eI (l.map λq=>(q.1,pE cJ q.2)) s=pE cJ (eI l s)
 |[],_=>rfl
 |p::l,s=>by
  simp only[rA,eI];split
  ·rfl
  ·exact adA
def adn {b:Nat}:∀{cs:List (cv D)} {i0 i:Nat},(wS E b i0 cs)[i]? =(cs[i]?).map (XT (mn (i0+i) 63) (eI E (b+1+(i0+i))))
 |[],i0,i=>by rfl
 |c::cs,i0,0=>by rfl
 |c::cs,i0,i+1=>by simp only[wS,qH];rw[adn (cs:=cs),show i0+1+i=i0+(i+1) by omega]
theorem ado {b:Nat}:∀{cs:List (cv D)} {i0:Nat},(wS E b i0 cs).length=cs.length
 |[],_=>rfl
 |c::cs,i0=>by simp[wS,ado (cs:=cs)]
def WK {ia nU:List (Nat×bc D)}:∀{eX:List Nat},∀p∈BB ia nU eX,∃t cs,eI ia (fk+64*p.1)= .agg t cs/\p.2= .agg t (wS nU (fk+64*p.1) 0 cs)
 |[],p,h=>by cases h
 |d::ds,p,h=>by
  simp only[BB] at h;split at h
  ·rename_i t cs aR;rcases ha.1 h with rfl|h
   ·grind
   ·exact WK p h
  ·exact WK p h
def atA {outs:List dt} {y:ft D outs} {fu:List (Nat×bc D)} {cJ:Nat->Nat} {eX:List Nat} (h:∀q∈hc X outs y++fu.map λq=>(q.1,pE cJ q.2),rel X.G z vs q.2 (fr q.1)) (az:IE outs fu fr):fj X z vs (PX (hc X outs y) (fu.map λq=>(q.1,pE cJ q.2)) eX) fr:=by
 refine (Cm h).app λp bb=> ?_;obtain ⟨t,cs,h1,ai⟩:=WK p bb;have hm:=W5 h1 (by simp);obtain ⟨c,a,g1,g2⟩:=K9 hm;have ay:c= .agg t:=by cases c<;>simp[gR.mk] at g2;grind
 subst ay;obtain ⟨yD,ds,cL,c9,fo,k4⟩:=az _ _ g1;obtain ⟨amC,wH,BC⟩:=h _ (kU.2 (.inl hm));rw[wH] at cL;have cL:amC=yD:=by
  grind
 subst cL;rw[ai];have hlen:=(lx.1 BC).1;refine ⟨ds,c9,lx.2 ⟨by grind [ado],λi a' w bl hw=> ?_⟩⟩;rw[adn] at bl;obtain ⟨a0,bR,bl⟩:=vT.1 bl;rw[lH,adA] at bl;have br:=k4 i w hw;cases bm:tq fu (fk+64*p.1) i with
 |true=>
  rw[if_pos bm] at br;unfold tq at bm;simp only[fx] at bm;obtain ⟨fv,fQ⟩:=bm;split at fQ
  ·rename_i n bB;rw[fv,bB] at bl;have bl:cv.own (cJ n)=a':=bl;subst bl;have JS:=W5 bB (by simp);have:=h (fk+64*p.1+1+i, .c (.own (cJ n))) (kU.2 (.inr (l2.2 ⟨_,JS,rfl⟩)));rw[<-br];exact this
  grind
 |false=>
  rw[if_neg (by grind)] at br;have aV:=(lx.1 BC).2 i a0 w bR br;unfold XT at bl;split at bl
  ·rename_i n aw bB;exfalso;have:eI fu (fk+64*p.1+1+i)= .c (.own n)\/∃m,eI fu (fk+64*p.1+1+i)= .c (.own m):=by
    generalize eI fu (fk+64*p.1+1+i)=q at bB;cases q with
    |c q=>cases q<;>first|exact .inr ⟨_,rfl⟩|cases bB
    |_=>first|cases bB|(unfold pE at bB;grind)
   grind [tq]
  grind
def aeF {eX:List Nat} {outs:List dt} {y:ft D outs} {fu:List (Nat×bc D)} {dB jK:List af} {cJ:Nat->Nat} (bB:sh outs=aa) (aM:(fu.all λp=>tJ p.2)=aa) (h:(∀q∈hc X outs y++fu,rel X.G z dB q.2 (fr q.1))/\IE outs fu fr) (aD:∀(j:Nat) (u:af),dB[j]? =J u->jK[cJ j]? =J u):
  fj X z jK (PX (hc X outs y) (fu.map λq=>(q.1,pE cJ q.2)) eX) fr:=by
 obtain ⟨h,az⟩:=h;refine atA (λq bm=> ?_) az;rcases kU.1 bm with bm|bm
 ·grind [zB,gR.VP,KS]
 ·obtain ⟨r7,aoG,rfl⟩:=l2.1 bm
  grind [XU]
def asJ {t b:Nat} {o:ba D} {x:D t} (bs:zP X t (J o)=J x) (aM:hf X.G z e m k vs o (.pointer (J ⟨b,0,ae⟩))):
  o.live=aa/\(e.next<=b\/k=J b)/\(∀vs',hf X.G z m m (J b) vs' (.recv t (jl X t x) ak:ba D) (.pointer (J ⟨b,0,ae⟩)))/\
  (∀{z2:Nat->bW} {m1:Mem} {w:Bool} {a:D t} {ws:List af},hf X.G z2 m m1 (J b) ws (.recv t (jl X t a) w:ba D) (.pointer (J ⟨b,0,ae⟩))->hf X.G z2 e m1 k vs (GW t (jl X t a) o) (.pointer (J ⟨b,0,ae⟩))/\(o.clean=aa->a=x->hf X.G z2 e m1 k vs o (.pointer (J ⟨b,0,ae⟩)))):=by
 unfold zP at bs;split at bs
 ·rename_i eu cs w eB;cases eB;obtain ⟨aJ,bs⟩:=gz bs;subst aJ;obtain ⟨c,ds,h1,ai,aT,br⟩:=aM;cases h1;refine ⟨rfl, .inl aT,λvs'=>⟨b,ds,rfl,⟨ai.blk,ai.lt,ai.dead, .inr rfl⟩,vl bs br⟩, ?_⟩;intro z2 m1 w a ws aV;obtain ⟨c,nv,g1,g2,g3⟩:=aV;cases g1;refine ⟨⟨b,nv,rfl,⟨g2.blk,g2.lt,g2.dead, .inl aT⟩,aT,tC g3⟩,λay bl=> ?_⟩;subst bl;rw[LA bs ay];exact ⟨b,nv,rfl,⟨g2.blk,g2.lt,g2.dead, .inl aT⟩,aT,tC g3⟩
 ·rename_i eu cs w eB;cases eB;obtain ⟨aJ,bs⟩:=gz bs;subst aJ;obtain ⟨c,ds,h1,ai,br⟩:=aM;cases h1;refine ⟨rfl,ai.fresh,λvs'=>⟨b,ds,rfl,⟨ai.blk,ai.lt,ai.dead, .inr rfl⟩,vl bs br⟩, ?_⟩;intro z2 m1 w a ws aV;obtain ⟨c,nv,g1,g2,g3⟩:=aV;cases g1;refine ⟨⟨b,nv,rfl,⟨g2.blk,g2.lt,g2.dead,ai.fresh⟩,tC g3⟩,λay bl=> ?_⟩;subst bl;rw[LA bs ay];exact ⟨b,nv,rfl,⟨g2.blk,g2.lt,g2.dead,ai.fresh⟩,tC g3⟩
 grind
def fS.quiet (d:fS D):Bool:=d.flat&&d.ij.isNone
def gL (X:e3 P D) (d:fS D) (F:d.F):Prop:=∀(cX:List (bc D)) (O:List (ba D)) {ap:Type} (K:bc D->List (ba D)->Option ap) (r:ap) {z:Nat->bW} {e m:Mem} {k:Option Nat} {vs:List af} (args:List af),
 b9 X.G O z e m k vs->bP (rel X.G z vs) cX args->d.call X F cX O K=J r->h2 P d.f args.toArray m λv m'=>dH X O z e k vs K r v m'/\(d.quiet=aa->m'=m)/\∃q,gG m m' q/\oI vs (q1 cX) q
def gl.ZV {q:Option Nat} (h:gl m m1 q):gG m m1 q:=⟨h.next,h.blk⟩
def ac8 {i off d:Nat}:∀{l:List (bc D)} {n:Nat},eI (mg n l) d= .box i off->i∈q1 l
 |[],n,h=>by cases h
 |s::l,n,h=>by
  simp only[mg,eI] at h;split at h
  ·subst h;exact oG
  ·have:=ac8 h;cases s<;>first|exact this|exact kn _ this
def Il.call {d:fS D} {F:d.F} (eF:Il P X d F):gL X d F:=by
 intro cX O ap K r z e m k vs args aN dE h;obtain ⟨fn,c,f1,f2,f3,f4,f5,mS⟩:=eF.ex;have nE:=eF.new;have aa7:=eF.avH;unfold fS.call at h;obtain ⟨hlen,h⟩:=gz h;have hlen:=kA hlen;split at h
 ·rename_i mv cu bF;obtain ⟨an,h⟩:=gz h;split at h
  ·rename_i x aw;have cN:args.toArray.size<=fn.ntmps:=by
    rw[List.size_toArray,<-dE.length,hlen];simp_all
   have bp:∀fr:Nat->af,(∀i v,args.toArray.toList[i]? =J v->fr i=v)->fj X z vs (mg 0 cX) fr:=λfr hU=>WC dE λj v bn=>by grind
   obtain ⟨f,lQ,ins,fg,ij,re,outs,fu,lV,flat⟩:=d;cases ij with
   |none=>
    obtain ⟨y,aZ,h⟩:=bind_some h;split at h
    ·rename_i dR By;have body:∀fr:Nat->af,(∀i v,args.toArray.toList[i]? =J v->fr i=v)->W P c (λex fY m1=>(ex= .normal\/ex= .ret)/\∃dv z2 ep,Inv O cu/\dT e.next z dv/\b9 X.G cu dv e m k vs/\dT m.next dv z2/\b9 X.G (eU X outs (gn outs y)) z2 m m1 ae ep/\∃ic,q2 P fY m1 lV ((nL pX lV).map ic)/\(rel X.G z2 (vs++ep) dR (pack ((nL pX lV).map ic))/\(((nL pX lV).map ic).length=1\/∀x∈(nL pX lV).map ic,storable x=aa))) fr m:=by
      intro fr hU;obtain ⟨dv,g0,g1,g2,g3⟩:=w2 aN (bp fr hU) bF;have Bt:=adv (dB:=[]) ((bp fr hU).mono g1.le λ_ _ h=>h) g3 aw an;refine (mS () x y (z:=dv) (m:=m) (kk:=ae) (dB:=[]) aZ g2.nil (Cm λp bb=>Bt p (by grind [xu]))).mono ?_;rintro ex fY m1 ⟨he,ic,fv,z2,ep,cL,c9,fo⟩;have c9:b9 X.G (eU X outs (gn outs y)) z2 m m1 ae ep:=c9;refine ⟨he,dv,z2,ep,g0,g1,g2,cL,c9,ic,fv,Xf (aeF (dB:=ep) nE aa7 fo λj u hu=> ?_) By⟩;show (vs++ep)[cu.length+j]? =J u;rw[kT (by rw[g2.len];omega),g2.len,show cu.length+j - cu.length=j by omega]
      grind
     split at h
     ·split at h
      ·rename_i w hw;obtain ⟨dX,ix⟩:=aqu (X:=X) (z:=z) (vs:=vs) hw;refine (h2.flat (z:=z) f1 f2 f3 cN ix λfr hU=>(body fr hU).mono ?_).mono ?_
       ·rintro ex fY m1 ⟨he,dv,z2,ep,_,_,_,_,c9,ic,fv,fo,k4⟩;exact ⟨he,z2,c9.aS,_,by grind,k4,(arX hw fo).1⟩
       ·rintro v m' ⟨rfl,rfl⟩;exact ⟨dH.here aN dX h,λ_=>rfl,ae,gG.refl _, .inl rfl⟩
      grind
     ·rename_i aoi;refine h2.any f1 f2 f3 cN λfr hU=>(body fr hU).mono ?_;rintro ex fY m1 ⟨he,dv,z2,ep,g0,g1,g2,cL,c9,ic,fv,fo,k4⟩;obtain ⟨s1,s2⟩:=ad6 (e:=e) (k:=k) g2.aS c9.aS (by simp);refine ⟨he,_,by grind,k4,⟨z2,vs++ep,dR,_,g0.trans (Inv.app _ _),g1.trans (cL.Ja aN.aS.next),j0, ?_,fo,h⟩,λbm=>absurd (by grind [fS.quiet]) aoi,ae,s2.ZV, .inl rfl⟩;have aT:=g2.call cL s2 s1 rfl λj o' bn=> .inl ⟨bn,λ_ v _=>e6.qg⟩;have aol:∀(j:Nat) (u:af),([]++ep)[j]? =J u->(vs++ep)[cu.length+j]? =J u:=λj u hu=>by
       rw[kT (by rw[g2.len];omega),g2.len,show cu.length+j - cu.length=j by omega]
       grind
      exact after (pU:=[]) (dB:=[]) g2 aT c9 rfl nE (λj o v aM aD aR b aw=>((g2.obj j o v aM aD).lt aR b aw).1) aol
    grind
   |some p=>
    unfold Ck at h;dsimp only at h;split at h
    ·rename_i i az;split at h
     ·rename_i o aM;obtain ⟨G0,aa4,h⟩:=bind_some h;obtain ⟨y,aZ,h⟩:=bind_some h;split at h
      ·rename_i dR By;refine h2.any f1 f2 f3 cN λfr hU=> ?_;obtain ⟨dv,g0,g1,g2,g3⟩:=w2 aN (bp fr hU) bF;have Bt:=λdB=>adv (dB:=dB) ((bp fr hU).mono g1.le λ_ _ h=>h) g3 aw an;have bb:=bp fr hU p.1;rw[az] at bb;obtain ⟨b,js,jR⟩:=bb;have cG:=g2.obj i o _ aM js;obtain ⟨oq,o9,ay5,ay6⟩:=asJ aa4 cG;have am':b9 X.G (rb X (J p) G0) dv m m (J b) [.pointer (J ⟨b,0,ae⟩)]:=by
        refine ⟨dL.start g2.aS.bZ g2.aS.dead,rfl,λj o' v bn aD=> ?_,λa dJ o' qj v w jV bl e5=> ?_⟩
        ·grind [rb]
        grind
       refine (mS G0 x y (z:=dv) (m:=m) (kk:=J b) (dB:=[.pointer (J ⟨b,0,ae⟩)]) aZ am' (Cm λq bm=> ?_)).mono ?_
       ·rcases kU.1 bm with bm|bm
        ·grind
        ·rcases kU.1 bm with bm|bm
         ·grind
         ·simp only[xu,ha,List.not_mem_nil,or_false] at bm;subst bm;exact ⟨b,rfl,jR⟩
       rintro ex fY m1 ⟨he,ic,fv,z2,ep,cL,c9,fo⟩;obtain ⟨s1,s2⟩:=ad6 (e:=e) (k:=k) g2.aS c9.aS (λc ay=>by grind);have ax1:i<cu.length:=(fq.1 aM).1;have rU:∀(j:Nat) (u:af),([af.pointer (J ⟨b,0,ae⟩)]++ep)[j]? =J u->(vs++ep)[wL i cu.length j]? =J u:=by
        intro j u hu;cases j with
        |zero=>
         simp at hu;subst hu;show (vs++ep)[i]? =_
         grind
        |succ j=>
         simp at hu;show (vs++ep)[cu.length+(j+1 - 1)]? =_;rw[kT (by rw[g2.len];omega),g2.len,show cu.length+(j+1 - 1) - cu.length=j by omega]
         grind
       have oR:=Xf (aeF nE aa7 fo rU) By;have c9:b9 X.G (([if re=1 then (.recv p.2 (jl X p.2 G0) ak:ba D) else if re=2 then kc X wE outs (gn outs y) 0 else .dead]:List (ba D))++eU X outs (gn outs y)) z2 m m1 (J b) ([.pointer (J ⟨b,0,ae⟩)]++ep):=c9;have cp:=c9.obj 0 _ (.pointer (J ⟨b,0,ae⟩)) rfl rfl;have apart:∀(j:Nat) (o':ba D),j≠i->cu[j]? =J o'->o'.live=aa->∀v,vs[j]? =J v->e6 (dQ v) (J b):=λj o' JO bn aR v aD=>g2.fD j i o' o v _ JO bn aM aR oq aD js;have apu:∀(j:Nat) (o':ba D) (v:af),cu[j]? =J o'->vs[j]? =J v->o'.live=aa->∀c,dQ v=J c->c<m.next:=λj o' v aM aD aR c ay=>((g2.obj j o' v aM aD).lt aR c ay).1;have fin:∀{sL:List (ba D)},Inv cu sL->b9 X.G sL z2 e m1 k vs->(∀(j:Nat) (o':ba D) (v:af),sL[j]? =J o'->vs[j]? =J v->o'.live=aa->∀c,dQ v=J c->c<m.next)->K dR (sL++mkOr X (wL i cu.length) outs (gn outs y))=J r->dH X O z e k vs K r (pack ((nL pX lV).map ic)) m1:=by intro sL anR aT cF k1;exact ⟨z2,vs++ep,dR,_,(g0.trans anR).trans (Inv.app _ _),g1.trans (cL.Ja aN.aS.next),j0,after g2 aT c9 rfl nE cF rU,oR.1,k1⟩
       have pF:∀{Ki:ba D},Ki.nd=aa->(∀v,vs[i]? =J v->hf X.G z2 e m1 k vs Ki v)->K dR (cu.set i Ki++mkOr X (wL i cu.length) outs (gn outs y))=J r->dH X O z e k vs K r (pack ((nL pX lV).map ic)) m1:=by
        intro Ki aJ aT k1;refine fin (Inv.set cu i (.inr aJ)) (g2.call cL s2 s1 (by simp) λj o' bn=> ?_) (λj o' v bn aD aR c ay=> ?_) k1
        ·grind
        grind
       refine ⟨he,_,by grind,oR.2, ?_,λbm=>absurd bm (by simp[fS.quiet]),J b,s2.ZV, .inr ⟨i,ac8 az,_,js,rfl⟩⟩;split at h
       ·rename_i Bn;rw[if_neg (by omega),if_pos Bn] at cp;split at h
        ·rename_i t cs w hu;obtain ⟨aJ,h⟩:=gz h;rcases tx (X:=X) (aQ:=outs) (x:=gn outs y) (j:=0) with bg|⟨_,c3,a',_,bg⟩
         ·grind
         ·cases c3 with
          |recv eu=>
           have bg:=bg wE;have Bi:=bg;rw[hu] at bg;simp only[cw.gO] at bg;cases bg;subst aJ;rw[Bi] at cp;refine pF ?_ (λv aD=> ?_) h
           ·unfold GW;split<;>rfl
           grind
          |_=>rw[bg] at hu;cases hu
        grind
       ·obtain ⟨Vd,h⟩:=gz h;rw[if_pos Vd] at cp;split at h
        ·rename_i kK;refine fin (Inv.refl cu) (g2.call cL s2 s1 rfl λj o' bn=> ?_) apu h
         grind
        ·refine pF ?_ (λv aD=> ?_) h
         ·unfold GW;split<;>rfl
         grind
      grind
     grind
    grind
  grind
 grind
structure mK (D:Nat->Type) where
 d:fS D
 F:d.F
def fS.fits (X:e3 P D) (d:fS D) (cX:List (bc D)) (O:List (ba D)):Bool:=
 fi cX.length d.lQ&&match rL (mg 0 cX) d.ins O with
 |some (mv,cu)=>(d.fg.all λp=>wa [] p.2 (eI (mg 0 cX) p.1))&&(iG X [] cu d.ins mv []).isSome
 |none=>ak
def K2 (X:e3 P D):List (mK D)->Nat->List (bc D)->List (ba D)->{ap:Type}->(bc D->List (ba D)->Option ap)->Option ap|[],_,_,_,_,_=>ae|x::l,f,cX,O,_,K=>if (fi x.d.f f&&x.d.fits X cX O)=aa then x.d.call X x.F cX O K else K2 X l f cX O K
def Lk (X:e3 P D):List (mK D)->Nat->List (bc D)->List (ba D)->Bool|[],_,_,_=>ak|x::l,f,cX,O=>if (fi x.d.f f&&x.d.fits X cX O)=aa then x.d.quiet else Lk X l f cX O
structure j6 (D:Nat->Type) where
 F:(f:Nat)->List (bc D)->List (ba D)->Bool
 hg:bS->Option bS->Option bS->Nat
 C:(f:Nat)->List (bc D)->List (ba D)->{ap:Type}->(bc D->List (ba D)->Option ap)->Option ap
 W:(f:Nat)->Bool
def e3.gm (X:e3 P D) (q:j6 D):e3 P D:={X with C:=q.C,F:=q.F,hg:=q.hg,W:=q.W}
def e3.with (X:e3 P D) (l:List (mK D)):e3 P D:=X.gm ⟨Lk X l,X.hg,K2 X l,X.W⟩
def e3.l9 (X:e3 P D) (f:bS->Option bS->Option bS->Nat):e3 P D:=X.gm ⟨X.F,f,X.C,X.W⟩
theorem ar4 (l:j6 D) (t:Nat):nQ (X.gm l) t=nQ X t:=by
 cases iE:X.I t with
 |none=>
  have ai:(X.gm l).I t=ae:=iE
  grind [nQ]
 |some ti=>have ai:(X.gm l).I t=J ti:=iE;simp_all [nQ]
def w6 (l:j6 D) (t:Nat) (x:D t):jl (X.gm l) t x=jl X t x:=by
 cases iE:X.I t with
 |none=>
  have ai:(X.gm l).I t=ae:=iE
  grind [jl]
 |some ti=>have ai:(X.gm l).I t=J ti:=iE;simp_all [jl]
theorem vb (l:j6 D) (t:Nat) (cs:List (cv D)):mA (X.gm l) t cs=mA X t cs:=by
 cases iE:X.I t with
 |none=>
  have ai:(X.gm l).I t=ae:=iE
  grind [mA]
 |some ti=>have ai:(X.gm l).I t=J ti:=iE;simp_all [mA]
def ab9 (l:j6 D):∀(ts:List Nat) (x:wF D ts),tD (X.gm l) ts x=tD X ts x
 |[],_=>rfl
 |t::ts,x=>by show (t,jl (X.gm l) t x.1)::tD (X.gm l) ts x.2=(t,jl X t x.1)::tD X ts x.2;rw[ab9 l ts x.2,w6 l t x.1]
theorem ab8 (l:j6 D):∀(ts:List Nat) (x:List (Nat×List (cv D))),xa (X.gm l) ts x=xa X ts x
 |[],[]=>rfl
 |[],_::_=>rfl
 |_::_,[]=>rfl
 |t::ts,p::x=>by simp only[xa,ab8 l ts x,vb]
theorem gR.VQ (l:j6 D) (c:gR) (x:c.ty D):gR.mk (X.gm l) c x=gR.mk X c x:=by
 cases c with
 |fn f ts=>exact congrArg (bc.fn f) (ab9 l ts x)
 |agg t=>exact congrArg (bc.agg t) (w6 l t x)
 |hd t=>exact congrArg (λcs=>bc.hd t cs 0) (w6 l t x)
 |_=>rfl
def gR.JB (l:j6 D) (c:gR) (s:bc D):gR.get (X.gm l) c s=gR.get X c s:=by
 unfold gR.get;split
 ·rfl
 ·rfl
 ·rfl
 ·rfl
 ·rfl
 ·rfl
 ·rfl
 ·grind [vb]
 ·grind [vb]
 ·grind [ab8]
 ·rfl
 rfl
theorem cw.Kd (l:j6 D) (cJ:Nat->Nat) (c:cw) (x:c.ty D) (w:Bool):cw.gO (X.gm l) cJ c x w=cw.gO X cJ c x w:=by
 cases c with
 |box t=>exact congrArg (λcs=>ba.box t cs ak w) (w6 l t x)
 |recv t=>exact congrArg (λcs=>ba.recv t cs w) (w6 l t x)
 |bL t p=>exact congrArg (λcs=>ba.box t (qi cJ p 0 cs) ak w) (w6 l t x)
 |_=>rfl
theorem cw.VQ (l:j6 D) (c:cw) (x:c.ty D) (w:Bool):cw.mk (X.gm l) c x w=cw.mk X c x w:=cw.Kd l _ c x w
def cw.JB (l:j6 D) (bO:List Nat) (c:cw) (o:ba D):cw.get (X.gm l) bO c o=cw.get X bO c o:=by
 unfold cw.get;split
 ·rfl
 ·grind [vb]
 ·grind [vb]
 ·rfl
 ·rfl
 ·grind [ar4,vb]
 ·rfl
 ·rfl
 rfl
def aq3 (l:j6 D) (t:Nat) (o:Option (ba D)):zP (X.gm l) t o=zP X t o:=by
 unfold zP;split
 ·rw[vb]
 ·rw[vb]
 rfl
theorem B6 (l:j6 D) {gr:List Nat}:∀(aQ:List dt) (mv:List (bc D)) (bO:List Nat),iG (X.gm l) gr O aQ mv bO=iG X gr O aQ mv bO
 |[],_,[]=>rfl
 |[],_,_::_=>by rfl
 | .v _ _::_,[],_=>by rfl
 | .o _ _::_,[],_=>by rfl
 | .u _ _::_,[],_=>by rfl
 | .v d c::aQ,s::mv,bO=>by simp only[iG,gR.JB,B6 l aQ mv bO]
 | .o d c::aQ,s::mv,[]=>rfl
 | .o d c::aQ,s::mv,i::bO=>by simp only[iG,cw.JB,B6 l aQ mv bO]
 | .u d c::aQ,s::mv,bO=>by simp only[iG,cw.JB,B6 l aQ mv bO]
def WQ (l:j6 D):∀(aQ:List dt) (x:ft D aQ),eU (X.gm l) aQ x=eU X aQ x
 |[],_=>rfl
 | .v d c::aQ,x=>WQ l aQ x.2
 | .u d c::aQ,x=>WQ l aQ x.2
 | .o d c::aQ,x=>by
  show cw.mk (X.gm l) c x.1 ak::eU (X.gm l) aQ x.2=cw.mk X c x.1 ak::eU X aQ x.2;rw[WQ l aQ x.2]
  grind [cw.VQ]
def zr (l:j6 D) {cJ:Nat->Nat}:∀(aQ:List dt) (x:ft D aQ),mkOr (X.gm l) cJ aQ x=mkOr X cJ aQ x
 |[],_=>rfl
 | .v d c::aQ,x=>zr l aQ x.2
 | .u d c::aQ,x=>zr l aQ x.2
 | .o d c::aQ,x=>by
  show cw.gO (X.gm l) cJ c x.1 ak::mkOr (X.gm l) cJ aQ x.2=cw.gO X cJ c x.1 ak::mkOr X cJ aQ x.2;rw[zr l aQ x.2]
  grind [cw.Kd]
def zk (l:j6 D):∀(aQ:List dt) (x:ft D aQ),hc (X.gm l) aQ x=hc X aQ x
 |[],_=>rfl
 | .v d c::aQ,x=>by
  show (d,gR.mk (X.gm l) c x.1)::hc (X.gm l) aQ x.2=(d,gR.mk X c x.1)::hc X aQ x.2;rw[zk l aQ x.2]
  grind [gR.VQ]
 | .u d c::aQ,x=>zk l aQ x.2
 | .o d c::aQ,x=>zk l aQ x.2
def BQ (l:j6 D) {cJ:Nat->Nat}:∀(aQ:List dt) (x:ft D aQ) (j:Nat),kc (X.gm l) cJ aQ x j=kc X cJ aQ x j
 |[],_,_=>rfl
 | .v d c::aQ,x,j=>BQ l aQ x.2 j
 | .u d c::aQ,x,j=>by
  show (if fi d j=aa then cw.gO (X.gm l) cJ c x.1 aa else kc (X.gm l) cJ aQ x.2 j)=(if fi d j=aa then cw.gO X cJ c x.1 aa else kc X cJ aQ x.2 j);rw[BQ l aQ x.2 j]
  grind [cw.Kd]
 | .o d c::aQ,x,j=>BQ l aQ x.2 j
def acR (l:j6 D) (d:fS D) (F:d.F) (cX:List (bc D)) (O:List (ba D)) {ap:Type} (K:bc D->List (ba D)->Option ap):d.call (X.gm l) F cX O K=d.call X F cX O K:=by
 obtain ⟨f,lQ,ins,fg,ij,re,outs,fu,eX,flat⟩:=d;unfold fS.call;dsimp only;simp only[B6];cases ij with
 |none=>simp_all [Ck,zk,zr]
 |some p=>simp only[Ck,zk,zr,BQ,aq3,w6]
def iV.l9 {f:bS->Option bS->Option bS->Nat} (h:iV X):iV (X.l9 f):=h
def gL.l9 {f:bS->Option bS->Option bS->Nat} {d:fS D} {F:d.F} (h:gL (X.l9 f) d F):gL X d F:=by
 intro cX O ap K r z e m k vs args aN dE ay;rw[<-acR ⟨X.F,f,X.C,X.W⟩] at ay;exact h cX O K r args aN dE ay
def gL.or {d:fS D} {F rq Tv:d.F} (aV:d.ij=ae) (eF:∀r x y,F r x=J y->rq r x=J y\/Tv r x=J y) (h1:gL X d rq) (ai:gL X d Tv):gL X d F:=by
 intro cX O ap K r z e m k vs args aN dE ay;have key:d.call X rq cX O K=J r\/d.call X Tv cX O K=J r:=by
  obtain ⟨f,lQ,ins,fg,ij,re,outs,fu,lV,flat⟩:=d;unfold fS.call at ay⊢;obtain ⟨bB,ay⟩:=gz ay;rw[if_pos bB,if_pos bB];split at ay
  ·rename_i mv cu bF;obtain ⟨an,ay⟩:=gz ay;simp only[bF,if_pos an];split at ay
   ·rename_i x aw;simp only[aw];cases ij with
    |none=>
     unfold Ck at ay⊢;obtain ⟨y,aZ,ay⟩:=bind_some ay
     grind
    |some p=>grind
   grind
  grind
 rcases key with hk|hk
 ·exact h1 cX O K r args aN dE hk
 ·exact ai cX O K r args aN dE hk
def acg {f:Nat} {cX:List (bc D)} {K:bc D->List (ba D)->Option ap} {args:List af} (aN:b9 X.G O z e m k vs) (dE:bP (rel X.G z vs) cX args):∀{l:List (mK D)},(∀x∈l,gL X x.d x.F)->K2 X l f cX O K=J r->h2 P f args.toArray m λv m'=>dH X O z e k vs K r v m'/\(Lk X l f cX O=aa->m'=m)/\∃q,gG m m' q/\oI vs (q1 cX) q
 |[],_,ay=>by cases ay
 |x::l,h,ay=>by
  unfold K2 at ay;unfold Lk;split at ay
  ·rename_i an;rw[if_pos an];simp only[fx] at an;have:=kA an.1;subst this;exact h x oG cX O K r args aN dE ay
  ·rename_i an;rw[if_neg an];exact acg aN dE (λy aZ=>h y (kn _ aZ)) ay
def iV.of {l:List (mK D)} (h:∀x∈l,gL X x.d x.F):iV (X.with l):=by
 intro f cX O ap K r z e m k vs args aN dE ay;exact (acg (X:=X) aN dE h ay).mono λv m' cp=>⟨cp.1,cp.2.1,λ_=>cp.2.2⟩
def aqT {l:List (mK D)} {x:mK D} (h:gL X x.d x.F) (aR:∀y∈l,gL X y.d y.F):∀y∈x::l,gL X y.d y.F:=by
 grind
end
end
end Go.aF
end
section
namespace Go.aF
inductive LT:Type 1 where
 |int (k:aG)|bool|str
 |bh (aK:Type) (T:cM aK)
 |mp (aK cg:Type) (M:ph aK cg)
 |fn
def LT.ty:LT->Type| .int _=>Int| .bool=>Bool| .str=>List UInt8| .bh aK _=>List aK| .mp aK cg _=>List (aK×cg)| .fn=>Option Nat
def aah:Option Nat->af|none=> .nilFunc|some n=> .func (.func n) #[] #[]
def LT.rd (z:Nat->bW):(l:LT)->l.ty->af->Prop| .int k,n,v=>v= .int k n| .bool,b,v=>v= .bool b| .str,s,v=>v=aF.str s| .bh _ T,xs,v=>fA T z xs v| .mp _ _ M,es,v=>nn M z es v| .fn,o,v=>v=aah o
def h6:List LT->Type|[]=>Unit|l::ls=>l.ty×h6 ls
def pa (z:Nat->bW):(ls:List LT)->h6 ls->List af->Prop|[],_,[]=>True|l::ls,x,v::vs=>l.rd z x.1 v/\pa z ls x.2 vs|_,_,_=>False
def ad2 {z:Nat->bW}:∀{ls:List LT} {x:h6 ls} {cs:List af},pa z ls x cs->cs.length=ls.length
 |[],_,[],_=>rfl
 |l::ls,x,v::vs,h=>by simp[ad2 h.2]
 |[],_,_::_,h=>h.elim
 |_::_,_,[],h=>h.elim
def adp {z z':Nat->bW} (bx:fl z z'):∀{ls:List LT} {x:h6 ls} {cs:List af},pa z ls x cs->pa z' ls x cs
 |[],_,[],_=>trivial
 |l::ls,x,v::vs,h=>⟨by
  have h1:=h.1;cases l with
  |bh aK T=>exact fA.mono bx h1
  |mp aK cg M=>exact nn.mono h1 bx
  |_=>exact h1,adp bx h.2⟩
 |[],_,_::_,h=>h.elim
 |_::_,_,[],h=>h.elim
def ad3 {z:Nat->bW}:∀{ls:List LT} {x:h6 ls} {cs:List af},pa z ls x cs->∀c∈cs,storable c=aa/\c.cells=#[c]
 |[],_,[],_,c,ay=>by grind
 |l::ls,x,v::vs,h,c,ay=>by
  rcases ha.1 ay with rfl|ay
  ·have h1:=h.1;cases l with
   |bh aK T=>obtain ⟨a,c,rfl⟩:=fA.len h1;exact ⟨rfl,rfl⟩
   |mp aK cg M=>rcases h1 with ⟨rfl,_⟩|⟨r,rfl,_⟩<;>exact ⟨rfl,rfl⟩
   |fn=>obtain ⟨x,y⟩:=x;cases x<;>(obtain rfl:=h1;exact ⟨rfl,rfl⟩)
   |_=>obtain rfl:=h1;exact ⟨rfl,rfl⟩
  ·exact ad3 h.2 c ay
 |[],_,_::_,h,_,_=>h.elim
 |_::_,_,[],h,_,_=>h.elim
def fB (t:bV) (ls:List LT) {aK:Type} (to:aK->h6 ls):cM aK where
 bM:=ls.length
 tid:=t
 rd:=λz x cs=>pa z ls (to x) cs
 len:=λ_ _ _ h=>ad2 h
 mono:=λ_ _ bx _ _ h=>adp bx h
 one:=λ_ _ _ h=>ad3 h
noncomputable section
inductive hJ where
 |int (k:aG)|bool|str
 |bh (e:Nat)
 |mp (t bG bA:Nat)
 |fn
section
variable {P:bI} {D:Nat->Type} (G:l6 D)
def Ju:Option Nat->cv D|none=> .wJ|some n=> .fn n []
def hJ.lt:hJ->LT| .int k=> .int k| .bool=> .bool| .str=> .str| .bh e=> .bh (D e) (G.T e)| .mp t bG bA=> .mp (D bG) (D bA) (G.M t bG bA)| .fn=> .fn
def gJ:List hJ->List LT|[]=>[]|c::cs=>c.lt G::gJ cs
def jX:(ls:List hJ)->h6 (gJ G ls)->List (cv D)|[],_=>[]| .int k::ls,x=> .int k x.1::jX ls x.2| .bool::ls,x=> .bool x.1::jX ls x.2| .str::ls,x=> .str x.1::jX ls x.2| .bh e::ls,x=> .bh e x.1::jX ls x.2| .mp t bG bA::ls,x=> .mp t bG bA x.1::jX ls x.2| .fn::ls,x=>Ju x.1::jX ls x.2
def jm:(ls:List hJ)->List (cv D)->Option (h6 (gJ G ls))
 |[],[]=>J ()
 | .int k::ls, .int k' n::cs=>if k'=k then (match jm ls cs with|some y=>J (n,y)|none=>ae) else ae
 | .bool::ls, .bool b::cs=>(match jm ls cs with|some y=>J (b,y)|none=>ae)
 | .str::ls, .str s::cs=>(match jm ls cs with|some y=>J (s,y)|none=>ae)
 | .bh e::ls, .bh cz xs::cs=>if h:cz=e then (match jm ls cs with|some y=>J ((h▸xs:List (D e)),y)|none=>ae) else ae
 | .bh e::ls, .gE::cs=>(match jm ls cs with|some y=>J (([]:List (D e)),y)|none=>ae)
 | .mp t bG bA::ls, .mp eu lv lA es::cs=>if h:lv=bG/\lA=bA then (if eu=t then (match jm ls cs with|some y=>J ((h.1▸h.2▸es:List (D bG×D bA)),y)|none=>ae) else ae) else ae
 | .mp t bG bA::ls, .oY::cs=>(match jm ls cs with|some y=>J (([]:List (D bG×D bA)),y)|none=>ae)
 | .fn::ls, .wJ::cs=>(match jm ls cs with|some y=>J ((ae:Option Nat),y)|none=>ae)
 | .fn::ls, .fn n []::cs=>(match jm ls cs with|some y=>J ((J n:Option Nat),y)|none=>ae)
 |_,_=>ae
variable {G}
def atu {z:Nat->bW} {vs:List af} {o:Option Nat} {v:af} (h:v=aah o):ed G z vs (Ju o) v:=by
 cases o with
 |none=>exact h
 |some n=>exact ⟨[],h,trivial⟩
def xb {z:Nat->bW} {vs:List af}:∀{ls:List hJ} {x:h6 (gJ G ls)} {cs:List af},pa z (gJ G ls) x cs->bP (ed G z vs) (jX G ls x) cs
 |[],_,[],_=>trivial
 | .int k::ls,x,v::w,h=>⟨h.1,xb h.2⟩
 | .bool::ls,x,v::w,h=>⟨h.1,xb h.2⟩
 | .str::ls,x,v::w,h=>⟨h.1,xb h.2⟩
 | .bh e::ls,x,v::w,h=>⟨h.1,xb h.2⟩
 | .mp t bG bA::ls,x,v::w,h=>⟨h.1,xb h.2⟩
 | .fn::ls,x,v::w,h=>⟨atu h.1,xb h.2⟩
 | .mp _ _ _::_,_,[],h=>h.elim
 | .fn::_,_,[],h=>h.elim
 |[],_,_::_,h=>h.elim
 | .int _::_,_,[],h=>h.elim
 | .bool::_,_,[],h=>h.elim
 | .str::_,_,[],h=>h.elim
 | .bh _::_,_,[],h=>h.elim
def vk:∀{ls:List hJ} (x:h6 (gJ G ls)),jm G ls (jX G ls x)=J x
 |[],_=>rfl
 | .int k::ls,x=>by show (if k=k then (match jm G ls (jX G ls x.2) with|some y=>J (x.1,y)|none=>ae) else ae)=_;rw[vk x.2,if_pos rfl];rfl
 | .bool::ls,x=>by show (match jm G ls (jX G ls x.2) with|some y=>J (x.1,y)|none=>ae)=_;rw[vk x.2];rfl
 | .str::ls,x=>by show (match jm G ls (jX G ls x.2) with|some y=>J (x.1,y)|none=>ae)=_;rw[vk x.2];rfl
 | .bh e::ls,x=>by show (if h:e=e then (match jm G ls (jX G ls x.2) with|some y=>J ((h▸x.1:List (D e)),y)|none=>ae) else ae)=_;rw[vk x.2,dif_pos rfl];rfl
 | .mp t bG bA::ls,x=>by show (if h:bG=bG/\bA=bA then (if t=t then (match jm G ls (jX G ls x.2) with|some y=>J ((h.1▸h.2▸x.1:List (D bG×D bA)),y)|none=>ae) else ae) else ae)=_;rw[vk x.2,dif_pos ⟨rfl,rfl⟩,if_pos rfl];rfl
 | .fn::ls,(ae,y)=>by show (match jm G ls (jX G ls y) with|some y=>J ((ae:Option Nat),y)|none=>ae)=_;rw[vk y];rfl
 | .fn::ls,(J n,y)=>by show (match jm G ls (jX G ls y) with|some y=>J ((J n:Option Nat),y)|none=>ae)=_;rw[vk y];rfl
def ath {z:Nat->bW} {vs:List af}:∀{ls:List hJ} {cs:List (cv D)} {x:h6 (gJ G ls)} {ds:List af},jm G ls cs=J x->bP (ed G z vs) cs ds->pa z (gJ G ls) x ds:=by
 intro ls;induction ls with
 |nil=>
  intro cs x ds h aV;cases cs with
  |nil=>cases ds with
   |nil=>trivial
   |cons _ _=>exact aV.elim
  |cons c cs=>cases h
 |cons l ls a1=>
  intro cs x ds h aV;cases cs with
  |nil=>cases l<;>cases h
  |cons c cs=>
   cases ds with
   |nil=>exact aV.elim
   |cons d ds=>
    obtain ⟨h1,ai⟩:=aV;have fin:∀{aK:Type} {f:h6 (gJ G ls)->aK} {o:Option (h6 (gJ G ls))} {r:aK},(match o with|some y=>J (f y)|none=>ae)=J r->∃y,o=J y/\r=f y:=by
     grind
    cases l with
    |int k=>
     cases c with
     |int k' n=>obtain ⟨hk,h⟩:=gz (aK:=h6 (gJ G (.int k::ls))) h;subst hk;obtain ⟨y,aZ,rfl⟩:=fin h;exact ⟨h1,a1 aZ ai⟩
     |_=>cases h
    |bool=>
     cases c with
     |bool n=>obtain ⟨y,aZ,rfl⟩:=fin h;exact ⟨h1,a1 aZ ai⟩
     |_=>cases h
    |str=>
     cases c with
     |str n=>obtain ⟨y,aZ,rfl⟩:=fin h;exact ⟨h1,a1 aZ ai⟩
     |_=>cases h
    |bh t=>
     cases c with
     |bh cz xs=>
      by_cases hk:cz=t
      ·subst hk;have h:(if h:cz=cz then (match jm G ls cs with|some y=>J ((h▸xs:List (D cz)),y)|none=>ae) else ae)=J x:=h;rw[dif_pos rfl] at h;obtain ⟨y,aZ,rfl⟩:=fin h;exact ⟨h1,a1 aZ ai⟩
      grind [jm]
     |gE=>obtain ⟨y,aZ,rfl⟩:=fin h;exact ⟨.inl ⟨h1,rfl⟩,a1 aZ ai⟩
     |_=>cases h
    |mp t bG bA=>
     cases c with
     |mp eu lv lA es=>
      by_cases hk:lv=bG/\lA=bA
      ·obtain ⟨rfl,rfl⟩:=hk;have h:(if h:lv=lv/\lA=lA then (if eu=t then (match jm G ls cs with|some y=>J ((h.1▸h.2▸es:List (D lv×D lA)),y)|none=>ae) else ae) else ae)=J x:=h;rw[dif_pos ⟨rfl,rfl⟩] at h;obtain ⟨hk,h⟩:=gz h;subst hk;obtain ⟨y,aZ,rfl⟩:=fin h;exact ⟨h1,a1 aZ ai⟩
      grind [jm]
     |oY=>obtain ⟨y,aZ,rfl⟩:=fin h;exact ⟨.inl ⟨h1,rfl⟩,a1 aZ ai⟩
     |_=>cases h
    |fn=>
     cases c with
     |wJ=>obtain ⟨y,aZ,rfl⟩:=fin h;exact ⟨h1,a1 aZ ai⟩
     |fn n is=>
      cases is with
      |nil=>
       obtain ⟨y,aZ,rfl⟩:=fin h;obtain ⟨gs,g1,g2⟩:=h1;cases gs with
       |nil=>exact ⟨g1,a1 aZ ai⟩
       |cons _ _=>exact g2.elim
      |cons _ _=>cases h
     |_=>cases h
def auV:∀{ls:List hJ} {cs:List (cv D)} {x:h6 (gJ G ls)},jm G ls cs=J x->pR cs (jX G ls x):=by
 intro ls;induction ls with
 |nil=>
  intro cs x h;cases cs with
  |nil=>trivial
  |cons c cs=>cases h
 |cons l ls a1=>
  intro cs x h;cases cs with
  |nil=>cases l<;>cases h
  |cons c cs=>
   have fin:∀{aK:Type} {f:h6 (gJ G ls)->aK} {o:Option (h6 (gJ G ls))} {r:aK},(match o with|some y=>J (f y)|none=>ae)=J r->∃y,o=J y/\r=f y:=by
    grind
   cases l with
   |int k=>
    cases c with
    |int k' n=>obtain ⟨hk,h⟩:=gz (aK:=h6 (gJ G (.int k::ls))) h;subst hk;obtain ⟨y,aZ,rfl⟩:=fin h;exact ⟨λ_=>rfl,a1 aZ⟩
    |_=>cases h
   |bool=>
    cases c with
    |bool n=>obtain ⟨y,aZ,rfl⟩:=fin h;exact ⟨λ_=>rfl,a1 aZ⟩
    |_=>cases h
   |str=>
    cases c with
    |str n=>obtain ⟨y,aZ,rfl⟩:=fin h;exact ⟨λ_=>rfl,a1 aZ⟩
    |_=>cases h
   |bh t=>
    cases c with
    |bh cz xs=>
     by_cases hk:cz=t
     ·subst hk;have h:(if h:cz=cz then (match jm G ls cs with|some y=>J ((h▸xs:List (D cz)),y)|none=>ae) else ae)=J x:=h;rw[dif_pos rfl] at h;obtain ⟨y,aZ,rfl⟩:=fin h;exact ⟨λ_=>rfl,a1 aZ⟩
     grind [jm]
    |gE=>obtain ⟨y,aZ,rfl⟩:=fin h;exact ⟨λh=>(by cases h),a1 aZ⟩
    |_=>cases h
   |mp t bG bA=>
    cases c with
    |mp eu lv lA es=>
     by_cases hk:lv=bG/\lA=bA
     ·obtain ⟨rfl,rfl⟩:=hk;have h:(if h:lv=lv/\lA=lA then (if eu=t then (match jm G ls cs with|some y=>J ((h.1▸h.2▸es:List (D lv×D lA)),y)|none=>ae) else ae) else ae)=J x:=h;rw[dif_pos ⟨rfl,rfl⟩] at h;obtain ⟨hk,h⟩:=gz h;subst hk;obtain ⟨y,aZ,rfl⟩:=fin h;exact ⟨λ_=>rfl,a1 aZ⟩
     grind [jm]
    |oY=>obtain ⟨y,aZ,rfl⟩:=fin h;exact ⟨λh=>(by cases h),a1 aZ⟩
    |_=>cases h
   |fn=>
    cases c with
    |wJ=>obtain ⟨y,aZ,rfl⟩:=fin h;exact ⟨λ_=>rfl,a1 aZ⟩
    |fn n is=>
     cases is with
     |nil=>obtain ⟨y,aZ,rfl⟩:=fin h;exact ⟨λ_=>rfl,a1 aZ⟩
     |cons _ _=>cases h
    |_=>cases h
def X9:∀{ls:List hJ},(gJ G ls).length=ls.length
 |[]=>rfl
 |l::ls=>by simp[gJ,X9]
def pM:List hJ->List (cv D)|[]=>[]| .int k::ls=> .int k 0::pM ls| .bool::ls=> .bool ak::pM ls| .str::ls=> .str []::pM ls| .bh _::ls=> .gE::pM ls| .mp _ _ _::ls=> .oY::pM ls| .fn::ls=> .wJ::pM ls
def oD:List hJ->List af|[]=>[]| .int k::ls=> .int k 0::oD ls| .bool::ls=> .bool ak::oD ls| .str::ls=> .string ⟨#[]⟩::oD ls| .bh _::ls=> .slice ae 0 0::oD ls| .mp _ _ _::ls=> .map ae::oD ls| .fn::ls=> .nilFunc::oD ls
def xe {z:Nat->bW} {vs:List af}:∀{ls:List hJ},bP (ed G z vs) (pM ls:List (cv D)) (oD ls)
 |[]=>trivial
 | .int k::ls=>⟨rfl,xe⟩
 | .bool::ls=>⟨rfl,xe⟩
 | .str::ls=>⟨rfl,xe⟩
 | .bh _::ls=>⟨rfl,xe⟩
 | .mp _ _ _::ls=>⟨rfl,xe⟩
 | .fn::ls=>⟨rfl,xe⟩
def vg:∀{ls:List hJ} {x:h6 (gJ G ls)},(jX G ls x).all qf=aa
 |[],_=>rfl
 | .int k::ls,x=>by simp only[jX,ml,vg,qf,vK]
 | .bool::ls,x=>by simp only[jX,ml,vg,qf,vK]
 | .str::ls,x=>by simp only[jX,ml,vg,qf,vK]
 | .bh _::ls,x=>by simp only[jX,ml,vg,qf,vK]
 | .mp _ _ _::ls,x=>by simp only[jX,ml,vg,qf,vK]
 | .fn::ls,(ae,y)=>by simp only[jX,Ju,ml,vg,qf,vK]
 | .fn::ls,(J n,y)=>by simp only[jX,Ju,ml,vg,qf,List.isEmpty,vK]
def tR:(ls:List hJ)->h6 (gJ G ls)|[]=>()| .int _::ls=>((0:Int),tR ls)| .bool::ls=>(ak,tR ls)| .str::ls=>(([]:List UInt8),tR ls)| .bh e::ls=>(([]:List (D e)),tR ls)| .mp _ bG bA::ls=>(([]:List (D bG×D bA)),tR ls)| .fn::ls=>((ae:Option Nat),tR ls)
def xw {z:Nat->bW}:∀(ls:List hJ),pa z (gJ G ls) (tR (G:=G) ls) (oD ls)
 |[]=>trivial
 | .int _::ls=>⟨rfl,xw ls⟩
 | .bool::ls=>⟨rfl,xw ls⟩
 | .str::ls=>⟨rfl,xw ls⟩
 | .bh _::ls=>⟨.inl ⟨rfl,rfl⟩,xw ls⟩
 | .mp _ _ _::ls=>⟨.inl ⟨rfl,rfl⟩,xw ls⟩
 | .fn::ls=>⟨rfl,xw ls⟩
def WY:∀(ls:List hJ),(oD ls).all dy=aa/\(oD ls).length=ls.length
 |[]=>⟨rfl,rfl⟩
 |c::ls=>by have:=WY ls;cases c<;>exact ⟨by simp only[oD,ml,this.1];rfl,by grind [oD]⟩
def awe {t:Nat} (ls:List hJ) (to:D t->h6 (gJ G ls)) (of:h6 (gJ G ls)->D t) (h1:∀x,of (to x)=x) (ai:∀y,to (of y)=y) (i:TypeInfo)
  (jU:G.T t=fB t (gJ G ls) to) (az:P.info? t=J i) (cN:i.size=ls.length) (hh:(ls.length==0)=ak) (hp:iJ i.bytes 32768=aa) (bx:i.zero=J (i.zero.getD undef)) (hL:(i.zero.getD undef).cells.toList=oD ls):dP P G t where
 rk:=pM ls
 qX:=λz vs=>by rw[hL];exact xe
 VN:=λx=>vg
 kM:=λx=>jX G ls (to x)
 qk:=λcs=>match jm G ls cs with|some y=>J (of y)|none=>ae
 x0:=of (tR ls)
 i:=i
 c0:=i.zero.getD undef
 tid:=by rw[jU];rfl
 az:=az
 cN:=by rw[jU,cN];exact X9.symm
 hh:=by rw[jU];show ((gJ G ls).length==0)=ak;rw[X9];exact hh
 hp:=hp
 bx:=bx
 dw:=by rw[hL];exact (WY ls).1
 et:=by rw[<-Array.length_toList,hL,(WY ls).2,cN]
 GX:=λz=>by rw[jU,hL];show pa z (gJ G ls) (to (of (tR ls))) (oD ls);rw[ai];exact xw ls
 rc:=λz vs x cs h=>by rw[jU] at h;exact xb h
 r6:=λz vs cs x ds h aV=>by
  rw[jU];split at h
  ·rename_i y aZ;cases h;show pa z (gJ G ls) (to (of y)) ds;rw[ai];exact ath aZ aV
  ·cases h
 V1:=λx=>by show (match jm G ls (jX G ls (to x)) with|some y=>J (of y)|none=>ae)=J x;rw[vk];exact congrArg J (h1 x)
 Ko:=λcs x h=>by
  split at h
  ·rename_i y aZ;cases h;rw[ai];exact auV aZ
  ·cases h
def ara (u:UInt8):gW (u.toNat:Int)=J u:=by
 unfold gW;have:=u.toNat_lt;rw[if_pos (by omega)];simp
def awf {t:Nat} (to:D t->UInt8) (of:UInt8->D t) (abL:Option UInt8->Option (D t)) (Vr:∀o,abL o=o.map of) (h1:∀x,of (to x)=x) (ai:∀y,to (of y)=y) (i:TypeInfo) (aoU:(G.T t).tid=t) (td:(G.T t).bM=1) (e0:∀z x cs,(G.T t).rd z x cs↔cs=[.int .u8 (to x).toNat])
  (az:P.info? t=J i) (cN:i.size=1) (hp:iJ i.bytes 32768=aa) (bx:i.zero=J (.int .u8 0)):dP P G t where
 rk:=[.int .u8 0]
 qX:=λz vs=>⟨rfl,trivial⟩
 VN:=λx=>rfl
 kM:=λx=>[.int .u8 (to x).toNat]
 qk:=λcs=>match cs with|[.int .u8 n]=>abL (gW n)|_=>ae
 x0:=of 0
 i:=i
 c0:= .int .u8 0
 tid:=aoU
 az:=az
 cN:=by rw[td,cN]
 hh:=by rw[td];rfl
 hp:=hp
 bx:=bx
 dw:=rfl
 et:=by rw[cN];rfl
 GX:=λz=>(e0 z _ _).2 (by rw[ai];rfl)
 rc:=λz vs x cs h=>by rw[(e0 z x cs).1 h];exact ⟨rfl,trivial⟩
 r6:=λz vs cs x ds h aV=>by
  split at h
  ·rename_i n;cases ds with
   |nil=>exact aV.elim
   |cons d ds=>
    cases ds with
    |cons _ _=>exact aV.2.elim
    |nil=>
     rw[Vr] at h;cases hu:gW n with
     |none=>rw[hu] at h;cases h
     |some u=>rw[hu] at h;cases h;have:d= .int .u8 n:=aV.1;rw[this,acM hu];exact (e0 z _ _).2 (by rw[ai])
  ·cases h
 V1:=λx=>by simp only[ara,Vr,vU,h1]
 Ko:=λcs x h=>by
  split at h
  ·rename_i n;rw[Vr] at h;cases hu:gW n with
   |none=>rw[hu] at h;cases h
   |some u=>rw[hu] at h;cases h;rw[ai,acM hu];exact pR.refl _
  ·cases h
def hC:(ls:List hJ)->h6 (gJ G ls)->List af|[],_=>[]| .int k::ls,x=> .int k x.1::hC ls x.2| .bool::ls,x=> .bool x.1::hC ls x.2| .str::ls,x=>aF.str x.1::hC ls x.2| .bh _::ls,x=>undef::hC ls x.2| .mp _ _ _::ls,x=>undef::hC ls x.2| .fn::ls,x=>undef::hC ls x.2
def nK (P:bI):List Field->Nat->List hJ->Bool
 |[],_,[]=>aa
 | f :: bY, i, .int _ :: ls => (f.offset == i && f.name != "_") && ((match P.underlying f.type with | J (.int _) => aa | _ => ak) && nK P bY (i + 1) ls)
 | f :: bY, i, .bool :: ls => (f.offset == i && f.name != "_") && ((match P.underlying f.type with | J .bool => aa | _ => ak) && nK P bY (i + 1) ls)
 | f :: bY, i, .str :: ls => (f.offset == i && f.name != "_") && ((match P.underlying f.type with | J .string => aa | _ => ak) && nK P bY (i + 1) ls)
 |_,_,_=>ak
def Kx:∀{bY:List Field} {i:Nat} {ls:List hJ} {x y:h6 (gJ G ls)},nK P bY i ls=aa->sN P bY i (hC ls x) (hC ls y)
 |[],_,[],_,_,_=>trivial
 |f::bY,i, .int k::ls,x,y,h=>by
  simp only[nK,fx,beq_iff_eq,bne_iff_ne] at h;obtain ⟨⟨h1,ai⟩,aT,br⟩:=h;refine ⟨h1,ai, .inl ?_,Kx br⟩;split at aT
  ·exact ⟨k,_,_,_,‹_›,rfl,rfl⟩
  grind
 |f::bY,i, .bool::ls,x,y,h=>by
  simp only[nK,fx,beq_iff_eq,bne_iff_ne] at h;obtain ⟨⟨h1,ai⟩,aT,br⟩:=h;refine ⟨h1,ai, .inr (.inl ?_),Kx br⟩;split at aT
  ·exact ⟨_,_,‹_›,rfl,rfl⟩
  grind
 |f::bY,i, .str::ls,x,y,h=>by
  simp only[nK,fx,beq_iff_eq,bne_iff_ne] at h;obtain ⟨⟨h1,ai⟩,aT,br⟩:=h;refine ⟨h1,ai, .inr (.inr ?_),Kx br⟩;split at aT
  ·exact ⟨_,_,‹_›,rfl,rfl⟩
  grind
 |_::_,_, .bh _::_,_,_,h=>by cases h
 |_::_,_, .mp _ _ _::_,_,_,h=>by cases h
 |_::_,_, .fn::_,_,_,h=>by cases h
 |[],_,_::_,_,_,h=>by cases h
 |_::_,_,[],_,_,h=>by cases h
def K8:∀{bY:List Field} {i:Nat} {ls:List hJ} {x y:h6 (gJ G ls)},nK P bY i ls=aa->hC ls x=hC ls y->x=y
 |_,_,[],_,_,_,_=>rfl
 |f::bY,i, .int k::ls,x,y,h,e=>by simp only[nK,fx] at h;simp only[hC,List.cons.injEq] at e;exact Prod.ext (mu.inj e.1).2 (K8 h.2.2 e.2)
 |f::bY,i, .bool::ls,x,y,h,e=>by simp only[nK,fx] at h;simp only[hC,List.cons.injEq] at e;exact Prod.ext (af.bool.inj e.1) (K8 h.2.2 e.2)
 |f::bY,i, .str::ls,x,y,h,e=>by simp only[nK,fx] at h;simp only[hC,List.cons.injEq] at e;exact Prod.ext (ad7 e.1) (K8 h.2.2 e.2)
 |_::_,_, .bh _::_,_,_,h,_=>by cases h
 |[],_, .bh _::_,_,_,h,_=>by cases h
 |[],_, .int _::_,_,_,h,_=>by cases h
 |[],_, .bool::_,_,_,h,_=>by cases h
 |[],_, .str::_,_,_,h,_=>by cases h
 |_::_,_, .mp _ _ _::_,_,_,h,_=>by cases h
 |_::_,_, .fn::_,_,_,h,_=>by cases h
 |[],_, .mp _ _ _::_,_,_,h,_=>by cases h
 |[],_, .fn::_,_,_,h,_=>by cases h
def Ld {z:Nat->bW}:∀{bY:List Field} {i:Nat} {ls:List hJ} {x:h6 (gJ G ls)} {ds:List af},nK P bY i ls=aa->pa z (gJ G ls) x ds->ds=hC ls x
 |_,_,[],_,[],_,_=>rfl
 |_,_,[],_,_::_,_,h=>h.elim
 |f::bY,i, .int k::ls,x,d::ds,h,e=>by simp only[nK,fx] at h;have h1:d= .int k x.1:=e.1;rw[hC,h1,<-Ld h.2.2 e.2]
 |f::bY,i, .bool::ls,x,d::ds,h,e=>by simp only[nK,fx] at h;have h1:d= .bool x.1:=e.1;rw[hC,h1,<-Ld h.2.2 e.2]
 |f::bY,i, .str::ls,x,d::ds,h,e=>by simp only[nK,fx] at h;have h1:d=aF.str x.1:=e.1;rw[hC,h1,<-Ld h.2.2 e.2]
 |_::_,_, .bh _::_,_,_,h,_=>by cases h
 |_::_,_, .mp _ _ _::_,_,_,h,_=>by cases h
 |_::_,_, .fn::_,_,_,h,_=>by cases h
 |[],_,_::_,_,_,h,_=>by cases h
 |_::_,_, .int _::_,_,[],_,h=>h.elim
 |_::_,_, .bool::_,_,[],_,h=>h.elim
 |_::_,_, .str::_,_,[],_,h=>h.elim
def Xh {t:Nat} (ls:List hJ) (to:D t->h6 (gJ G ls)) (of:h6 (gJ G ls)->D t) (h1:∀x,of (to x)=x) (bY:Array Field) (eq:D t->D t->Bool) (jU:G.T t=fB t (gJ G ls) to) (he:∀x y,eq x y=aa↔x=y)
  (aJ:P.underlying t=J (.struct bY)) (bb:P.stoodInHeld t=ak) (bs:P.eqGuardType P.depth t=ak) (bf:nK P bY.toList 0 ls=aa):AI P G t where
 bY:=bY
 eq:=eq
 aW:=λx=>hC ls (to x)
 aJ:=aJ
 bb:=bb
 bs:=bs
 bf:=λx y=>Kx bf
 aD:=λz x ds h=>by rw[jU] at h;exact Ld bf h
 he:=λx y=>by
  rw[he];constructor
  ·rintro rfl;rfl
  ·intro h;have:=K8 bf h;rw[<-h1 x,<-h1 y,this]
def VK {aK:Type} (k:aG) (of:Int->aK):bc D->Option aK:=λs=>match s with| .c (.int k' n)=>if k'=k then J (of n) else ae|_=>ae
def VL {aK:Type} (of:List UInt8->aK):bc D->Option aK:=λs=>match s with| .c (.str n)=>J (of n)|_=>ae
def Ye {aK:Type} (k:aG) (of:Int->aK):cv D->Option aK:=λs=>match s with| .int k' n=>if k'=k then J (of n) else ae|_=>ae
def Yd {aK:Type} (of:Bool->aK):cv D->Option aK:=λs=>match s with| .bool n=>J (of n)|_=>ae
def atE {z:Nat->bW} {vs:List af} {aK:Type} {k:aG} {of:Int->aK} {s:bc D} {a:aK} {v:af} (h:VK k of s=J a) (aV:rel G z vs s v):∃n,a=of n/\v= .int k n:=by
 unfold VK at h;split at h
 ·split at h
  ·rename_i hk;cases h;subst hk;exact ⟨_,rfl,aV⟩
  grind
 grind
def atF {z:Nat->bW} {vs:List af} {aK:Type} {of:List UInt8->aK} {s:bc D} {a:aK} {v:af} (h:VL of s=J a) (aV:rel G z vs s v):∃n,a=of n/\v=aF.str n:=by
 unfold VL at h;split at h
 ·cases h;exact ⟨_,rfl,aV⟩
 grind
def atW {z:Nat->bW} {vs:List af} {aK:Type} {k:aG} {of:Int->aK} {s:cv D} {a:aK} {v:af} (h:Ye k of s=J a) (aV:ed G z vs s v):∃n,a=of n/\v= .int k n:=by
 unfold Ye at h;split at h
 ·split at h
  ·rename_i hk;cases h;subst hk;exact ⟨_,rfl,aV⟩
  grind
 grind
def atV {z:Nat->bW} {vs:List af} {aK:Type} {of:Bool->aK} {s:cv D} {a:aK} {v:af} (h:Yd of s=J a) (aV:ed G z vs s v):∃n,a=of n/\v= .bool n:=by
 unfold Yd at h;split at h
 ·cases h;exact ⟨_,rfl,aV⟩
 grind
structure Ax (P:bI) (G:l6 D) (bG:Nat) where
 dec:DecidableEq (D bG)
 K:nX P bG (G.eo bG)
 qY:bc D->Option (D bG)
 wo:∀z vs s a v,qY s=J a->rel G z vs s v->v=ey (ek P bG) (G.eo bG a)
structure AP (P:bI) (G:l6 D) (bA:Nat) where
 V:oK P bA (G.eo bA)
 tN:cv D->Option (D bA)
 pG:D bA->cv D
 z0:D bA
 i:TypeInfo
 az:P.info? bA=J i
 u0:ek P bA=ak
 bx:i.zero=J (ey ak (G.eo bA z0))
 y0:∀z vs c a v,tN c=J a->ed G z vs c v->v=ey ak (G.eo bA a)
 th:∀z vs a,ed G z vs (pG a) (ey ak (G.eo bA a))
def abz {bG bA:Nat} (a:Ax P G bG) (b:AP P G bA):IP P G bG bA where
 dec:=a.dec
 K:=a.K
 V:=b.V
 qY:=a.qY
 tN:=b.tN
 pG:=b.pG
 z0:=b.z0
 i:=b.i
 az:=b.az
 bx:=by rw[b.u0];exact b.bx
 wo:=a.wo
 y0:=by rw[b.u0];exact b.y0
 th:=by rw[b.u0];exact b.th
 u0:=b.u0
def apj {bG:Nat} (k:aG) (of:Int->D bG) (dec:DecidableEq (D bG)) (i:TypeInfo) (h:P.underlying bG=J (.int k)) (K:nX P bG (G.eo bG)) (hk:∀n,G.eo bG (of n)=[.int k n]):Ax P G bG where
 dec:=dec
 K:=K
 qY:=VK k of
 wo:=λz vs s a v h1 ai=>by obtain ⟨n,rfl,rfl⟩:=atE h1 ai;rw[hk,si h rfl];rfl
def apk {bG:Nat} (of:List UInt8->D bG) (dec:DecidableEq (D bG)) (h:P.underlying bG=J .string) (K:nX P bG (G.eo bG)) (hk:∀n,G.eo bG (of n)=[aF.str n]):Ax P G bG where
 dec:=dec
 K:=K
 qY:=VL of
 wo:=λz vs s a v h1 ai=>by obtain ⟨n,rfl,rfl⟩:=atF h1 ai;rw[hk,si h rfl];rfl
def aws {bA:Nat} (k:aG) (of:Int->D bA) (to:D bA->Int) (h1:∀x,of (to x)=x) (i:TypeInfo) (h:P.underlying bA=J (.int k)) (az:P.info? bA=J i) (V:oK P bA (G.eo bA)) (hk:∀n,G.eo bA (of n)=[.int k n]) (bx:i.zero=J (.int k 0)):AP P G bA where
 V:=V
 tN:=Ye k of
 pG:=λx=> .int k (to x)
 z0:=of 0
 i:=i
 az:=az
 u0:=si h rfl
 bx:=by rw[hk];exact bx
 y0:=λz vs c a v g1 g2=>by obtain ⟨n,rfl,rfl⟩:=atW g1 g2;rw[hk];rfl
 th:=λz vs a=>by have:=hk (to a);rw[h1] at this;rw[this];rfl
def awr {bA:Nat} (of:Bool->D bA) (to:D bA->Bool) (h1:∀x,of (to x)=x) (i:TypeInfo) (h:P.underlying bA=J .bool) (az:P.info? bA=J i) (V:oK P bA (G.eo bA)) (hk:∀n,G.eo bA (of n)=[.bool n]) (bx:i.zero=J (.bool ak)):AP P G bA where
 V:=V
 tN:=Yd of
 pG:=λx=> .bool (to x)
 z0:=of ak
 i:=i
 az:=az
 u0:=si h rfl
 bx:=by rw[hk];exact bx
 y0:=λz vs c a v g1 g2=>by obtain ⟨n,rfl,rfl⟩:=atV g1 g2;rw[hk];rfl
 th:=λz vs a=>by have:=hk (to a);rw[h1] at this;rw[this];rfl
def asI {X:e3 P D} {B:Code} {u:mP D} {us:List (mP D)} (h:qJ X B u) (bf:∀v∈us,qJ X B v):∀v∈u::us,qJ X B v:=by
 grind
def atg {X:e3 P D} {B:Code}:∀v∈([]:List (mP D)),qJ X B v:=by simp
def gL.law {X:e3 P D} {d:fS D} {F:d.F} (eF:gL X d F) {m:Mem} {z:Nat->bW} (bx:lk z m) (bg:∀b,m.next<=b->m.blk b= .dead) {cX:List (bc D)} {args:List af} (dE:bP (rel X.G z []) cX args)
  (h:d.call X F cX [] (λdR _=>J dR)=J (.c (.bool aa))):h2 P d.f args.toArray m λv _=>v= .bool aa:=by
 have aN:b9 X.G ([]:List (ba D)) z m m ae []:=⟨dL.start bx bg,rfl,by simp,by simp⟩
 refine (eF cX [] (λdR _=>J dR) _ args aN dE h).mono λv m' aD=> ?_;obtain ⟨⟨z',vs',dR,cr,_,_,_,_,aV,k1⟩,_⟩:=aD;cases k1;exact aV
end
end
end Go.aF
end
section
namespace Go.aF
noncomputable section
section
variable {P:bI} {D:Nat->Type} {X:e3 P D} {ap:Type} {z z':Nat->bW} {e m m':Mem} {k:Option Nat} {vs vs':List af} {fr:Nat->af} {E:List (Nat×bc D)} {O cr:List (ba D)}
theorem KT (l:j6 D) {gr:List Nat}:∀(aQ:List dt) (x:ft D aQ) (bO:List Nat) (O:List (ba D)),mY (X.gm l) gr aQ x bO O=mY X gr aQ x bO O
 |[],_,_,_=>rfl
 | .o _ c::aQ,x,[],O=>rfl
 | .o _ c::aQ,x,i::bO,O=>by
  show mY (X.gm l) gr aQ x.2 bO (O.set i (cw.gO (X.gm l) (λn=>gr.getD n 0) c x.1 (zF c O i)))=mY X gr aQ x.2 bO (O.set i (cw.gO X (λn=>gr.getD n 0) c x.1 (zF c O i)));rw[KT l aQ x.2 bO]
  grind [cw.Kd]
 | .v _ _::aQ,x,bO,O=>KT l aQ x.2 bO O
 | .u _ _::aQ,x,bO,O=>KT l aQ x.2 bO O
def acv (l:j6 D) {cJ:Nat->Nat} {bO ks:List Nat} {outs:List dt} {y:ft D outs}:∀(O:List (ba D)) (i:Nat),sd (X.gm l) cJ bO ks outs y i O=sd X cJ bO ks outs y i O
 |[],i=>rfl
 |o::O,i=>by simp only[sd,BQ,acv l O (i+1)]
def aq4 (l:j6 D) (aQ:List dt) (fg:List (Nat×bc D)) (E:List (Nat×bc D)) (O:List (ba D)):sl (X.gm l) aQ fg E O=sl X aQ fg E O:=by
 grind [sl,Lu,B6,KT]
def adr (l:j6 D) (p:h4 D) (F:p.F) (E:List (Nat×bc D)) (O:List (ba D)) {ap:Type} (K:fG->List (Nat×bc D)->List (ba D)->Option ap):p.run (X.gm l) F E O K=p.run X F E O K:=by
 simp_all [T1,zk,uE,acv,zr,h4.run,h4.G2,aq4]
def zb:fG->fG| .normal=> .ret|ex=>ex
def arE {ex:fG} (h:zb ex= .ret):ex= .normal\/ex= .ret:=by
 cases ex<;>first|grind|exact .inr rfl|cases h
structure e7 (D:Nat->Type) where
 f:Nat
 lQ:Nat
 ins:List dt
 fg:List (Nat×bc D)
 ks:List Nat
 outs:List dt
 fu:List (Nat×bc D)
 eX:List Nat
 bZ:Bool:=ak
def Jv (keep:List Nat) (i:Nat) (O:List (ba D)):List (ba D):=match O[i]? with|some (.box t cs ak w)=>if (!(keep.any (fi i))&&cs.all avq)=aa then O.set i (.box t cs aa w) else O|_=>O
def LL (keep:List Nat):Nat->List (ba D)->List (ba D)|0,O=>O|n+1,O=>Jv keep n (LL keep n O)
def asX {keep:List Nat} {i:Nat} (aN:b9 X.G O z e m k vs):∃z',Inv O (Jv keep i O)/\dT e.next z z'/\b9 X.G (Jv keep i O) z' e m k vs:=by
 unfold Jv;split
 ·rename_i t cs w aM;split
  ·rename_i ay;simp only[fx] at ay;obtain ⟨v,aD,cG⟩:=aN.at aM;have aon:=cG;obtain ⟨b,ds,rfl,_⟩:=aon;have kJ:vp O (.box i 0)=J ((t,cs),O.set i (.box t cs aa w)):=by
    grind [vp]
   obtain ⟨z',bR,h1,ai,_⟩:=KJ (X:=X) aN (s:= .box i 0) (g:= .pointer (J ⟨b,0,ae⟩)) ⟨b,aD,rfl⟩ kJ
   grind
  grind [Inv.refl,dT.refl]
 grind [Inv.refl,dT.refl]
theorem adi {keep:List Nat} (aN:b9 X.G O z e m k vs):∀n:Nat,∃z',Inv O (LL keep n O)/\dT e.next z z'/\b9 X.G (LL keep n O) z' e m k vs
 |0=>⟨z,Inv.refl _,dT.refl z,aN⟩
 |n+1=>by obtain ⟨dv,bR,h1,ai⟩:=adi aN n;obtain ⟨z2,g0,g1,g2⟩:=asX (keep:=keep) (i:=n) ai;exact ⟨z2,bR.trans g0,h1.trans g1,g2⟩
def e7.pre (d:e7 D) (cX:List (bc D)) (O:List (ba D)):List (ba D):=if d.bZ=aa then LL (Xs O 100 (ae3 (mg 0 cX)) []) O.length O else O
def e7.ap3 {d:e7 D} {cX:List (bc D)} (aN:b9 X.G O z e m k vs):∃z',Inv O (d.pre cX O)/\dT e.next z z'/\b9 X.G (d.pre cX O) z' e m k vs:=by
 grind [e7.pre,adi,Inv.refl,dT.refl]
def e7.gA (d:e7 D):h4 D:={path:=[],ins:=d.ins,fg:=d.fg,ks:=d.ks,iM:=[⟨.ret,d.outs,d.fu⟩],keep:=[]}
def avd:fG->Bool| .ret=>aa|_=>ak
variable (X) in
def e7.call (d:e7 D) (F:d.gA.F) (cX:List (bc D)) (O:List (ba D)) {ap:Type} (K:bc D->List (ba D)->Option ap):Option ap:=
 if fi cX.length d.lQ=aa then d.gA.run X F (mg 0 cX) (d.pre cX O) λex E O=>if avd ex=aa then (match GZ E d.eX with|some dR=>K dR O|none=>ae) else ae
 else ae
variable (X) in
def e7.fits (d:e7 D) (cX:List (bc D)) (O:List (ba D)):Bool:=fi cX.length d.lQ&&(sl X d.ins d.fg (jJ d.ins (mg 0 cX) O).1 (jJ d.ins (mg 0 cX) O).2).isSome
structure Tw (P:bI) (X:e3 P D) (d:e7 D) (F:d.gA.F):Prop where
 ex:∃fn c,P.funcs[d.f]? =J fn/\qm P fn c/\lR P d.f=aa/\iJ d.lQ fn.ntmps=aa/\fn.results.toList=d.eX.map .tmp/\d.gA.p0 c=aa/\sB zb X c d.gA F
def fR (X:e3 P D) (d:e7 D) (F:d.gA.F):Prop:=∀(cX:List (bc D)) (O:List (ba D)) {ap:Type} (K:bc D->List (ba D)->Option ap) (r:ap) {z:Nat->bW} {e m:Mem} {k:Option Nat} {vs:List af} (args:List af),
 b9 X.G O z e m k vs->bP (rel X.G z vs) cX args->d.call X F cX O K=J r->h2 P d.f args.toArray m λv m'=>dH X O z e k vs K r v m'
def ad5 {m:Mem}:∀(l:List Nat),q2 P fr m (l.map .tmp) (l.map fr)
 |[]=>trivial
 |_::l=>⟨rfl,ad5 l⟩
def Tw.call {d:e7 D} {F:d.gA.F} (eF:Tw P X d F):fR X d F:=by
 intro cX O ap K r z e m k vs args aN dE h;obtain ⟨fn,c,f1,f2,f3,f4,f5,f6,mS⟩:=eF.ex;unfold e7.call at h;obtain ⟨hlen,h⟩:=gz h;have hlen:=kA hlen;have cN:args.toArray.size<=fn.ntmps:=by rw[List.size_toArray,<-dE.length,hlen];exact pk f4
 refine h2.any f1 f2 f3 cN λfr hU=> ?_;have bp:fj X z vs (mg 0 cX) fr:=WC dE λj v bn=>by rw[lH];exact hU j v (by simpa using bn)
 obtain ⟨azn,u9,kN,iS⟩:=e7.ap3 (d:=d) (cX:=cX) aN;have aw:=mS.zd f6 (mg 0 cX) (d.pre cX O) _ r iS (bp.mono kN.le λ_ _ h=>h) h;rw[show sub c d.gA.path=c from sc c] at aw;refine aw.mono ?_;rintro ex fY m1 ⟨dv,jK,ia,cu,bR,h1,ai,aT,br,cK⟩;obtain ⟨aV,cK⟩:=gz cK;have hex:zb ex= .ret:=by revert aV;cases zb ex<;>intro aV<;>first|rfl|cases aV
 split at cK
 ·rename_i dR By;obtain ⟨cL,c9⟩:=Xf br By;exact ⟨arE hex,_,by rw[f5];exact ad5 d.eX,c9,dv,jK,dR,cu,u9.trans bR,kN.trans h1,ai,aT,cL,cK⟩
 ·cases cK
def fR.base {q:j6 D} {d:e7 D} {F:d.gA.F} (h:fR (X.gm q) d F):fR X d F:=by
 intro cX O ap K r z e m k vs args aN dE ay;have ay:d.call (X.gm q) F cX O K=J r:=by unfold e7.call at ay⊢;rw[adr];exact ay
 exact h cX O K r args aN dE ay
structure GE (D:Nat->Type) where
 d:e7 D
 F:d.gA.F
def e7.Z1 (d:e7 D) (cX:List (bc D)) (O:List (ba D)):Bool:=fi ((jJ d.ins (mg 0 cX) O).2.filter ba.live).length (gU d.ins)
variable (X) in
def ZL (l:List (GE D)) (d:e7 D) (f:Nat) (cX:List (bc D)) (O:List (ba D)):Bool:=d.fits X cX O&&(d.Z1 cX O|| !(l.any λy=>fi y.d.f f&&(y.d.Z1 cX O&&y.d.fits X cX O)))
variable (X) in
def JD:List (GE D)->Nat->List (bc D)->List (ba D)->{ap:Type}->(bc D->List (ba D)->Option ap)->Option ap|[],f,cX,O,_,K=>X.C f cX O K|x::l,f,cX,O,_,K=>if (fi x.d.f f&&ZL X l x.d f cX O)=aa then x.d.call X x.F cX O K else JD l f cX O K
variable (X) in
def JE:List (GE D)->Nat->List (bc D)->List (ba D)->Bool|[],f,cX,O=>X.F f cX O|x::l,f,cX,O=>if (fi x.d.f f&&ZL X l x.d f cX O)=aa then ak else JE l f cX O
variable (X) in
def A8:List (GE D)->Nat->Bool|[],f=>X.W f|x::l,f=>fi x.d.f f||A8 l f
def e3.gen (X:e3 P D) (l:List (GE D)):e3 P D:=X.gm ⟨JE X l,X.hg,JD X l,A8 X l⟩
def aey (cW:iV X) {f:Nat} {cX:List (bc D)} {K:bc D->List (ba D)->Option ap} {r:ap} {args:List af} (aN:b9 X.G O z e m k vs) (dE:bP (rel X.G z vs) cX args):∀{l:List (GE D)},(∀x∈l,fR X x.d x.F)->JD X l f cX O K=J r->
  h2 P f args.toArray m λv m'=>dH X O z e k vs K r v m'/\(JE X l f cX O=aa->m'=m)/\(A8 X l f=ak->∃q,gG m m' q/\oI vs (q1 cX) q)
 |[],_,ay=>cW f cX O K r args aN dE ay
 |x::l,h,ay=>by
  unfold JD at ay;unfold JE A8;split at ay
  ·rename_i an;rw[if_pos an];simp only[fx] at an;have:=kA an.1;subst this;refine (h x oG cX O K r args aN dE ay).mono λv m' bB=>⟨bB,λcp=>Yy cp,λcp=> ?_⟩
   rw[an.1] at cp;cases cp
  ·rename_i an;rw[if_neg an];refine (aey cW aN dE (λy aZ=>h y (kn _ aZ)) ay).mono λv m' bB=>⟨bB.1,bB.2.1,λcp=>bB.2.2 ?_⟩
   cases aw:A8 X l f with
   |false=>rfl
   |true=>rw[aw,Bool.or_true] at cp;cases cp
def iV.gen {l:List (GE D)} (cW:iV X) (h:∀x∈l,fR X x.d x.F):iV (X.gen l):=by
 intro f cX O ap K r z e m k vs args aN dE ay;exact aey (X:=X) cW aN dE h ay
def gL.gm {q:j6 D} {d:fS D} {F:d.F} (h:gL (X.gm q) d F):gL X d F:=by
 intro cX O ap K r z e m k vs args aN dE ay;rw[<-acR q] at ay;exact h cX O K r args aN dE ay
def fR.up {q:j6 D} {d:e7 D} {F:d.gA.F} (h:fR X d F):fR (X.gm q) d F:=by
 intro cX O ap K r z e m k vs args aN dE ay;have ay:d.call X F cX O K=J r:=by unfold e7.call at ay⊢;rw[adr] at ay;exact ay
 exact h cX O K r args aN dE ay
def iV.amW {bY:List (mK D)} {l:List (GE D)} (cW:iV (X.with bY)) (h:∀x∈l,fR X x.d x.F):iV ((X.with bY).gen l):=iV.gen cW λx an=>(h x an).up
def as1:∀y∈([]:List (GE D)),fR X y.d y.F:=by simp
def arR {l:List (GE D)} {x:GE D} (h:fR X x.d x.F) (aR:∀y∈l,fR X y.d y.F):∀y∈x::l,fR X y.d y.F:=by
 grind
end
end
end Go.aF
end
section
namespace Go.aF
noncomputable section
section
variable {P:bI} {D:Nat->Type} {cT:e3 P D}
structure mi (cT:e3 P D) where
 X:e3 P D
 ok:iV X
 iB:∀{d:fS D} {F:d.F},gL X d F->gL cT d F
 Z7:∀{d:e7 D} {F:d.gA.F},fR X d F->fR cT d F
def mi.l9 (E:mi cT) (f:bS->Option bS->Option bS->Nat):mi cT:=⟨E.X.l9 f,iV.l9 E.ok,λh=>E.iB (gL.l9 h),λh=>E.Z7 (fR.base h)⟩
structure eS (cT:e3 P D) where
 bY:List (mK D)
 gs:List (GE D)
 ok:∀y∈bY,gL cT y.d y.F
 UM:∀y∈gs,fR cT y.d y.F
def eS.nil:eS cT:=⟨[],[],by simp,as1⟩
def eS.l7 (T:eS cT) (d:fS D) (F:d.F) (h:gL cT d F):eS cT:=⟨⟨d,F⟩::T.bY,T.gs,aqT (x:=⟨d,F⟩) h T.ok,T.UM⟩
def eS.ir (T:eS cT) (d:e7 D) (F:d.gA.F) (h:fR cT d F):eS cT:=⟨T.bY,⟨d,F⟩::T.gs,T.ok,arR (x:=⟨d,F⟩) h T.UM⟩
def eS.bk (T:eS cT):mi cT:=⟨(cT.with T.bY).gen T.gs,iV.amW (iV.of T.ok) T.UM,λh=>gL.gm (gL.gm h),λh=>fR.base (fR.base h)⟩
structure ch (E:mi cT) (B:Code) where
 us:List (mP D)
 ok:∀u∈us,qJ E.X B u
variable {E:mi cT} {B:Code}
def ch.nil:ch E B:=⟨[],atg⟩
def ch.add (hg:ch E B) (p:h4 D) (F:p.F) (h:qF E.X B p F) (hk:p.p0 B=aa):ch E B:=⟨p.zd E.X F::hg.us,asI (h.zd hk) hg.ok⟩
def ch.aS (hg:ch E B) (p:h4 D) (F:p.F) (hk:p.p0 B=aa:=by kernel_rfl)
  (eB:∀x,j8 E.X hg.us calm aa p.path.reverse (aF.sub B p.path) (hc E.X p.ins x++p.fg) (eU E.X p.ins x) (sk E.X (gU p.ins) p.ks p.iM)=F x:=by intro x;kernel_rfl):ch E B:=
 hg.add p F (qF.of E.ok (λu h _=>hg.ok u h) eB) hk
def aeA:Code->Bool| .loop _=>aa|_=>ak
def aqw {B:Code} {p:List Nat} (h:aeA (aF.sub B p)=aa):aF.sub B p= .loop (aF.sub B (p++[0])):=by
 rw[<-WZ];cases ay:aF.sub B p<;>rw[ay] at h<;>first|(cases h;done)|exact congrArg Code.loop (sc _).symm
def ch.bE (hg:ch E B) (N:Nat) (p:h4 D) (F:Nat->p.F) (hk:(aeA (aF.sub B p.path)&&p.p0 B)=aa:=by kernel_rfl) (bR:∀x,F 0 x=ae:=by exact λx=>rfl)
  (eB:∀n x,j8 E.X hg.us calm aa (0::p.path.reverse) (aF.sub B (p.path++[0])) (hc E.X p.ins x++p.fg) (eU E.X p.ins x) (aeY E.X p (F n))=F (n+1) x:=by intro n x;kernel_rfl):ch E B:=
 hg.add p (F N) (qF.loop E.ok (aqw (tY.1 hk).1) (tY.1 hk).2 (λu h _=>hg.ok u h) bR eB N) (tY.1 hk).2
def Cu (P:bI) (f lQ:Nat) (fn:Func):Bool:=fn.body.isSome&&(lR P f&&iJ lQ fn.ntmps)
def adQ {fn:Func} (h:fn.body.isSome=aa):fn.body=J (en fn):=by
 unfold en;cases aw:fn.body with
 |none=>grind
 |some c=>rfl
def fS.ho (P:bI) (d:fS D) (fn:Func):Bool:=Cu P d.f d.lQ fn&&(sh d.outs&&((d.fg.all λp=>tJ p.2)&&((d.fu.all λp=>tJ p.2)&&(d.fg.all λp=>(GY p.2).isNone))))
def ch.fn {fn:Func} (hg:ch E (en fn)) {d:fS D} {F:d.F} (bR:P.funcs[d.f]? =J fn) (h1:d.ho P fn=aa:=by kernel_rfl) (ai:fn.results.toList=d.lV:=by exact rfl)
  (eB:∀r x,j8 E.X hg.us calm aa [] (en fn) (hc E.X d.ins x++(d.fg++xu d.ij)) (rb E.X d.ij r) (PY E.X d)=F r x:=by intro r x;kernel_rfl):gL cT d F:=by
 unfold fS.ho Cu at h1;simp only[fx] at h1;obtain ⟨⟨ec,a2,a3⟩,a4,a5,AU,rH⟩:=h1;exact E.iB (Il.call ⟨⟨fn,_,bR, .inl (adQ ec),a2,a3,ai,Au.of E.ok (us:=hg.us) (λu h _=>hg.ok u h) eB⟩,a4,a5,AU,rH⟩)
def e7.ho (P:bI) (d:e7 D) (fn:Func):Bool:=Cu P d.f d.lQ fn&&d.gA.p0 (en fn)
def ch.fd {fn:Func} {c:Code} (hg:ch E c) {d:fS D} {F:d.F} (bR:P.funcs[d.f]? =J fn) (mS:qm P fn c) (h1:d.ho P fn=aa:=by kernel_rfl) (ai:fn.results.toList=d.lV:=by exact rfl)
  (eB:∀r x,j8 E.X hg.us calm aa [] c (hc E.X d.ins x++(d.fg++xu d.ij)) (rb E.X d.ij r) (PY E.X d)=F r x:=by intro r x;kernel_rfl):gL cT d F:=by
 unfold fS.ho Cu at h1;simp only[fx] at h1;obtain ⟨⟨ec,a2,a3⟩,a4,a5,AU,rH⟩:=h1;exact E.iB (Il.call ⟨⟨fn,_,bR,mS,a2,a3,ai,Au.of E.ok (us:=hg.us) (λu h _=>hg.ok u h) eB⟩,a4,a5,AU,rH⟩)
def ch.iu {fn:Func} (hg:ch E (en fn)) {d:e7 D} {F:d.gA.F} (bR:P.funcs[d.f]? =J fn) (h1:d.ho P fn=aa:=by kernel_rfl) (ai:fn.results.toList=d.eX.map .tmp:=by exact rfl)
  (eB:∀x,j8 E.X hg.us calm aa d.gA.path.reverse (aF.sub (en fn) d.gA.path) (hc E.X d.gA.ins x++d.gA.fg) (eU E.X d.gA.ins x) (λex=>sk E.X (gU d.gA.ins) d.gA.ks d.gA.iM (zb ex))=F x:=by intro x;kernel_rfl):fR cT d F:=by
 unfold e7.ho Cu at h1;simp only[fx] at h1;obtain ⟨⟨ec,a2,a3⟩,a4⟩:=h1;exact E.Z7 (Tw.call ⟨⟨fn,_,bR, .inl (adQ ec),a2,a3,ai,a4,sB.of E.ok (us:=hg.us) (λu h _=>hg.ok u h) eB⟩⟩)
def ad (k:Nat):dt:= .v k (.int .i64)
def a6 (k:Nat):dt:= .v k .bool
def vs (k:Nat):dt:= .v k .str
def aW (k e:Nat):dt:= .v k (.bh e)
def cm (k t:Nat):dt:= .v k (.agg t)
def e1 (k t:Nat):dt:= .v k (.hd t)
def ax (k e:Nat):dt:= .o k (.bh e)
def ob (k t:Nat):dt:= .o k (.box t)
def aX (k t:Nat):dt:= .o (100000000+k) (.box t)
def eJ (k t:Nat):dt:= .u k (.box t)
def aE (k j:Nat):Nat×bc D:=(k, .box j 0)
def a8 (k j:Nat):Nat×bc D:=(k, .c (.own j))
def abS:Nat->Nat->List Nat|0,_=>[]|f+1,n=>if iJ n 1=aa then [] else abS f (n / 10)++[n%10]
def abR (n:Nat):List Nat:=abS 40 n
def dI (k:Nat) (l:List dt):List (lF D):=[⟨.exit k,[],[]⟩,⟨.ret,l,[]⟩]
def b3 (l:List dt):List (lF D):=[⟨.normal,l,[]⟩]
def eD (k:Nat) (l:List dt):List (lF D):=[⟨.exit k,l,[]⟩]
def cV (n:Nat) (ins:List dt) (iM:List (lF D)) (keep:List Nat):h4 D:=⟨abR n,ins,[],[],iM,keep⟩
def bi (n:Nat) (ins:List dt) (fg:List (Nat×bc D)) (ks:List Nat) (iM:List (lF D)) (keep:List Nat):h4 D:=⟨abR n,ins,fg,ks,iM,keep⟩
def awg:dt->ResultVar| .v k _=> .tmp k| .o k _=> .tmp k| .u k _=> .tmp k
def sX (f lQ:Nat) (ins outs:List dt) (lV:List ResultVar):fS D:=⟨f,lQ,ins,[],ae,0,outs,[],lV,aa⟩
def gS (f lQ:Nat) (ins outs:List dt) (fu:List (Nat×bc D)) (lV:List ResultVar):fS D:=⟨f,lQ,ins,[],ae,0,outs,fu,lV,ak⟩
def cx (f lQ:Nat) (ins outs:List dt):fS D:=⟨f,lQ,ins,[],ae,0,outs,[],outs.map awg,aa⟩
def ga {G:l6 D} {t:Nat} (ls:List hJ) (to:D t->h6 (gJ G ls)) (of:h6 (gJ G ls)->D t) {i:TypeInfo} (az:P.info? t=J i) (h1:∀x,of (to x)=x:=by exact λ_=>rfl) (ai:∀y,to (of y)=y:=by exact λ_=>rfl)
  (jU:G.T t=fB t (gJ G ls) to:=by exact rfl) (cN:i.size=ls.length:=by exact rfl) (hh:(ls.length==0)=ak:=by exact rfl) (hp:iJ i.bytes 32768=aa:=by exact rfl) (bx:i.zero=J (i.zero.getD undef):=by exact rfl) (hL:(i.zero.getD undef).cells.toList=oD ls:=by exact rfl):dP P G t:=
 awe ls to of h1 ai i jU az cN hh hp bx hL
def fE {aK:Type} (x:aK):aK×Unit:=(x,())
def ju {aK:Type} (y:aK×Unit):aK:=y.1
def eS.go (T:eS cT) (d:fS D) (F:d.F) {fn:Func} (bR:P.funcs[d.f]? =J fn) (hg:ch T.bk (en fn):=ch.nil) (h1:d.ho P fn=aa:=by kernel_rfl) (ai:fn.results.toList=d.lV:=by exact rfl)
  (eB:∀r x,j8 T.bk.X hg.us calm aa [] (en fn) (hc T.bk.X d.ins x++(d.fg++xu d.ij)) (rb T.bk.X d.ij r) (PY T.bk.X d)=F r x:=by intro r x;kernel_rfl):eS cT:=T.l7 d F (hg.fn bR h1 ai eB)
def eS.mx (T:eS cT) (d:e7 D) (F:d.gA.F) {fn:Func} (bR:P.funcs[d.f]? =J fn) (hg:ch T.bk (en fn):=ch.nil) (h1:d.ho P fn=aa:=by kernel_rfl) (ai:fn.results.toList=d.eX.map .tmp:=by exact rfl)
  (eB:∀x,j8 T.bk.X hg.us calm aa d.gA.path.reverse (aF.sub (en fn) d.gA.path) (hc T.bk.X d.gA.ins x++d.gA.fg) (eU T.bk.X d.gA.ins x) (λex=>sk T.bk.X (gU d.gA.ins) d.gA.ks d.gA.iM (zb ex))=F x:=by intro x;kernel_rfl):eS cT:=T.ir d F (hg.iu bR h1 ai eB)
end
end
end Go.aF
end
section
namespace Go.aF
def W7 {P : bI} {g : FuncId} {fn : Func} {id t3 t4 : Nat} {iw iQ : Oper} {X : Code} {ty tz : bV} {al8 : Array bV} (bF : P.funcs[g]? = J fn) (bB : (fn.name == "runtime.NumGoroutine") = ak)
  (aw:fn.body=J (.seq (.region id #[iw,iQ] ak) (.cond (.tmp t4) X .skip))) (h1:iw.op= .call {callee:= .builtin .recover,args:=#[],argTypes:=al8}) (d1:iw.dst=J t3) (g1:iw.guard=ae)
  (ai:iQ.op= .binOp .neq ty (.tmp t3) (.const .nilIface) tz) (d2:iQ.dst=J t4) (g2:iQ.guard=ae) (avD:t3<fn.ntmps) (ay7:t4<fn.ntmps) (aV:fn.results=#[])
  (fv:∀w,(eqGuard .neq ty (.tmp t3) (.const .nilIface) .nilIface .nilIface).run P w= .ok () w) (fQ:∀w,(binOp .neq ty .nilIface .nilIface).run P w= .ok (.bool ak) w):Cl P g:=by
 refine ⟨⟨fn,bF,bB,by grind⟩,λcs w=> ?_⟩;refine callsD_of_wpS bF aw λamw ds hm=>wpS_seq (wpS_region ?_);have cN:(cs++nj (fn.ntmps - cs.size) undef).size>=fn.ntmps:=by grind
 generalize cs++nj (fn.ntmps - cs.size) undef=T at cN;show wpOpsS P #[iw,iQ] _ [0,1] _ _ w;have dX:qK iw (yielded #[iw,iQ] T)=aa:=by grind [qK]
 have bX:∀ap,(execOp ap iw).run P w= .ok .recover w:=λap=>by simp[execOp,h1,resolve,invoke,builtin]
 have aoM:recoverD (amw::ds)=ae:=by grind [recoverD]
 unfold wpOpsS;simp only[show (#[iw,iQ]:Array Oper)[0]? =J iw from rfl,dX,if_true,bX,aoM];unfold wpOpsS;have ix:qK iQ (yielded #[iw,iQ] (qB {tmps:=T,defers:=[]} iw.dst .nilIface).tmps)=aa:=by grind [qK]
 have aD:(qB {tmps:=T,defers:=[]} iw.dst .nilIface).eval (.tmp t3)= .nilIface:=by simp[Act.eval,qB,d1,show t3<T.size by omega]
 have e2:(execOp (qB {tmps:=T,defers:=[]} iw.dst .nilIface).eval iQ).run P w= .ok (.value (.bool ak)) w:=by have ay:(qB {tmps:=T,defers:=[]} iw.dst .nilIface).eval (.const .nilIface)= .nilIface:=rfl;simp_all [execOp]
 simp only[show (#[iw,iQ]:Array Oper)[1]? =J iQ from rfl,ix,if_true,e2];rw[Oper.upon_value];have ao0:(qB (qB {tmps:=T,defers:=[]} iw.dst .nilIface) iQ.dst (.bool ak)).eval (.tmp t4)= .bool ak:=by simp[Act.eval,qB,d1,d2,show t4<T.size by omega]
 refine wpS_cond ao0 (wpS_of_wp (wp_skip ?_));refine ⟨by grind [qB], .returning, ?_, .tuple #[],by simp[results,aV],⟨_,rfl⟩,rfl,rfl⟩;rw[<-hm]
def oh:Code->Code| .seq A (.seq (.region id ops d) B)=> .seq A (.seq (.region id ops.pop d) B)|k=>k
end Go.aF
end
section
namespace Go.aF
open Go.Sort Go.Shelf Go.Proofs
noncomputable def ou {aK:Type} [Inhabited aK] (jf:aK->aK->Int) (xs:List aK):List aK:=(pdq (ltOf jf) xs.toArray 0 xs.toArray.size (Ty xs.toArray.size) aa aa).toList
noncomputable def G6 {aK:Type} [Inhabited aK] (jf:aK->aK->Int) (xs:List aK):Option (List aK):=if xs.length<4611686018427387904 then J (ou jf xs) else ae
def p1 (x y:Int):Int:=Lib.compareInt x y
section
variable {aK:Type} [Inhabited aK]
def asc (x y:Int):decide (p1 x y<0)=decide (x<y):=by
 grind [p1,Lib.compareInt]
def W0 (f:aK->Int):SWO (ltOf λx y=>p1 (f x) (f y)):=by
 have e:∀x y,ltOf (λx y=>p1 (f x) (f y)) x y=decide (f x<f y):=λx y=>asc _ _;refine ⟨λx=> ?_,λx y z h1 ai=> ?_,λx y z h1 ai=> ?_⟩
 ·grind
 ·grind
 grind
def Wi (jf:aK->aK->Int) (hO:SWO (ltOf jf)) (xs:List aK):PermIn 0 xs.length xs.toArray (ou jf xs).toArray/\SortedIn (ltOf jf) 0 xs.length (ou jf xs).toArray:=by
 have h:=pdq_sorts (ltOf jf) hO xs.toArray 0 xs.toArray.size (Ty xs.toArray.size) aa aa (Nat.zero_le _) (e4 _) (Or.inl rfl);have e:(ou jf xs).toArray=pdq (ltOf jf) xs.toArray 0 xs.toArray.size (Ty xs.toArray.size) aa aa:=by rfl
 grind
def BU (jf:aK->aK->Int) (hO:SWO (ltOf jf)) (xs:List aK):(ou jf xs).length=xs.length:=by
 have:=(Wi jf hO xs).1.1
 grind
def acL (jf:aK->aK->Int) (hO:SWO (ltOf jf)) (xs:List aK):(ou jf xs).Perm xs:=by
 have h:=(Wi jf hO xs).1;have aR:=BU jf hO xs;have ai:=h.2.2
 grind
theorem acY {enc:aK->List af} {k:Nat} (hk:∀x,(enc x).length=k):∀(xs:List aK) (t:Nat),t<xs.length*k->(xs.flatMap enc)[t]? =J ((enc xs.toArray[t / k]!)[t%k]!)
 |[],t,h=>by grind
 |x::xs,t,h=>by
  have lu:0<k:=by grind
  rw[II,AB];split
  ·grind [Nat.div_eq_of_lt,Nat.mod_eq_of_lt]
  ·rename_i hA;rw[hk] at hA⊢;have hA:k<=t:=by omega
   rw[acY hk xs (t - k) (by grind [ko])];have h1:t / k=(t - k) / k+1:=by rw[<-Nat.sub_add_cancel hA,Nat.add_div_right _ lu];simp
   have ai:t%k=(t - k)%k:=by rw[<-Nat.sub_add_cancel hA,Nat.add_mod_right];simp
   grind
theorem KD {enc:aK->List af} {k:Nat} (hk:∀x,(enc x).length=k) (xs:List aK):(xs.flatMap enc).length=xs.length*k:=by
 induction xs with
 |nil=>simp
 |cons x xs a1=>grind
theorem arW {enc:aK->List af} {k:Nat} (hk:∀x,(enc x).length=k) (xs:List aK):(flatK enc k xs.toArray).toList=xs.flatMap enc:=by
 refine rv λt=> ?_;by_cases aJ:t<xs.length*k
 ·grind [acY,flatK]
 ·rw[Tz (l:=xs.flatMap enc) (by grind [KD]),Tz (by simp_all)]
variable {P:bI} {ap:Ren}
def Wh {f l:Nat} {gV F mJ:List af} {w:World} {blk:Nat} (hlen:mJ.length=F.length) (VD:0<F.length)
  (h:∀off cap:Nat,blk<w.heap.size->Holds id w blk off F.toArray->Calls P f (.slice (J ⟨blk,off,ae⟩) l cap::gV).toArray w λe w'=>e= .returned (.tuple #[])/\∃n os,w'=grow (putRow id (TL w n) blk off mJ.toArray) os):zE P f gV l F mJ w blk:=by
 intro off cap cs t bZ hw eF wj;have hH:Holds id w blk off F.toArray:=by
  intro j bn
  grind [rG,World.frozen?]
 have hblk:blk<w.heap.size:=by
  grind
 refine (h off cap hblk hH).mono ?_;rintro e w' ⟨rfl,n,os,rfl⟩;have U8:∀c,c<w.heap.size->(grow (putRow id (TL w n) blk off mJ.toArray) os).heap[c]? =(w.heap.modify blk (onCells (putCells id off mJ.toArray)))[c]? :=by
  grind [grow,putRow,mapBlock,TL]
 refine ⟨rfl,rfl,rfl,rfl,by grind,λc ay gN=> ?_, ?_⟩
 ·grind
 ·rw[U8 blk hblk,Array.getElem?_modify,if_pos rfl,hw];simp only[vU,onCells];congr 2;have hle:off+F.length<=cs.size:=by
   have:=(Array.getElem?_eq_some_iff.1 (eF _ _ (mm (l:=F) (i:=F.length - 1) (by omega)))).1;omega
  apply Array.ext_getElem?
  grind [o5,putCells]
def ar8 (L:SlLaysF0.n6 P ap) {f g k:Nat} (bF:ap.f 6=f) (T0:∀w,(isAgg (ap.t 24)).run P w= .ok aa w) (Yo:∀w,(Go.sizeOf (ap.t 24)).run P w= .ok k w) (enc:aK->List af) (hk:∀x,(enc x).length=k) (h1:∀x,(enc x).all dy=aa)
  (jf:aK->aK->Int) (hO:SWO (ltOf jf)) (sW:∀args w,(callFunc g args).run P w= .ok (.enter g args) w)
  (kK:∀(x y:aK) (W:World),Calls P g #[.agg (enc x).toArray, .agg (enc y).toArray] W λe w'=>e= .returned (.int .i64 (jf x y))/\∃q pz,w'=grow (W.drewN q) pz)
  (xs:List aK) (cN:xs.length<4611686018427387904) (nB:0<k) (VD:0<xs.length) (w:World) (blk:Nat):zE P f [.func (.func g) #[] #[]] xs.length (xs.flatMap enc) ((ou jf xs).flatMap enc) w blk:=by
 subst bF;have JQ:=BU jf hO xs;have e:∀b4:List aK,(b4.flatMap enc).toArray=flatK enc k b4.toArray:=λb4=>by grind [arW]
 refine Wh (by rw[KD hk,KD hk,JQ]) (by rw[KD hk];simp_all) λoff cap hblk hH=> ?_;rw[e] at hH;have yM:∀x,∀v∈enc x,v.oneCell'=aa:=λx v aD=>(acX (j:=λ_=>ae) (iA.1 (h1 x) v aD)).one;refine (AnyQ.slices_SortFunc_eq L k T0 Yo enc hk yM jf hO g #[] blk off cap xs.toArray w sW (λm os Z8 _ x y=>kK x y _) hH hblk (by grind)).mono ?_;rintro cz w' ⟨rfl,n,os,rfl⟩;refine ⟨rfl,n,os, ?_⟩;rw[e,show (ou jf xs).toArray=pdq (ltOf jf) xs.toArray 0 xs.toArray.size (Ty xs.toArray.size) aa aa by rfl];rfl
end
noncomputable section
section
variable {P:bI} {D:Nat->Type} {G:l6 D}
def AV:List hJ->Bool|[]=>aa| .bh _::_=>ak| .mp _ _ _::_=>ak| .fn::_=>ak|_::ls=>AV ls
def w0 {z:Nat->bW}:∀{ls:List hJ} {x:h6 (gJ G ls)} {ds:List af},AV ls=aa->pa z (gJ G ls) x ds->ds=hC ls x
 |[],_,[],_,_=>rfl
 |[],_,_::_,_,h=>h.elim
 | .int k::ls,x,d::ds,h,e=>by have h1:d= .int k x.1:=e.1;rw[hC,h1,<-w0 (ls:=ls) h e.2]
 | .bool::ls,x,d::ds,h,e=>by have h1:d= .bool x.1:=e.1;rw[hC,h1,<-w0 (ls:=ls) h e.2]
 | .str::ls,x,d::ds,h,e=>by have h1:d=aF.str x.1:=e.1;rw[hC,h1,<-w0 (ls:=ls) h e.2]
 | .bh _::_,_,_,h,_=>by cases h
 | .mp _ _ _::_,_,_,h,_=>by cases h
 | .fn::_,_,_,h,_=>by cases h
 | .int _::_,_,[],_,h=>h.elim
 | .bool::_,_,[],_,h=>h.elim
 | .str::_,_,[],_,h=>h.elim
def zu {z:Nat->bW}:∀{ls:List hJ} {x:h6 (gJ G ls)},AV ls=aa->pa z (gJ G ls) x (hC ls x)
 |[],_,_=>trivial
 | .int k::ls,x,h=>⟨rfl,zu (ls:=ls) h⟩
 | .bool::ls,x,h=>⟨rfl,zu (ls:=ls) h⟩
 | .str::ls,x,h=>⟨rfl,zu (ls:=ls) h⟩
 | .bh _::_,_,h=>by cases h
 | .mp _ _ _::_,_,h=>by cases h
 | .fn::_,_,h=>by cases h
def BS:∀{ls:List hJ} {x:h6 (gJ G ls)},AV ls=aa->(hC ls x).all dy=aa
 |[],_,_=>rfl
 | .int k::ls,x,h=>by simp only[hC,ml,BS (ls:=ls) (x:=x.2) h];rfl
 | .bool::ls,x,h=>by simp only[hC,ml,BS (ls:=ls) (x:=x.2) h];rfl
 | .str::ls,x,h=>by simp only[hC,ml,BS (ls:=ls) (x:=x.2) h];rfl
 | .bh _::_,_,h=>by cases h
 | .mp _ _ _::_,_,h=>by cases h
 | .fn::_,_,h=>by cases h
def w4:∀{ls:List hJ} {x:h6 (gJ G ls)},(hC ls x).length=ls.length
 |[],_=>rfl
 | .int k::ls,x=>by simp only[hC,ry,w4 (ls:=ls)]
 | .bool::ls,x=>by simp only[hC,ry,w4 (ls:=ls)]
 | .str::ls,x=>by simp only[hC,ry,w4 (ls:=ls)]
 | .bh _::ls,x=>by simp only[hC,ry,w4 (ls:=ls)]
 | .mp _ _ _::ls,x=>by simp only[hC,ry,w4 (ls:=ls)]
 | .fn::ls,x=>by simp only[hC,ry,w4 (ls:=ls)]
def WA {e f:Nat} {z:Nat->bW} {eV m:Mem} {k:Option Nat} {xs b4:List (D e)} {v:af} {lW:List af} (aW:D e->List af) (aD:∀z x ds,(G.T e).rd z x ds->ds=aW x) (aV:∀z x,(G.T e).rd z x (aW x)) (bF:∀x,(aW x).all dy=aa) (ok:lR P f=aa) (bB:b4.length=xs.length)
  (bR:∀(p:Option Addr) (cap:Nat) (gV:List af) (w:World),gV.length=lW.length->Calls P f (.slice p 0 cap::gV).toArray w λx w'=>x= .returned (.tuple #[])/\w'=w)
  (bf:0<xs.length->∀(b:Nat) (L:List af) (t:bV),z b= .dead->m.blk b= .own L t->∀(j:cj) (w:World) (kG:List af) (q:kl),WF m->Rel P j m w->bP (de j) lW kG->j b=J q->zE P f kG xs.length (xs.flatMap aW) (b4.flatMap aW) w q.blk)
  (cG:dU (G.T e) z eV m k xs v):∃cc m',h2 P f (v::lW).toArray m (λu m1=>u=(if ak=aa then cc else .tuple #[])/\m1=m')/\(m'=m\/∃b X,da v=J b/\m'=m.put b X)/\dU (G.T e) z eV m' k b4 cc/\da cc=da v/\(ak=ak->cc=v):=by
 have tg:∀l:List (D e),∀x∈l,(aW x).length=(G.T e).bM:=λl x _=>(G.T e).len z x _ (aV z x);have yO:∀l:List (D e),(l.flatMap aW).all dy=aa:=λl=>by
  grind
 have ayO:xs=[]->(∃p c,v= .slice p 0 c)->h2 P f (v::lW).toArray m (λu m1=>u=(if ak=aa then v else .tuple #[])/\m1=m)/\b4=xs:=λan ⟨p,c,aD⟩=>by subst an aD;exact ⟨h2.sort ok (ar9 p c lW bR) ⟨rfl,rfl⟩,yl bB⟩
 rcases cG.bT with ⟨rfl,rfl⟩|⟨b,f0,L,c,rfl,g1,g2,g3,g4,g5,g6⟩
 ·grind
 ·by_cases hV:xs.length=0
  ·grind
  ·have ax7:=WI (tg xs);have ax8:=WI (tg b4);have hlen:(eY L f0 (b4.flatMap aW)).length=L.length:=mB _ _ _;refine ⟨_,m.put b (.own (eY L f0 (b4.flatMap aW)) (G.T e).tid),h2.sort ok (ar' b f0 xs.length c L (G.T e).tid (xs.flatMap aW) (b4.flatMap aW) lW (λj w kG q dV cY eL bn=>bf (by omega) b L _ g3 g1 j w kG q dV cY eL bn) (by omega) g1 ?_ (by grind) (by grind) (yO _) (yO _)) ⟨rfl,rfl⟩, .inr ⟨b,_,rfl,rfl⟩,⟨.inr ⟨b,f0,eY L f0 (b4.flatMap aW),c,by grind,by simp[Mem.put],g2,g3,by grind,by grind,λi x an=> ?_⟩,cG.fresh⟩,rfl,λ_=>rfl⟩
   ·refine rv λj=> ?_;rw[List.getElem?_take];split
    ·rename_i bn;rw[List.getElem?_drop];have qa:=mm bn;rw[qa];exact acf aD (λi x an=>g6 i x an) (tg xs) j _ qa
    grind
   ·refine ⟨aW x,aV z x,λj u bn=> ?_⟩;have hk:=adJ (tg b4) i j x u an bn;rw[o5 _ _ _ _ (by grind)];have cF:=(fq.1 hk).1;rw[if_pos (by omega),show f0+i*(G.T e).bM+j - f0=i*(G.T e).bM+j by omega]
    grind
def asW {g:Nat} {z:Nat->bW} {vs lW kG:List af} {j:cj} (dE:bP (rel G z vs) [.fn g []] lW) (eL:bP (de j) lW kG):kG=[.func (.func g) #[] #[]]:=by
 match lW,kG,dE,eL with
 |[_],[_],⟨⟨gs,rfl,aT⟩,_⟩,⟨h1,_⟩=>
  have:gs=[]:=by cases gs with
   |nil=>rfl
   |cons _ _=>exact aT.elim
  subst this;obtain ⟨gs,ds,ai,aT,br⟩:=h1;have bX:gs=#[]:=by
   obtain ⟨l⟩:=gs;cases l with
   |nil=>rfl
   |cons _ _=>exact aT.elim
  have e2:ds=#[]:=by
   obtain ⟨l⟩:=ds;cases l with
   |nil=>rfl
   |cons _ _=>exact br.elim
  grind
def avF {t:Nat} (ls:List hJ) (to:D t->h6 (gJ G ls)) (jU:G.T t=fB t (gJ G ls) to) (bl:AV ls=aa) (x0:D t) (key:D t->Int) {ap:Ren} (L:SlLaysF0.n6 P ap) (f g:Nat) (bF:ap.f 6=f) (ok:lR P f=aa)
  (T0:∀w,(isAgg (ap.t 24)).run P w= .ok aa w) (Yo:∀w,(Go.sizeOf (ap.t 24)).run P w= .ok ls.length w) (sW:∀args w,(callFunc g args).run P w= .ok (.enter g args) w) (hh:mn 0 ls.length=aa)
  (kK:∀(x y:D t) (W:World),Calls P g #[.agg (hC ls (to x)).toArray, .agg (hC ls (to y)).toArray] W λe w'=>e= .returned (.int .i64 (p1 (key x) (key y)))/\∃q pz,w'=grow (W.drewN q) pz):ns P G where
 f:=f
 e:=t
 u5:=ak
 acc:=λgV=>match gV with|[.fn A5 []]=>fi A5 g|_=>ak
 qp:=λ_=> @G6 (D t) ⟨x0⟩ λx y=>p1 (key x) (key y)
 run:=λz eV m k vs lW gV xs b4 v oN h bx dE cG=>by
  letI:Inhabited (D t):=⟨x0⟩
  split at oN
  ·obtain rfl:=kA oN;unfold G6 at h;split at h
   ·rename_i cF;cases h;refine WA (λx=>hC ls (to x)) (λz x ds h=>by rw[jU] at h;exact w0 bl h) (λz x=>by rw[jU];exact zu bl) (λx=>BS bl) ok (BU _ (W0 key) xs) (λp cap gV w h=> ?_) (λbR b _ eu _ _ j w kG q dV cY eL bn=> ?_) cG
    ·subst bF;rw[<-dE.length] at h
     match gV,h with
     |[v],_=>exact AnyF.slices_SortFunc_none L p cap v w
    ·have e:=asW dE eL;subst e;exact ar8 L bF T0 Yo (λx=>hC ls (to x)) (λ_=>w4) (λ_=>BS bl) (λx y=>p1 (key x) (key y)) (W0 key) sW kK xs cF (pk hh) bR w q.blk
   ·cases h
  ·cases oN
end
end
end Go.aF
end
section
namespace Go.aF
open Go.Sort Go.Shelf Go.Proofs Go.RowKit
noncomputable section
def ve (xs:List Int):Option (List Int):=if xs.length<4611686018427387904 then J (if xs.Pairwise (·<=·) then xs else xs.mergeSort λx y=>decide (x<=y)) else ae
def uF {aK:Type} (x:List aK):Option (List aK):=wK x λt=>if t=aa then J [] else ab (cD [] x) λy=>J y
def Lg {aK:Type} {x y:List aK} (h:(ab (cD [] x) λy=>J y)=J y):uF x=J y:=
 atc λt aJ=>by
  cases t with
  |false=>grind
  |true=>rw[aJ rfl] at h;exact h
def gL.imp {P:bI} {D:Nat->Type} {X:e3 P D} {d:fS D} {F rq:d.F} (aV:d.ij=ae) (eF:∀r x y,F r x=J y->rq r x=J y) (h:gL X d rq):gL X d F:=gL.or aV (λr x y g=> .inl (eF r x y g)) h h
def aqv {xs b4:List Int} (h:ve xs=J b4):ve (xs.map λx=>x)=J (b4.map λx=>x):=by simp_all
section
variable {aK:Type} [Inhabited aK]
def acj (enc:aK->af) (w:World) (blk off:Nat) (d:List aK):putRow enc w blk off d.toArray=putRow id w blk off (d.map enc).toArray:=by
 unfold putRow putCells
 grind
def acx {enc:aK->af} {w:World} {blk off:Nat} {d:List aK} (h:Holds id w blk off (d.map enc).toArray):Holds enc w blk off d.toArray:=by
 intro j bn;have bn:j<d.length:=by grind
 have:=h j (by grind)
 grind
end
section
variable {P:bI} {D:Nat->Type} {G:l6 D} {t:Nat}
def KC (to:D t->Int) (xs:List (D t)):(xs.flatMap λx=>[mu .i64 (to x)])=(xs.map to).map (mu .i64):=by
 induction xs with
 |nil=>rfl
 |cons x xs a1=>grind
def au2 (to:D t->Int) (aD:∀z x ds,(G.T t).rd z x ds->ds=[.int .i64 (to x)]) (aV:∀z x,(G.T t).rd z x [.int .i64 (to x)]) (qp:List (D t)->Option (List (D t))) (bf:∀{xs b4},qp xs=J b4->ve (xs.map to)=J (b4.map to)) {ap:Ren} (L:Lays.n189 P ap) (f:Nat) (bF:ap.f 189=f) (ok:lR P f=aa):ns P G where
 f:=f
 e:=t
 u5:=ak
 acc:=List.isEmpty
 qp:=λ_=>qp
 run:=λz eV m k vs lW gV xs b4 v oN h bx dE cG=>by
  cases gV with
  |cons _ _=>cases oN
  |nil=>
  cases lW with
  |cons _ _=>exact dE.elim
  |nil=>
  subst bF;have h:=bf h;unfold ve at h;split at h
  ·rename_i cF;have h:((xs.map to).mergeSort λx y=>decide (x<=y))=b4.map to:=by
    have h:=kB.inj h;split at h
    ·rename_i bf;rw[<-h];exact List.mergeSort_of_pairwise (bf.imp λh=>decide_eq_true h)
    ·exact h
   have hlen:b4.length=xs.length:=by have:=congrArg List.length h;simpa using this.symm
   refine WA (λx=>[.int .i64 (to x)]) aD aV (λx=>rfl) ok hlen (λp cap gV w h=> ?_) (λbR b _ eu _ _ j w kG q dV cY eL bn=> ?_) cG
   ·cases gV with
    |cons _ _=>simp at h
    |nil=>exact Any.slices_Sort_int_none L p cap w
   ·cases kG with
    |cons _ _=>exact eL.elim
    |nil=>
    rw[KC,KC];refine Wh (by simp[hlen]) (by simpa using bR) λoff cap hblk hH=> ?_;have ay:=Any.slices_Sort_int L q.blk off cap (xs.map to) w (acx hH) hblk cF;rw[ug] at ay;refine ay.mono ?_;rintro e w' ⟨rfl,n,os,rfl⟩;exact ⟨rfl,n,os,by rw[<-h,acj]⟩
  ·cases h
def afh {e:Nat} (ti:dP P G e) (n9:P.follows .mixedOrders=aa) {fn:Func} (f:Nat) (bF:P.funcs[f]? =J fn) (JK:fn.body.isSome=aa) (eT:lR P f=aa) (yU:iJ 3 fn.ntmps=aa) (oR:fn.results.toList=[.tmp 6]) (B:Tu t (en fn)) (aJ:P.underlying t=J (.slice e)):ns P G where
 f:=f
 e:=e
 u5:=aa
 acc:=λgV=>match gV with|[.c (.int .i64 _), .c (.int .i64 _)]=>aa|_=>ak
 qp:=λgV xs=>match gV with|[.c (.int _ a), .c (.int _ b)]=>AY xs a b|_=>ae
 run:=λz eV m k vs lW gV xs b4 v oN h bx dE cG=>by
  split at oN
  ·rename_i a b
   match lW,dE with
   |[_,_],⟨rfl,rfl,_⟩=>
    simp only[AY] at h;split at h
    ·rename_i ay;cases h;obtain ⟨bR,h1,rfl⟩:=ay;obtain ⟨n,rfl⟩:=Int.eq_ofNat_of_zero_le bR;obtain ⟨b,Y,cc,g1,g2,g3,g4⟩:=ase (T:=G.T e) n9 bF JK eT (pk yU) oR B (by rw[ti.tid];exact aJ) (by rw[ti.tid];exact ti.az) ti.bx ti.dw ti.et ti.cN cG (a:=n) (by omega);exact ⟨cc,_,g3.mono λu m' h=>⟨by rw[if_pos rfl];exact h.1,h.2⟩, .inr ⟨b,Y,g1,rfl⟩,g4,by rw[g1,g2],λh=>by cases h⟩
    ·cases h
  ·cases oN
end
end
end Go.aF
end
section
namespace Go.aF
open Go.Sort Go.Shelf Go.Proofs Go.RowKit
noncomputable section
abbrev pW (n:Nat):Type:={x:Int // 0<=x/\x<n}
def o1 (eZ xs:List Int):Option (List Int):=
 if xs=[] then J [] else
 if h:(∀x∈xs,0<=x/\x<eZ.length)/\(∀b∈eZ,0<=b/\b<4294967296)/\xs.length<4611686018427387904/\0<eZ.length then
  J ((@ou (pW eZ.length) ⟨⟨0,by omega⟩⟩ (λx y=>eZ.getD x.1.toNat 0 - eZ.getD y.1.toNat 0) (xs.pmap Subtype.mk h.1)).map Subtype.val)
 else ae
def W1 {aK:Type} (f:aK->Int):SWO (ltOf λx y=>f x - f y):=by
 have e:∀x y,ltOf (λx y=>f x - f y) x y=decide (f x<f y):=λx y=>by grind [ltOf]
 refine ⟨λx=> ?_,λx y z h1 ai=> ?_,λx y z h1 ai=> ?_⟩
 ·grind
 ·grind
 grind
def abZ {eZ xs b4:List Int} (h:o1 eZ xs=J b4):b4.Perm xs:=by
 unfold o1 at h;split at h
 ·grind
 ·split at h
  ·rename_i ay;cases h
   letI:Inhabited (pW eZ.length):=⟨⟨0,by omega⟩⟩
   have:=(acL (λ(x y:pW eZ.length)=>eZ.getD x.1.toNat 0 - eZ.getD y.1.toNat 0) (W1 _) (xs.pmap Subtype.mk ay.1)).map Subtype.val;simp_all [List.map_pmap]
  grind
def aqp {eZ xs b4:List Int} (h:o1 eZ xs=J b4):o1 eZ (xs.map λx=>x)=J (b4.map λx=>x):=by simp_all
section
variable {P:bI} {ap:Ren} {f g bM o:Nat} {eZ xs b4:List Int} {w:World} {lg cu kj dz cap blk:Nat}
def Wr {aK:Type} [Inhabited aK] {enc:aK->af} {off n:Nat} {d:Array aK} {os:Array Obj} {c i:Nat} {v:af} (h:w.cell? ⟨c,i,ae⟩=J v) (ay:c≠blk):(sortWorld enc w blk off n d os).cell? ⟨c,i,ae⟩=J v:=by
 grind [rG,sortWorld,grow,putRow,mapBlock,TL]
def asu [Inhabited (pW eZ.length)] (L:SlLaysF.n6 P ap) (sW:∀args w,(callFunc g args).run P w= .ok (.enter g args) w)
  (kK:∀(x y bL b:Int) (lg cu kj dz n cap:Nat) (W:World),W.cell? ⟨lg,cu,ae⟩=J (.slice (J ⟨kj,dz,ae⟩) n cap)->0<=x->x<n->0<=y->y<n->W.cell? ⟨kj,dz+x.toNat*bM+o,ae⟩=J (.int .i64 bL)->W.cell? ⟨kj,dz+y.toNat*bM+o,ae⟩=J (.int .i64 b)->
   Calls P g #[.int .i64 x, .int .i64 y, .pointer (J ⟨lg,cu,ae⟩)] W λe w'=>e= .returned (.int .i64 (Aw.wrap (bL - b)))/\∃q pz,w'=grow (W.drewN q) pz)
  (c2:∀b∈eZ,0<=b/\b<4294967296) (h1:w.cell? ⟨lg,cu,ae⟩=J (.slice (J ⟨kj,dz,ae⟩) eZ.length cap)) (ai:∀(i:Nat) (b:Int),eZ[i]? =J b->w.cell? ⟨kj,dz+i*bM+o,ae⟩=J (.int .i64 b)) (tp:lg≠blk) (mX:kj≠blk) {zs:List (pW eZ.length)} (VD:0<zs.length) (cF:zs.length<4611686018427387904):
  zE P (ap.f 6) [.func (.func g) #[] #[.pointer (J ⟨lg,cu,ae⟩)]] zs.length (zs.map λx=>mu .i64 x.1) ((ou (λ(x y:pW eZ.length)=>eZ.getD x.1.toNat 0 - eZ.getD y.1.toNat 0) zs).map λx=>mu .i64 x.1) w blk:=by
 have hO:SWO (ltOf λ(x y:pW eZ.length)=>eZ.getD x.1.toNat 0 - eZ.getD y.1.toNat 0):=W1 _;have JQ:=BU _ hO zs;refine Wh (by grind) (by grind) λoff ams hblk hH=> ?_;refine (Any.slices_SortFunc_eq L (λx:pW eZ.length=>mu .i64 x.1) (λx=>rfl) _ hO g #[.pointer (J ⟨lg,cu,ae⟩)] blk off ams zs.toArray w sW (λn os Z8 _ x y=> ?_) (acx hH) hblk (by grind)).mono ?_
 ·have aap:eZ[x.1.toNat]? =J (eZ.getD x.1.toNat 0):=by have:=x.2;simp_all
  have aaq:eZ[y.1.toNat]? =J (eZ.getD y.1.toNat 0):=by have:=y.2;simp_all
  have bL:=c2 _ (mM aap);have b:=c2 _ (mM aaq);have:=kK x.1 y.1 _ _ lg cu kj dz eZ.length cap (sortWorld (λx:pW eZ.length=>mu .i64 x.1) w blk off n Z8 os) (Wr h1 tp) x.2.1 x.2.2 y.2.1 y.2.2 (Wr (ai _ _ aap) mX) (Wr (ai _ _ aaq) mX);rw[aG.wrap_i64,show (eZ.getD x.1.toNat 0 - eZ.getD y.1.toNat 0+9223372036854775808)%18446744073709551616 - 9223372036854775808=eZ.getD x.1.toNat 0 - eZ.getD y.1.toNat 0 by omega] at this;exact this
 ·rintro e w' ⟨rfl,n,os,rfl⟩;refine ⟨rfl,n,os, ?_⟩;show grow (putRow _ _ blk off _) os=_;rw[<-acj];rfl
def asv (L:SlLaysF.n6 P ap) (bF:ap.f 6=f) (sW:∀args w,(callFunc g args).run P w= .ok (.enter g args) w)
  (kK:∀(x y bL b:Int) (lg cu kj dz n cap:Nat) (W:World),W.cell? ⟨lg,cu,ae⟩=J (.slice (J ⟨kj,dz,ae⟩) n cap)->0<=x->x<n->0<=y->y<n->W.cell? ⟨kj,dz+x.toNat*bM+o,ae⟩=J (.int .i64 bL)->W.cell? ⟨kj,dz+y.toNat*bM+o,ae⟩=J (.int .i64 b)->
   Calls P g #[.int .i64 x, .int .i64 y, .pointer (J ⟨lg,cu,ae⟩)] W λe w'=>e= .returned (.int .i64 (Aw.wrap (bL - b)))/\∃q pz,w'=grow (W.drewN q) pz)
  (h:o1 eZ xs=J b4) (h1:w.cell? ⟨lg,cu,ae⟩=J (.slice (J ⟨kj,dz,ae⟩) eZ.length cap)) (ai:∀(i:Nat) (b:Int),eZ[i]? =J b->w.cell? ⟨kj,dz+i*bM+o,ae⟩=J (.int .i64 b)) (tp:lg≠blk) (mX:kj≠blk) (VD:0<xs.length):
  zE P f [.func (.func g) #[] #[.pointer (J ⟨lg,cu,ae⟩)]] xs.length (xs.map (mu .i64)) (b4.map (mu .i64)) w blk:=by
 subst bF;unfold o1 at h;rw[if_neg (by intro e;simp_all)] at h;split at h
 ·rename_i ay;cases h
  letI:Inhabited (pW eZ.length):=⟨⟨0,by omega⟩⟩
  have:=asu (zs:=xs.pmap Subtype.mk ay.1) L sW kK ay.2.1 h1 ai tp mX (by grind) (by grind);simp_all [List.map_pmap]
 grind
end
section
variable {P:bI} {D:Nat->Type} {G:l6 D} {e ti:Nat}
def au1 (to:D e->Int) (aD:∀z x ds,(G.T e).rd z x ds->ds=[.int .i64 (to x)]) (aV:∀z x,(G.T e).rd z x [.int .i64 (to x)]) (key:D ti->Int) (o:Nat) (hk:∀z x ds,(G.T ti).rd z x ds->ds[o]? =J (.int .i64 (key x)))
  (qp:List Int->List (D e)->Option (List (D e))) (bf:∀{eZ xs b4},qp eZ xs=J b4->o1 eZ (xs.map to)=J (b4.map to)) {ap:Ren} (L:SlLaysF.n6 P ap) (f g:Nat) (bF:ap.f 6=f) (ok:lR P f=aa) (sW:∀args w,(callFunc g args).run P w= .ok (.enter g args) w)
  (kK:∀(x y bL b:Int) (lg cu kj dz n cap:Nat) (W:World),W.cell? ⟨lg,cu,ae⟩=J (.slice (J ⟨kj,dz,ae⟩) n cap)->0<=x->x<n->0<=y->y<n->W.cell? ⟨kj,dz+x.toNat*(G.T ti).bM+o,ae⟩=J (.int .i64 bL)->W.cell? ⟨kj,dz+y.toNat*(G.T ti).bM+o,ae⟩=J (.int .i64 b)->
   Calls P g #[.int .i64 x, .int .i64 y, .pointer (J ⟨lg,cu,ae⟩)] W λe w'=>e= .returned (.int .i64 (Aw.wrap (bL - b)))/\∃q pz,w'=grow (W.drewN q) pz):ns P G where
 f:=f
 e:=e
 u5:=ak
 acc:=λgV=>match gV with|[.fn A5 [(_,[.bh eu _,_])]]=>fi A5 g&&fi eu ti|_=>ak
 qp:=λgV xs=>match gV with|[.fn _ [(_,[.bh eu is,_])]]=>if h:eu=ti then qp ((h▸is:List (D ti)).map key) xs else ae|_=>ae
 run:=λz eV m k vs lW gV xs b4 v oN h bx dE cG=>by
  split at oN
  ·rename_i A5 t0 eu is c;simp only[fx] at oN;have h1:=kA oN.1;have ai:=kA oN.2;subst h1 ai;simp only[dif_pos] at h;have aw:=bf h;have hlen:b4.length=xs.length:=by have:=(abZ aw).length_eq;simpa using this
   match lW,dE with
   |[axv],⟨s4,_⟩=>
   refine WA (λx=>[.int .i64 (to x)]) aD aV (λx=>rfl) ok hlen (λp cap gV w h=> ?_) (λbR b aw1 eu VH jj j w kG q dV cY eL bn=> ?_) cG
   ·subst bF
    match gV,h with
    |[v],_=>exact AnyF.slices_SortFunc_none (P:=P) (ρ:=ap) {L with} p cap v w
   ·match kG,eL with
    |[jf],⟨anx,_⟩=>
    obtain ⟨gs,rfl,wk⟩:=s4
    match gs,wk with
    |[axx],⟨s5,_⟩=>
    obtain ⟨js,iw,ds,rfl,Bh,oP⟩:=s5;obtain ⟨aec,Wk,rfl,Vw,Vx⟩:=anx;have bX:aec=#[]:=by
     obtain ⟨l⟩:=aec;cases l with
     |nil=>rfl
     |cons _ _=>exact Vw.elim
    subst bX;obtain ⟨Wk⟩:=Wk
    match Wk,Vx with
    |[Z2],⟨anA,_⟩=>
    obtain ⟨ia,_,p6,rfl⟩:=anA
    match ds,oP with
    |[d0,d1],⟨anF,_,_⟩=>
    have hh:0<(is.map key).length:=by
     unfold o1 at aw;rw[if_neg (by
      intro e;have:(xs.map to).length=0:=by rw[e];rfl
      simp at this;rw[this] at bR;simp at bR)] at aw
     split at aw
     ·rename_i ay;exact ay.2.2.2
     ·cases aw
    have u3:m.load js (iw+0)=J d0:=KO bx (Bh 0 d0 rfl);obtain ⟨bz,c1,c2⟩:=cY.load js ia _ d0 p6 u3;rcases anF with ⟨_,rfl⟩|⟨jR,off,c3,rfl,ao',_,mb⟩
    ·simp at hh
    have qc:z js≠ .dead:=(w5 (Bh 0 _ rfl)).ne;obtain ⟨nU,_,Bb,fZ⟩:=c2;have an:∃cap,bz= .slice (J ⟨nU.blk,nU.db+off,ae⟩) (is.map key).length cap:=by
     have aR:is.length=(is.map key).length:=by simp
     rcases fZ with ⟨_,ay⟩|⟨_,_,_,_,_,_,ay⟩|⟨_,hV,_⟩|⟨_,hV,_⟩|⟨_,_,_,_,_,_,_,_,_,ay⟩
     ·exact ⟨_,by rw[ay,aR]⟩
     ·exact ⟨_,by rw[ay,aR]⟩
     ·omega
     ·omega
     ·exact ⟨_,by rw[ay,aR]⟩
    obtain ⟨cap,rfl⟩:=an;have aox:(m.blk b).iO=aa:=by rw[jj];rfl
    have kM:∀{x:Nat},(z x).iD->(m.blk x).live=aa:=λ{x} an=>by have:=(bx x an.ne).1;rw[an.mem] at this;rw[this];cases BA:z x<;>first|rfl|(rw[BA] at an;exact an.elim)
    have ne:∀{x:Nat} {E:kl},j x=J E->(z x).iD->E.blk≠q.blk:=λ{x E} bp an he=>by have:=cY.inj b x q E bn bp aox (kM an) he.symm;subst this;exact an.ne VH
    have Bu:=asv (w:=w) (lg:=ia.blk) (cu:=ia.db+(iw+0)) (kj:=nU.blk) (dz:=nU.db+off) (blk:=q.blk) L bF sW kK aw c1 (λi nZ az=> ?_) (ne p6 (w5 (Bh 0 _ rfl))) (ne Bb ao') (by simpa using bR)
    ·rw[KC,KC];rw[ug] at Bu;exact Bu
    ·rw[sH] at az;obtain ⟨a,bl,rfl⟩:=vT.1 az;obtain ⟨cs,cL,c9⟩:=mb i a bl;obtain ⟨bz,fo,k4⟩:=cY.load jR nU _ _ Bb (KO bx (c9 o _ (hk z a cs cL)));rw[B0 rfl k4] at fo;rw[<-fo];congr 2;omega
  ·cases oN
end
end
end Go.aF
end
