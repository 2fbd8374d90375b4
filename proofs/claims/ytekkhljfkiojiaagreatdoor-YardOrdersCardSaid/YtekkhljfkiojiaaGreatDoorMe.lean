/- A part of the proof of YardOrders; no condition of our own. -/
import Derived.Recover
import Derived.Shelf.SlSortCmp.NoneTotal
import Derived.Shelf.SlicesG.Cmp
import Derived.Shelf.Sort.Plain
import Derived.Shelf.Slices.In.SortNone
import Derived.Shelf.SlSortCmp.Whole1
import Derived.Test.YtekkhljfkiojiaaGreatDoorMd
set_option linter.defProp false
set_option linter.unusedSimpArgs false
set_option linter.unusedVariables false
set_option linter.unusedSectionVars false
open Array renaming replicate->nj
open Bool renaming and_eq_true->fx,and_eq_true_iff->tY,and_self->vK,not_eq_true'->Aq,or_eq_true->Ar,false->ak,true->aa
open Classical renaming choose->YA
open Go renaming IntKind->aG,Operand->bS,Program->bI,TypeId->bV,Value->af
open Go.Act renaming put->qB
open Go.IntKind renaming i64->Aw
open Go.Lib renaming bitLen->Ty
open Go.Region renaming wanted->qK
open Go.Sort renaming ahead->TL
open Go.Value renaming int->mu
open Go.World renaming cell?->rG
open List renaming all_cons->ml,all_eq_true->iA,ext_getElem?->rv,getElem?_append_left->kS,getElem?_append_right->kT,getElem?_cons_succ->qH,getElem?_eq_getElem->mm,getElem?_eq_none->Tz,getElem?_eq_some_iff->fq,getElem?_map->sH,length_append->sI,length_cons->ry,length_map->ug,map_congr_left->YW,mem_append->kU,mem_cons->ha,mem_cons_of_mem->kn,mem_cons_self->oG,mem_map->l2,mem_of_getElem?->mM,range->mN
open Nat renaming beq->fi,ble->iJ,blt->mn,eq_of_beq_eq_true->kA,le_of_ble_eq_true->pk,le_refl->e4,le_trans->jd,lt_of_lt_of_le->hS,zero_add->lH
open Option renaming bind->ab,getD_some->IV,map_eq_some_iff->vT,map_some->vU,some->kB,none->ae,some->J
namespace Go.aF
section
structure h4(D:Nat->Type) where
 path:List Nat
 ins:List dt
 fg:List (Nat×bc D)
 ks:List Nat
 iM:List (lF D)
 keep:List Nat
noncomputable section
section
variable {P:bI}{D:Nat->Type}
def h4.F(p:h4 D):Type:=ft D p.ins->Option (so p.iM)
def gU:List dt->Nat|[]=>0|.o _ _::a=>gU a+1|_::a=>gU a
def tJ:bc D->Bool|.c (.own _)|.box _ _|.arr _|.c .gE|.c .za|.c .oY|.undef|.un|.c (.int _ _)|.c (.bool _)|.fn _ []|.hd _ [.own _] _|.fn _ [(_,[.own _])]=>aa|_=>ak
def GY:bc D->Option Nat|.c (.own j)|.box j _|.arr j|.hd _ [.own j] _|.fn _ [(_,[.own j])]=>J j|_=>ae
def Jy(n:Nat)(a:List Nat)(s:bc D):Bool:=tJ s&&match GY s with|some j=>iJ n j|| !Nat.beq (a.getD j 0) 0|none=>aa
def q8:List Nat->Nat->Option Nat
 |[],_=>ae
 |a::b,i=>if fi a i=aa then J 0 else(match q8 b i with|some j=>J (j+1)|none=>ae)
variable (X:e3 P D)
def sd(e:Nat->Nat)(d b:List Nat)(a:List dt)(y:ft D a):Nat->List (ba D)->List (ba D)
 |_,[]=>[]
 |i,o::O=>(match q8 d i with|some j=>(if b.getD j 0=1 then o else if b.getD j 0=2 then kc X e a y j else .dead)|none=>if o.live=aa then .dead else o)::sd e d b a y (i+1) O
def mkOr(b:Nat->Nat):(a:List dt)->ft D a->List (ba D)|[],_=>[]|.o _ c::a,x=>cw.gO X b c x.1 ak::mkOr b a x.2|.v _ _::a,x=>mkOr b a x.2|.u _ _::a,x=>mkOr b a x.2
def num(a:List Nat)(n N:Nat)(j:Nat):Nat:=if mn j n=aa then a.getD j 0 else N+(j-n)
def T1(p:h4 D)(b:List Nat)(N:Nat)(a:lF D)(y:ft D a.outs)(E:List (Nat×bc D)):List (Nat×bc D):=hc X a.outs y++((a.fg.map λq=>(q.1,pE (num b (gU p.ins) N) q.2))++p.keep.map λd=>(d,eI E d))
def uE(p:h4 D)(a:List Nat)(b:List (ba D))(d:lF D)(y:ft D d.outs):List (ba D):=sd X (num a (gU p.ins) b.length) a p.ks d.outs y 0 b++mkOr X (num a (gU p.ins) b.length) d.outs y
def h4.G2(p:h4 D)(F:p.F)(E:List (Nat×bc D))(O:List (ba D)){b:Type}(K:fG->List (Nat×bc D)->List (ba D)->Option b):Option b:=match sl X p.ins p.fg E O with|some (x,d,e)=>ab (F x) λf=>Jb p.iM f λa y=>K a.ex (T1 X p d e.length a (gn _ y) E) (uE X p d e a (gn _ y))|none=>ae
def h4.run(p:h4 D)(F:p.F)(E:List (Nat×bc D))(O:List (ba D)){a:Type}(K:fG->List (Nat×bc D)->List (ba D)->Option a):Option a:=p.G2 X F (jJ p.ins E O).1 (jJ p.ins E O).2 K
def h4.zd(p:h4 D)(F:p.F):mP D where
 path:=p.path
 fits:=λE O=>(sl X p.ins p.fg (jJ p.ins E O).1 (jJ p.ins E O).2).isSome
 run:=λE O {_} K=>p.run X F E O K
def Kk(n:Nat)(a:List Nat)(r:Nat):Bool:=iJ n r|| !Nat.beq (a.getD r 0) 0
def zA(n:Nat)(a:List Nat):Nat->List dt->Bool|_,[]=>aa|j,.o _ c::b=>(!Nat.beq (a.getD j 0) 1||c.hs.all (Kk n a))&&zA n a (j+1) b|j,_::b=>zA n a j b
def h4.p0(B:Code)(p:h4 D):Bool:=((p.iM.all λee=>ee.outs.all λi=>i.y9&&i.hs.all (Kk (gU p.ins) p.ks))&&zA (gU p.ins) p.ks 0 p.ins)&&(p.iM.all (λee=>ee.fg.all λq=>Jy (gU p.ins) p.ks q.2)&&p.keep.all λd=> !(q6 (sub B p.path)).contains d)
def y7:Nat->List Nat->List Nat->List (ba D)->Bool
 |_,[],_,_=>aa
 |j,k::b,a,O=>(if k=0 then aa else oZ (a[j]?) j&&(if k=1 then(match O[j]? with|some o=> !o.nd|none=>ak) else aa))&&y7 (j+1) b a O
def aeY(p:h4 D)(F:p.F)(a:fG)(E:List (Nat×bc D))(O:List (ba D)):Option (so p.iM):=if a=.normal then match sl X p.ins p.fg (jJ p.ins E O).1 (jJ p.ins E O).2 with|some (x,b,d)=>if y7 0 p.ks b d=aa then F x else ae|none=>ae else sk X (gU p.ins) p.ks p.iM a E O
end
section
variable {P:bI}{D:Nat->Type}{X:e3 P D}{z z':Nat->bW}{e m m':Mem}{k:Option Nat}{vs vs':List af}{fr:Nat->af}{E:List (Nat×bc D)}{O cr:List (ba D)}
def aeE{n:Nat}{a:List Nat}{r:Nat}(h:Kk n a r=aa):n<=r\/a.getD r 0≠0:=by
 simp only[Kk,Ar,Aq] at h;rcases h with h|h
 ·simp_all
 ·refine .inr λb=>?_;simp_all
theorem BJ{n:Nat}{ks:List Nat}:∀{aQ:List dt}{x:ft D aQ}{i j:Nat}{q:yh D},zA n ks i aQ=aa->(cos aQ x)[j]?=J q->ks.getD (i+j) 0=1->∀r∈q.c.hs,n<=r\/ks.getD r 0≠0
 |[],_,_,_,_,_,h,_=>by grind[cos]
 |.v d c::aQ,x,i,j,q,hk,h,h1=>BJ (aQ:=aQ) (x:=x.2) hk h h1
 |.u d c::aQ,x,i,j,q,hk,h,h1=>BJ (aQ:=aQ) (x:=x.2) hk h h1
 |.o d c::aQ,x,i,0,q,hk,h,h1=>by simp only[cos,List.getElem?_cons_zero] at h;cases h;simp only[zA,fx] at hk;intro r aV;have ai:=hk.1;rw[Nat.add_zero] at h1;rw[h1] at ai;exact aeE (iA.1 (by simp_all) r aV)
 |.o d c::aQ,x,i,j+1,q,hk,h,h1=>by simp only[cos,qH] at h;simp only[zA,fx] at hk;exact BJ (aQ:=aQ) (x:=x.2) hk.2 h (by grind)
def adl{cJ nR:Nat->Nat}{l:List (Nat×Nat)}(h:∀p∈l,cJ p.2=nR p.2):∀{cs:List (cv D)}{i:Nat},qi cJ l i cs=qi nR l i cs
 |[],_=>rfl
 |c::cs,i=>by
  simp only[qi,adl h (cs:=cs)];congr 1;cases bF:nw l i with
  |none=>rfl
  |some n=>simp only;rw[h _ (B1 bF)]
def ata{a b:Nat->Nat}{c:cw}{x:c.ty D}{w:Bool}(h:∀r∈c.hs,a r=b r):cw.gO X a c x w=cw.gO X b c x w:=by
 cases c with
 |bL t l=>simp only[cw.gO];rw[adl λp g=>h p.2 (l2.2 ⟨p,g,rfl⟩)]
 |uI t f d=>simp only[cw.gO];rw[show d.map a=d.map b from YW λn e=>h n e]
 |_=>rfl
theorem va{a:Nat->Nat}:∀{aQ:List dt}{x:ft D aQ},mkOr X a aQ x=(cos aQ x).map λq=>cw.gO X a q.c q.x ak
 |[],_=>rfl
 |.o d c::aQ,x=>by show cw.gO X a c x.1 ak::mkOr X a aQ x.2=cw.gO X a c x.1 ak::(cos aQ x.2).map _;rw[va]
 |.v d c::aQ,x=>va (aQ:=aQ)
 |.u d c::aQ,x=>va (aQ:=aQ)
theorem me:∀{aQ:List dt}{x:ft D aQ},(eU X aQ x).length=gU aQ
 |[],_=>rfl
 |.v _ _::aQ,x=>me (aQ:=aQ)
 |.u _ _::aQ,x=>me (aQ:=aQ)
 |.o _ _::aQ,x=>by show((eU X aQ x.2).length+1)=gU aQ+1;rw[me]
def XI(X:e3 P D)(p:h4 D)(x:ft D p.ins)(h:so p.iM)(z:Nat->bW)(e:Mem)(k:Option Nat)(dB:List af)(i:fG)(g:Nat->af)(j:Mem):Prop:=
 ∃b d a y,a∈p.iM/\i=a.ex/\(∀{f:Type}(K:(x:lF D)->mz D x.outs->f),Jb p.iM h K=K a y)/\dT e.next z b/\
  b9 X.G (ly X p.ks (eU X p.ins x) a.outs (gn _ y)) b e j k (dB++d)/\∀q∈hc X a.outs (gn _ y)++a.fg,rel X.G b (dB++d) q.2 (g q.1)
def sB(f:fG->fG)(X:e3 P D)(B:Code)(p:h4 D)(F:p.F):Prop:=∀(x:ft D p.ins)(a:so p.iM){z:Nat->bW}{e m:Mem}{k:Option Nat}{dB:List af}{b:Nat->af},
 F x=J a->b9 X.G (eU X p.ins x) z e m k dB->fj X z dB (hc X p.ins x++p.fg) b->W P (sub B p.path) (λd=>XI X p x a z e k dB (f d)) b m
def qF(X:e3 P D)(B:Code)(p:h4 D)(F:p.F):Prop:=∀(x:ft D p.ins)(a:so p.iM){z:Nat->bW}{e m:Mem}{k:Option Nat}{dB:List af}{b:Nat->af},
 F x=J a->b9 X.G (eU X p.ins x) z e m k dB->fj X z dB (hc X p.ins x++p.fg) b->W P (sub B p.path) (XI X p x a z e k dB) b m
def sB.of{d:fG->fG}(t:iV X){B:Code}{us:List (mP D)}{p:h4 D}{F:p.F}(Q:∀u∈us,p.path.length<u.path.length->qJ X B u)
  (A:∀x,j8 X us calm aa p.path.reverse (sub B p.path) (hc X p.ins x++p.fg) (eU X p.ins x) (λb=>sk X (gU p.ins) p.ks p.iM (d b))=F x):sB d X B p F:=by
 intro x E z e m k w V C a l;have h:=A x;rw[C] at h;have i:w.length=gU p.ins:=by rw[a.len,me]
 refine(Lh t (L:=p.path.length) Q (sub B p.path) aa p.path.reverse _ _ _ E (by grind) (by simp) (by simp) a l h).mono ?_;rintro b U m1 ⟨T,jK,Z,S,j,P,g,f,n,r⟩;obtain⟨H,y,M,N,Y,O⟩:=KG r;obtain⟨R,I,s,q,K⟩:=B8 (ks:=p.ks) (x:=x) j g a.len f n (by rw[i];omega);exact⟨R,I,H,y,M,N,O,P.trans s,q,K⟩
def qF.of(r:iV X){B:Code}{us:List (mP D)}{p:h4 D}{F:p.F}(O:∀u∈us,p.path.length<u.path.length->qJ X B u)
  (t:∀x,j8 X us calm aa p.path.reverse (sub B p.path) (hc X p.ins x++p.fg) (eU X p.ins x) (sk X (gU p.ins) p.ks p.iM)=F x):qF X B p F:=by
 intro x A z e m k s U w a i;have h:=t x;rw[w] at h;have f:s.length=gU p.ins:=by rw[a.len,me]
 refine(Lh r (L:=p.path.length) O (sub B p.path) aa p.path.reverse _ _ _ A (by grind) (by simp) (by simp) a i h).mono ?_;rintro S T m1 ⟨R,Z,Y,Q,g,N,d,b,j,n⟩;obtain⟨C,y,I,K,V,M⟩:=KG n;obtain⟨P,E,q,l,H⟩:=B8 (ks:=p.ks) (x:=x) g d a.len b j (by rw[f];omega);exact⟨P,E,C,y,I,K,M,N.trans q,l,H⟩
theorem XU{s:bc D}{v:af}{cJ:Nat->Nat}(h:tJ s=aa)(a:rel X.G z vs s v)(f:∀(j:Nat)(u:af),GY s=J j->vs[j]?=J u->vs'[cJ j]?=J u):rel X.G z vs' (pE cJ s) v:=by
 unfold tJ at h;split at h
 ·exact⟨f _ _ rfl a.1,a.2⟩
 ·obtain⟨b,e,d⟩:=a;exact⟨b,f _ _ rfl e,d⟩
 ·obtain⟨b,l,e,d⟩:=a;exact⟨b,l,f _ _ rfl e,d⟩
 ·exact a
 ·exact a
 ·exact a
 ·exact a
 ·exact a
 ·exact a
 ·exact a
 ·obtain⟨g,e,d⟩:=a;refine⟨g,e,?_⟩;cases g with
  |nil=>trivial
  |cons _ _=>exact d.elim
 ·exact Wz (λu=>f _ u rfl) a
 ·obtain⟨g,e,d⟩:=a;exact⟨g,e,ada (λu=>f _ u rfl) d⟩
 grind
theorem adO{n:Nat}{b:List Nat}{s:bc D}(h:Jy n b s=aa):tJ s=aa/\∀j,GY s=J j->n<=j\/b.getD j 0≠0:=by
 simp only[Jy,fx] at h;refine⟨h.1,λj d=>?_⟩;have a:=h.2;rw[d] at a;simp only[Ar,Aq] at a;rcases a with a|a
 ·simp_all
 ·refine .inr λe=>?_;simp_all
def K7:∀{b:List Nat}{i j:Nat}{a:List Nat},y7 i b a O=aa->b.getD j 0≠0->a[i+j]?=J (i+j)/\(b.getD j 0=1->∃o,O[i+j]?=J o/\o.nd=ak)
 |[],i,j,a,_,h=>by grind
 |k::b,i,0,a,d,h=>by
  grind[y7,zx]
 |k::b,i,j+1,a,d,h=>by
  simp only[y7,fx] at d;simp only[List.getD_cons_succ] at h⊢;have:=K7 d.2 h
  grind
def auU{a:List dt}{y:ft D a}{b:List Nat}{A B:List (ba D)}(d:A.length=B.length)(h:∀j,b.getD j 0=1->A[j]?=B[j]?):o0 X a y 0 b A=o0 X a y 0 b B:=by
 apply rv
 grind[xd,q5]
def qF.loop(cW:iV X){B c:Code}{us:List (mP D)}{p:h4 D}{F:Nat->p.F}(mS:sub B p.path=.loop c)(hk:p.p0 B=aa)(te:∀u∈us,p.path.length+1<u.path.length->qJ X B u)(bR:∀x,F 0 x=ae)
  (eB:∀n x,j8 X us calm aa (0::p.path.reverse) c (hc X p.ins x++p.fg) (eU X p.ins x) (aeY X p (F n))=F (n+1) x):∀n,qF X B p (F n):=by
 intro n;induction n with
 |zero=>intro x eX z e m k dB fr eF;grind
 |succ n a1=>
  intro x eX z e m k dB fr eF aN bp;have h:=eB n x;rw[eF] at h;rw[mS];have bB:dB.length=gU p.ins:=by rw[aN.len,me]
  refine W.apr ((Lh cW (L:=p.path.length+1) te c aa (0::p.path.reverse) _ _ _ eX (by rw[List.reverse_cons,List.reverse_reverse,<-WZ,mS];exact sc c) (by simp) (by simp) aN bp h).mono ?_);rintro ex fY m1 ⟨dv,jK,ia,cu,bR,h1,ai,aT,br,cK⟩;have other:sk X (gU p.ins) p.ks p.iM ex ia cu=J eX->XI X p x eX z e k dB ex fY m1:=by intro cK;obtain⟨ee,y,g1,g2,g3,g4⟩:=KG cK;obtain⟨z2,ep,cL,c9,fo⟩:=B8 (ks:=p.ks) (x:=x) bR ai aN.len aT br (by rw[bB];omega);exact⟨z2,ep,ee,y,g1,g2,g4,h1.trans cL,c9,fo⟩
  cases ex with
  |exit i=>exact other cK
  |ret=>exact other cK
  |normal=>
   show W P (.loop c) _ fY m1;have cK:(match sl X p.ins p.fg (jJ p.ins ia cu).1 (jJ p.ins ia cu).2 with
    |some (x,bO,dz)=>if y7 0 p.ks bO dz=aa then F n x else ae
    |none=>ae)=J eX:=cK
   split at cK
   ·rename_i jL bO dz aV;obtain⟨Vi,p7⟩:=gz cK;obtain⟨awu,dX,ix,pH,G8⟩:=mf (aQ:=p.ins) aT br;obtain⟨z2,Yf,i1,i2,k0⟩:=ae4 pH G8 aV;have i1:=dX.trans i1;have ai:∀(i:Nat)(u:af),dB[i]?=J u->awu[i]?=J u:=λi u hu=>ix i u (ai i u hu);have aaJ:=a1 jL eX p7 k0.abD k0.afm;rw[mS] at aaJ;refine aaJ.mono ?_;rintro ex ic m2 ⟨z3,ep,ee,y,g1,g2,g3,g4,g5,g6⟩;have same:∀j,p.ks.getD j 0≠0->∀u,Yf[j]?=J u->dB[j]?=J u:=by
     intro j bn u hu;obtain⟨s1,_⟩:=K7 Vi bn;rw[lH] at s1;obtain⟨xz,t1,t2⟩:=k0.ep _ _ s1;rw[hu] at t1;cases t1;have cF:j<dB.length:=by have:=(fq.1 hu).1;rw[k0.len,k0.wQ.length,<-ug (f:=λq=>cw.mk X q.c q.x ak),<-mD,me] at this;omega
     grind
    have lM:Yf.length=dB.length:=by rw[k0.len,k0.wQ.length,<-ug (f:=λq=>cw.mk X q.c q.x ak),<-mD,me,bB]
    have X5:∀(j:Nat)(u:af),gU p.ins<=j\/p.ks.getD j 0≠0->(Yf++ep)[j]?=J u->(dB++ep)[j]?=J u:=by
     grind
    have nB:=hk;simp only[h4.p0,fx] at nB;have aaQ:=nB.1.1;have anZ:=nB.1.2;have ayj:o0 X ee.outs (gn _ y) 0 p.ks (eU X p.ins jL)=o0 X ee.outs (gn _ y) 0 p.ks (eU X p.ins x):=by
     refine auU (by grind[me]) λj bn=>?_;obtain⟨s1,s2⟩:=K7 Vi (show p.ks.getD j 0≠0 by grind);obtain⟨o,iw,iQ⟩:=s2 bn;rw[lH] at s1 iw;obtain⟨q,fv,w,fQ⟩:=k0.wQ.get j j s1;rw[iw] at fQ;have fQ:=kB.inj fQ;subst fQ;rw[cw.Kc] at iQ;subst iQ;have V5:(eU X p.ins jL)[j]?=J (cw.mk X q.c q.x ak):=by grind[mD]
     have aaO:j<(eU X p.ins x).length:=by grind[me]
     have ew:=(bR.trans i1).ew j _ aaO iw cw.tn cw.Kc;rw[V5,ew];refine congrArg J (ata λr aV=>?_);obtain⟨apd,aaL⟩:=k0.gt q (mM fv) r aV;have Bt:r<gU p.ins:=by
      have:=(fq.1 aaL).1;rw[k0.wQ.length,<-ug (f:=λq=>cw.mk X q.c q.x ak),<-mD,me] at this
      grind
     rcases BJ (i:=0) anZ fv (by grind) r aV with h|h
     ·omega
     ·obtain⟨avD,_⟩:=K7 Vi h
      grind
    have anM:∀q∈ee.fg,Jy (gU p.ins) p.ks q.2=aa:=by
     grind
    have ta:∀i∈ee.outs,∀r∈i.hs,gU p.ins<=r\/p.ks.getD r 0≠0:=λi az r aV=>aeE (iA.1 (tY.1 (iA.1 (iA.1 aaQ ee g1) i az)).2 r aV);refine⟨z3,ep,ee,y,g1,g2,g3,(h1.trans i2).trans g4,?_,λq bm=>?_⟩
    ·have wy:ly X p.ks (eU X p.ins jL) ee.outs (gn _ y)=ly X p.ks (eU X p.ins x) ee.outs (gn _ y):=by grind[ly]
     rw[wy] at g5;have key:∀(i:Nat)(o:ba D),(ly X p.ks (eU X p.ins x) ee.outs (gn _ y))[i]?=J o->o.live=aa->(gU p.ins<=i\/p.ks.getD i 0≠0):=by
      intro i o aM aR;by_cases cF:i<gU p.ins
      ·refine .inr λnC=>?_;unfold ly at aM;rw[kS (by grind[q5,me])] at aM;have bf:(eU X p.ins x)[i]?=J ((eU X p.ins x)[i]'(by grind[me])):=mm _;rw[xd bf,nC] at aM;simp at aM;subst aM;cases aR
      grind
     have mk:∀(i:Nat)(o:ba D),(ly X p.ks (eU X p.ins x) ee.outs (gn _ y))[i]?=J o->o=.dead\/∃c a w,o=cw.mk X c a w/\∀r∈c.hs,gU p.ins<=r\/p.ks.getD r 0≠0:=by
      intro i o aM;unfold ly at aM;by_cases cF:i<gU p.ins
      ·rw[kS (by grind[q5,me])] at aM;have bf:(eU X p.ins x)[i]?=J ((eU X p.ins x)[i]'(by grind[me])):=mm _;rw[xd bf] at aM;have aM:=(kB.inj aM).symm;by_cases cL:p.ks.getD i 0=1
       ·grind[mD,BJ]
       ·rw[if_neg cL] at aM;by_cases c9:p.ks.getD i 0=2
        ·rw[if_pos c9] at aM;rcases tx (X:=X) (aQ:=ee.outs) (x:=gn _ y) (j:=0+i) with bg|⟨d,c,a,bg,he⟩
         ·grind
         ·exact .inr ⟨c,a,aa,by rw[aM,he];rfl,ta _ bg⟩
        grind
      ·rw[kT (by grind[q5,me])] at aM;obtain⟨d,c,a,bg,cp⟩:=xc (mM aM);exact .inr ⟨c,a,ak,cp,ta _ bg⟩
     refine g5.G3 (by rw[<-g5.len];grind) id (λi o aM aR=>?_) (λi o u aM aR hu=>?_) (λi j _ _ _ _ _ _ h=>h)
     ·obtain⟨v,v1,v2⟩:=g5.at aM;refine⟨o,v,aM,aR,v1,X5 i v (key i o aM aR) v1,?_⟩;rcases mk i o aM with rfl|⟨c,a,w,rfl,aV⟩
      ·trivial
      ·exact cw.y8 w v2 λr nG u hu=>X5 r u (aV r nG) hu
     ·rcases mk i o aM with rfl|⟨c,a,w,rfl,_⟩
      ·trivial
      grind[cw.u4]
    ·have aV:=g6 q bm;rcases kU.1 bm with bm|bm
     ·obtain⟨d,c,a,bg,ay⟩:=zB bm;rw[ay] at aV⊢;exact gR.VP (tY.1 (iA.1 (iA.1 aaQ ee g1) _ bg)).1 aV
     ·obtain⟨s1,s2⟩:=adO (anM q bm);have:=XU (X:=X) (cJ:=id) (vs':=dB++ep) s1 aV λj u bn hu=>X5 j u (s2 j bn) hu
      grind[Lp]
   grind
def zg:∀{b:List Nat}{i j:Nat},q8 b i=J j->b[j]?=J i
 |[],_,_,h=>by cases h
 |a::b,i,j,h=>by
  simp only[q8] at h;split at h
  ·grind[kA]
  ·split at h
   ·rename_i e d;cases h;rw[qH];exact zg d
   grind
theorem Ky{d:Nat->Nat}{b e:List Nat}{a:List dt}{y:ft D a}:∀{i:Nat}{O:List (ba D)},(sd X d b e a y i O).length=O.length
 |i,[]=>rfl
 |i,o::O=>by simp[sd,Ky]
theorem acN{cJ:Nat->Nat}{bO ks:List Nat}{outs:List dt}{y:ft D outs}:∀{i:Nat}{O:List (ba D)}{a:Nat}{o:ba D},O[a]?=J o->(sd X cJ bO ks outs y i O)[a]?=J (match q8 bO (i+a) with|some j=>(if ks.getD j 0=1 then o else if ks.getD j 0=2 then kc X cJ outs y j else .dead)|none=>if o.live=aa then .dead else o)
 |i,[],a,o,h=>by grind
 |i,p::O,0,o,h=>by grind[sd]
 |i,p::O,a+1,o,h=>by
  simp only[qH] at h;have:=acN (cJ:=cJ) (bO:=bO) (ks:=ks) (outs:=outs) (y:=y) (i:=i+1) h
  grind[sd]
def sB.Kn{rn:fG->fG}{B:Code}{p:h4 D}{F:p.F}(h:sB rn X B p F)(hk:p.p0 B=aa){ap:Type}(E:List (Nat×bc D))(O:List (ba D))(K:fG->List (Nat×bc D)->List (ba D)->Option ap)(r:ap){z:Nat->bW}{e m:Mem}{k:Option Nat}{M:List af}{fr:Nat->af}
  (aN:b9 X.G O z e m k M) (bp:fj X z M E fr) (N:p.G2 X F E O K=J r):W P (sub B p.path) (λx=>je X O z e k M (K (rn x)) r) fr m:=by
 unfold h4.G2 at N;split at N
 ·rename_i x g b az;obtain⟨eX,eF,N⟩:=bind_some N;obtain⟨dv,dB,i1,i2,H⟩:=ae4 aN bp az;simp only[h4.p0,fx] at hk;have bB:g.length=gU p.ins:=by rw[<-me (X:=X) (x:=x),mD,ug];exact H.wQ.length
  have wq:dB.length=gU p.ins:=by rw[H.len,bB]
  refine(h x eX eF H.abD H.afm).keep ?_;rintro ex fY m1 anY ⟨z2,T,n,y,g1,g2,g3,g4,Y,g6⟩;rw[g3] at N;rw[g2];have qR:T.length=(eU X n.outs (gn _ y)).length:=by
   have:=Y.len
   grind[ly,q5,me]
  have oM:M.length=b.length:=H.abC.len;have V:∀(i:Nat)(u:af),M[i]?=J u->(M++T)[i]?=J u:=j0;have rU:∀(j:Nat)(u:af),(dB++T)[j]?=J u->(M++T)[num g (gU p.ins) b.length j]?=J u:=by
   intro j u hu;unfold num;by_cases cF:j<gU p.ins
   ·have aw:mn j (gU p.ins)=aa:=by simp_all
    rw[if_pos aw];rw[kS (by omega)] at hu;have R:g[j]?=J (g.getD j 0):=by grind
    obtain⟨xz,t1,t2⟩:=H.ep _ _ R
    grind
   grind[Nat.blt_eq]
  have iF:∀(i:Nat)(o:ba D),(uE X p g b n (gn _ y))[i]?=J o->
    (i<b.length/\∃Q,b[i]?=J Q/\o=(match q8 g i with|some j=>(if p.ks.getD j 0=1 then Q else if p.ks.getD j 0=2 then kc X (num g (gU p.ins) b.length) n.outs (gn _ y) j else .dead)|none=>if Q.live=aa then .dead else Q))\/
    (b.length<=i/\(mkOr X (num g (gU p.ins) b.length) n.outs (gn _ y))[i-b.length]?=J o):=by
   grind[uE,Ky,acN]
  have wy:∀(j:Nat)(mZ:ba D),(eU X p.ins x)[j]?=J mZ->(ly X p.ks (eU X p.ins x) n.outs (gn _ y))[j]?=J (if p.ks.getD j 0=1 then mZ else if p.ks.getD j 0=2 then kc X wE n.outs (gn _ y) j else .dead):=by
   grind[ly,q5,xd]
  have aoA:∀(i:Nat)(o:ba D),(eU X n.outs (gn _ y))[i]?=J o->(ly X p.ks (eU X p.ins x) n.outs (gn _ y))[gU p.ins+i]?=J o:=by
   grind[ly,q5,me]
  have s9:∀(i:Nat)(o:ba D),(uE X p g b n (gn _ y))[i]?=J o->o.live=aa->
    (∃j,q8 g i=J j/\((p.ks.getD j 0=1/\b[i]?=J o)\/(p.ks.getD j 0≠1/\p.ks.getD j 0=2/\o=kc X (num g (gU p.ins) b.length) n.outs (gn _ y) j)))\/(b.length<=i/\(mkOr X (num g (gU p.ins) b.length) n.outs (gn _ y))[i-b.length]?=J o):=by
   intro i o I l;rcases iF i o I with⟨cF,Q,ai,f⟩|h
   ·left;cases C:q8 g i with
    |some j=>
     rw[C] at f;dsimp only at f;refine⟨j,rfl,?_⟩;by_cases S:p.ks.getD j 0=1
     ·grind
     ·rw[if_neg S] at f;by_cases U:p.ks.getD j 0=2
      ·grind
      ·rw[if_neg U] at f;rw[f] at l;cases l
    |none=>
     rw[C] at f;dsimp only at f;by_cases br:Q.live=aa
     ·rw[if_pos br] at f;rw[f] at l;cases l
     grind
   grind
  refine⟨z2,M++T,_,_,i1.trans ?_,i2.trans g4,V,?_,Cm ?_,N⟩
  ·refine⟨?_,λi o az I l aJ=>?_⟩
   ·grind[uE,Ky]
   ·rcases s9 i o I l with⟨j,_,h|⟨_,_,h⟩⟩|h
    ·grind
    ·rcases tx (X:=X) (aQ:=n.outs) (x:=gn _ y) (j:=j) with t|⟨_,c,a,_,t⟩
     ·rw[h,t] at l;cases l
     grind[cw.Kc]
    grind
  ·refine Y.G3 ?_ (λi=>if i<b.length then(q8 g i).getD 0 else gU p.ins+(i-b.length)) (λi o I l=>?_) (λi o u I l hu=>?_) (λi j o q fm bn aaS aaT hq=>?_)
   ·grind[uE,Ky,va,mD]
   ·rcases s9 i o I l with⟨j,C,s⟩|⟨hA,s⟩
    ·have R:=zg C;obtain⟨q,V5,w,fQ⟩:=H.wQ.get j i R;have fv:(eU X p.ins x)[j]?=J (cw.mk X q.c q.x ak):=by grind[mD]
     obtain⟨u,t1,t2⟩:=H.ep _ _ R;have cF:i<b.length:=(fq.1 fQ).1;simp only[if_pos cF,C,IV];have L:=wy j _ fv;have JZ:(dB++T)[j]?=J u:=j0 _ _ t1;rcases s with⟨S,s⟩|⟨S,U,s⟩
     ·rw[if_pos S] at L;rw[fQ] at s;have s:=kB.inj s;subst s;have cG:=Y.obj j _ u L JZ;refine⟨_,u,L,cw.u4,JZ,V _ _ t2,cw.y8 w cG λr N xz oS=>?_⟩;obtain⟨apd,aaL⟩:=H.gt q (mM V5) r N
      grind[num,Nat.blt_eq]
     ·rw[if_neg S,if_pos U] at L;have cG:=Y.obj j _ u L JZ;rcases tx (X:=X) (aQ:=n.outs) (x:=gn _ y) (j:=j) with t|⟨_,c,a,_,t⟩
      ·rw[s,t] at l;cases l
      ·rw[t] at cG;refine⟨_,u,L,by grind[cw.tn],JZ,V _ _ t2,?_⟩;rw[s,t];exact cw.y8 aa cG λr _ xz oS=>rU r xz oS
    ·have aoj:¬i<b.length:=by omega
     simp only[if_neg aoj];rw[va,sH] at s;obtain⟨q,A,rfl⟩:=vT.1 s;have L:=aoA (i-b.length) (cw.mk X q.c q.x ak) (by grind[mD]);obtain⟨u,G7,Ya⟩:=Y.at L;refine⟨_,u,L,cw.u4,G7,?_,?_⟩
     ·rw[kT (by omega),wq,show gU p.ins+(i-b.length)-gU p.ins=i-b.length by omega] at G7
      grind
     ·exact cw.y8 ak Ya λr _ xz oS=>rU r xz oS
   ·rcases iF i o I with⟨cF,Q,ai,f⟩|⟨_,h⟩
    ·cases C:q8 g i with
     |some j=>
      rw[C] at f;dsimp only at f;have R:=zg C;obtain⟨q,fv,w,fQ⟩:=H.wQ.get j i R;rw[ai] at fQ;by_cases S:p.ks.getD j 0=1
      ·grind[cw.tn]
      ·rw[if_neg S] at f;by_cases U:p.ks.getD j 0=2
       ·rw[if_pos U] at f;rcases tx (X:=X) (aQ:=n.outs) (x:=gn _ y) (j:=j) with t|⟨_,c,a,_,t⟩
        ·rw[f,t];trivial
        grind[cw.tn]
       ·rw[if_neg U] at f;rw[f];trivial
     |none=>
      rw[C] at f;dsimp only at f;by_cases br:Q.live=aa
      ·rw[if_pos br] at f;rw[f];trivial
      ·rw[if_neg br] at f;subst f;rw[kS (by omega)] at hu;exact(H.abC.obj i o u ai hu).frozen l g4.le V
    grind[va,cw.tn]
   ·have Z:∀(i:Nat)(o:ba D),(uE X p g b n (gn _ y))[i]?=J o->o.live=aa->(i<b.length/\∃j,q8 g i=J j/\j<gU p.ins)\/b.length<=i:=by
     intro i o I l;rcases s9 i o I l with⟨j,C,_⟩|⟨hA,_⟩
     ·have R:=zg C
      grind
     grind
    rcases Z i o fm aaS with⟨ec,a2,a3,a4⟩|ec
    ·rcases Z j q bn aaT with⟨js,jR,Jc,aw'⟩|js
     ·simp only[if_pos ec,if_pos js,a3,Jc,IV] at hq;subst hq;have s1:=zg a3;have s2:=zg Jc
      grind
     grind
    grind
  ·intro q A;unfold T1 at A;rcases kU.1 A with A|A
   ·obtain⟨d,c,a,t,s⟩:=zB A;have:=g6 q (kU.2 (.inl A));rw[s] at this⊢;exact gR.VP (tY.1 (iA.1 (iA.1 hk.1.1 n g1) _ t)).1 this
   ·rcases kU.1 A with A|A
    ·obtain⟨r7,aoG,rfl⟩:=l2.1 A
     grind[adO,XU]
    ·obtain⟨d,t,rfl⟩:=l2.1 A;have hw:=iA.1 hk.2.2 d t;have:=anY d (by grind);show rel X.G z2 (M++T) (eI E d) (fY d);rw[this];exact rel.mono (bp d) (i2.le.trans g4.le) V
 grind
def qF.Kn{B:Code}{p:h4 D}{F:p.F}(h:qF X B p F)(j:p.p0 B=aa){b:Type}(E:List (Nat×bc D))(O:List (ba D))(K:fG->List (Nat×bc D)->List (ba D)->Option b)(r:b){z:Nat->bW}{e m:Mem}{k:Option Nat}{a:List af}{d:Nat->af}
  (f:b9 X.G O z e m k a) (i:fj X z a E d) (g:p.G2 X F E O K=J r):W P (sub B p.path) (λx=>je X O z e k a (K x) r) d m:=
 sB.Kn (rn:=id) h j E O K r f i g
def sB.zd{f:fG->fG}{B:Code}{p:h4 D}{F:p.F}(h:sB f X B p F)(w:p.p0 B=aa){b:Type}(E:List (Nat×bc D))(O:List (ba D))(K:fG->List (Nat×bc D)->List (ba D)->Option b)(r:b){z:Nat->bW}{e m:Mem}{k:Option Nat}{a:List af}{d:Nat->af}
  (g:b9 X.G O z e m k a) (l:fj X z a E d) (i:p.run X F E O K=J r):W P (sub B p.path) (λx=>je X O z e k a (K (f x)) r) d m:=by
 obtain⟨y,n,q,s,t⟩:=mf (aQ:=p.ins) g l;exact(h.Kn w _ _ K r s t i).mono λ_ _ _ j=>j.from n (dT.refl z) q
def qF.zd{B:Code}{p:h4 D}{F:p.F}(h:qF X B p F)(n:p.p0 B=aa):qJ X B (p.zd X F):=by
 intro s E O K r z e m k w t _ a f b;obtain⟨q,g,i,j,l⟩:=mf (aQ:=p.ins) a f;exact(h.Kn n _ _ K r j l b).mono λ_ _ _ d=>d.from g (dT.refl z) i
end
end
end
section
structure fS(D:Nat->Type) where
 f:Nat
 lQ:Nat
 ins:List dt
 fg:List (Nat×bc D)
 ij:Option (Nat×Nat)
 re:Nat
 outs:List dt
 fu:List (Nat×bc D)
 lV:List ResultVar
 flat:Bool
def pX:Nat:=1000000
def nL:Nat->List ResultVar->List Nat|_,[]=>[]|n,.tmp d::a=>d::nL (n+1) a|n,.cell _ _::a=>n::nL (n+1) a
def fS.eX{D:Nat->Type}(d:fS D):List Nat:=nL pX d.lV
noncomputable section
section
variable {P:bI}{D:Nat->Type}
def XX(P:bI)(t:Nat)(a:bc D)(O:List (ba D)):Option (bc D):=match a with|.box i b=>(match O[i]? with|some (.box _ d _ _)=>o7 (P:=P) t d b J|some (.recv _ d _)=>o7 (P:=P) t d b J|_=>ae)|_=>ae
def xx(P:bI)(E:List (Nat×bc D))(O:List (ba D)):Nat->List ResultVar->Option (List (Nat×bc D))
 |_,[]=>J []
 |n,.tmp d::b=>if mn d pX=aa then xx P E O (n+1) b else ae
 |n,.cell a t::b=>match XX P t (eI E a) O,xx P E O (n+1) b with|some V,J l=>J ((n,V)::l)|_,_=>ae
def tL(D:Nat->Type):Option (Nat×Nat)->Type|none=>Unit|some p=>D p.2
def fS.F(d:fS D):Type:=tL D d.ij->ft D d.ins->Option (mz D d.outs)
variable (X:e3 P D)
def rb:(c:Option (Nat×Nat))->tL D c->List (ba D)|none,_=>[]|some p,x=>[.recv p.2 (jl X p.2 x) ak]
def xu:Option (Nat×Nat)->List (Nat×bc D)|none=>[]|some p=>[(p.1,.box 0 0)]
def sm(d:fS D):List Nat:=match d.ij with|none=>[]|some _=>[d.re]
def fS.ee(d:fS D):lF D:=⟨.ret,d.outs,d.fu⟩
@[irreducible] def fk:Nat:=1000000000
def tq(a:List (Nat×bc D))(b i:Nat):Bool:=mn i 63&&(match eI a (b+1+i) with|.c (.own _)=>aa|_=>ak)
def x2(a:List (Nat×bc D))(d:List (cv D))(b:Nat):Nat->List (cv D)->List (cv D)|_,[]=>[]|i,c::e=>(if tq a b i=aa then d.getD i .gE else c)::x2 a d b (i+1) e
def Ua(E:List (Nat×bc D))(n:Nat):bc D:=
 if fi (n%64) 0=aa then .un else
 match eI E (n / 64) with
 |.agg _ a=>(match a[n%64-1]? with|some c=>.c c|none=>.un)
 |_=>.un
def yF(E:List (Nat×bc D)):List (Nat×bc D)->List (Nat×bc D)|[]=>[]|p::l=>if iJ fk p.1=aa then(p.1,Ua E (p.1-fk))::yF E l else yF E l
def uH(b E:List (Nat×bc D)):List dt->Option (List (Nat×bc D))
 |[]=>J []
 |.v s c::a=>
  if iJ fk s=aa then
   if fi ((s-fk)%64) 0=aa then
    match eI E ((s-fk) / 64) with
    |.agg t d=>(match uH b E a with|some l=>J ((s,.agg t (x2 b (nQ X t) s 0 d))::l)|none=>ae)
    |_=>ae
   else ae
  else uH b E a
 |.o _ _::a=>uH b E a
 |.u _ _::a=>uH b E a
def wg:List dt->Bool|[]=>ak|.v s _::a=>iJ fk s||wg a|_::a=>wg a
def PY(d:fS D)(a:fG)(E:List (Nat×bc D))(O:List (ba D)):Option (mz D d.outs):=
 if a=.normal\/a=.ret then ab (xx P E O pX d.lV) λl=>
  if wg d.outs=aa then
   if((l++E).all (λp=>mn p.1 fk)&&d.eX.all λx=>mn x fk)=aa then
    ab (uH X d.fu (l++E) d.outs) λb=>xv X (sm d).length (sm d) d.ee (b++(yF (l++E) d.fu++(l++E))) O
   else ae
  else xv X (sm d).length (sm d) d.ee (l++E) O
 else ae
def XT(b:Bool)(s:bc D)(c:cv D):cv D:=match b,s with|true,.c (.own n)=>.own n|_,_=>c
def wS(E:List (Nat×bc D))(b:Nat):Nat->List (cv D)->List (cv D)|_,[]=>[]|i,c::a=>XT (mn i 63) (eI E (b+1+i)) c::wS E b (i+1) a
def BB(a b:List (Nat×bc D)):List Nat->List (Nat×bc D)
 |[]=>[]
 |d::e=>match eI a (fk+64*d) with|.agg t f=>(d,.agg t (wS b (fk+64*d) 0 f))::BB a b e|_=>BB a b e
def IE(a:List dt)(g:List (Nat×bc D))(e:Nat->af):Prop:=∀d t,dt.v (fk+64*d) (.agg t)∈a->∃f b:List af,e (fk+64*d)=.agg f.toArray/\e d=.agg b.toArray/\b.length=f.length/\
 ∀(i:Nat)(w:af),b[i]?=J w->if tq g (fk+64*d) i=aa then e (fk+64*d+1+i)=w else f[i]?=J w
def PX(a b:List (Nat×bc D))(d:List Nat):List (Nat×bc D):=BB a b d++(a++b)
def mg:Nat->List (bc D)->List (Nat×bc D)|_,[]=>[]|i,s::l=>(i,s)::mg (i+1) l
def P7(E:List (Nat×bc D)):List Nat->Option (List (cv D⊕(Nat×List (cv D))))|[]=>J []|d::b=>match eI E d,P7 E b with|.c c,J l=>J (.inl c::l)|.agg t a,J l=>J (.inr (t,a)::l)|_,_=>ae
def GZ(E:List (Nat×bc D)):List Nat->Option (bc D)
 |[d]=>J (eI E d)
 |ds=>match P7 E ds with|some l=>J (.sq l)|none=>ae
def Cp:cv D->Option af|.int k n=>J (.int k n)|.bool b=>J (.bool b)|.str s=>J (aF.str s)|_=>ae
def xl:List (cv D)->Option (List af)
 |[]=>J []
 |c::a=>match Cp c,xl a with|some v,J l=>J (v::l)|_,_=>ae
def tG:List (cv D⊕(Nat×List (cv D)))->Option (List af)
 |[]=>J []
 |.inl c::l=>(match Cp c,tG l with|some v,J a=>J (v::a)|_,_=>ae)
 |.inr p::l=>(match xl p.2,tG l with|some b,J a=>J (.agg b.toArray::a)|_,_=>ae)
def Cq:bc D->Option af
 |.c c=>Cp c
 |.agg _ a=>(match xl a with|some b=>J (.agg b.toArray)|none=>ae)
 |.sq l=>(match tG l with|some d=>J (.tuple d.toArray)|none=>ae)
 |_=>ae
def zP(t:Nat):Option (ba D)->Option (D t)|some (.box b a ak _)=>if b=t then mA X t a else ae|some (.recv b a _)=>if b=t then mA X t a else ae|_=>ae
def GW(t:Nat)(a:List (cv D)):ba D->ba D|.box _ _ _ _=>.box t a ak aa|_=>.recv t a aa
def sh:List dt->Bool|[]=>aa|.o _ (.recv _)::_=>ak|.o _ _::a=>sh a|.v _ c::a=>c.y9&&sh a|.u _ _::a=>sh a
def wL(i N j:Nat):Nat:=if fi j 0=aa then i else N+(j-1)
def Ck(a:List dt)(g:List (Nat×bc D))(e:List Nat)(flat:Bool)(h:Nat)(k:List (bc D))(O b:List (ba D)){f:Type}(K:bc D->List (ba D)->Option f):(m:Option (Nat×Nat))->(tL D m->Option (mz D a))->Option f
 |none,G=>
  ab (G ()) λy=>
   match GZ (PX (hc X a (gn _ y)) (g.map λq=>(q.1,pE (λj=>b.length+j) q.2)) e) e with
   |some d=>if flat=aa then(match Cq d with|some _=>K d O|none=>ae) else K d (b++mkOr X (λj=>b.length+j) a (gn _ y))
   |none=>ae
 |some p,G=>
  match eI (mg 0 k) p.1 with
  |.box i 0=>
   match b[i]? with
   |some o=>
    ab (zP X p.2 (J o)) λr=>
    ab (G r) λy=>
     match GZ (PX (hc X a (gn _ y)) (g.map λq=>(q.1,pE (wL i b.length) q.2)) e) e with
     |some d=>
      if h=2 then
       match kc X wE a (gn _ y) 0 with
       |.recv t l _=>if t=p.2 then K d (b.set i (GW p.2 l o)++mkOr X (wL i b.length) a (gn _ y)) else ae
       |_=>ae
      else if h=1 then(if o.clean=aa then K d (b++mkOr X (wL i b.length) a (gn _ y)) else K d (b.set i (GW p.2 (jl X p.2 r) o)++mkOr X (wL i b.length) a (gn _ y))) else ae
     |none=>ae
   |none=>ae
  |_=>ae
def fS.call(d:fS D)(F:d.F)(a:List (bc D))(O:List (ba D)){b:Type}(K:bc D->List (ba D)->Option b):Option b:=if fi a.length d.lQ then match rL (mg 0 a) d.ins O with|some (f,e)=>if d.fg.all λp=>wa [] p.2 (eI (mg 0 a) p.1) then match iG X [] e d.ins f [] with|some x=>Ck X d.outs d.fu d.eX d.flat d.re a O e K d.ij λr=>F r x|none=>ae else ae|none=>ae else ae
end
section
variable {P:bI}{D:Nat->Type}{X:e3 P D}{z dv z2:Nat->bW}{e m m1:Mem}{k q:Option Nat}{vs:List af}{fr:Nat->af}{E:List (Nat×bc D)}{O cr:List (ba D)}
def b9.call(h:b9 X.G O dv e m k vs)(bx:dT m.next dv z2)(s:gl m m1 q)(aS:dL z2 e m1 k)(aR:cr.length=O.length)
  (aM:∀(j:Nat)(o':ba D),cr[j]?=J o'->(O[j]?=J o'/\(o'.live=aa->∀v,vs[j]?=J v->e6 (dQ v) q))\/(∃o,O[j]?=J o/\o.live=aa/\∀v,vs[j]?=J v->hf X.G z2 e m1 k vs o' v)):b9 X.G cr z2 e m1 k vs where
 aS:=aS
 len:=by rw[aR];exact h.len
 obj:=λj o' v bn aD=>by
  rcases aM j o' bn with⟨h1,ai⟩|⟨o,h1,ai,aT⟩
  ·have cG:=h.obj j o' v h1 aD;cases dE:o'.live with
   |false=>exact cG.frozen dE bx.le λ_ _ h=>h
   |true=>exact(cG.same s (λ_=>ai dE v aD) λ_ _ h=>h).jP bx.le (λ_ b aw=>bx.low b (cG.lt dE b aw).1) λ_ b j L t aw=>bx.low b (h.aS.bZ b (by grind)).2
  grind
 fD:=λa b o p v w jV bl aw hr lO aD hw=>by
  have key:∀(j:Nat)(o':ba D),cr[j]?=J o'->o'.live=aa->∃o,O[j]?=J o/\o.live=aa:=by
   grind
  obtain⟨iw,g1,g2⟩:=key a o bl hr;obtain⟨iQ,g3,g4⟩:=key b p aw lO;exact h.fD a b iw iQ v w jV g1 g3 g2 g4 aD hw
def b9.al6{N:List (ba D)}{a:List af}{s:Nat}(h:b9 X.G O z e m k vs)(E:a.length=N.length)
  (M:∀(j:Nat)(o:ba D)(v:af),O[j]?=J o->vs[j]?=J v->o.live=aa->∀b,dQ v=J b->b<s)
  (K:∀(j:Nat)(o:ba D)(v:af),N[j]?=J o->a[j]?=J v->hf X.G z e m k (vs++a) o v/\∀b,dQ v=J b->s<=b)
  (L:∀(i j:Nat)(o p:ba D)(v w:af),i≠j->N[i]?=J o->N[j]?=J p->a[i]?=J v->a[j]?=J w->e6 (dQ v) (dQ w)):b9 X.G (O++N) z e m k (vs++a):=by
 have t:∀(j:Nat)(o:ba D)(v:af),(O++N)[j]?=J o->(vs++a)[j]?=J v->(j<O.length/\O[j]?=J o/\vs[j]?=J v)\/(O.length<=j/\N[j-O.length]?=J o/\a[j-O.length]?=J v):=by
  intro j o v f d;by_cases F:j<O.length
  ·rw[kS F] at f;rw[kS (by rw[h.len];grind)] at d
   grind
  ·rw[kT (by omega)] at f;rw[kT (by rw[h.len];omega),h.len] at d
   grind
 refine⟨h.aS,by rw[sI,sI,h.len,E],λj o v f d=>?_,λi j o p v w H f x C B d y=>?_⟩
 ·rcases t j o v f d with⟨_,l,g⟩|⟨_,l,g⟩
  ·exact(h.obj j o v l g).same (m':=m) (q:=ae) ⟨e4 _,h.aS.dead,λ_ _ _=>rfl⟩ (λ_=>e6.qg) j0
  grind
 ·have A:∀(i j:Nat)(o p:ba D)(v w:af),O[i]?=J o->vs[i]?=J v->o.live=aa->N[j]?=J p->a[j]?=J w->e6 (dQ v) (dQ w):=by
   intro i j o p v w f d C x y b I P
   grind
  rcases t i o v f d with⟨_,l,g⟩|⟨_,l,g⟩
  ·rcases t j p w x y with⟨_,n,r⟩|⟨_,n,r⟩
   ·exact h.fD i j o p v w H l n C B g r
   grind
  ·rcases t j p w x y with⟨_,n,r⟩|⟨_,n,r⟩
   ·exact(A j _ p o w v n r B l g).symm
   grind
def KR:∀{aQ:List dt}{x:ft D aQ}{q:yh D},sh aQ=aa->q∈cos aQ x->∀t,q.c≠.recv t
 |[],_,_,_,h=>by grind[cos]
 |.v d c::aQ,x,o,a,h=>KR (aQ:=aQ) (x:=x.2) (tY.1 a).2 h
 |.u d c::aQ,x,o,a,h=>KR (aQ:=aQ) (x:=x.2) a h
 |.o d c::aQ,x,o,a,h=>by
  simp only[cos,ha] at h;have b:(∀t,c≠.recv t)/\sh aQ=aa:=by
   cases c with
   |recv t=>cases a
   |_=>exact⟨λt h=>(by grind),a⟩
  rcases h with rfl|h
  ·grind
  ·exact KR (aQ:=aQ) (x:=x.2) b.2 h
def born{c:cw}{x:c.ty D}{w:Bool}{v:af}{kk:Option Nat}{E:Nat->Nat}(q:∀t,c≠.recv t)(i:e.next<=m.next)(h:hf X.G z m m1 kk vs (cw.gO X E c x w) v):hf X.G z e m1 k vs (cw.gO X E c x w) v/\∀b,dQ v=J b->m.next<=b:=by
 cases c with
 |recv t=>grind
 |bL t l=>obtain⟨b,A,rfl,d,g,s⟩:=h;exact⟨⟨b,A,rfl,⟨d.blk,d.lt,d.dead,.inl (jd i g)⟩,jd i g,s⟩,λc q=>by cases q;grind⟩
 |uI t f O=>obtain⟨b,A,rfl,d,g,s⟩:=h;exact⟨⟨b,A,rfl,⟨d.blk,d.lt,d.dead,.inl (jd i g)⟩,jd i g,s⟩,λc q=>by cases q;grind⟩
 |bh t=>have h:dU (X.G.T t) z m m1 kk x v:=h;refine⟨(⟨h.bT,λb y=>jd i (h.fresh b y)⟩:dU (X.G.T t) z e m1 k x v),?_⟩;rw[hi (by obtain⟨a,c,rfl⟩:=h.bT.len;grind)];exact h.fresh
 |box t=>obtain⟨b,A,rfl,d,g,s⟩:=h;exact⟨⟨b,A,rfl,⟨d.blk,d.lt,d.dead,.inl (jd i g)⟩,jd i g,s⟩,λc q=>by cases q;grind⟩
 |arr t u n=>obtain⟨⟨b,rfl⟩,h⟩:=h;exact⟨⟨⟨b,rfl⟩,h.bT,λb y=>jd i (h.fresh b y)⟩,λc q=>h.fresh c q⟩
 |map t C B=>have h:jD (X.G.M t C B) z m m1 kk x v:=h;obtain⟨r,rfl,d,g,s,F⟩:=h.bT;exact⟨(⟨⟨r,rfl,d,g,s,jd i F⟩⟩:jD (X.G.M t C B) z e m1 k x _),λc q=>by cases q;grind⟩
 |ne N t=>obtain⟨H,I,h⟩:=h;refine⟨⟨H,I,⟨h.bT.bT,λb y=>jd i (h.bT.fresh b y)⟩,h.len,λj w K d g s=>(h.oU j w K d g s).Ja i,λp L=>by grind⟩,?_⟩;rw[hi (by obtain⟨a,c,rfl⟩:=h.bT.bT.len;grind)];exact h.bT.fresh
def W2:∀{i:List Nat}{l:List (cv D⊕(Nat×List (cv D)))},fj X z vs E fr->P7 E i=J l->bP (vt X.G z vs) l (i.map fr)/\∀x∈i.map fr,storable x=aa
 |[],l,e,h=>by cases h;exact⟨trivial,by simp⟩
 |d::k,l,e,h=>by
  simp only[P7] at h;have a:=e d;split at h
  ·rename_i c l1 g f;cases h;rw[g] at a;obtain⟨j,m⟩:=W2 e f;refine⟨⟨a,j⟩,λx b=>?_⟩;rcases ha.1 b with rfl|b
   ·exact(ed.afp a).1
   grind
  ·rename_i t n l1 g f;cases h;rw[g] at a;obtain⟨j,m⟩:=W2 e f;refine⟨⟨a,j⟩,λx b=>?_⟩;rcases ha.1 b with rfl|b
   ·obtain⟨k,a,_⟩:=a;rw[a];rfl
   grind
  grind
def Xf{a:List Nat}{d:bc D}(b:fj X z vs E fr)(h:GZ E a=J d):rel X.G z vs d (pack (a.map fr))/\((a.map fr).length=1\/∀x∈a.map fr,storable x=aa):=by
 unfold GZ at h;split at h
 ·cases h;exact⟨b _,.inl rfl⟩
 ·rename_i i j;split at h
  ·rename_i l e;cases h;obtain⟨f,g⟩:=W2 b e;refine⟨?_,.inr g⟩;have:pack (a.map fr)=.tuple (a.map fr).toArray:=by
    simp_all[pack]
   rw[this];exact⟨_,rfl,f⟩
  grind
def WE{c:cv D}{v w:af}(h:Cp c=J w)(a:ed X.G z vs c v):v=w/\dy w=aa:=by
 cases c<;>first|(cases h;done)|(cases h;exact⟨a,rfl⟩)
def WG:∀{b:List (cv D)}{e a:List af},xl b=J a->bP (ed X.G z vs) b e->e=a/\a.all dy=aa
 |[],[],_,h,_=>by cases h;grind
 |c::b,d::e,a,h,⟨j,i⟩=>by
  simp only[xl] at h;split at h
  ·rename_i v l f g;cases h;obtain⟨rfl,k⟩:=WE f j;obtain⟨rfl,m⟩:=WG g i
   grind
  grind
 |[],_::_,_,_,h=>h.elim
 |_::_,[],_,_,h=>h.elim
def WH:∀{l:List (cv D⊕(Nat×List (cv D)))}{b a:List af},tG l=J a->bP (vt X.G z vs) l b->b=a/\a.all kz=aa
 |[],[],_,h,_=>by cases h;grind
 |.inl c::l,d::b,a,h,⟨j,i⟩=>by
  simp only[tG] at h;split at h
  ·rename_i v l1 f g;cases h;obtain⟨rfl,e⟩:=WE f j;obtain⟨rfl,k⟩:=WH g i;have:kz d=aa:=by cases d<;>first|exact e|cases e
   grind
  grind
 |.inr p::l,d::b,a,h,⟨⟨n,m,j⟩,i⟩=>by
  simp only[tG] at h;split at h
  ·rename_i v l1 f g;cases h;obtain⟨rfl,e⟩:=WG f j;obtain⟨rfl,k⟩:=WH g i;subst m;exact⟨rfl,by simp only[ml,k,Bool.and_true];exact e⟩
  grind
 |[],_::_,_,_,h=>h.elim
 |_::_,[],_,_,h=>h.elim
def arX{s:bc D}{v w:af}(h:Cq s=J w)(a:rel X.G z vs s v):v=w/\aF.flat w=aa:=by
 unfold Cq at h;split at h
 ·obtain⟨rfl,g⟩:=WE h a;refine⟨rfl,?_⟩;cases v<;>first|exact g|cases g
 ·split at h
  ·rename_i f d;cases h;obtain⟨e,rfl,b⟩:=a;obtain⟨rfl,g⟩:=WG d b;exact⟨rfl,g⟩
  grind
 ·split at h
  ·rename_i i d;cases h;obtain⟨e,rfl,b⟩:=a;obtain⟨rfl,g⟩:=WH d b;exact⟨rfl,g⟩
  grind
 grind
def PW:Option (Nat×Nat)->List dt|none=>[]|some p=>[.o p.1 (.recv p.2)]
def X2:(c:Option (Nat×Nat))->tL D c->ft D (PW c)|none,_=>()|some _,r=>(r,())
def auZ(c:Option (Nat×Nat))(r:tL D c):eU X (PW c) (X2 c r)=rb X c r:=by cases c<;>rfl
def ati{c:Option (Nat×Nat)}{r:tL D c}{n:Nat}:(match c with|none=>[]|some _=>[n]).length=(rb X c r).length:=by cases c<;>rfl
def asL{d:fS D}{r:tL D d.ij}:(rb X d.ij r).length=(sm d).length:=by
 unfold sm;rw[<-ati (X:=X) (r:=r) (n:=d.re)]
def at2(X:e3 P D)(d:fS D)(r:tL D d.ij)(y:mz D d.outs)(z:Nat->bW)(m:Mem)(kk:Option Nat)(dB:List af)(f:fG)(h:Nat->af)(g:Mem):Prop:=(f=.normal\/f=.ret)/\∃a,q2 P h g d.lV (d.eX.map a)/\∃b e,dT m.next z b/\b9 X.G (ly X (sm d) (rb X d.ij r) d.outs (gn _ y)) b m g kk (dB++e)/\(∀q∈hc X d.outs (gn _ y)++d.fu,rel X.G b (dB++e) q.2 (a q.1))/\IE d.outs d.fu a
def Au(X:e3 P D)(B:Code)(d:fS D)(F:d.F):Prop:=∀(r:tL D d.ij)(x:ft D d.ins)(y:mz D d.outs){z:Nat->bW}{m:Mem}{kk:Option Nat}{dB:List af}{a:Nat->af},
 F r x=J y->b9 X.G (rb X d.ij r) z m m kk dB->fj X z dB (hc X d.ins x++(d.fg++xu d.ij)) a->W P B (at2 X d r y z m kk dB) a m
def arx{t:Nat}{a:bc D}{V:bc D}{v:af}(s:b9 X.G O z e m k vs)(N:rel X.G z vs a v)(h:XX P t a O=J V):∃b l w,v=.pointer (J ⟨b,l,ae⟩)/\rel X.G z vs V w/\∃d,P.underlying t=J d/\
  (if lI d=aa then∃i f,P.info? t=J i/\kd m b l i.size=J f/\w=.agg f.toArray else m.load b l=J w):=by
 have q:∀{b n:Nat}{f:List (cv D)}{g:List af},(∀(j:Nat)(w:af),g[j]?=J w->m.load b (0+j)=J w)->bP (ed X.G z vs) f g->o7 (P:=P) t f n J=J V->∃w,rel X.G z vs V w/\∃d,P.underlying t=J d/\(if lI d=aa then∃i f,P.info? t=J i/\kd m b n i.size=J f/\w=.agg f.toArray else m.load b n=J w):=by
  intro b n f g C p h;unfold o7 at h;split at h
  ·grind
  ·rename_i d E;split at h
   ·rename_i S;split at h
    ·grind
    ·rename_i i U;split at h
     ·rename_i K;cases h;have L:bP (ed X.G z vs) ((f.drop n).take i.size) ((g.drop n).take i.size):=bP.take _ (bP.drop _ p);have Z:((g.drop n).take i.size).length=i.size:=by rw[<-L.length];grind
      refine⟨.agg ((g.drop n).take i.size).toArray,⟨_,rfl,L⟩,d,E,?_⟩
      grind[Cc]
     grind
   ·rename_i S;split at h
    ·rename_i c R;cases h;obtain⟨w,Y,M⟩:=p.get n c R;refine⟨w,M,d,E,?_⟩
     grind
    grind
 unfold XX at h;split at h
 ·rename_i i l;obtain⟨b,A,T⟩:=N;split at h
  ·rename_i u f bZ Q y;have F:=s.obj i _ _ y A;cases bZ with
   |true=>
    obtain⟨H,g,r,C,p⟩:=F;cases r;obtain⟨w,I,B⟩:=q (b:=b) (s.aS.tm C) p h
    grind
   |false=>
    obtain⟨H,g,r,x,_,p⟩:=F;cases r;obtain⟨w,I,B⟩:=q (b:=b) x.tm p h
    grind
  ·rename_i u f Q y;obtain⟨H,g,r,x,p⟩:=s.obj i _ _ y A;cases r;obtain⟨w,I,B⟩:=q (b:=b) x.tm p h
   grind
  grind
 grind
def Xt:∀{e:List ResultVar}{n:Nat}{l:List (Nat×bc D)},xx P E O n e=J l->∀x∈nL n e,x<pX\/n<=x
 |[],n,l,_,x,b=>by grind[nL]
 |.tmp d::e,n,l,h,x,b=>by
  obtain⟨g,f⟩:=gz h;simp only[nL,ha] at b;rcases b with rfl|b
  ·simp_all
  ·rcases Xt f x b with h|h
   ·grind
   grind
 |.cell a t::e,n,l,h,x,b=>by
  simp only[xx] at h;split at h
  ·rename_i V i _ f;simp only[nL,ha] at b;rcases b with rfl|b
   ·grind
   ·rcases Xt f x b with h|h
    ·grind
    grind
  grind
def Xu(s:b9 X.G O z e m k vs)(r:fj X z vs E fr):∀{g:List ResultVar}{n:Nat}{l:List (Nat×bc D)},pX<=n->xx P E O n g=J l->∃f,(∀d,d<n->f d=fr d)/\fj X z vs (l++E) f/\q2 P fr m g ((nL n g).map f)
 |[],n,l,_,h=>by cases h;exact⟨fr,λ_ _=>rfl,r,trivial⟩
 |.tmp d::g,n,l,p,h=>by
  obtain⟨F,j⟩:=gz h;have q:d<pX:=by simp_all
  obtain⟨f,y,A,C⟩:=Xu s r (Nat.le_succ_of_le p) j;exact⟨f,λd q=>y d (Nat.lt_succ_of_lt q),A,y d (Nat.lt_succ_of_lt (hS q p)),C⟩
 |.cell a t::g,n,l,p,h=>by
  simp only[xx] at h;split at h
  ·rename_i V K F j;cases h;obtain⟨f,y,A,C⟩:=Xu s r (Nat.le_succ_of_le p) j;obtain⟨b,B,w,I,N,Q⟩:=arx s (r a) F;refine⟨λi=>if i=n then w else f i,λd q=>?_,λi=>?_,?_⟩
   ·grind
   ·show rel X.G z vs (eI ((n,V)::(K++E)) i) (if i=n then w else f i);simp only[eI];split
    ·simp_all
    ·rename_i L;rw[if_neg (by rintro rfl;simp_all)];exact A i
   ·have M:(nL (n+1) g).map (λi=>if i=n then w else f i)=(nL (n+1) g).map f:=by
     apply YW;intro x H;rw[if_neg];rintro rfl;rcases Xt j _ H with h|h<;>omega
    refine⟨⟨b,B,I,?_⟩,?_⟩
    ·grind
    grind
  grind
def adx{d:List (Nat×bc D)}{e:List (cv D)}{b:Nat}:∀{cs:List (cv D)}{a i:Nat},(x2 d e b a cs)[i]?=(cs[i]?).map λc=>if tq d b (a+i)=aa then e.getD (a+i) .gE else c
 |[],a,i=>by rfl
 |c::cs,a,0=>by rfl
 |c::cs,a,i+1=>by simp only[x2,qH];rw[adx (cs:=cs),show a+1+i=a+(i+1) by omega]
theorem ady{d:List (Nat×bc D)}{e:List (cv D)}{b:Nat}:∀{cs:List (cv D)}{a:Nat},(x2 d e b a cs).length=cs.length
 |[],_=>rfl
 |c::cs,a=>by simp[x2,ady (cs:=cs)]
def fj.app{A:List (Nat×bc D)}(b:fj X z vs E fr)(h:∀p∈A,rel X.G z vs p.2 (fr p.1)):fj X z vs (A++E) fr:=by
 induction A with
 |nil=>grind
 |cons p A a=>grind[cons]
theorem W4{n:Nat}:∀{E:List (Nat×bc D)},(E.all λp=>mn p.1 n)=aa->∀s,n<=s->eI E s=.un
 |[],_,s,_=>rfl
 |p::E,h,s,a=>by
  simp only[ml,fx] at h;have b:p.1<n:=by simp_all
  simp only[eI];rw[if_neg (by simp;omega)];exact W4 h.2 s a
def BY{f:List (Nat×bc D)}:∀{aQ:List dt}{l:List (Nat×bc D)},uH X f E aQ=J l->(∀p∈l,fk<=p.1/\(p.1-fk)%64=0/\∃t a,eI E ((p.1-fk) / 64)=.agg t a/\p.2=.agg t (x2 f (nQ X t) p.1 0 a))/\
  ∀s c,dt.v s c∈aQ->fk<=s->∃t a,eI E ((s-fk) / 64)=.agg t a
 |[],l,h=>by cases h;exact⟨by simp,by simp⟩
 |.o _ _::aQ,l,h=>by
  obtain⟨b,d⟩:=BY (aQ:=aQ) h
  grind
 |.u _ _::aQ,l,h=>by
  obtain⟨b,d⟩:=BY (aQ:=aQ) h
  grind
 |.v PZ j::aQ,l,h=>by
  simp only[uH] at h;split at h
  ·rename_i e;obtain⟨g,h⟩:=gz h;split at h
   ·rename_i t a k;split at h
    ·rename_i l1 i;cases h;obtain⟨b,d⟩:=BY (aQ:=aQ) i
     grind[pk,kA]
    grind
   grind
  ·rename_i e;obtain⟨b,d⟩:=BY (aQ:=aQ) h
   grind[Nat.ble_eq_true_of_le]
def WD:∀{l:List (Nat×bc D)},∀p∈yF E l,fk<=p.1/\p.2=Ua E (p.1-fk)
 |[],p,h=>by cases h
 |q::l,p,h=>by
  simp only[yF] at h;split at h
  ·rename_i a;rcases ha.1 h with rfl|h
   ·simp_all
   ·exact WD p h
  ·exact WD p h
def att{r:List (Nat×bc D)}{j:List dt}{L:List (Nat×bc D)}(N:fj X z vs E fr)(oO:(E.all λp=>mn p.1 fk)=aa)(h:uH X r E j=J L):
  ∃k,(∀s,s<fk->k s=fr s)/\fj X z vs (L++(yF E r++E)) k/\IE j r k:=by
 obtain⟨m1,m2⟩:=BY h
 let n:Nat->Nat:=λs=>match eI E s with|.agg t _=>t|_=>0
 let k:Nat->af:=λs=>if s<fk then fr s else match fr ((s-fk) / 64) with
  |.agg e=>if(s-fk)%64=0 then .agg ((mN e.toList.length).map λi=>if tq r s i=aa then YA (XE (X:=X) (t:=n ((s-fk) / 64)) i) else e.toList.getD i undef).toArray else e.toList.getD ((s-fk)%64-1) undef
  |v=>v
 have S:∀s,s<fk->k s=fr s:=λs A=>if_pos A;have x:∀s t f,fk<=s->eI E ((s-fk) / 64)=.agg t f->∃e:List af,fr ((s-fk) / 64)=.agg e.toArray/\bP (ed X.G z vs) f e/\
   k s=if(s-fk)%64=0 then .agg ((mN e.length).map λi=>if tq r s i=aa then YA (XE (X:=X) (t:=t) i) else e.getD i undef).toArray else e.getD ((s-fk)%64-1) undef:=by
  intro s t f A g;have y:=N ((s-fk) / 64);rw[g] at y;obtain⟨e,m,q⟩:=y;refine⟨e,m,q,?_⟩;show(if s<fk then _ else _)=_;rw[if_neg (by omega)];simp only[m,n,g]
 have F:fj X z vs E k:=λs=>by
  by_cases A:s<fk
  ·rw[S s A];exact N s
  ·rw[W4 oO s (by omega)];trivial
 refine⟨k,S,(F.app λp I=>?_).app λp I=>?_,λd t hm=>?_⟩
 ·obtain⟨m,q⟩:=WD p I;rw[q];unfold Ua;split
  ·trivial
  ·rename_i Y;split
   ·rename_i t f g;obtain⟨e,_,C,l⟩:=x p.1 t f m g;split
    ·rename_i c V;obtain⟨w,R,y⟩:=C.get _ c V;rw[l,if_neg (by simp_all)];have H:e.getD ((p.1-fk)%64-1) undef=w:=by grind
     rw[H];exact y
    ·trivial
   ·trivial
 ·obtain⟨m,q,t,f,g,br⟩:=m1 p I;obtain⟨e,_,C,l⟩:=x p.1 t f m g;rw[br,l,if_pos q];have Q:=(lx.1 C).1;refine⟨_,rfl,lx.2 ⟨by grind[ady],λi a b B T=>?_⟩⟩;rw[adx] at B;obtain⟨a0,Y,B⟩:=vT.1 B;rw[lH] at B;have M:i<e.length:=by grind
  rw[sH,List.getElem?_range M] at T
  grind[lx]
 ·obtain⟨O,f,g⟩:=m2 _ _ hm (by omega);obtain⟨e,P,C,l⟩:=x (fk+64*d) O f (by omega) g;have Z:(fk+64*d-fk) / 64=d:=by omega
  have e2:(fk+64*d-fk)%64=0:=by omega
  rw[if_pos e2] at l;rw[Z] at P g;have bg:d<fk:=by
   grind[W4]
  refine⟨_,e,l,by grind,by simp,λi w R=>?_⟩;have M:=(fq.1 R).1;split
  ·rename_i aM;have U:i<63:=by
    grind[tq,Nat.blt_eq]
   obtain⟨nv,K,_,fo⟩:=x (fk+64*d+1+i) O f (by omega) (by rw[show(fk+64*d+1+i-fk) / 64=d by omega];grind);rw[show(fk+64*d+1+i-fk) / 64=d by omega,P] at K;have K:e=nv:=by
    grind
   subst K;rw[fo,if_neg (by omega),show(fk+64*d+1+i-fk)%64-1=i by omega]
   grind
  simp_all
def Au.of(U:iV X){B:Code}{us:List (mP D)}{d:fS D}{F:d.F}(te:∀u∈us,0<u.path.length->qJ X B u)
  (Y:∀r x,j8 X us calm aa [] B (hc X d.ins x++(d.fg++xu d.ij)) (rb X d.ij r) (PY X d)=F r x):Au X B d F:=by
 intro r x y z m kk V fr Z f S;have h:=Y r x;rw[Z] at h;refine(Lh U (L:=0) te B aa [] _ _ _ y (sc B) (by simp) (by simp) f S h).mono ?_;rintro ex fY m1 ⟨dv,jK,ia,cu,bR,I,E,k,T,q⟩;obtain⟨n,q⟩:=gz q;obtain⟨l,hV,a⟩:=bind_some q;obtain⟨K,fv,H,M⟩:=Xu k T (e4 _) hV;have R:(sm d).length=V.length:=by rw[f.len,asL]
 rw[R] at a;have g:=auZ (X:=X) d.ij r;by_cases j:wg d.outs=aa
 ·replace a:=(if_pos j).symm.trans a
  obtain⟨N,a⟩:=gz a;simp only[fx] at N;obtain⟨BE,p,a⟩:=bind_some a;obtain⟨O,kN,iS,wR⟩:=att H N.1 p;obtain⟨C,w,s,e,A⟩:=B8 (ks:=sm d) (ins:=PW d.ij) (x:=X2 d.ij r) (ee:=d.ee) (by grind) E (by rw[g];exact f.len) k iS a;rw[g] at e;have oR:d.eX.map K=d.eX.map O:=YW λx n=>(kN x (by simp_all)).symm;exact⟨n,O,oR▸M,C,w,I.trans s,e,A,wR⟩
 replace a:=(if_neg j).symm.trans a
 obtain⟨C,w,s,e,A⟩:=B8 (ks:=sm d) (ins:=PW d.ij) (x:=X2 d.ij r) (ee:=d.ee) (by grind) E (by rw[g];exact f.len) k H a;rw[g] at e;refine⟨n,K,M,C,w,I.trans s,e,A,λP t hm=>absurd ?_ j⟩;have:∀{b:List dt},dt.v (fk+64*P) (.agg t)∈b->wg b=aa:=by
  intro b;induction b with
  |nil=>grind
  |cons i b Q=>
   intro h;rcases ha.1 h with rfl|h
   ·simp[wg]
   ·have:=Q h;cases i<;>simp[wg,this]
 grind
end
end
end
section
noncomputable section
section
variable {P:bI}{D:Nat->Type}{X:e3 P D}{z dv z2:Nat->bW}{e m m1:Mem}{k q:Option Nat}{vs:List af}{fr:Nat->af}{E:List (Nat×bc D)}{O cr:List (ba D)}{ap:Type}{r:ap}
def WC:∀{l:List (bc D)}{b:List af}{i:Nat},bP (rel X.G z vs) l b->(∀(j:Nat)(v:af),b[j]?=J v->fr (i+j)=v)->fj X z vs (mg i l) fr
 |[],[],i,_,_=>λd=>trivial
 |s::l,a::b,i,⟨k,e⟩,f=>by
  refine(WC (i:=i+1) e λj v g=>?_).cons ?_
  ·rw[show i+1+j=i+(j+1) by omega];simp_all
  ·have:=f 0 a rfl
   grind
 |[],_::_,_,h,_=>h.elim
 |_::_,[],_,h,_=>h.elim
structure Il(P:bI)(X:e3 P D)(d:fS D)(F:d.F):Prop where
 ex:∃fn c,P.funcs[d.f]?=J fn/\qm P fn c/\lR P d.f=aa/\iJ d.lQ fn.ntmps=aa/\fn.results.toList=d.lV/\Au X c d F
 new:sh d.outs=aa
 ay9:(d.fg.all λp=>tJ p.2)=aa
 avH:(d.fu.all λp=>tJ p.2)=aa
 avI:(d.fg.all λp=>(GY p.2).isNone)=aa
def Wb{c:cv D}{w:af}(h:Cp c=J w):ed X.G z vs c w/\dy w=aa/\kz w=aa/\aF.flat w=aa:=by
 cases c<;>first|(cases h;done)|(cases h;exact⟨rfl,rfl,rfl,rfl⟩)
def Wc:∀{b:List (cv D)}{a:List af},xl b=J a->bP (ed X.G z vs) b a/\a.all dy=aa
 |[],_,h=>by cases h;exact⟨trivial,rfl⟩
 |c::b,a,h=>by
  simp only[xl] at h;split at h
  ·rename_i v l d e;cases h;obtain⟨f,i,_⟩:=Wb (X:=X) (z:=z) (vs:=vs) d;obtain⟨g,j⟩:=Wc e;exact⟨⟨f,g⟩,by grind⟩
  grind
def Wd:∀{l:List (cv D⊕(Nat×List (cv D)))}{a:List af},tG l=J a->bP (vt X.G z vs) l a/\a.all kz=aa
 |[],_,h=>by cases h;exact⟨trivial,rfl⟩
 |.inl c::l,a,h=>by
  simp only[tG] at h;split at h
  ·rename_i v l1 b d;cases h;obtain⟨e,_,g,_⟩:=Wb (X:=X) (z:=z) (vs:=vs) b;obtain⟨f,i⟩:=Wd d;exact⟨⟨e,f⟩,by grind⟩
  grind
 |.inr p::l,a,h=>by
  simp only[tG] at h;split at h
  ·rename_i v l1 b d;cases h;obtain⟨e,g⟩:=Wc (X:=X) (z:=z) (vs:=vs) b;obtain⟨f,i⟩:=Wd d;exact⟨⟨⟨v,rfl,e⟩,f⟩,by simp only[ml,i,Bool.and_true];exact g⟩
  grind
def aqu{s:bc D}{w:af}(h:Cq s=J w):rel X.G z vs s w/\aF.flat w=aa:=by
 unfold Cq at h;split at h
 ·obtain⟨a,_,_,b⟩:=Wb (X:=X) (z:=z) (vs:=vs) h;exact⟨a,b⟩
 ·split at h
  ·rename_i e d;cases h;obtain⟨a,b⟩:=Wc (X:=X) (z:=z) (vs:=vs) d;exact⟨⟨e,rfl,a⟩,b⟩
  grind
 ·split at h
  ·rename_i f d;cases h;obtain⟨a,b⟩:=Wd (X:=X) (z:=z) (vs:=vs) d;exact⟨⟨f,rfl,a⟩,b⟩
  grind
 grind
def Inv.app(O N:List (ba D)):Inv O (O++N):=⟨by simp,λi p a b _ _=>by grind⟩
def b9.nil(a:b9 X.G O z e m k vs):b9 X.G ([]:List (ba D)) z m m ae []:=⟨dL.start a.aS.bZ a.aS.dead,rfl,by simp,by simp⟩
def ad6{kk:Option Nat}(h:dL dv e m k)(a:dL z2 m m1 kk)(i:∀b,kk=J b->e.next<=b\/k=J b):dL z2 e m1 k/\gl m m1 kk:=
 ⟨⟨a.bZ,a.dead,h.oL,jd h.next a.next,λb d f=>by
  rw[a.kept b (hS d h.next) (λg=>by grind)];exact h.kept b d f⟩,⟨a.next,a.dead,a.kept⟩⟩
def adv{a:List dt}{e:List (Nat×bc D)}{d f:List (bc D)}{j:List (ba D)}{x:ft D a}{dB:List af}(i:fj X z vs (mg 0 d) fr)(l:yd X z vs fr a f)(k:iG X [] j a f []=J x)
  (h:(e.all λp=>wa [] p.2 (eI (mg 0 d) p.1))=aa):∀p∈hc X a x++e,rel X.G z dB p.2 (fr p.1):=by
 intro p b;rcases kU.1 b with b|b
 ·grind[zN]
 ·have g:=iA.1 h p b;have:=Xi (X:=X) (vs':=dB) id g (i p.1) (by simp)
  grind[Lp]
def after{a:List dt}{y:ft D a}{pU:List (ba D)}{dB d:List af}{kk:Option Nat}{L z:List (ba D)}{f:Nat->Nat}(O:b9 X.G L dv e m k vs)(C:b9 X.G z z2 e m1 k vs)(r:b9 X.G (pU++eU X a y) z2 m m1 kk (dB++d))(U:dB.length=pU.length)(F:sh a=aa)
  (I:∀(j:Nat)(o:ba D)(v:af),z[j]?=J o->vs[j]?=J v->o.live=aa->∀b,dQ v=J b->b<m.next) (l:∀(j:Nat)(u:af),(dB++d)[j]?=J u->(vs++d)[f j]?=J u):b9 X.G (z++mkOr X f a y) z2 e m1 k (vs++d):=by
 have R:(eU X a y).length=(mkOr X f a y).length:=by grind[mD,va]
 have S:d.length=(eU X a y).length:=by
  have:=r.len
  grind
 have A:∀(j:Nat)(o:ba D)(v:af),(mkOr X f a y)[j]?=J o->d[j]?=J v->∃q∈cos a y,o=cw.gO X f q.c q.x ak/\(pU++eU X a y)[pU.length+j]?=J (cw.mk X q.c q.x ak)/\(dB++d)[pU.length+j]?=J v:=by
  grind[va,mD]
 refine C.al6 (S.trans R) I (λj o v h g=>?_) (λi j o p v w V h H g Q=>?_)
 ·obtain⟨q,B,rfl,s,t⟩:=A j o v h g;have K:=r.obj _ _ v s t;exact born (KR F B) O.aS.next (cw.y8 (nR:=f) (vs':=vs++d) ak K λn _ u P=>l n u P)
 ·obtain⟨q,B,rfl,s,t⟩:=A i o v h g;obtain⟨Y,E,rfl,M,N⟩:=A j p w H Q;exact r.fD _ _ _ _ v w (by omega) s M cw.u4 cw.u4 t N
theorem KS:∀{aQ:List dt},sh aQ=aa->∀d c,dt.v d c∈aQ->c.y9=aa
 |.v d c::aQ,h,e,b,a=>by
  have h:=tY.1 h;rcases ha.1 a with f|a
  ·grind
  ·exact KS (aQ:=aQ) h.2 e b a
 |.u d c::aQ,h,e,b,a=>by
  rcases ha.1 a with f|a
  ·grind
  ·exact KS (aQ:=aQ) h e b a
 |.o d c::aQ,h,e,b,a=>by
  rcases ha.1 a with f|a
  ·grind
  ·refine KS (aQ:=aQ) ?_ e b a;cases c<;>first|exact h|cases h
def K9:∀{aQ:List dt}{x:ft D aQ}{p:Nat×bc D},p∈hc X aQ x->∃c y,dt.v p.1 c∈aQ/\p.2=gR.mk X c y
 |[],_,_,h=>by grind[hc]
 |.o d c::aQ,x,p,h=>by
  obtain⟨b,y,e,a⟩:=K9 (aQ:=aQ) (x:=x.2) h
  grind
 |.u d c::aQ,x,p,h=>by
  obtain⟨b,y,e,a⟩:=K9 (aQ:=aQ) (x:=x.2) h
  grind
 |.v d c::aQ,x,p,h=>by
  rcases ha.1 h with rfl|h
  ·grind
  ·obtain⟨b,y,e,a⟩:=K9 (aQ:=aQ) (x:=x.2) h
   grind
def W5:∀{E:List (Nat×bc D)}{s:Nat}{v:bc D},eI E s=v->v≠.un->(s,v)∈E
 |[],_,_,h,a=>absurd h.symm a
 |p::E,s,v,h,a=>by
  simp only[eI] at h;split at h
  ·grind[kA]
  ·exact kn _ (W5 h a)
def adA{a:Nat->Nat}:∀{l:List (Nat×bc D)}{s:Nat},eI (l.map λq=>(q.1,pE a q.2)) s=pE a (eI l s)
 |[],_=>rfl
 |p::l,s=>by
  simp only[List.map_cons,eI];split
  ·rfl
  ·exact adA
def adn{b:Nat}:∀{cs:List (cv D)}{a i:Nat},(wS E b a cs)[i]?=(cs[i]?).map (XT (mn (a+i) 63) (eI E (b+1+(a+i))))
 |[],a,i=>by rfl
 |c::cs,a,0=>by rfl
 |c::cs,a,i+1=>by simp only[wS,qH];rw[adn (cs:=cs),show a+1+i=a+(i+1) by omega]
theorem ado{b:Nat}:∀{cs:List (cv D)}{a:Nat},(wS E b a cs).length=cs.length
 |[],_=>rfl
 |c::cs,a=>by simp[wS,ado (cs:=cs)]
def WK{b e:List (Nat×bc D)}:∀{f:List Nat},∀p∈BB b e f,∃t a,eI b (fk+64*p.1)=.agg t a/\p.2=.agg t (wS e (fk+64*p.1) 0 a)
 |[],p,h=>by cases h
 |d::i,p,h=>by
  simp only[BB] at h;split at h
  ·rename_i t a g;rcases ha.1 h with rfl|h
   ·grind
   ·exact WK p h
  ·exact WK p h
def atA{b:List dt}{y:ft D b}{f:List (Nat×bc D)}{k:Nat->Nat}{O:List Nat}(h:∀q∈hc X b y++f.map λq=>(q.1,pE k q.2),rel X.G z vs q.2 (fr q.1))(I:IE b f fr):fj X z vs (PX (hc X b y) (f.map λq=>(q.1,pE k q.2)) O) fr:=by
 refine(Cm h).app λp L=>?_;obtain⟨t,cs,T,F⟩:=WK p L;have A:=W5 T (by simp);obtain⟨c,a,R,S⟩:=K9 A;have H:c=.agg t:=by cases c<;>simp[gR.mk] at S;grind
 subst H;obtain⟨Z,N,r,M,fo,V⟩:=I _ _ R;obtain⟨l,Y,s⟩:=h _ (kU.2 (.inl A));rw[Y] at r;have r:l=Z:=by
  grind
 subst r;rw[F];have x:=(lx.1 s).1;refine⟨N,M,lx.2 ⟨by grind[ado],λi C w d U=>?_⟩⟩;rw[adn] at d;obtain⟨E,K,d⟩:=vT.1 d;rw[lH,adA] at d;have j:=V i w U;cases g:tq f (fk+64*p.1) i with
 |true=>
  rw[if_pos g] at j;unfold tq at g;simp only[fx] at g;obtain⟨Q,P⟩:=g;split at P
  ·rename_i n e;rw[Q,e] at d;have d:cv.own (k n)=C:=d;subst d;have B:=W5 e (by simp);have:=h (fk+64*p.1+1+i,.c (.own (k n))) (kU.2 (.inr (l2.2 ⟨_,B,rfl⟩)));rw[<-j];exact this
  grind
 |false=>
  rw[if_neg (by grind)] at j;have aV:=(lx.1 s).2 i E w K j;unfold XT at d;split at d
  ·rename_i n aw e;exfalso;have:eI f (fk+64*p.1+1+i)=.c (.own n)\/∃m,eI f (fk+64*p.1+1+i)=.c (.own m):=by
    generalize eI f (fk+64*p.1+1+i)=q at e;cases q with
    |c q=>cases q<;>first|exact .inr ⟨_,rfl⟩|cases e
    |_=>first|cases e|(unfold pE at e;grind)
   grind[tq]
  grind
def aeF{k:List Nat}{a:List dt}{y:ft D a}{d:List (Nat×bc D)}{dB f:List af}{e:Nat->Nat}(n:sh a=aa)(m:(d.all λp=>tJ p.2)=aa)(h:(∀q∈hc X a y++d,rel X.G z dB q.2 (fr q.1))/\IE a d fr)(l:∀(j:Nat)(u:af),dB[j]?=J u->f[e j]?=J u):
  fj X z f (PX (hc X a y) (d.map λq=>(q.1,pE e q.2)) k) fr:=by
 obtain⟨h,i⟩:=h;refine atA (λq b=>?_) i;rcases kU.1 b with b|b
 ·grind[zB,gR.VP,KS]
 ·obtain⟨r,g,rfl⟩:=l2.1 b
  grind[XU]
def asJ{t b:Nat}{o:ba D}{x:D t}(g:zP X t (J o)=J x)(I:hf X.G z e m k vs o (.pointer (J ⟨b,0,ae⟩))):
  o.live=aa/\(e.next<=b\/k=J b)/\(∀h,hf X.G z m m (J b) h (.recv t (jl X t x) ak:ba D) (.pointer (J ⟨b,0,ae⟩)))/\
  (∀{p:Nat->bW}{l:Mem}{w:Bool}{a:D t}{H:List af},hf X.G p m l (J b) H (.recv t (jl X t a) w:ba D) (.pointer (J ⟨b,0,ae⟩))->hf X.G p e l k vs (GW t (jl X t a) o) (.pointer (J ⟨b,0,ae⟩))/\(o.clean=aa->a=x->hf X.G p e l k vs o (.pointer (J ⟨b,0,ae⟩)))):=by
 unfold zP at g;split at g
 ·rename_i L K w C;cases C;obtain⟨q,g⟩:=gz g;subst q;obtain⟨c,B,F,f,i,A⟩:=I;cases F;refine⟨rfl,.inl i,λh=>⟨b,B,rfl,⟨f.blk,f.lt,f.dead,.inr rfl⟩,vl g A⟩,?_⟩;intro p l w a H r;obtain⟨c,n,E,d,j⟩:=r;cases E;refine⟨⟨b,n,rfl,⟨d.blk,d.lt,d.dead,.inl i⟩,i,tC j⟩,λs y=>?_⟩;subst y;rw[LA g s];exact⟨b,n,rfl,⟨d.blk,d.lt,d.dead,.inl i⟩,i,tC j⟩
 ·rename_i L K w C;cases C;obtain⟨q,g⟩:=gz g;subst q;obtain⟨c,B,F,f,A⟩:=I;cases F;refine⟨rfl,f.fresh,λh=>⟨b,B,rfl,⟨f.blk,f.lt,f.dead,.inr rfl⟩,vl g A⟩,?_⟩;intro p l w a H r;obtain⟨c,n,E,d,j⟩:=r;cases E;refine⟨⟨b,n,rfl,⟨d.blk,d.lt,d.dead,f.fresh⟩,tC j⟩,λs y=>?_⟩;subst y;rw[LA g s];exact⟨b,n,rfl,⟨d.blk,d.lt,d.dead,f.fresh⟩,tC j⟩
 grind
def fS.quiet(d:fS D):Bool:=d.flat&&d.ij.isNone
def gL(X:e3 P D)(d:fS D)(F:d.F):Prop:=∀(g:List (bc D))(O:List (ba D)){i:Type}(K:bc D->List (ba D)->Option i)(r:i){z:Nat->bW}{e m:Mem}{k:Option Nat}{b:List af}(a:List af),
 b9 X.G O z e m k b->bP (rel X.G z b) g a->d.call X F g O K=J r->h2 P d.f a.toArray m λv h=>dH X O z e k b K r v h/\(d.quiet=aa->h=m)/\∃q,gG m h q/\oI b (q1 g) q
def gl.ZV{q:Option Nat}(h:gl m m1 q):gG m m1 q:=⟨h.next,h.blk⟩
def ac8{i a d:Nat}:∀{l:List (bc D)}{n:Nat},eI (mg n l) d=.box i a->i∈q1 l
 |[],n,h=>by cases h
 |s::l,n,h=>by
  simp only[mg,eI] at h;split at h
  ·subst h;exact oG
  ·have:=ac8 h;cases s<;>first|exact this|exact kn _ this
def Il.call{d:fS D}{F:d.F}(eF:Il P X d F):gL X d F:=by
 intro cX O ap K r z e m k vs args aN dE h;obtain⟨fn,c,f1,f2,f3,f4,f5,mS⟩:=eF.ex;have nE:=eF.new;have aa7:=eF.avH;unfold fS.call at h;obtain⟨hlen,h⟩:=gz h;have hlen:=kA hlen;split at h
 ·rename_i mv cu bF;obtain⟨an,h⟩:=gz h;split at h
  ·rename_i x aw;have cN:args.toArray.size<=fn.ntmps:=by
    rw[List.size_toArray,<-dE.length,hlen];simp_all
   have bp:∀fr:Nat->af,(∀i v,args.toArray.toList[i]?=J v->fr i=v)->fj X z vs (mg 0 cX) fr:=λfr hU=>WC dE λj v bn=>by grind
   obtain⟨f,lQ,ins,fg,ij,re,outs,fu,lV,flat⟩:=d;cases ij with
   |none=>
    obtain⟨y,aZ,h⟩:=bind_some h;split at h
    ·rename_i dR By;have body:∀fr:Nat->af,(∀i v,args.toArray.toList[i]?=J v->fr i=v)->W P c (λex fY m1=>(ex=.normal\/ex=.ret)/\∃dv z2 ep,Inv O cu/\dT e.next z dv/\b9 X.G cu dv e m k vs/\dT m.next dv z2/\b9 X.G (eU X outs (gn outs y)) z2 m m1 ae ep/\∃ic,q2 P fY m1 lV ((nL pX lV).map ic)/\(rel X.G z2 (vs++ep) dR (pack ((nL pX lV).map ic))/\(((nL pX lV).map ic).length=1\/∀x∈(nL pX lV).map ic,storable x=aa))) fr m:=by
      intro fr hU;obtain⟨dv,g0,g1,g2,g3⟩:=w2 aN (bp fr hU) bF;have Bt:=adv (dB:=[]) ((bp fr hU).mono g1.le λ_ _ h=>h) g3 aw an;refine(mS () x y (z:=dv) (m:=m) (kk:=ae) (dB:=[]) aZ g2.nil (Cm λp bb=>Bt p (by grind[xu]))).mono ?_;rintro ex fY m1 ⟨he,ic,fv,z2,ep,cL,c9,fo⟩;have c9:b9 X.G (eU X outs (gn outs y)) z2 m m1 ae ep:=c9;refine⟨he,dv,z2,ep,g0,g1,g2,cL,c9,ic,fv,Xf (aeF (dB:=ep) nE aa7 fo λj u hu=>?_) By⟩;show(vs++ep)[cu.length+j]?=J u;rw[kT (by rw[g2.len];omega),g2.len,show cu.length+j-cu.length=j by omega]
      grind
     split at h
     ·split at h
      ·rename_i w hw;obtain⟨dX,ix⟩:=aqu (X:=X) (z:=z) (vs:=vs) hw;refine(h2.flat (z:=z) f1 f2 f3 cN ix λfr hU=>(body fr hU).mono ?_).mono ?_
       ·rintro ex fY m1 ⟨he,dv,z2,ep,_,_,_,_,c9,ic,fv,fo,k4⟩;exact⟨he,z2,c9.aS,_,by grind,k4,(arX hw fo).1⟩
       ·rintro v m' ⟨rfl,rfl⟩;exact⟨dH.here aN dX h,λ_=>rfl,ae,gG.refl _,.inl rfl⟩
      grind
     ·rename_i aoi;refine h2.any f1 f2 f3 cN λfr hU=>(body fr hU).mono ?_;rintro ex fY m1 ⟨he,dv,z2,ep,g0,g1,g2,cL,c9,ic,fv,fo,k4⟩;obtain⟨s1,s2⟩:=ad6 (e:=e) (k:=k) g2.aS c9.aS (by simp);refine⟨he,_,by grind,k4,⟨z2,vs++ep,dR,_,g0.trans (Inv.app _ _),g1.trans (cL.Ja aN.aS.next),j0,?_,fo,h⟩,λbm=>absurd (by grind[fS.quiet]) aoi,ae,s2.ZV,.inl rfl⟩;have aT:=g2.call cL s2 s1 rfl λj o' bn=>.inl ⟨bn,λ_ v _=>e6.qg⟩;have aol:∀(j:Nat)(u:af),([]++ep)[j]?=J u->(vs++ep)[cu.length+j]?=J u:=λj u hu=>by
       rw[kT (by rw[g2.len];omega),g2.len,show cu.length+j-cu.length=j by omega]
       grind
      exact after (pU:=[]) (dB:=[]) g2 aT c9 rfl nE (λj o v aM aD aR b aw=>((g2.obj j o v aM aD).lt aR b aw).1) aol
    grind
   |some p=>
    unfold Ck at h;dsimp only at h;split at h
    ·rename_i i az;split at h
     ·rename_i o aM;obtain⟨G0,aa4,h⟩:=bind_some h;obtain⟨y,aZ,h⟩:=bind_some h;split at h
      ·rename_i dR By;refine h2.any f1 f2 f3 cN λfr hU=>?_;obtain⟨dv,g0,g1,g2,g3⟩:=w2 aN (bp fr hU) bF;have Bt:=λdB=>adv (dB:=dB) ((bp fr hU).mono g1.le λ_ _ h=>h) g3 aw an;have bb:=bp fr hU p.1;rw[az] at bb;obtain⟨b,js,jR⟩:=bb;have cG:=g2.obj i o _ aM js;obtain⟨oq,o9,ay5,ay6⟩:=asJ aa4 cG;have am':b9 X.G (rb X (J p) G0) dv m m (J b) [.pointer (J ⟨b,0,ae⟩)]:=by
        refine⟨dL.start g2.aS.bZ g2.aS.dead,rfl,λj o' v bn aD=>?_,λa dJ o' qj v w jV bl e5=>?_⟩
        ·grind[rb]
        grind
       refine(mS G0 x y (z:=dv) (m:=m) (kk:=J b) (dB:=[.pointer (J ⟨b,0,ae⟩)]) aZ am' (Cm λq bm=>?_)).mono ?_
       ·rcases kU.1 bm with bm|bm
        ·grind
        ·rcases kU.1 bm with bm|bm
         ·grind
         ·simp only[xu,ha,List.not_mem_nil,or_false] at bm;subst bm;exact⟨b,rfl,jR⟩
       rintro ex fY m1 ⟨he,ic,fv,z2,ep,cL,c9,fo⟩;obtain⟨s1,s2⟩:=ad6 (e:=e) (k:=k) g2.aS c9.aS (λc ay=>by grind);have ax1:i<cu.length:=(fq.1 aM).1;have rU:∀(j:Nat)(u:af),([af.pointer (J ⟨b,0,ae⟩)]++ep)[j]?=J u->(vs++ep)[wL i cu.length j]?=J u:=by
        intro j u hu;cases j with
        |zero=>
         simp at hu;subst hu;show(vs++ep)[i]?=_
         grind
        |succ j=>
         simp at hu;show(vs++ep)[cu.length+(j+1-1)]?=_;rw[kT (by rw[g2.len];omega),g2.len,show cu.length+(j+1-1)-cu.length=j by omega]
         grind
       have oR:=Xf (aeF nE aa7 fo rU) By;have c9:b9 X.G (([if re=1 then(.recv p.2 (jl X p.2 G0) ak:ba D) else if re=2 then kc X wE outs (gn outs y) 0 else .dead]:List (ba D))++eU X outs (gn outs y)) z2 m m1 (J b) ([.pointer (J ⟨b,0,ae⟩)]++ep):=c9;have cp:=c9.obj 0 _ (.pointer (J ⟨b,0,ae⟩)) rfl rfl;have apart:∀(j:Nat)(o':ba D),j≠i->cu[j]?=J o'->o'.live=aa->∀v,vs[j]?=J v->e6 (dQ v) (J b):=λj o' JO bn aR v aD=>g2.fD j i o' o v _ JO bn aM aR oq aD js;have apu:∀(j:Nat)(o':ba D)(v:af),cu[j]?=J o'->vs[j]?=J v->o'.live=aa->∀c,dQ v=J c->c<m.next:=λj o' v aM aD aR c ay=>((g2.obj j o' v aM aD).lt aR c ay).1;have fin:∀{sL:List (ba D)},Inv cu sL->b9 X.G sL z2 e m1 k vs->(∀(j:Nat)(o':ba D)(v:af),sL[j]?=J o'->vs[j]?=J v->o'.live=aa->∀c,dQ v=J c->c<m.next)->K dR (sL++mkOr X (wL i cu.length) outs (gn outs y))=J r->dH X O z e k vs K r (pack ((nL pX lV).map ic)) m1:=by intro sL anR aT cF k1;exact⟨z2,vs++ep,dR,_,(g0.trans anR).trans (Inv.app _ _),g1.trans (cL.Ja aN.aS.next),j0,after g2 aT c9 rfl nE cF rU,oR.1,k1⟩
       have pF:∀{Ki:ba D},Ki.nd=aa->(∀v,vs[i]?=J v->hf X.G z2 e m1 k vs Ki v)->K dR (cu.set i Ki++mkOr X (wL i cu.length) outs (gn outs y))=J r->dH X O z e k vs K r (pack ((nL pX lV).map ic)) m1:=by
        intro Ki aJ aT k1;refine fin (Inv.set cu i (.inr aJ)) (g2.call cL s2 s1 (by simp) λj o' bn=>?_) (λj o' v bn aD aR c ay=>?_) k1
        ·grind
        grind
       refine⟨he,_,by grind,oR.2,?_,λbm=>absurd bm (by simp[fS.quiet]),J b,s2.ZV,.inr ⟨i,ac8 az,_,js,rfl⟩⟩;split at h
       ·rename_i Bn;rw[if_neg (by omega),if_pos Bn] at cp;split at h
        ·rename_i t cs w hu;obtain⟨aJ,h⟩:=gz h;rcases tx (X:=X) (aQ:=outs) (x:=gn outs y) (j:=0) with bg|⟨_,c3,a',_,bg⟩
         ·grind
         ·cases c3 with
          |recv eu=>
           have bg:=bg wE;have Bi:=bg;rw[hu] at bg;simp only[cw.gO] at bg;cases bg;subst aJ;rw[Bi] at cp;refine pF ?_ (λv aD=>?_) h
           ·unfold GW;split<;>rfl
           grind
          |_=>rw[bg] at hu;cases hu
        grind
       ·obtain⟨Vd,h⟩:=gz h;rw[if_pos Vd] at cp;split at h
        ·rename_i kK;refine fin (Inv.refl cu) (g2.call cL s2 s1 rfl λj o' bn=>?_) apu h
         grind
        ·refine pF ?_ (λv aD=>?_) h
         ·unfold GW;split<;>rfl
         grind
      grind
     grind
    grind
  grind
 grind
structure mK(D:Nat->Type) where
 d:fS D
 F:d.F
def fS.fits(X:e3 P D)(d:fS D)(a:List (bc D))(O:List (ba D)):Bool:=
 fi a.length d.lQ&&match rL (mg 0 a) d.ins O with
 |some (e,b)=>(d.fg.all λp=>wa [] p.2 (eI (mg 0 a) p.1))&&(iG X [] b d.ins e []).isSome
 |none=>ak
def K2(X:e3 P D):List (mK D)->Nat->List (bc D)->List (ba D)->{b:Type}->(bc D->List (ba D)->Option b)->Option b|[],_,_,_,_,_=>ae|x::l,f,a,O,_,K=>if(fi x.d.f f&&x.d.fits X a O)=aa then x.d.call X x.F a O K else K2 X l f a O K
def Lk(X:e3 P D):List (mK D)->Nat->List (bc D)->List (ba D)->Bool|[],_,_,_=>ak|x::l,f,a,O=>if(fi x.d.f f&&x.d.fits X a O)=aa then x.d.quiet else Lk X l f a O
structure j6(D:Nat->Type) where
 F:(f:Nat)->List (bc D)->List (ba D)->Bool
 hg:bS->Option bS->Option bS->Nat
 C:(f:Nat)->List (bc D)->List (ba D)->{ap:Type}->(bc D->List (ba D)->Option ap)->Option ap
 W:(f:Nat)->Bool
def e3.gm(X:e3 P D)(q:j6 D):e3 P D:={X with C:=q.C,F:=q.F,hg:=q.hg,W:=q.W}
def e3.with(X:e3 P D)(l:List (mK D)):e3 P D:=X.gm ⟨Lk X l,X.hg,K2 X l,X.W⟩
def e3.l9(X:e3 P D)(f:bS->Option bS->Option bS->Nat):e3 P D:=X.gm ⟨X.F,f,X.C,X.W⟩
theorem ar4(l:j6 D)(t:Nat):nQ (X.gm l) t=nQ X t:=by
 cases a:X.I t with
 |none=>
  have b:(X.gm l).I t=ae:=a
  grind[nQ]
 |some d=>have b:(X.gm l).I t=J d:=a;simp_all[nQ]
def w6(l:j6 D)(t:Nat)(x:D t):jl (X.gm l) t x=jl X t x:=by
 cases a:X.I t with
 |none=>
  have b:(X.gm l).I t=ae:=a
  grind[jl]
 |some d=>have b:(X.gm l).I t=J d:=a;simp_all[jl]
theorem vb(l:j6 D)(t:Nat)(a:List (cv D)):mA (X.gm l) t a=mA X t a:=by
 cases b:X.I t with
 |none=>
  have d:(X.gm l).I t=ae:=b
  grind[mA]
 |some e=>have d:(X.gm l).I t=J e:=b;simp_all[mA]
def ab9(l:j6 D):∀(a:List Nat)(x:wF D a),tD (X.gm l) a x=tD X a x
 |[],_=>rfl
 |t::a,x=>by show(t,jl (X.gm l) t x.1)::tD (X.gm l) a x.2=(t,jl X t x.1)::tD X a x.2;rw[ab9 l a x.2,w6 l t x.1]
theorem ab8(l:j6 D):∀(a:List Nat)(x:List (Nat×List (cv D))),xa (X.gm l) a x=xa X a x
 |[],[]=>rfl
 |[],_::_=>rfl
 |_::_,[]=>rfl
 |t::a,p::x=>by simp only[xa,ab8 l a x,vb]
theorem gR.VQ(l:j6 D)(c:gR)(x:c.ty D):gR.mk (X.gm l) c x=gR.mk X c x:=by
 cases c with
 |fn f b=>exact congrArg (bc.fn f) (ab9 l b x)
 |agg t=>exact congrArg (bc.agg t) (w6 l t x)
 |hd t=>exact congrArg (λa=>bc.hd t a 0) (w6 l t x)
 |_=>rfl
def gR.JB(l:j6 D)(c:gR)(s:bc D):gR.get (X.gm l) c s=gR.get X c s:=by
 unfold gR.get;split
 ·rfl
 ·rfl
 ·rfl
 ·rfl
 ·rfl
 ·rfl
 ·rfl
 ·grind[vb]
 ·grind[vb]
 ·grind[ab8]
 ·rfl
 rfl
theorem cw.Kd(l:j6 D)(b:Nat->Nat)(c:cw)(x:c.ty D)(w:Bool):cw.gO (X.gm l) b c x w=cw.gO X b c x w:=by
 cases c with
 |box t=>exact congrArg (λa=>ba.box t a ak w) (w6 l t x)
 |recv t=>exact congrArg (λa=>ba.recv t a w) (w6 l t x)
 |bL t p=>exact congrArg (λa=>ba.box t (qi b p 0 a) ak w) (w6 l t x)
 |_=>rfl
theorem cw.VQ(l:j6 D)(c:cw)(x:c.ty D)(w:Bool):cw.mk (X.gm l) c x w=cw.mk X c x w:=cw.Kd l _ c x w
def cw.JB(l:j6 D)(a:List Nat)(c:cw)(o:ba D):cw.get (X.gm l) a c o=cw.get X a c o:=by
 unfold cw.get;split
 ·rfl
 ·grind[vb]
 ·grind[vb]
 ·rfl
 ·rfl
 ·grind[ar4,vb]
 ·rfl
 ·rfl
 rfl
def aq3(l:j6 D)(t:Nat)(o:Option (ba D)):zP (X.gm l) t o=zP X t o:=by
 unfold zP;split
 ·rw[vb]
 ·rw[vb]
 rfl
theorem B6(l:j6 D){f:List Nat}:∀(a:List dt)(b:List (bc D))(e:List Nat),iG (X.gm l) f O a b e=iG X f O a b e
 |[],_,[]=>rfl
 |[],_,_::_=>by rfl
 |.v _ _::_,[],_=>by rfl
 |.o _ _::_,[],_=>by rfl
 |.u _ _::_,[],_=>by rfl
 |.v d c::a,s::b,e=>by simp only[iG,gR.JB,B6 l a b e]
 |.o d c::a,s::b,[]=>rfl
 |.o d c::a,s::b,i::e=>by simp only[iG,cw.JB,B6 l a b e]
 |.u d c::a,s::b,e=>by simp only[iG,cw.JB,B6 l a b e]
def WQ(l:j6 D):∀(a:List dt)(x:ft D a),eU (X.gm l) a x=eU X a x
 |[],_=>rfl
 |.v d c::a,x=>WQ l a x.2
 |.u d c::a,x=>WQ l a x.2
 |.o d c::a,x=>by
  show cw.mk (X.gm l) c x.1 ak::eU (X.gm l) a x.2=cw.mk X c x.1 ak::eU X a x.2;rw[WQ l a x.2]
  grind[cw.VQ]
def zr(l:j6 D){b:Nat->Nat}:∀(a:List dt)(x:ft D a),mkOr (X.gm l) b a x=mkOr X b a x
 |[],_=>rfl
 |.v d c::a,x=>zr l a x.2
 |.u d c::a,x=>zr l a x.2
 |.o d c::a,x=>by
  show cw.gO (X.gm l) b c x.1 ak::mkOr (X.gm l) b a x.2=cw.gO X b c x.1 ak::mkOr X b a x.2;rw[zr l a x.2]
  grind[cw.Kd]
def zk(l:j6 D):∀(a:List dt)(x:ft D a),hc (X.gm l) a x=hc X a x
 |[],_=>rfl
 |.v d c::a,x=>by
  show(d,gR.mk (X.gm l) c x.1)::hc (X.gm l) a x.2=(d,gR.mk X c x.1)::hc X a x.2;rw[zk l a x.2]
  grind[gR.VQ]
 |.u d c::a,x=>zk l a x.2
 |.o d c::a,x=>zk l a x.2
def BQ(l:j6 D){b:Nat->Nat}:∀(a:List dt)(x:ft D a)(j:Nat),kc (X.gm l) b a x j=kc X b a x j
 |[],_,_=>rfl
 |.v d c::a,x,j=>BQ l a x.2 j
 |.u d c::a,x,j=>by
  show(if fi d j=aa then cw.gO (X.gm l) b c x.1 aa else kc (X.gm l) b a x.2 j)=(if fi d j=aa then cw.gO X b c x.1 aa else kc X b a x.2 j);rw[BQ l a x.2 j]
  grind[cw.Kd]
 |.o d c::a,x,j=>BQ l a x.2 j
def acR(l:j6 D)(d:fS D)(F:d.F)(a:List (bc D))(O:List (ba D)){e:Type}(K:bc D->List (ba D)->Option e):d.call (X.gm l) F a O K=d.call X F a O K:=by
 obtain⟨f,m,h,j,g,n,b,k,i,flat⟩:=d;unfold fS.call;dsimp only;simp only[B6];cases g with
 |none=>simp_all[Ck,zk,zr]
 |some p=>simp only[Ck,zk,zr,BQ,aq3,w6]
def iV.l9{f:bS->Option bS->Option bS->Nat}(h:iV X):iV (X.l9 f):=h
def gL.l9{f:bS->Option bS->Option bS->Nat}{d:fS D}{F:d.F}(h:gL (X.l9 f) d F):gL X d F:=by
 intro i O l K r z e m k n a g j b;rw[<-acR ⟨X.F,f,X.C,X.W⟩] at b;exact h i O K r a g j b
def gL.or{d:fS D}{F l h:d.F}(L:d.ij=ae)(Q:∀r x y,F r x=J y->l r x=J y\/h r x=J y)(E:gL X d l)(w:gL X d h):gL X d F:=by
 intro g O N K r z e m k Z b n s a;have j:d.call X l g O K=J r\/d.call X h g O K=J r:=by
  obtain⟨f,T,I,R,H,Y,t,S,U,flat⟩:=d;unfold fS.call at a⊢;obtain⟨q,a⟩:=gz a;rw[if_pos q,if_pos q];split at a
  ·rename_i V P C;obtain⟨A,a⟩:=gz a;simp only[C,if_pos A];split at a
   ·rename_i x B;simp only[B];cases H with
    |none=>
     unfold Ck at a⊢;obtain⟨y,M,a⟩:=bind_some a
     grind
    |some p=>grind
   grind
  grind
 rcases j with i|i
 ·exact E g O K r b n s i
 ·exact w g O K r b n s i
def acg{f:Nat}{i:List (bc D)}{K:bc D->List (ba D)->Option ap}{a:List af}(n:b9 X.G O z e m k vs)(p:bP (rel X.G z vs) i a):∀{l:List (mK D)},(∀x∈l,gL X x.d x.F)->K2 X l f i O K=J r->h2 P f a.toArray m λv j=>dH X O z e k vs K r v j/\(Lk X l f i O=aa->j=m)/\∃q,gG m j q/\oI vs (q1 i) q
 |[],_,b=>by cases b
 |x::l,h,b=>by
  unfold K2 at b;unfold Lk;split at b
  ·rename_i g;rw[if_pos g];simp only[fx] at g;have:=kA g.1;subst this;exact h x oG i O K r a n p b
  ·rename_i g;rw[if_neg g];exact acg n p (λy s=>h y (kn _ s)) b
def iV.of{l:List (mK D)}(h:∀x∈l,gL X x.d x.F):iV (X.with l):=by
 intro f p O n K r z e m k s b g j i;exact(acg (X:=X) g j h i).mono λv q a=>⟨a.1,a.2.1,λ_=>a.2.2⟩
def aqT{l:List (mK D)}{x:mK D}(h:gL X x.d x.F)(a:∀y∈l,gL X y.d y.F):∀y∈x::l,gL X y.d y.F:=by
 grind
end
end
end
section
inductive LT:Type 1 where
 |int (k:aG)|bool|str
 |bh (aK:Type) (T:cM aK)
 |mp (aK cg:Type) (M:ph aK cg)
 |fn
def LT.ty:LT->Type|.int _=>Int|.bool=>Bool|.str=>List UInt8|.bh aK _=>List aK|.mp aK a _=>List (aK×a)|.fn=>Option Nat
def aah:Option Nat->af|none=>.nilFunc|some n=>.func (.func n) #[] #[]
def LT.rd(z:Nat->bW):(l:LT)->l.ty->af->Prop|.int k,n,v=>v=.int k n|.bool,b,v=>v=.bool b|.str,s,v=>v=aF.str s|.bh _ T,d,v=>fA T z d v|.mp _ _ M,a,v=>nn M z a v|.fn,o,v=>v=aah o
def h6:List LT->Type|[]=>Unit|l::a=>l.ty×h6 a
def pa(z:Nat->bW):(a:List LT)->h6 a->List af->Prop|[],_,[]=>True|l::a,x,v::b=>l.rd z x.1 v/\pa z a x.2 b|_,_,_=>False
def ad2{z:Nat->bW}:∀{a:List LT}{x:h6 a}{b:List af},pa z a x b->b.length=a.length
 |[],_,[],_=>rfl
 |l::a,x,v::d,h=>by simp[ad2 h.2]
 |[],_,_::_,h=>h.elim
 |_::_,_,[],h=>h.elim
def adp{z f:Nat->bW}(b:fl z f):∀{a:List LT}{x:h6 a}{e:List af},pa z a x e->pa f a x e
 |[],_,[],_=>trivial
 |l::a,x,v::j,h=>⟨by
  have d:=h.1;cases l with
  |bh g T=>exact fA.mono b d
  |mp g i M=>exact nn.mono d b
  |_=>exact d,adp b h.2⟩
 |[],_,_::_,h=>h.elim
 |_::_,_,[],h=>h.elim
def ad3{z:Nat->bW}:∀{e:List LT}{x:h6 e}{f:List af},pa z e x f->∀c∈f,storable c=aa/\c.cells=#[c]
 |[],_,[],_,c,b=>by grind
 |l::e,x,v::j,h,c,b=>by
  rcases ha.1 b with rfl|b
  ·have d:=h.1;cases l with
   |bh g T=>obtain⟨a,c,rfl⟩:=fA.len d;exact⟨rfl,rfl⟩
   |mp g i M=>rcases d with⟨rfl,_⟩|⟨r,rfl,_⟩<;>exact⟨rfl,rfl⟩
   |fn=>obtain⟨x,y⟩:=x;cases x<;>(obtain rfl:=d;exact⟨rfl,rfl⟩)
   |_=>obtain rfl:=d;exact⟨rfl,rfl⟩
  ·exact ad3 h.2 c b
 |[],_,_::_,h,_,_=>h.elim
 |_::_,_,[],h,_,_=>h.elim
def fB(t:bV)(a:List LT){b:Type}(f:b->h6 a):cM b where
 bM:=a.length
 tid:=t
 rd:=λz x e=>pa z a (f x) e
 len:=λ_ _ _ h=>ad2 h
 mono:=λ_ _ d _ _ h=>adp d h
 one:=λ_ _ _ h=>ad3 h
noncomputable section
inductive hJ where
 |int (k:aG)|bool|str
 |bh (e:Nat)
 |mp (t bG bA:Nat)
 |fn
section
variable {P:bI}{D:Nat->Type}(G:l6 D)
def Ju:Option Nat->cv D|none=>.wJ|some n=>.fn n []
def hJ.lt:hJ->LT|.int k=>.int k|.bool=>.bool|.str=>.str|.bh e=>.bh (D e) (G.T e)|.mp t b a=>.mp (D b) (D a) (G.M t b a)|.fn=>.fn
def gJ:List hJ->List LT|[]=>[]|c::a=>c.lt G::gJ a
def jX:(a:List hJ)->h6 (gJ G a)->List (cv D)|[],_=>[]|.int k::a,x=>.int k x.1::jX a x.2|.bool::a,x=>.bool x.1::jX a x.2|.str::a,x=>.str x.1::jX a x.2|.bh e::a,x=>.bh e x.1::jX a x.2|.mp t d b::a,x=>.mp t d b x.1::jX a x.2|.fn::a,x=>Ju x.1::jX a x.2
def jm:(a:List hJ)->List (cv D)->Option (h6 (gJ G a))
 |[],[]=>J ()
 |.int k::a,.int k' n::d=>if k'=k then(match jm a d with|some y=>J (n,y)|none=>ae) else ae
 |.bool::a,.bool b::d=>(match jm a d with|some y=>J (b,y)|none=>ae)
 |.str::a,.str s::d=>(match jm a d with|some y=>J (s,y)|none=>ae)
 |.bh e::a,.bh cz m::d=>if h:cz=e then(match jm a d with|some y=>J ((h▸m:List (D e)),y)|none=>ae) else ae
 |.bh e::a,.gE::d=>(match jm a d with|some y=>J (([]:List (D e)),y)|none=>ae)
 |.mp t g f::a,.mp eu l j i::d=>if h:l=g/\j=f then(if eu=t then(match jm a d with|some y=>J ((h.1▸h.2▸i:List (D g×D f)),y)|none=>ae) else ae) else ae
 |.mp t g f::a,.oY::d=>(match jm a d with|some y=>J (([]:List (D g×D f)),y)|none=>ae)
 |.fn::a,.wJ::d=>(match jm a d with|some y=>J ((ae:Option Nat),y)|none=>ae)
 |.fn::a,.fn n []::d=>(match jm a d with|some y=>J ((J n:Option Nat),y)|none=>ae)
 |_,_=>ae
variable {G}
def atu{z:Nat->bW}{a:List af}{o:Option Nat}{v:af}(h:v=aah o):ed G z a (Ju o) v:=by
 cases o with
 |none=>exact h
 |some n=>exact⟨[],h,trivial⟩
def xb{z:Nat->bW}{d:List af}:∀{a:List hJ}{x:h6 (gJ G a)}{b:List af},pa z (gJ G a) x b->bP (ed G z d) (jX G a x) b
 |[],_,[],_=>trivial
 |.int k::a,x,v::w,h=>⟨h.1,xb h.2⟩
 |.bool::a,x,v::w,h=>⟨h.1,xb h.2⟩
 |.str::a,x,v::w,h=>⟨h.1,xb h.2⟩
 |.bh e::a,x,v::w,h=>⟨h.1,xb h.2⟩
 |.mp t g f::a,x,v::w,h=>⟨h.1,xb h.2⟩
 |.fn::a,x,v::w,h=>⟨atu h.1,xb h.2⟩
 |.mp _ _ _::_,_,[],h=>h.elim
 |.fn::_,_,[],h=>h.elim
 |[],_,_::_,h=>h.elim
 |.int _::_,_,[],h=>h.elim
 |.bool::_,_,[],h=>h.elim
 |.str::_,_,[],h=>h.elim
 |.bh _::_,_,[],h=>h.elim
def vk:∀{a:List hJ}(x:h6 (gJ G a)),jm G a (jX G a x)=J x
 |[],_=>rfl
 |.int k::a,x=>by show(if k=k then(match jm G a (jX G a x.2) with|some y=>J (x.1,y)|none=>ae) else ae)=_;rw[vk x.2,if_pos rfl];rfl
 |.bool::a,x=>by show(match jm G a (jX G a x.2) with|some y=>J (x.1,y)|none=>ae)=_;rw[vk x.2];rfl
 |.str::a,x=>by show(match jm G a (jX G a x.2) with|some y=>J (x.1,y)|none=>ae)=_;rw[vk x.2];rfl
 |.bh e::a,x=>by show(if h:e=e then(match jm G a (jX G a x.2) with|some y=>J ((h▸x.1:List (D e)),y)|none=>ae) else ae)=_;rw[vk x.2,dif_pos rfl];rfl
 |.mp t d b::a,x=>by show(if h:d=d/\b=b then(if t=t then(match jm G a (jX G a x.2) with|some y=>J ((h.1▸h.2▸x.1:List (D d×D b)),y)|none=>ae) else ae) else ae)=_;rw[vk x.2,dif_pos ⟨rfl,rfl⟩,if_pos rfl];rfl
 |.fn::a,(ae,y)=>by show(match jm G a (jX G a y) with|some y=>J ((ae:Option Nat),y)|none=>ae)=_;rw[vk y];rfl
 |.fn::a,(J n,y)=>by show(match jm G a (jX G a y) with|some y=>J ((J n:Option Nat),y)|none=>ae)=_;rw[vk y];rfl
def ath{z:Nat->bW}{O:List af}:∀{e:List hJ}{g:List (cv D)}{x:h6 (gJ G e)}{p:List af},jm G e g=J x->bP (ed G z O) g p->pa z (gJ G e) x p:=by
 intro e;induction e with
 |nil=>
  intro g x p h s;cases g with
  |nil=>cases p with
   |nil=>trivial
   |cons _ _=>exact s.elim
  |cons c g=>cases h
 |cons l e i=>
  intro g x p h s;cases g with
  |nil=>cases l<;>cases h
  |cons c g=>
   cases p with
   |nil=>exact s.elim
   |cons d p=>
    obtain⟨m,j⟩:=s;have a:∀{C:Type}{f:h6 (gJ G e)->C}{o:Option (h6 (gJ G e))}{r:C},(match o with|some y=>J (f y)|none=>ae)=J r->∃y,o=J y/\r=f y:=by
     grind
    cases l with
    |int k=>
     cases c with
     |int Q n=>obtain⟨q,h⟩:=gz (aK:=h6 (gJ G (.int k::e))) h;subst q;obtain⟨y,b,rfl⟩:=a h;exact⟨m,i b j⟩
     |_=>cases h
    |bool=>
     cases c with
     |bool n=>obtain⟨y,b,rfl⟩:=a h;exact⟨m,i b j⟩
     |_=>cases h
    |str=>
     cases c with
     |str n=>obtain⟨y,b,rfl⟩:=a h;exact⟨m,i b j⟩
     |_=>cases h
    |bh t=>
     cases c with
     |bh w P=>
      by_cases q:w=t
      ·subst q;have h:(if h:w=w then(match jm G e g with|some y=>J ((h▸P:List (D w)),y)|none=>ae) else ae)=J x:=h;rw[dif_pos rfl] at h;obtain⟨y,b,rfl⟩:=a h;exact⟨m,i b j⟩
      grind[jm]
     |gE=>obtain⟨y,b,rfl⟩:=a h;exact⟨.inl ⟨m,rfl⟩,i b j⟩
     |_=>cases h
    |mp t F E=>
     cases c with
     |mp I B A H=>
      by_cases q:B=F/\A=E
      ·obtain⟨rfl,rfl⟩:=q;have h:(if h:B=B/\A=A then(if I=t then(match jm G e g with|some y=>J ((h.1▸h.2▸H:List (D B×D A)),y)|none=>ae) else ae) else ae)=J x:=h;rw[dif_pos ⟨rfl,rfl⟩] at h;obtain⟨q,h⟩:=gz h;subst q;obtain⟨y,b,rfl⟩:=a h;exact⟨m,i b j⟩
      grind[jm]
     |oY=>obtain⟨y,b,rfl⟩:=a h;exact⟨.inl ⟨m,rfl⟩,i b j⟩
     |_=>cases h
    |fn=>
     cases c with
     |wJ=>obtain⟨y,b,rfl⟩:=a h;exact⟨m,i b j⟩
     |fn n N=>
      cases N with
      |nil=>
       obtain⟨y,b,rfl⟩:=a h;obtain⟨M,K,L⟩:=m;cases M with
       |nil=>exact⟨K,i b j⟩
       |cons _ _=>exact L.elim
      |cons _ _=>cases h
     |_=>cases h
def auV:∀{d:List hJ}{e:List (cv D)}{x:h6 (gJ G d)},jm G d e=J x->pR e (jX G d x):=by
 intro d;induction d with
 |nil=>
  intro e x h;cases e with
  |nil=>trivial
  |cons c e=>cases h
 |cons l d g=>
  intro e x h;cases e with
  |nil=>cases l<;>cases h
  |cons c e=>
   have a:∀{q:Type}{f:h6 (gJ G d)->q}{o:Option (h6 (gJ G d))}{r:q},(match o with|some y=>J (f y)|none=>ae)=J r->∃y,o=J y/\r=f y:=by
    grind
   cases l with
   |int k=>
    cases c with
    |int E n=>obtain⟨i,h⟩:=gz (aK:=h6 (gJ G (.int k::d))) h;subst i;obtain⟨y,b,rfl⟩:=a h;exact⟨λ_=>rfl,g b⟩
    |_=>cases h
   |bool=>
    cases c with
    |bool n=>obtain⟨y,b,rfl⟩:=a h;exact⟨λ_=>rfl,g b⟩
    |_=>cases h
   |str=>
    cases c with
    |str n=>obtain⟨y,b,rfl⟩:=a h;exact⟨λ_=>rfl,g b⟩
    |_=>cases h
   |bh t=>
    cases c with
    |bh j C=>
     by_cases i:j=t
     ·subst i;have h:(if h:j=j then(match jm G d e with|some y=>J ((h▸C:List (D j)),y)|none=>ae) else ae)=J x:=h;rw[dif_pos rfl] at h;obtain⟨y,b,rfl⟩:=a h;exact⟨λ_=>rfl,g b⟩
     grind[jm]
    |gE=>obtain⟨y,b,rfl⟩:=a h;exact⟨λh=>(by cases h),g b⟩
    |_=>cases h
   |mp t w s=>
    cases c with
    |mp A p m z=>
     by_cases i:p=w/\m=s
     ·obtain⟨rfl,rfl⟩:=i;have h:(if h:p=p/\m=m then(if A=t then(match jm G d e with|some y=>J ((h.1▸h.2▸z:List (D p×D m)),y)|none=>ae) else ae) else ae)=J x:=h;rw[dif_pos ⟨rfl,rfl⟩] at h;obtain⟨i,h⟩:=gz h;subst i;obtain⟨y,b,rfl⟩:=a h;exact⟨λ_=>rfl,g b⟩
     grind[jm]
    |oY=>obtain⟨y,b,rfl⟩:=a h;exact⟨λh=>(by cases h),g b⟩
    |_=>cases h
   |fn=>
    cases c with
    |wJ=>obtain⟨y,b,rfl⟩:=a h;exact⟨λ_=>rfl,g b⟩
    |fn n B=>
     cases B with
     |nil=>obtain⟨y,b,rfl⟩:=a h;exact⟨λ_=>rfl,g b⟩
     |cons _ _=>cases h
    |_=>cases h
def X9:∀{a:List hJ},(gJ G a).length=a.length
 |[]=>rfl
 |l::a=>by simp[gJ,X9]
def pM:List hJ->List (cv D)|[]=>[]|.int k::a=>.int k 0::pM a|.bool::a=>.bool ak::pM a|.str::a=>.str []::pM a|.bh _::a=>.gE::pM a|.mp _ _ _::a=>.oY::pM a|.fn::a=>.wJ::pM a
def oD:List hJ->List af|[]=>[]|.int k::a=>.int k 0::oD a|.bool::a=>.bool ak::oD a|.str::a=>.string ⟨#[]⟩::oD a|.bh _::a=>.slice ae 0 0::oD a|.mp _ _ _::a=>.map ae::oD a|.fn::a=>.nilFunc::oD a
def xe{z:Nat->bW}{b:List af}:∀{a:List hJ},bP (ed G z b) (pM a:List (cv D)) (oD a)
 |[]=>trivial
 |.int k::a=>⟨rfl,xe⟩
 |.bool::a=>⟨rfl,xe⟩
 |.str::a=>⟨rfl,xe⟩
 |.bh _::a=>⟨rfl,xe⟩
 |.mp _ _ _::a=>⟨rfl,xe⟩
 |.fn::a=>⟨rfl,xe⟩
def vg:∀{a:List hJ}{x:h6 (gJ G a)},(jX G a x).all qf=aa
 |[],_=>rfl
 |.int k::a,x=>by simp only[jX,ml,vg,qf,vK]
 |.bool::a,x=>by simp only[jX,ml,vg,qf,vK]
 |.str::a,x=>by simp only[jX,ml,vg,qf,vK]
 |.bh _::a,x=>by simp only[jX,ml,vg,qf,vK]
 |.mp _ _ _::a,x=>by simp only[jX,ml,vg,qf,vK]
 |.fn::a,(ae,y)=>by simp only[jX,Ju,ml,vg,qf,vK]
 |.fn::a,(J n,y)=>by simp only[jX,Ju,ml,vg,qf,List.isEmpty,vK]
def tR:(a:List hJ)->h6 (gJ G a)|[]=>()|.int _::a=>((0:Int),tR a)|.bool::a=>(ak,tR a)|.str::a=>(([]:List UInt8),tR a)|.bh e::a=>(([]:List (D e)),tR a)|.mp _ d b::a=>(([]:List (D d×D b)),tR a)|.fn::a=>((ae:Option Nat),tR a)
def xw{z:Nat->bW}:∀(a:List hJ),pa z (gJ G a) (tR (G:=G) a) (oD a)
 |[]=>trivial
 |.int _::a=>⟨rfl,xw a⟩
 |.bool::a=>⟨rfl,xw a⟩
 |.str::a=>⟨rfl,xw a⟩
 |.bh _::a=>⟨.inl ⟨rfl,rfl⟩,xw a⟩
 |.mp _ _ _::a=>⟨.inl ⟨rfl,rfl⟩,xw a⟩
 |.fn::a=>⟨rfl,xw a⟩
def WY:∀(a:List hJ),(oD a).all dy=aa/\(oD a).length=a.length
 |[]=>⟨rfl,rfl⟩
 |c::a=>by have:=WY a;cases c<;>exact⟨by simp only[oD,ml,this.1];rfl,by grind[oD]⟩
def awe{t:Nat}(ls:List hJ)(to:D t->h6 (gJ G ls))(of:h6 (gJ G ls)->D t)(h1:∀x,of (to x)=x)(ai:∀y,to (of y)=y)(i:TypeInfo)
  (jU:G.T t=fB t (gJ G ls) to) (az:P.info? t=J i) (cN:i.size=ls.length) (hh:(ls.length==0)=ak) (hp:iJ i.bytes 32768=aa) (bx:i.zero=J (i.zero.getD undef)) (hL:(i.zero.getD undef).cells.toList=oD ls):dP P G t where
 rk:=pM ls
 qX:=λz vs=>by rw[hL];exact xe
 VN:=λx=>vg
 kM:=λx=>jX G ls (to x)
 qk:=λcs=>match jm G ls cs with|some y=>J (of y)|none=>ae
 x0:=of (tR ls)
 i:=i
 c0:=i.zero.getD undef
 tid:=by rw[jU];rfl
 az:=az
 cN:=by rw[jU,cN];exact X9.symm
 hh:=by rw[jU];show((gJ G ls).length==0)=ak;rw[X9];exact hh
 hp:=hp
 bx:=bx
 dw:=by rw[hL];exact(WY ls).1
 et:=by rw[<-Array.length_toList,hL,(WY ls).2,cN]
 GX:=λz=>by rw[jU,hL];show pa z (gJ G ls) (to (of (tR ls))) (oD ls);rw[ai];exact xw ls
 rc:=λz vs x cs h=>by rw[jU] at h;exact xb h
 r6:=λz vs cs x ds h aV=>by
  rw[jU];split at h
  ·rename_i y aZ;cases h;show pa z (gJ G ls) (to (of y)) ds;rw[ai];exact ath aZ aV
  ·cases h
 V1:=λx=>by show(match jm G ls (jX G ls (to x)) with|some y=>J (of y)|none=>ae)=J x;rw[vk];exact congrArg J (h1 x)
 Ko:=λcs x h=>by
  split at h
  ·rename_i y aZ;cases h;rw[ai];exact auV aZ
  ·cases h
def ara(u:UInt8):gW (u.toNat:Int)=J u:=by
 unfold gW;have:=u.toNat_lt;rw[if_pos (by omega)];simp
def awf{t:Nat}(to:D t->UInt8)(of:UInt8->D t)(abL:Option UInt8->Option (D t))(Vr:∀o,abL o=o.map of)(h1:∀x,of (to x)=x)(ai:∀y,to (of y)=y)(i:TypeInfo)(aoU:(G.T t).tid=t)(td:(G.T t).bM=1)(e0:∀z x cs,(G.T t).rd z x cs↔cs=[.int .u8 (to x).toNat])
  (az:P.info? t=J i) (cN:i.size=1) (hp:iJ i.bytes 32768=aa) (bx:i.zero=J (.int .u8 0)):dP P G t where
 rk:=[.int .u8 0]
 qX:=λz vs=>⟨rfl,trivial⟩
 VN:=λx=>rfl
 kM:=λx=>[.int .u8 (to x).toNat]
 qk:=λcs=>match cs with|[.int .u8 n]=>abL (gW n)|_=>ae
 x0:=of 0
 i:=i
 c0:=.int .u8 0
 tid:=aoU
 az:=az
 cN:=by rw[td,cN]
 hh:=by rw[td];rfl
 hp:=hp
 bx:=bx
 dw:=rfl
 et:=by rw[cN];rfl
 GX:=λz=>(e0 z _ _).2 (by rw[ai];rfl)
 rc:=λz vs x cs h=>by rw[(e0 z x cs).1 h];exact⟨rfl,trivial⟩
 r6:=λz vs cs x ds h aV=>by
  split at h
  ·rename_i n;cases ds with
   |nil=>exact aV.elim
   |cons d ds=>
    cases ds with
    |cons _ _=>exact aV.2.elim
    |nil=>
     rw[Vr] at h;cases hu:gW n with
     |none=>rw[hu] at h;cases h
     |some u=>rw[hu] at h;cases h;have:d=.int .u8 n:=aV.1;rw[this,acM hu];exact(e0 z _ _).2 (by rw[ai])
  ·cases h
 V1:=λx=>by simp only[ara,Vr,vU,h1]
 Ko:=λcs x h=>by
  split at h
  ·rename_i n;rw[Vr] at h;cases hu:gW n with
   |none=>rw[hu] at h;cases h
   |some u=>rw[hu] at h;cases h;rw[ai,acM hu];exact pR.refl _
  ·cases h
def hC:(a:List hJ)->h6 (gJ G a)->List af|[],_=>[]|.int k::a,x=>.int k x.1::hC a x.2|.bool::a,x=>.bool x.1::hC a x.2|.str::a,x=>aF.str x.1::hC a x.2|.bh _::a,x=>undef::hC a x.2|.mp _ _ _::a,x=>undef::hC a x.2|.fn::a,x=>undef::hC a x.2
def nK(P:bI):List Field->Nat->List hJ->Bool
 |[],_,[]=>aa
 | f :: bY, i,.int _ :: ls => (f.offset == i && f.name != "_") && ((match P.underlying f.type with | J (.int _) => aa | _ => ak) && nK P bY (i + 1) ls)
 | f :: bY, i,.bool :: ls => (f.offset == i && f.name != "_") && ((match P.underlying f.type with | J .bool => aa | _ => ak) && nK P bY (i + 1) ls)
 | f :: bY, i,.str :: ls => (f.offset == i && f.name != "_") && ((match P.underlying f.type with | J .string => aa | _ => ak) && nK P bY (i + 1) ls)
 |_,_,_=>ak
def Kx:∀{e:List Field}{i:Nat}{a:List hJ}{x y:h6 (gJ G a)},nK P e i a=aa->sN P e i (hC a x) (hC a y)
 |[],_,[],_,_,_=>trivial
 |f::e,i,.int k::a,x,y,h=>by
  simp only[nK,fx,beq_iff_eq,bne_iff_ne] at h;obtain⟨⟨j,d⟩,b,g⟩:=h;refine⟨j,d,.inl ?_,Kx g⟩;split at b
  ·exact⟨k,_,_,_,‹_›,rfl,rfl⟩
  grind
 |f::e,i,.bool::a,x,y,h=>by
  simp only[nK,fx,beq_iff_eq,bne_iff_ne] at h;obtain⟨⟨j,d⟩,b,g⟩:=h;refine⟨j,d,.inr (.inl ?_),Kx g⟩;split at b
  ·exact⟨_,_,‹_›,rfl,rfl⟩
  grind
 |f::e,i,.str::a,x,y,h=>by
  simp only[nK,fx,beq_iff_eq,bne_iff_ne] at h;obtain⟨⟨j,d⟩,b,g⟩:=h;refine⟨j,d,.inr (.inr ?_),Kx g⟩;split at b
  ·exact⟨_,_,‹_›,rfl,rfl⟩
  grind
 |_::_,_,.bh _::_,_,_,h=>by cases h
 |_::_,_,.mp _ _ _::_,_,_,h=>by cases h
 |_::_,_,.fn::_,_,_,h=>by cases h
 |[],_,_::_,_,_,h=>by cases h
 |_::_,_,[],_,_,h=>by cases h
def K8:∀{b:List Field}{i:Nat}{a:List hJ}{x y:h6 (gJ G a)},nK P b i a=aa->hC a x=hC a y->x=y
 |_,_,[],_,_,_,_=>rfl
 |f::b,i,.int k::a,x,y,h,e=>by simp only[nK,fx] at h;simp only[hC,List.cons.injEq] at e;exact Prod.ext (mu.inj e.1).2 (K8 h.2.2 e.2)
 |f::b,i,.bool::a,x,y,h,e=>by simp only[nK,fx] at h;simp only[hC,List.cons.injEq] at e;exact Prod.ext (af.bool.inj e.1) (K8 h.2.2 e.2)
 |f::b,i,.str::a,x,y,h,e=>by simp only[nK,fx] at h;simp only[hC,List.cons.injEq] at e;exact Prod.ext (ad7 e.1) (K8 h.2.2 e.2)
 |_::_,_,.bh _::_,_,_,h,_=>by cases h
 |[],_,.bh _::_,_,_,h,_=>by cases h
 |[],_,.int _::_,_,_,h,_=>by cases h
 |[],_,.bool::_,_,_,h,_=>by cases h
 |[],_,.str::_,_,_,h,_=>by cases h
 |_::_,_,.mp _ _ _::_,_,_,h,_=>by cases h
 |_::_,_,.fn::_,_,_,h,_=>by cases h
 |[],_,.mp _ _ _::_,_,_,h,_=>by cases h
 |[],_,.fn::_,_,_,h,_=>by cases h
def Ld{z:Nat->bW}:∀{j:List Field}{i:Nat}{a:List hJ}{x:h6 (gJ G a)}{b:List af},nK P j i a=aa->pa z (gJ G a) x b->b=hC a x
 |_,_,[],_,[],_,_=>rfl
 |_,_,[],_,_::_,_,h=>h.elim
 |f::j,i,.int k::a,x,d::b,h,e=>by simp only[nK,fx] at h;have g:d=.int k x.1:=e.1;rw[hC,g,<-Ld h.2.2 e.2]
 |f::j,i,.bool::a,x,d::b,h,e=>by simp only[nK,fx] at h;have g:d=.bool x.1:=e.1;rw[hC,g,<-Ld h.2.2 e.2]
 |f::j,i,.str::a,x,d::b,h,e=>by simp only[nK,fx] at h;have g:d=aF.str x.1:=e.1;rw[hC,g,<-Ld h.2.2 e.2]
 |_::_,_,.bh _::_,_,_,h,_=>by cases h
 |_::_,_,.mp _ _ _::_,_,_,h,_=>by cases h
 |_::_,_,.fn::_,_,_,h,_=>by cases h
 |[],_,_::_,_,_,h,_=>by cases h
 |_::_,_,.int _::_,_,[],_,h=>h.elim
 |_::_,_,.bool::_,_,[],_,h=>h.elim
 |_::_,_,.str::_,_,[],_,h=>h.elim
def Xh{t:Nat}(ls:List hJ)(to:D t->h6 (gJ G ls))(of:h6 (gJ G ls)->D t)(h1:∀x,of (to x)=x)(bY:Array Field)(eq:D t->D t->Bool)(jU:G.T t=fB t (gJ G ls) to)(he:∀x y,eq x y=aa↔x=y)
  (aJ:P.underlying t=J (.struct bY)) (bb:P.stoodInHeld t=ak) (bs:P.eqGuardType P.depth t=ak) (bf:nK P bY.toList 0 ls=aa):AI P G t where
 bY:=bY
 eq:=eq
 aW:=λx=>hC ls (to x)
 aJ:=aJ
 bb:=bb
 bs:=bs
 bf:=λx y=>Kx bf
 aD:=λz x ds h=>by rw[jU] at h;exact Ld bf h
 he:=λx y=>by
  rw[he];constructor
  ·rintro rfl;rfl
  ·intro h;have:=K8 bf h;rw[<-h1 x,<-h1 y,this]
def VK{a:Type}(k:aG)(d:Int->a):bc D->Option a:=λs=>match s with|.c (.int b n)=>if b=k then J (d n) else ae|_=>ae
def VL{a:Type}(b:List UInt8->a):bc D->Option a:=λs=>match s with|.c (.str n)=>J (b n)|_=>ae
def Ye{a:Type}(k:aG)(b:Int->a):cv D->Option a:=λs=>match s with|.int k' n=>if k'=k then J (b n) else ae|_=>ae
def Yd{a:Type}(b:Bool->a):cv D->Option a:=λs=>match s with|.bool n=>J (b n)|_=>ae
def atE{z:Nat->bW}{g:List af}{b:Type}{k:aG}{d:Int->b}{s:bc D}{a:b}{v:af}(h:VK k d s=J a)(e:rel G z g s v):∃n,a=d n/\v=.int k n:=by
 unfold VK at h;split at h
 ·split at h
  ·rename_i f;cases h;subst f;exact⟨_,rfl,e⟩
  grind
 grind
def atF{z:Nat->bW}{f:List af}{b:Type}{d:List UInt8->b}{s:bc D}{a:b}{v:af}(h:VL d s=J a)(e:rel G z f s v):∃n,a=d n/\v=aF.str n:=by
 unfold VL at h;split at h
 ·cases h;exact⟨_,rfl,e⟩
 grind
def atW{z:Nat->bW}{g:List af}{b:Type}{k:aG}{d:Int->b}{s:cv D}{a:b}{v:af}(h:Ye k d s=J a)(e:ed G z g s v):∃n,a=d n/\v=.int k n:=by
 unfold Ye at h;split at h
 ·split at h
  ·rename_i f;cases h;subst f;exact⟨_,rfl,e⟩
  grind
 grind
def atV{z:Nat->bW}{f:List af}{b:Type}{d:Bool->b}{s:cv D}{a:b}{v:af}(h:Yd d s=J a)(e:ed G z f s v):∃n,a=d n/\v=.bool n:=by
 unfold Yd at h;split at h
 ·cases h;exact⟨_,rfl,e⟩
 grind
structure Ax(P:bI)(G:l6 D)(bG:Nat) where
 dec:DecidableEq (D bG)
 K:nX P bG (G.eo bG)
 qY:bc D->Option (D bG)
 wo:∀z vs s a v,qY s=J a->rel G z vs s v->v=ey (ek P bG) (G.eo bG a)
structure AP(P:bI)(G:l6 D)(bA:Nat) where
 V:oK P bA (G.eo bA)
 tN:cv D->Option (D bA)
 pG:D bA->cv D
 z0:D bA
 i:TypeInfo
 az:P.info? bA=J i
 u0:ek P bA=ak
 bx:i.zero=J (ey ak (G.eo bA z0))
 y0:∀z vs c a v,tN c=J a->ed G z vs c v->v=ey ak (G.eo bA a)
 th:∀z vs a,ed G z vs (pG a) (ey ak (G.eo bA a))
def abz{e d:Nat}(a:Ax P G e)(b:AP P G d):IP P G e d where
 dec:=a.dec
 K:=a.K
 V:=b.V
 qY:=a.qY
 tN:=b.tN
 pG:=b.pG
 z0:=b.z0
 i:=b.i
 az:=b.az
 bx:=by rw[b.u0];exact b.bx
 wo:=a.wo
 y0:=by rw[b.u0];exact b.y0
 th:=by rw[b.u0];exact b.th
 u0:=b.u0
def apj{bG:Nat}(k:aG)(of:Int->D bG)(dec:DecidableEq (D bG))(i:TypeInfo)(h:P.underlying bG=J (.int k))(K:nX P bG (G.eo bG))(hk:∀n,G.eo bG (of n)=[.int k n]):Ax P G bG where
 dec:=dec
 K:=K
 qY:=VK k of
 wo:=λz vs s a v h1 ai=>by obtain⟨n,rfl,rfl⟩:=atE h1 ai;rw[hk,si h rfl];rfl
def apk{bG:Nat}(of:List UInt8->D bG)(dec:DecidableEq (D bG))(h:P.underlying bG=J .string)(K:nX P bG (G.eo bG))(hk:∀n,G.eo bG (of n)=[aF.str n]):Ax P G bG where
 dec:=dec
 K:=K
 qY:=VL of
 wo:=λz vs s a v h1 ai=>by obtain⟨n,rfl,rfl⟩:=atF h1 ai;rw[hk,si h rfl];rfl
def aws{bA:Nat}(k:aG)(of:Int->D bA)(to:D bA->Int)(h1:∀x,of (to x)=x)(i:TypeInfo)(h:P.underlying bA=J (.int k))(az:P.info? bA=J i)(V:oK P bA (G.eo bA))(hk:∀n,G.eo bA (of n)=[.int k n])(bx:i.zero=J (.int k 0)):AP P G bA where
 V:=V
 tN:=Ye k of
 pG:=λx=>.int k (to x)
 z0:=of 0
 i:=i
 az:=az
 u0:=si h rfl
 bx:=by rw[hk];exact bx
 y0:=λz vs c a v g1 g2=>by obtain⟨n,rfl,rfl⟩:=atW g1 g2;rw[hk];rfl
 th:=λz vs a=>by have:=hk (to a);rw[h1] at this;rw[this];rfl
def awr{bA:Nat}(of:Bool->D bA)(to:D bA->Bool)(h1:∀x,of (to x)=x)(i:TypeInfo)(h:P.underlying bA=J .bool)(az:P.info? bA=J i)(V:oK P bA (G.eo bA))(hk:∀n,G.eo bA (of n)=[.bool n])(bx:i.zero=J (.bool ak)):AP P G bA where
 V:=V
 tN:=Yd of
 pG:=λx=>.bool (to x)
 z0:=of ak
 i:=i
 az:=az
 u0:=si h rfl
 bx:=by rw[hk];exact bx
 y0:=λz vs c a v g1 g2=>by obtain⟨n,rfl,rfl⟩:=atV g1 g2;rw[hk];rfl
 th:=λz vs a=>by have:=hk (to a);rw[h1] at this;rw[this];rfl
def asI{X:e3 P D}{B:Code}{u:mP D}{a:List (mP D)}(h:qJ X B u)(b:∀v∈a,qJ X B v):∀v∈u::a,qJ X B v:=by
 grind
def atg{X:e3 P D}{B:Code}:∀v∈([]:List (mP D)),qJ X B v:=by simp
def gL.law{X:e3 P D}{d:fS D}{F:d.F}(q:gL X d F){m:Mem}{z:Nat->bW}(n:lk z m)(l:∀b,m.next<=b->m.blk b=.dead){g:List (bc D)}{a:List af}(p:bP (rel X.G z []) g a)
  (h:d.call X F g [] (λe _=>J e)=J (.c (.bool aa))):h2 P d.f a.toArray m λv _=>v=.bool aa:=by
 have j:b9 X.G ([]:List (ba D)) z m m ae []:=⟨dL.start n l,rfl,by simp,by simp⟩
 refine(q g [] (λe _=>J e) _ a j p h).mono λv w i=>?_;obtain⟨⟨x,s,e,t,_,_,_,_,k,r⟩,_⟩:=i;cases r;exact k
end
end
end
section
noncomputable section
section
variable {P:bI}{D:Nat->Type}{X:e3 P D}{ap:Type}{z z':Nat->bW}{e m m':Mem}{k:Option Nat}{vs vs':List af}{fr:Nat->af}{E:List (Nat×bc D)}{O cr:List (ba D)}
theorem KT(l:j6 D){d:List Nat}:∀(a:List dt)(x:ft D a)(b:List Nat)(O:List (ba D)),mY (X.gm l) d a x b O=mY X d a x b O
 |[],_,_,_=>rfl
 |.o _ c::a,x,[],O=>rfl
 |.o _ c::a,x,i::b,O=>by
  show mY (X.gm l) d a x.2 b (O.set i (cw.gO (X.gm l) (λn=>d.getD n 0) c x.1 (zF c O i)))=mY X d a x.2 b (O.set i (cw.gO X (λn=>d.getD n 0) c x.1 (zF c O i)));rw[KT l a x.2 b]
  grind[cw.Kd]
 |.v _ _::a,x,b,O=>KT l a x.2 b O
 |.u _ _::a,x,b,O=>KT l a x.2 b O
def acv(l:j6 D){d:Nat->Nat}{b e:List Nat}{a:List dt}{y:ft D a}:∀(O:List (ba D))(i:Nat),sd (X.gm l) d b e a y i O=sd X d b e a y i O
 |[],i=>rfl
 |o::O,i=>by simp only[sd,BQ,acv l O (i+1)]
def aq4(l:j6 D)(a:List dt)(b:List (Nat×bc D))(E:List (Nat×bc D))(O:List (ba D)):sl (X.gm l) a b E O=sl X a b E O:=by
 grind[sl,Lu,B6,KT]
def adr(l:j6 D)(p:h4 D)(F:p.F)(E:List (Nat×bc D))(O:List (ba D)){a:Type}(K:fG->List (Nat×bc D)->List (ba D)->Option a):p.run (X.gm l) F E O K=p.run X F E O K:=by
 simp_all[T1,zk,uE,acv,zr,h4.run,h4.G2,aq4]
def zb:fG->fG|.normal=>.ret|ex=>ex
def arE{a:fG}(h:zb a=.ret):a=.normal\/a=.ret:=by
 cases a<;>first|grind|exact .inr rfl|cases h
structure e7(D:Nat->Type) where
 f:Nat
 lQ:Nat
 ins:List dt
 fg:List (Nat×bc D)
 ks:List Nat
 outs:List dt
 fu:List (Nat×bc D)
 eX:List Nat
 bZ:Bool:=ak
def Jv(a:List Nat)(i:Nat)(O:List (ba D)):List (ba D):=match O[i]? with|some (.box t b ak w)=>if(!(a.any (fi i))&&b.all avq)=aa then O.set i (.box t b aa w) else O|_=>O
def LL(a:List Nat):Nat->List (ba D)->List (ba D)|0,O=>O|n+1,O=>Jv a n (LL a n O)
def asX{keep:List Nat}{i:Nat}(f:b9 X.G O z e m k vs):∃d,Inv O (Jv keep i O)/\dT e.next z d/\b9 X.G (Jv keep i O) d e m k vs:=by
 unfold Jv;split
 ·rename_i t h w l;split
  ·rename_i n;simp only[fx] at n;obtain⟨v,j,p⟩:=f.at l;have a:=p;obtain⟨b,y,rfl,_⟩:=a;have q:vp O (.box i 0)=J ((t,h),O.set i (.box t h aa w)):=by
    grind[vp]
   obtain⟨d,x,A,r,_⟩:=KJ (X:=X) f (s:=.box i 0) (g:=.pointer (J ⟨b,0,ae⟩)) ⟨b,j,rfl⟩ q
   grind
  grind[Inv.refl,dT.refl]
 grind[Inv.refl,dT.refl]
theorem adi{a:List Nat}(b:b9 X.G O z e m k vs):∀n:Nat,∃d,Inv O (LL a n O)/\dT e.next z d/\b9 X.G (LL a n O) d e m k vs
 |0=>⟨z,Inv.refl _,dT.refl z,b⟩
 |n+1=>by obtain⟨r,g,p,f⟩:=adi b n;obtain⟨q,h,j,l⟩:=asX (keep:=a) (i:=n) f;exact⟨q,g.trans h,p.trans j,l⟩
def e7.pre(d:e7 D)(a:List (bc D))(O:List (ba D)):List (ba D):=if d.bZ=aa then LL (Xs O 100 (ae3 (mg 0 a)) []) O.length O else O
def e7.ap3{d:e7 D}{cX:List (bc D)}(b:b9 X.G O z e m k vs):∃a,Inv O (d.pre cX O)/\dT e.next z a/\b9 X.G (d.pre cX O) a e m k vs:=by
 grind[e7.pre,adi,Inv.refl,dT.refl]
def e7.gA(d:e7 D):h4 D:={path:=[],ins:=d.ins,fg:=d.fg,ks:=d.ks,iM:=[⟨.ret,d.outs,d.fu⟩],keep:=[]}
def avd:fG->Bool|.ret=>aa|_=>ak
variable (X) in
def e7.call(d:e7 D)(F:d.gA.F)(a:List (bc D))(O:List (ba D)){b:Type}(K:bc D->List (ba D)->Option b):Option b:=
 if fi a.length d.lQ=aa then d.gA.run X F (mg 0 a) (d.pre a O) λf E O=>if avd f=aa then(match GZ E d.eX with|some e=>K e O|none=>ae) else ae
 else ae
variable (X) in
def e7.fits(d:e7 D)(a:List (bc D))(O:List (ba D)):Bool:=fi a.length d.lQ&&(sl X d.ins d.fg (jJ d.ins (mg 0 a) O).1 (jJ d.ins (mg 0 a) O).2).isSome
structure Tw(P:bI)(X:e3 P D)(d:e7 D)(F:d.gA.F):Prop where
 ex:∃fn c,P.funcs[d.f]?=J fn/\qm P fn c/\lR P d.f=aa/\iJ d.lQ fn.ntmps=aa/\fn.results.toList=d.eX.map .tmp/\d.gA.p0 c=aa/\sB zb X c d.gA F
def fR(X:e3 P D)(d:e7 D)(F:d.gA.F):Prop:=∀(h:List (bc D))(O:List (ba D)){g:Type}(K:bc D->List (ba D)->Option g)(r:g){z:Nat->bW}{e m:Mem}{k:Option Nat}{b:List af}(a:List af),
 b9 X.G O z e m k b->bP (rel X.G z b) h a->d.call X F h O K=J r->h2 P d.f a.toArray m λv i=>dH X O z e k b K r v i
def ad5{m:Mem}:∀(l:List Nat),q2 P fr m (l.map .tmp) (l.map fr)
 |[]=>trivial
 |_::l=>⟨rfl,ad5 l⟩
def Tw.call{d:e7 D}{F:d.gA.F}(S:Tw P X d F):fR X d F:=by
 intro g O ap K r z e m k vs b w p h;obtain⟨fn,c,T,U,V,Y,Z,f6,mS⟩:=S.ex;unfold e7.call at h;obtain⟨a,h⟩:=gz h;have a:=kA a;have M:b.toArray.size<=fn.ntmps:=by rw[List.size_toArray,<-p.length,a];exact pk Y
 refine h2.any T U V M λfr hU=>?_;have E:fj X z vs (mg 0 g) fr:=WC p λj v C=>by rw[lH];exact hU j v (by simpa using C)
 obtain⟨A,u9,s,iS⟩:=e7.ap3 (d:=d) (cX:=g) w;have n:=mS.zd f6 (mg 0 g) (d.pre g O) _ r iS (E.mono s.le λ_ _ h=>h) h;rw[show sub c d.gA.path=c from sc c] at n;refine n.mono ?_;rintro q fY m1 ⟨R,jK,ia,N,B,h1,y,x,H,f⟩;obtain⟨i,f⟩:=gz f;have l:zb q=.ret:=by revert i;cases zb q<;>intro i<;>first|rfl|cases i
 split at f
 ·rename_i Q t;obtain⟨L,I⟩:=Xf H t;exact⟨arE l,_,by rw[Z];exact ad5 d.eX,I,R,jK,Q,N,u9.trans B,s.trans h1,y,x,L,f⟩
 ·cases f
def fR.base{q:j6 D}{d:e7 D}{F:d.gA.F}(h:fR (X.gm q) d F):fR X d F:=by
 intro f O j K r z e m k l a g i b;have b:d.call (X.gm q) F f O K=J r:=by unfold e7.call at b⊢;rw[adr];exact b
 exact h f O K r a g i b
structure GE(D:Nat->Type) where
 d:e7 D
 F:d.gA.F
def e7.Z1(d:e7 D)(a:List (bc D))(O:List (ba D)):Bool:=fi ((jJ d.ins (mg 0 a) O).2.filter ba.live).length (gU d.ins)
variable (X) in
def ZL(l:List (GE D))(d:e7 D)(f:Nat)(a:List (bc D))(O:List (ba D)):Bool:=d.fits X a O&&(d.Z1 a O|| !(l.any λy=>fi y.d.f f&&(y.d.Z1 a O&&y.d.fits X a O)))
variable (X) in
def JD:List (GE D)->Nat->List (bc D)->List (ba D)->{b:Type}->(bc D->List (ba D)->Option b)->Option b|[],f,a,O,_,K=>X.C f a O K|x::l,f,a,O,_,K=>if(fi x.d.f f&&ZL X l x.d f a O)=aa then x.d.call X x.F a O K else JD l f a O K
variable (X) in
def JE:List (GE D)->Nat->List (bc D)->List (ba D)->Bool|[],f,a,O=>X.F f a O|x::l,f,a,O=>if(fi x.d.f f&&ZL X l x.d f a O)=aa then ak else JE l f a O
variable (X) in
def A8:List (GE D)->Nat->Bool|[],f=>X.W f|x::l,f=>fi x.d.f f||A8 l f
def e3.gen(X:e3 P D)(l:List (GE D)):e3 P D:=X.gm ⟨JE X l,X.hg,JD X l,A8 X l⟩
def aey(w:iV X){f:Nat}{j:List (bc D)}{K:bc D->List (ba D)->Option ap}{r:ap}{a:List af}(s:b9 X.G O z e m k vs)(t:bP (rel X.G z vs) j a):∀{l:List (GE D)},(∀x∈l,fR X x.d x.F)->JD X l f j O K=J r->
  h2 P f a.toArray m λv p=>dH X O z e k vs K r v p/\(JE X l f j O=aa->p=m)/\(A8 X l f=ak->∃q,gG m p q/\oI vs (q1 j) q)
 |[],_,i=>w f j O K r a s t i
 |x::l,h,i=>by
  unfold JD at i;unfold JE A8;split at i
  ·rename_i g;rw[if_pos g];simp only[fx] at g;have:=kA g.1;subst this;refine(h x oG j O K r a s t i).mono λv p n=>⟨n,λb=>Bool.noConfusion b,λb=>?_⟩
   rw[g.1] at b;cases b
  ·rename_i g;rw[if_neg g];refine(aey w s t (λy A=>h y (kn _ A)) i).mono λv p n=>⟨n.1,n.2.1,λb=>n.2.2 ?_⟩
   cases B:A8 X l f with
   |false=>rfl
   |true=>rw[B,Bool.or_true] at b;cases b
def iV.gen{l:List (GE D)}(i:iV X)(h:∀x∈l,fR X x.d x.F):iV (X.gen l):=by
 intro f p O n K r z e m k q a b j g;exact aey (X:=X) i b j h g
def gL.gm{q:j6 D}{d:fS D}{F:d.F}(h:gL (X.gm q) d F):gL X d F:=by
 intro g O j K r z e m k l a f i b;rw[<-acR q] at b;exact h g O K r a f i b
def fR.up{q:j6 D}{d:e7 D}{F:d.gA.F}(h:fR X d F):fR (X.gm q) d F:=by
 intro f O j K r z e m k l a g i b;have b:d.call X F f O K=J r:=by unfold e7.call at b⊢;rw[adr] at b;exact b
 exact h f O K r a g i b
def iV.amW{a:List (mK D)}{l:List (GE D)}(e:iV (X.with a))(h:∀x∈l,fR X x.d x.F):iV ((X.with a).gen l):=iV.gen e λx b=>(h x b).up
def as1:∀y∈([]:List (GE D)),fR X y.d y.F:=by simp
def arR{l:List (GE D)}{x:GE D}(h:fR X x.d x.F)(a:∀y∈l,fR X y.d y.F):∀y∈x::l,fR X y.d y.F:=by
 grind
end
end
end
section
noncomputable section
section
variable {P:bI}{D:Nat->Type}{cT:e3 P D}
structure mi(cT:e3 P D) where
 X:e3 P D
 ok:iV X
 iB:∀{d:fS D}{F:d.F},gL X d F->gL cT d F
 Z7:∀{d:e7 D}{F:d.gA.F},fR X d F->fR cT d F
def mi.l9(E:mi cT)(f:bS->Option bS->Option bS->Nat):mi cT:=⟨E.X.l9 f,iV.l9 E.ok,λh=>E.iB (gL.l9 h),λh=>E.Z7 (fR.base h)⟩
structure eS(cT:e3 P D) where
 bY:List (mK D)
 gs:List (GE D)
 ok:∀y∈bY,gL cT y.d y.F
 UM:∀y∈gs,fR cT y.d y.F
def eS.nil:eS cT:=⟨[],[],by simp,as1⟩
def eS.l7(T:eS cT)(d:fS D)(F:d.F)(h:gL cT d F):eS cT:=⟨⟨d,F⟩::T.bY,T.gs,aqT (x:=⟨d,F⟩) h T.ok,T.UM⟩
def eS.ir(T:eS cT)(d:e7 D)(F:d.gA.F)(h:fR cT d F):eS cT:=⟨T.bY,⟨d,F⟩::T.gs,T.ok,arR (x:=⟨d,F⟩) h T.UM⟩
def eS.bk(T:eS cT):mi cT:=⟨(cT.with T.bY).gen T.gs,iV.amW (iV.of T.ok) T.UM,λh=>gL.gm (gL.gm h),λh=>fR.base (fR.base h)⟩
structure ch(E:mi cT)(B:Code) where
 us:List (mP D)
 ok:∀u∈us,qJ E.X B u
variable {E:mi cT}{B:Code}
def ch.nil:ch E B:=⟨[],atg⟩
def ch.add(a:ch E B)(p:h4 D)(F:p.F)(h:qF E.X B p F)(b:p.p0 B=aa):ch E B:=⟨p.zd E.X F::a.us,asI (h.zd b) a.ok⟩
def ch.aS(a:ch E B)(p:h4 D)(F:p.F)(d:p.p0 B=aa:=by kernel_rfl)
  (b:∀x,j8 E.X a.us calm aa p.path.reverse (aF.sub B p.path) (hc E.X p.ins x++p.fg) (eU E.X p.ins x) (sk E.X (gU p.ins) p.ks p.iM)=F x:=by intro x;kernel_rfl):ch E B:=
 a.add p F (qF.of E.ok (λu h _=>a.ok u h) b) d
def aeA:Code->Bool|.loop _=>aa|_=>ak
def aqw{B:Code}{p:List Nat}(h:aeA (aF.sub B p)=aa):aF.sub B p=.loop (aF.sub B (p++[0])):=by
 rw[<-WZ];cases a:aF.sub B p<;>rw[a] at h<;>first|(cases h;done)|exact congrArg Code.loop (sc _).symm
def ch.bE(a:ch E B)(N:Nat)(p:h4 D)(F:Nat->p.F)(b:(aeA (aF.sub B p.path)&&p.p0 B)=aa:=by kernel_rfl)(d:∀x,F 0 x=ae:=by exactλx=>rfl)
  (e:∀n x,j8 E.X a.us calm aa (0::p.path.reverse) (aF.sub B (p.path++[0])) (hc E.X p.ins x++p.fg) (eU E.X p.ins x) (aeY E.X p (F n))=F (n+1) x:=by intro n x;kernel_rfl):ch E B:=
 a.add p (F N) (qF.loop E.ok (aqw (tY.1 b).1) (tY.1 b).2 (λu h _=>a.ok u h) d e N) (tY.1 b).2
def Cu(P:bI)(f a:Nat)(fn:Func):Bool:=fn.body.isSome&&(lR P f&&iJ a fn.ntmps)
def adQ{fn:Func}(h:fn.body.isSome=aa):fn.body=J (en fn):=by
 unfold en;cases a:fn.body with
 |none=>grind
 |some c=>rfl
def fS.ho(P:bI)(d:fS D)(fn:Func):Bool:=Cu P d.f d.lQ fn&&(sh d.outs&&((d.fg.all λp=>tJ p.2)&&((d.fu.all λp=>tJ p.2)&&(d.fg.all λp=>(GY p.2).isNone))))
def ch.fn{fn:Func}(b:ch E (en fn)){d:fS D}{F:d.F}(m:P.funcs[d.f]?=J fn)(a:d.ho P fn=aa:=by kernel_rfl)(l:fn.results.toList=d.lV:=by exact rfl)
  (n:∀r x,j8 E.X b.us calm aa [] (en fn) (hc E.X d.ins x++(d.fg++xu d.ij)) (rb E.X d.ij r) (PY E.X d)=F r x:=by intro r x;kernel_rfl):gL cT d F:=by
 unfold fS.ho Cu at a;simp only[fx] at a;obtain⟨⟨p,g,i⟩,j,k,e,q⟩:=a;exact E.iB (Il.call ⟨⟨fn,_,m,.inl (adQ p),g,i,l,Au.of E.ok (us:=b.us) (λu h _=>b.ok u h) n⟩,j,k,e,q⟩)
def e7.ho(P:bI)(d:e7 D)(fn:Func):Bool:=Cu P d.f d.lQ fn&&d.gA.p0 (en fn)
def ch.fd{fn:Func}{c:Code}(b:ch E c){d:fS D}{F:d.F}(m:P.funcs[d.f]?=J fn)(p:qm P fn c)(a:d.ho P fn=aa:=by kernel_rfl)(l:fn.results.toList=d.lV:=by exact rfl)
  (n:∀r x,j8 E.X b.us calm aa [] c (hc E.X d.ins x++(d.fg++xu d.ij)) (rb E.X d.ij r) (PY E.X d)=F r x:=by intro r x;kernel_rfl):gL cT d F:=by
 unfold fS.ho Cu at a;simp only[fx] at a;obtain⟨⟨s,g,i⟩,j,k,e,q⟩:=a;exact E.iB (Il.call ⟨⟨fn,_,m,p,g,i,l,Au.of E.ok (us:=b.us) (λu h _=>b.ok u h) n⟩,j,k,e,q⟩)
def ch.iu{fn:Func}(b:ch E (en fn)){d:e7 D}{F:d.gA.F}(k:P.funcs[d.f]?=J fn)(a:d.ho P fn=aa:=by kernel_rfl)(j:fn.results.toList=d.eX.map .tmp:=by exact rfl)
  (l:∀x,j8 E.X b.us calm aa d.gA.path.reverse (aF.sub (en fn) d.gA.path) (hc E.X d.gA.ins x++d.gA.fg) (eU E.X d.gA.ins x) (λn=>sk E.X (gU d.gA.ins) d.gA.ks d.gA.iM (zb n))=F x:=by intro x;kernel_rfl):fR cT d F:=by
 unfold e7.ho Cu at a;simp only[fx] at a;obtain⟨⟨m,e,g⟩,i⟩:=a;exact E.Z7 (Tw.call ⟨⟨fn,_,k,.inl (adQ m),e,g,j,i,sB.of E.ok (us:=b.us) (λu h _=>b.ok u h) l⟩⟩)
def ad(k:Nat):dt:=.v k (.int .i64)
def a6(k:Nat):dt:=.v k .bool
def vs(k:Nat):dt:=.v k .str
def aW(k e:Nat):dt:=.v k (.bh e)
def cm(k t:Nat):dt:=.v k (.agg t)
def e1(k t:Nat):dt:=.v k (.hd t)
def ax(k e:Nat):dt:=.o k (.bh e)
def ob(k t:Nat):dt:=.o k (.box t)
def aX(k t:Nat):dt:=.o (100000000+k) (.box t)
def eJ(k t:Nat):dt:=.u k (.box t)
def aE(k j:Nat):Nat×bc D:=(k,.box j 0)
def a8(k j:Nat):Nat×bc D:=(k,.c (.own j))
def abS:Nat->Nat->List Nat|0,_=>[]|f+1,n=>if iJ n 1=aa then[] else abS f (n / 10)++[n%10]
def abR(n:Nat):List Nat:=abS 40 n
def dI(k:Nat)(l:List dt):List (lF D):=[⟨.exit k,[],[]⟩,⟨.ret,l,[]⟩]
def b3(l:List dt):List (lF D):=[⟨.normal,l,[]⟩]
def eD(k:Nat)(l:List dt):List (lF D):=[⟨.exit k,l,[]⟩]
def cV(n:Nat)(b:List dt)(d:List (lF D))(a:List Nat):h4 D:=⟨abR n,b,[],[],d,a⟩
def bi(n:Nat)(b:List dt)(d:List (Nat×bc D))(f:List Nat)(e:List (lF D))(a:List Nat):h4 D:=⟨abR n,b,d,f,e,a⟩
def awg:dt->ResultVar|.v k _=>.tmp k|.o k _=>.tmp k|.u k _=>.tmp k
def sX(f d:Nat)(b a:List dt)(e:List ResultVar):fS D:=⟨f,d,b,[],ae,0,a,[],e,aa⟩
def gS(f e:Nat)(b a:List dt)(d:List (Nat×bc D))(g:List ResultVar):fS D:=⟨f,e,b,[],ae,0,a,d,g,ak⟩
def cx(f d:Nat)(b a:List dt):fS D:=⟨f,d,b,[],ae,0,a,[],a.map awg,aa⟩
def ga{G:l6 D}{t:Nat}(a:List hJ)(b:D t->h6 (gJ G a))(d:h6 (gJ G a)->D t){i:TypeInfo}(f:P.info? t=J i)(j:∀x,d (b x)=x:=by exactλ_=>rfl)(e:∀y,b (d y)=y:=by exactλ_=>rfl)
  (n:G.T t=fB t (gJ G a) b:=by exact rfl) (h:i.size=a.length:=by exact rfl) (l:(a.length==0)=ak:=by exact rfl) (m:iJ i.bytes 32768=aa:=by exact rfl) (g:i.zero=J (i.zero.getD undef):=by exact rfl) (k:(i.zero.getD undef).cells.toList=oD a:=by exact rfl):dP P G t:=
 awe a b d j e i n f h l m g k
def l1{a:Type}(x:a):a×Unit:=(x,())
def ju{a:Type}(y:a×Unit):a:=y.1
def eS.go(T:eS cT)(d:fS D)(F:d.F){fn:Func}(e:P.funcs[d.f]?=J fn)(a:ch T.bk (en fn):=ch.nil)(h:d.ho P fn=aa:=by kernel_rfl)(b:fn.results.toList=d.lV:=by exact rfl)
  (g:∀r x,j8 T.bk.X a.us calm aa [] (en fn) (hc T.bk.X d.ins x++(d.fg++xu d.ij)) (rb T.bk.X d.ij r) (PY T.bk.X d)=F r x:=by intro r x;kernel_rfl):eS cT:=T.l7 d F (a.fn e h b g)
def eS.mx(T:eS cT)(d:e7 D)(F:d.gA.F){fn:Func}(e:P.funcs[d.f]?=J fn)(a:ch T.bk (en fn):=ch.nil)(i:d.ho P fn=aa:=by kernel_rfl)(b:fn.results.toList=d.eX.map .tmp:=by exact rfl)
  (g:∀x,j8 T.bk.X a.us calm aa d.gA.path.reverse (aF.sub (en fn) d.gA.path) (hc T.bk.X d.gA.ins x++d.gA.fg) (eU T.bk.X d.gA.ins x) (λh=>sk T.bk.X (gU d.gA.ins) d.gA.ks d.gA.iM (zb h))=F x:=by intro x;kernel_rfl):eS cT:=T.ir d F (a.iu e i b g)
end
end
end
section
def W7{P : bI}{g : FuncId}{fn : Func}{id t3 t4 : Nat}{iw iQ : Oper}{X : Code}{ty tz : bV}{al8 : Array bV}(bF : P.funcs[g]?= J fn)(bB : (fn.name == "runtime.NumGoroutine") = ak)
  (aw:fn.body=J (.seq (.region id #[iw,iQ] ak) (.cond (.tmp t4) X .skip))) (h1:iw.op=.call {callee:=.builtin .recover,args:=#[],argTypes:=al8}) (d1:iw.dst=J t3) (g1:iw.guard=ae)
  (ai:iQ.op=.binOp .neq ty (.tmp t3) (.const .nilIface) tz) (d2:iQ.dst=J t4) (g2:iQ.guard=ae) (avD:t3<fn.ntmps) (ay7:t4<fn.ntmps) (aV:fn.results=#[])
  (fv:∀w,(eqGuard .neq ty (.tmp t3) (.const .nilIface) .nilIface .nilIface).run P w=.ok () w) (fQ:∀w,(binOp .neq ty .nilIface .nilIface).run P w=.ok (.bool ak) w):Cl P g:=by
 refine⟨⟨fn,bF,bB,by grind⟩,λcs w=>?_⟩;refine callsD_of_wpS bF aw λamw ds hm=>wpS_seq (wpS_region ?_);have cN:(cs++nj (fn.ntmps-cs.size) undef).size>=fn.ntmps:=by grind
 generalize cs++nj (fn.ntmps-cs.size) undef=T at cN;show wpOpsS P #[iw,iQ] _ [0,1] _ _ w;have dX:qK iw (yielded #[iw,iQ] T)=aa:=by grind[qK]
 have bX:∀ap,(execOp ap iw).run P w=.ok .recover w:=λap=>by simp[execOp,h1,resolve,invoke,builtin]
 have aoM:recoverD (amw::ds)=ae:=by grind[recoverD]
 unfold wpOpsS;simp only[show(#[iw,iQ]:Array Oper)[0]?=J iw from rfl,dX,if_true,bX,aoM];unfold wpOpsS;have ix:qK iQ (yielded #[iw,iQ] (qB {tmps:=T,defers:=[]} iw.dst .nilIface).tmps)=aa:=by grind[qK]
 have aD:(qB {tmps:=T,defers:=[]} iw.dst .nilIface).eval (.tmp t3)=.nilIface:=by simp[Act.eval,qB,d1,show t3<T.size by omega]
 have e2:(execOp (qB {tmps:=T,defers:=[]} iw.dst .nilIface).eval iQ).run P w=.ok (.value (.bool ak)) w:=by have ay:(qB {tmps:=T,defers:=[]} iw.dst .nilIface).eval (.const .nilIface)=.nilIface:=rfl;simp_all[execOp]
 simp only[show(#[iw,iQ]:Array Oper)[1]?=J iQ from rfl,ix,if_true,e2];rw[Oper.upon_value];have ao0:(qB (qB {tmps:=T,defers:=[]} iw.dst .nilIface) iQ.dst (.bool ak)).eval (.tmp t4)=.bool ak:=by simp[Act.eval,qB,d1,d2,show t4<T.size by omega]
 refine wpS_cond ao0 (wpS_of_wp (wp_skip ?_));refine⟨by grind[qB],.returning,?_,.tuple #[],by simp[results,aV],⟨_,rfl⟩,rfl,rfl⟩;rw[<-hm]
def oh:Code->Code|.seq A (.seq (.region b a d) B)=>.seq A (.seq (.region b a.pop d) B)|k=>k
end
section
open Go.Sort Go.Shelf Go.Proofs
noncomputable def ou{a:Type}[Inhabited a](d:a->a->Int)(b:List a):List a:=(pdq (ltOf d) b.toArray 0 b.toArray.size (Ty b.toArray.size) aa aa).toList
noncomputable def G6{a:Type}[Inhabited a](d:a->a->Int)(b:List a):Option (List a):=if b.length<4611686018427387904 then J (ou d b) else ae
def p1(x y:Int):Int:=Lib.compareInt x y
section
variable {aK:Type}[Inhabited aK]
def asc(x y:Int):decide (p1 x y<0)=decide (x<y):=by
 grind[p1,Lib.compareInt]
def W0(f:aK->Int):SWO (ltOf λx y=>p1 (f x) (f y)):=by
 have e:∀x y,ltOf (λx y=>p1 (f x) (f y)) x y=decide (f x<f y):=λx y=>asc _ _;refine⟨λx=>?_,λx y z b a=>?_,λx y z b a=>?_⟩
 ·grind
 ·grind
 grind
def Wi(b:aK->aK->Int)(d:SWO (ltOf b))(a:List aK):PermIn 0 a.length a.toArray (ou b a).toArray/\SortedIn (ltOf b) 0 a.length (ou b a).toArray:=by
 have h:=pdq_sorts (ltOf b) d a.toArray 0 a.toArray.size (Ty a.toArray.size) aa aa (Nat.zero_le _) (e4 _) (Or.inl rfl);have e:(ou b a).toArray=pdq (ltOf b) a.toArray 0 a.toArray.size (Ty a.toArray.size) aa aa:=by rfl
 grind
def BU(a:aK->aK->Int)(d:SWO (ltOf a))(b:List aK):(ou a b).length=b.length:=by
 have:=(Wi a d b).1.1
 grind
def acL(a:aK->aK->Int)(d:SWO (ltOf a))(b:List aK):(ou a b).Perm b:=by
 have h:=(Wi a d b).1;have e:=BU a d b;have f:=h.2.2
 grind
theorem acY{a:aK->List af}{k:Nat}(e:∀x,(a x).length=k):∀(b:List aK)(t:Nat),t<b.length*k->(b.flatMap a)[t]?=J ((a b.toArray[t / k]!)[t%k]!)
 |[],t,h=>by grind
 |x::b,t,h=>by
  have f:0<k:=by grind
  rw[List.flatMap_cons,List.getElem?_append];split
  ·grind[Nat.div_eq_of_lt,Nat.mod_eq_of_lt]
  ·rename_i d;rw[e] at d⊢;have d:k<=t:=by omega
   rw[acY e b (t-k) (by grind[Nat.add_mul])];have i:t / k=(t-k) / k+1:=by rw[<-Nat.sub_add_cancel d,Nat.add_div_right _ f];simp
   have g:t%k=(t-k)%k:=by rw[<-Nat.sub_add_cancel d,Nat.add_mod_right];simp
   grind
theorem KD{a:aK->List af}{k:Nat}(e:∀x,(a x).length=k)(b:List aK):(b.flatMap a).length=b.length*k:=by
 induction b with
 |nil=>simp
 |cons x b d=>grind
theorem arW{a:aK->List af}{k:Nat}(e:∀x,(a x).length=k)(b:List aK):(flatK a k b.toArray).toList=b.flatMap a:=by
 refine rv λt=>?_;by_cases d:t<b.length*k
 ·grind[acY,flatK]
 ·rw[Tz (l:=b.flatMap a) (by grind[KD]),Tz (by simp_all)]
variable {P:bI}{ap:Ren}
def Wh{f l:Nat}{p F k:List af}{w:World}{a:Nat}(q:k.length=F.length)(C:0<F.length)
  (h:∀b g:Nat,a<w.heap.size->Holds id w a b F.toArray->Calls P f (.slice (J ⟨a,b,ae⟩) l g::p).toArray w λe r=>e=.returned (.tuple #[])/\∃n m,r=grow (putRow id (TL w n) a b k.toArray) m):zE P f p l F k w a:=by
 intro b g x t bZ B y K;have z:Holds id w a b F.toArray:=by
  intro j H
  grind[rG,World.frozen?]
 have d:a<w.heap.size:=by
  grind
 refine(h b g d z).mono ?_;rintro e r ⟨rfl,n,m,rfl⟩;have s:∀c,c<w.heap.size->(grow (putRow id (TL w n) a b k.toArray) m).heap[c]?=(w.heap.modify a (onCells (putCells id b k.toArray)))[c]? :=by
  grind[grow,putRow,mapBlock,TL]
 refine⟨rfl,rfl,rfl,rfl,by grind,λc E I=>?_,?_⟩
 ·grind
 ·rw[s a d,Array.getElem?_modify,if_pos rfl,B];simp only[vU,onCells];congr 2;have A:b+F.length<=x.size:=by
   have:=(Array.getElem?_eq_some_iff.1 (y _ _ (mm (l:=F) (i:=F.length-1) (by omega)))).1;omega
  apply Array.ext_getElem?
  grind[o5,putCells]
def ar8(L:SlLaysF0.n6 P ap){f g k:Nat}(M:ap.f 6=f)(H:∀w,(isAgg (ap.t 24)).run P w=.ok aa w)(I:∀w,(Go.sizeOf (ap.t 24)).run P w=.ok k w)(a:aK->List af)(p:∀x,(a x).length=k)(N:∀x,(a x).all dy=aa)
  (h:aK->aK->Int) (B:SWO (ltOf h)) (R:∀d w,(callFunc g d).run P w=.ok (.enter g d) w)
  (O:∀(x y:aK)(W:World),Calls P g #[.agg (a x).toArray,.agg (a y).toArray] W λe E=>e=.returned (.int .i64 (h x y))/\∃q Q,E=grow (W.drewN q) Q)
  (b:List aK) (V:b.length<4611686018427387904) (Y:0<k) (T:0<b.length) (w:World) (i:Nat):zE P f [.func (.func g) #[] #[]] b.length (b.flatMap a) ((ou h b).flatMap a) w i:=by
 subst M;have F:=BU h B b;have e:∀r:List aK,(r.flatMap a).toArray=flatK a k r.toArray:=λr=>by grind[arW]
 refine Wh (by rw[KD p,KD p,F]) (by rw[KD p];simp_all) λz s l A=>?_;rw[e] at A;have S:∀x,∀v∈a x,v.oneCell'=aa:=λx v K=>(acX (j:=λ_=>ae) (iA.1 (N x) v K)).one;refine(AnyQ.slices_SortFunc_eq L k H I a p S h B g #[] i z s b.toArray w R (λm C U _ x y=>O x y _) A l (by grind)).mono ?_;rintro X E ⟨rfl,n,C,rfl⟩;refine⟨rfl,n,C,?_⟩;rw[e,show(ou h b).toArray=pdq (ltOf h) b.toArray 0 b.toArray.size (Ty b.toArray.size) aa aa by rfl];rfl
end
noncomputable section
section
variable {P:bI}{D:Nat->Type}{G:l6 D}
def AV:List hJ->Bool|[]=>aa|.bh _::_=>ak|.mp _ _ _::_=>ak|.fn::_=>ak|_::a=>AV a
def w0{z:Nat->bW}:∀{ls:List hJ}{x:h6 (gJ G ls)}{a:List af},AV ls=aa->pa z (gJ G ls) x a->a=hC ls x
 |[],_,[],_,_=>rfl
 |[],_,_::_,_,h=>h.elim
 |.int k::ls,x,d::a,h,e=>by have b:d=.int k x.1:=e.1;rw[hC,b,<-w0 (ls:=ls) h e.2]
 |.bool::ls,x,d::a,h,e=>by have b:d=.bool x.1:=e.1;rw[hC,b,<-w0 (ls:=ls) h e.2]
 |.str::ls,x,d::a,h,e=>by have b:d=aF.str x.1:=e.1;rw[hC,b,<-w0 (ls:=ls) h e.2]
 |.bh _::_,_,_,h,_=>by cases h
 |.mp _ _ _::_,_,_,h,_=>by cases h
 |.fn::_,_,_,h,_=>by cases h
 |.int _::_,_,[],_,h=>h.elim
 |.bool::_,_,[],_,h=>h.elim
 |.str::_,_,[],_,h=>h.elim
def zu{z:Nat->bW}:∀{ls:List hJ}{x:h6 (gJ G ls)},AV ls=aa->pa z (gJ G ls) x (hC ls x)
 |[],_,_=>trivial
 |.int k::ls,x,h=>⟨rfl,zu (ls:=ls) h⟩
 |.bool::ls,x,h=>⟨rfl,zu (ls:=ls) h⟩
 |.str::ls,x,h=>⟨rfl,zu (ls:=ls) h⟩
 |.bh _::_,_,h=>by cases h
 |.mp _ _ _::_,_,h=>by cases h
 |.fn::_,_,h=>by cases h
def BS:∀{ls:List hJ}{x:h6 (gJ G ls)},AV ls=aa->(hC ls x).all dy=aa
 |[],_,_=>rfl
 |.int k::ls,x,h=>by simp only[hC,ml,BS (ls:=ls) (x:=x.2) h];rfl
 |.bool::ls,x,h=>by simp only[hC,ml,BS (ls:=ls) (x:=x.2) h];rfl
 |.str::ls,x,h=>by simp only[hC,ml,BS (ls:=ls) (x:=x.2) h];rfl
 |.bh _::_,_,h=>by cases h
 |.mp _ _ _::_,_,h=>by cases h
 |.fn::_,_,h=>by cases h
def w4:∀{ls:List hJ}{x:h6 (gJ G ls)},(hC ls x).length=ls.length
 |[],_=>rfl
 |.int k::ls,x=>by simp only[hC,ry,w4 (ls:=ls)]
 |.bool::ls,x=>by simp only[hC,ry,w4 (ls:=ls)]
 |.str::ls,x=>by simp only[hC,ry,w4 (ls:=ls)]
 |.bh _::ls,x=>by simp only[hC,ry,w4 (ls:=ls)]
 |.mp _ _ _::ls,x=>by simp only[hC,ry,w4 (ls:=ls)]
 |.fn::ls,x=>by simp only[hC,ry,w4 (ls:=ls)]
def WA{e f:Nat}{z:Nat->bW}{N m:Mem}{k:Option Nat}{d g:List (D e)}{v:af}{n:List af}(a:D e->List af)(E:∀z x M,(G.T e).rd z x M->M=a x)(I:∀z x,(G.T e).rd z x (a x))(bF:∀x,(a x).all dy=aa)(U:lR P f=aa)(bB:g.length=d.length)
  (bR:∀(p:Option Addr)(F:Nat)(R:List af)(w:World),R.length=n.length->Calls P f (.slice p 0 F::R).toArray w λx w'=>x=.returned (.tuple #[])/\w'=w)
  (bf:0<d.length->∀(b:Nat)(L:List af)(t:bV),z b=.dead->m.blk b=.own L t->∀(j:cj)(w:World)(A:List af)(q:kl),WF m->Rel P j m w->bP (de j) n A->j b=J q->zE P f A d.length (d.flatMap a) (g.flatMap a) w q.blk)
  (K:dU (G.T e) z N m k d v):∃y B,h2 P f (v::n).toArray m (λu H=>u=(if ak=aa then y else .tuple #[])/\H=B)/\(B=m\/∃b X,da v=J b/\B=m.put b X)/\dU (G.T e) z N B k g y/\da y=da v/\(ak=ak->y=v):=by
 have C:∀l:List (D e),∀x∈l,(a x).length=(G.T e).bM:=λl x _=>(G.T e).len z x _ (I z x);have Y:∀l:List (D e),(l.flatMap a).all dy=aa:=λl=>by
  grind
 have ayO:d=[]->(∃p c,v=.slice p 0 c)->h2 P f (v::n).toArray m (λu H=>u=(if ak=aa then v else .tuple #[])/\H=m)/\g=d:=λr ⟨p,c,E⟩=>by subst r E;exact⟨h2.sort U (ar9 p c n bR) ⟨rfl,rfl⟩,List.eq_nil_of_length_eq_zero bB⟩
 rcases K.bT with⟨rfl,rfl⟩|⟨b,h,L,c,rfl,O,g2,Q,g4,g5,g6⟩
 ·grind
 ·by_cases hV:d.length=0
  ·grind
  ·have Z:=WI (C d);have ax8:=WI (C g);have S:(eY L h (g.flatMap a)).length=L.length:=mB _ _ _;refine⟨_,m.put b (.own (eY L h (g.flatMap a)) (G.T e).tid),h2.sort U (ar' b h d.length c L (G.T e).tid (d.flatMap a) (g.flatMap a) n (λj w A q dV cY eL s=>bf (by omega) b L _ Q O j w A q dV cY eL s) (by omega) O ?_ (by grind) (by grind) (Y _) (Y _)) ⟨rfl,rfl⟩,.inr ⟨b,_,rfl,rfl⟩,⟨.inr ⟨b,h,eY L h (g.flatMap a),c,by grind,by simp[Mem.put],g2,Q,by grind,by grind,λi x r=>?_⟩,K.fresh⟩,rfl,λ_=>rfl⟩
   ·refine rv λj=>?_;rw[List.getElem?_take];split
    ·rename_i s;rw[List.getElem?_drop];have V:=mm s;rw[V];exact acf E (λi x r=>g6 i x r) (C d) j _ V
    grind
   ·refine⟨a x,I z x,λj u s=>?_⟩;have hk:=adJ (C g) i j x u r s;rw[o5 _ _ _ _ (by grind)];have cF:=(fq.1 hk).1;rw[if_pos (by omega),show h+i*(G.T e).bM+j-h=i*(G.T e).bM+j by omega]
    grind
def asW{g:Nat}{z:Nat->bW}{n e d:List af}{j:cj}(i:bP (rel G z n) [.fn g []] e)(k:bP (de j) e d):d=[.func (.func g) #[] #[]]:=by
 match e,d,i,k with
 |[_],[_],⟨⟨a,rfl,b⟩,_⟩,⟨m,_⟩=>
  have:a=[]:=by cases a with
   |nil=>rfl
   |cons _ _=>exact b.elim
  subst this;obtain⟨a,f,p,b,h⟩:=m;have q:a=#[]:=by
   obtain⟨l⟩:=a;cases l with
   |nil=>rfl
   |cons _ _=>exact b.elim
  have r:f=#[]:=by
   obtain⟨l⟩:=f;cases l with
   |nil=>rfl
   |cons _ _=>exact h.elim
  grind
def avF{t:Nat}(d:List hJ)(l:D t->h6 (gJ G d))(F:G.T t=fB t (gJ G d) l)(r:AV d=aa)(H:D t)(a:D t->Int){n:Ren}(L:SlLaysF0.n6 P n)(f g:Nat)(C:n.f 6=f)(V:lR P f=aa)
  (K:∀w,(isAgg (n.t 24)).run P w=.ok aa w) (M:∀w,(Go.sizeOf (n.t 24)).run P w=.ok d.length w) (Y:∀i w,(callFunc g i).run P w=.ok (.enter g i) w) (S:mn 0 d.length=aa)
  (U:∀(x y:D t)(W:World),Calls P g #[.agg (hC d (l x)).toArray,.agg (hC d (l y)).toArray] W λe Z=>e=.returned (.int .i64 (p1 (a x) (a y)))/\∃q X,Z=grow (W.drewN q) X):ns P G where
 f:=f
 e:=t
 u5:=ak
 acc:=λs=>match s with|[.fn A5 []]=>fi A5 g|_=>ak
 qp:=λ_=> @G6 (D t) ⟨H⟩ λx y=>p1 (a x) (a y)
 run:=λz eV m k vs lW s I b4 v B h bx E Q=>by
  letI:Inhabited (D t):=⟨H⟩
  split at B
  ·obtain rfl:=kA B;unfold G6 at h;split at h
   ·rename_i O;cases h;refine WA (λx=>hC d (l x)) (λz x ds h=>by rw[F] at h;exact w0 r h) (λz x=>by rw[F];exact zu r) (λx=>BS r) V (BU _ (W0 a) I) (λp A s w h=>?_) (λN b _ eu _ _ j w kG q dV cY R bn=>?_) Q
    ·subst C;rw[<-E.length] at h
     match s,h with
     |[v],_=>exact AnyF.slices_SortFunc_none L p A v w
    ·have e:=asW E R;subst e;exact ar8 L C K M (λx=>hC d (l x)) (λ_=>w4) (λ_=>BS r) (λx y=>p1 (a x) (a y)) (W0 a) Y U I O (pk S) N w q.blk
   ·cases h
  ·cases B
end
end
end
section
open Go.Sort Go.Shelf Go.Proofs Go.RowKit
noncomputable section
def ve(a:List Int):Option (List Int):=if a.length<4611686018427387904 then J (if a.Pairwise (·<=·) then a else a.mergeSort λx y=>decide (x<=y)) else ae
def uF{a:Type}(x:List a):Option (List a):=wK x λt=>if t=aa then J [] else ab (cD [] x) λy=>J y
def Lg{b:Type}{x y:List b}(h:(ab (cD [] x) λy=>J y)=J y):uF x=J y:=
 atc λt a=>by
  cases t with
  |false=>grind
  |true=>rw[a rfl] at h;exact h
def gL.imp{P:bI}{D:Nat->Type}{X:e3 P D}{d:fS D}{F rq:d.F}(a:d.ij=ae)(b:∀r x y,F r x=J y->rq r x=J y)(h:gL X d rq):gL X d F:=gL.or a (λr x y g=>.inl (b r x y g)) h h
def aqv{b a:List Int}(h:ve b=J a):ve (b.map λx=>x)=J (a.map λx=>x):=by simp_all
section
variable {aK:Type}[Inhabited aK]
def acj(b:aK->af)(w:World)(a e:Nat)(d:List aK):putRow b w a e d.toArray=putRow id w a e (d.map b).toArray:=by
 unfold putRow putCells
 grind
def acx{b:aK->af}{w:World}{a e:Nat}{d:List aK}(h:Holds id w a e (d.map b).toArray):Holds b w a e d.toArray:=by
 intro j f;have f:j<d.length:=by grind
 have:=h j (by grind)
 grind
end
section
variable {P:bI}{D:Nat->Type}{G:l6 D}{t:Nat}
def KC(b:D t->Int)(a:List (D t)):(a.flatMap λx=>[mu .i64 (b x)])=(a.map b).map (mu .i64):=by
 induction a with
 |nil=>rfl
 |cons x a d=>grind
def au2(to:D t->Int)(aD:∀z x ds,(G.T t).rd z x ds->ds=[.int .i64 (to x)])(aV:∀z x,(G.T t).rd z x [.int .i64 (to x)])(qp:List (D t)->Option (List (D t)))(bf:∀{xs b4},qp xs=J b4->ve (xs.map to)=J (b4.map to)){ap:Ren}(L:Lays.n189 P ap)(f:Nat)(bF:ap.f 189=f)(ok:lR P f=aa):ns P G where
 f:=f
 e:=t
 u5:=ak
 acc:=List.isEmpty
 qp:=λ_=>qp
 run:=λz eV m k vs lW gV xs b4 v oN h bx dE cG=>by
  cases gV with
  |cons _ _=>cases oN
  |nil=>
  cases lW with
  |cons _ _=>exact dE.elim
  |nil=>
  subst bF;have h:=bf h;unfold ve at h;split at h
  ·rename_i cF;have h:((xs.map to).mergeSort λx y=>decide (x<=y))=b4.map to:=by
    have h:=kB.inj h;split at h
    ·rename_i bf;rw[<-h];exact List.mergeSort_of_pairwise (bf.imp λh=>decide_eq_true h)
    ·exact h
   have hlen:b4.length=xs.length:=by have:=congrArg List.length h;simpa using this.symm
   refine WA (λx=>[.int .i64 (to x)]) aD aV (λx=>rfl) ok hlen (λp cap gV w h=>?_) (λbR b _ eu _ _ j w kG q dV cY eL bn=>?_) cG
   ·cases gV with
    |cons _ _=>simp at h
    |nil=>exact Any.slices_Sort_int_none L p cap w
   ·cases kG with
    |cons _ _=>exact eL.elim
    |nil=>
    rw[KC,KC];refine Wh (by simp[hlen]) (by simpa using bR) λoff cap hblk hH=>?_;have ay:=Any.slices_Sort_int L q.blk off cap (xs.map to) w (acx hH) hblk cF;rw[ug] at ay;refine ay.mono ?_;rintro e w' ⟨rfl,n,os,rfl⟩;exact⟨rfl,n,os,by rw[<-h,acj]⟩
  ·cases h
def afh{e:Nat}(d:dP P G e)(K:P.follows .mixedOrders=aa){fn:Func}(f:Nat)(s:P.funcs[f]?=J fn)(p:fn.body.isSome=aa)(C:lR P f=aa)(M:iJ 3 fn.ntmps=aa)(L:fn.results.toList=[.tmp 6])(B:Tu t (en fn))(q:P.underlying t=J (.slice e)):ns P G where
 f:=f
 e:=e
 u5:=aa
 acc:=λg=>match g with|[.c (.int .i64 _),.c (.int .i64 _)]=>aa|_=>ak
 qp:=λg l=>match g with|[.c (.int _ a),.c (.int _ b)]=>AY l a b|_=>ae
 run:=λz Q m k U I g l N v j h O A x=>by
  split at j
  ·rename_i a b
   match I,A with
   |[_,_],⟨rfl,rfl,_⟩=>
    simp only[AY] at h;split at h
    ·rename_i r;cases h;obtain⟨w,R,rfl⟩:=r;obtain⟨n,rfl⟩:=Int.eq_ofNat_of_zero_le w;obtain⟨b,Y,y,i,E,F,H⟩:=ase (T:=G.T e) K s p C (pk M) L B (by rw[d.tid];exact q) (by rw[d.tid];exact d.az) d.bx d.dw d.et d.cN x (a:=n) (by omega);exact⟨y,_,F.mono λu S h=>⟨by rw[if_pos rfl];exact h.1,h.2⟩,.inr ⟨b,Y,i,rfl⟩,H,by rw[i,E],λh=>by cases h⟩
    ·cases h
  ·cases j
end
end
end
section
open Go.Sort Go.Shelf Go.Proofs Go.RowKit
noncomputable section
abbrev pW(n:Nat):Type:={x:Int // 0<=x/\x<n}
def o1(a d:List Int):Option (List Int):=
 if d=[] then J [] else
 if h:(∀x∈d,0<=x/\x<a.length)/\(∀b∈a,0<=b/\b<4294967296)/\d.length<4611686018427387904/\0<a.length then
  J ((@ou (pW a.length) ⟨⟨0,by omega⟩⟩ (λx y=>a.getD x.1.toNat 0-a.getD y.1.toNat 0) (d.pmap Subtype.mk h.1)).map Subtype.val)
 else ae
def W1{a:Type}(f:a->Int):SWO (ltOf λx y=>f x-f y):=by
 have e:∀x y,ltOf (λx y=>f x-f y) x y=decide (f x<f y):=λx y=>by grind[ltOf]
 refine⟨λx=>?_,λx y z d b=>?_,λx y z d b=>?_⟩
 ·grind
 ·grind
 grind
def abZ{a b d:List Int}(h:o1 a b=J d):d.Perm b:=by
 unfold o1 at h;split at h
 ·grind
 ·split at h
  ·rename_i e;cases h
   letI:Inhabited (pW a.length):=⟨⟨0,by omega⟩⟩
   have:=(acL (λ(x y:pW a.length)=>a.getD x.1.toNat 0-a.getD y.1.toNat 0) (W1 _) (b.pmap Subtype.mk e.1)).map Subtype.val;simp_all[List.map_pmap]
  grind
def aqp{b d a:List Int}(h:o1 b d=J a):o1 b (d.map λx=>x)=J (a.map λx=>x):=by simp_all
section
variable {P:bI}{ap:Ren}{f g bM o:Nat}{eZ xs b4:List Int}{w:World}{lg cu kj dz cap blk:Nat}
def Wr{a:Type}[Inhabited a]{b:a->af}{e n:Nat}{d:Array a}{f:Array Obj}{c i:Nat}{v:af}(h:w.cell? ⟨c,i,ae⟩=J v)(g:c≠blk):(sortWorld b w blk e n d f).cell? ⟨c,i,ae⟩=J v:=by
 grind[rG,sortWorld,grow,putRow,mapBlock,TL]
def asu[Inhabited (pW eZ.length)](L:SlLaysF.n6 P ap)(sW:∀args w,(callFunc g args).run P w=.ok (.enter g args) w)
  (kK:∀(x y bL b:Int)(lg cu kj dz n cap:Nat)(W:World),W.cell? ⟨lg,cu,ae⟩=J (.slice (J ⟨kj,dz,ae⟩) n cap)->0<=x->x<n->0<=y->y<n->W.cell? ⟨kj,dz+x.toNat*bM+o,ae⟩=J (.int .i64 bL)->W.cell? ⟨kj,dz+y.toNat*bM+o,ae⟩=J (.int .i64 b)->
   Calls P g #[.int .i64 x,.int .i64 y,.pointer (J ⟨lg,cu,ae⟩)] W λe w'=>e=.returned (.int .i64 (Aw.wrap (bL-b)))/\∃q pz,w'=grow (W.drewN q) pz)
  (c2:∀b∈eZ,0<=b/\b<4294967296) (h1:w.cell? ⟨lg,cu,ae⟩=J (.slice (J ⟨kj,dz,ae⟩) eZ.length cap)) (ai:∀(i:Nat)(b:Int),eZ[i]?=J b->w.cell? ⟨kj,dz+i*bM+o,ae⟩=J (.int .i64 b)) (tp:lg≠blk) (mX:kj≠blk) {zs:List (pW eZ.length)} (VD:0<zs.length) (cF:zs.length<4611686018427387904):
  zE P (ap.f 6) [.func (.func g) #[] #[.pointer (J ⟨lg,cu,ae⟩)]] zs.length (zs.map λx=>mu .i64 x.1) ((ou (λ(x y:pW eZ.length)=>eZ.getD x.1.toNat 0-eZ.getD y.1.toNat 0) zs).map λx=>mu .i64 x.1) w blk:=by
 have hO:SWO (ltOf λ(x y:pW eZ.length)=>eZ.getD x.1.toNat 0-eZ.getD y.1.toNat 0):=W1 _;have JQ:=BU _ hO zs;refine Wh (by grind) (by grind) λoff ams hblk hH=>?_;refine(Any.slices_SortFunc_eq L (λx:pW eZ.length=>mu .i64 x.1) (λx=>rfl) _ hO g #[.pointer (J ⟨lg,cu,ae⟩)] blk off ams zs.toArray w sW (λn os Z8 _ x y=>?_) (acx hH) hblk (by grind)).mono ?_
 ·have aap:eZ[x.1.toNat]?=J (eZ.getD x.1.toNat 0):=by have:=x.2;simp_all
  have aaq:eZ[y.1.toNat]?=J (eZ.getD y.1.toNat 0):=by have:=y.2;simp_all
  have bL:=c2 _ (mM aap);have b:=c2 _ (mM aaq);have:=kK x.1 y.1 _ _ lg cu kj dz eZ.length cap (sortWorld (λx:pW eZ.length=>mu .i64 x.1) w blk off n Z8 os) (Wr h1 tp) x.2.1 x.2.2 y.2.1 y.2.2 (Wr (ai _ _ aap) mX) (Wr (ai _ _ aaq) mX);rw[aG.wrap_i64,show(eZ.getD x.1.toNat 0-eZ.getD y.1.toNat 0+9223372036854775808)%18446744073709551616-9223372036854775808=eZ.getD x.1.toNat 0-eZ.getD y.1.toNat 0 by omega] at this;exact this
 ·rintro e w' ⟨rfl,n,os,rfl⟩;refine⟨rfl,n,os,?_⟩;show grow (putRow _ _ blk off _) os=_;rw[<-acj];rfl
def asv(L:SlLaysF.n6 P ap)(k:ap.f 6=f)(s:∀a w,(callFunc g a).run P w=.ok (.enter g a) w)
  (m:∀(x y bL b:Int)(lg cu kj dz n cap:Nat)(W:World),W.cell? ⟨lg,cu,ae⟩=J (.slice (J ⟨kj,dz,ae⟩) n cap)->0<=x->x<n->0<=y->y<n->W.cell? ⟨kj,dz+x.toNat*bM+o,ae⟩=J (.int .i64 bL)->W.cell? ⟨kj,dz+y.toNat*bM+o,ae⟩=J (.int .i64 b)->
   Calls P g #[.int .i64 x,.int .i64 y,.pointer (J ⟨lg,cu,ae⟩)] W λe z=>e=.returned (.int .i64 (Aw.wrap (bL-b)))/\∃q r,z=grow (W.drewN q) r)
  (h:o1 eZ xs=J b4) (l:w.cell? ⟨lg,cu,ae⟩=J (.slice (J ⟨kj,dz,ae⟩) eZ.length cap)) (j:∀(i:Nat)(b:Int),eZ[i]?=J b->w.cell? ⟨kj,dz+i*bM+o,ae⟩=J (.int .i64 b)) (t:lg≠blk) (p:kj≠blk) (A:0<xs.length):
  zE P f [.func (.func g) #[] #[.pointer (J ⟨lg,cu,ae⟩)]] xs.length (xs.map (mu .i64)) (b4.map (mu .i64)) w blk:=by
 subst k;unfold o1 at h;rw[if_neg (by intro e;simp_all)] at h;split at h
 ·rename_i d;cases h
  letI:Inhabited (pW eZ.length):=⟨⟨0,by omega⟩⟩
  have:=asu (zs:=xs.pmap Subtype.mk d.1) L s m d.2.1 l j t p (by grind) (by grind);simp_all[List.map_pmap]
 grind
end
section
variable {P:bI}{D:Nat->Type}{G:l6 D}{e ti:Nat}
def au1(K:D e->Int)(aD:∀z x B,(G.T e).rd z x B->B=[.int .i64 (K x)])(aV:∀z x,(G.T e).rd z x [.int .i64 (K x)])(r:D ti->Int)(o:Nat)(hk:∀z x B,(G.T ti).rd z x B->B[o]?=J (.int .i64 (r x)))
  (qp:List Int->List (D e)->Option (List (D e))) (bf:∀{eZ C U},qp eZ C=J U->o1 eZ (C.map K)=J (U.map K)) {ap:Ren} (L:SlLaysF.n6 P ap) (f g:Nat) (bF:ap.f 6=f) (ok:lR P f=aa) (sW:∀t w,(callFunc g t).run P w=.ok (.enter g t) w)
  (kK:∀(x y bL b:Int)(lg cu X V n d:Nat)(W:World),W.cell? ⟨lg,cu,ae⟩=J (.slice (J ⟨X,V,ae⟩) n d)->0<=x->x<n->0<=y->y<n->W.cell? ⟨X,V+x.toNat*(G.T ti).bM+o,ae⟩=J (.int .i64 bL)->W.cell? ⟨X,V+y.toNat*(G.T ti).bM+o,ae⟩=J (.int .i64 b)->
   Calls P g #[.int .i64 x,.int .i64 y,.pointer (J ⟨lg,cu,ae⟩)] W λe w'=>e=.returned (.int .i64 (Aw.wrap (bL-b)))/\∃q pz,w'=grow (W.drewN q) pz):ns P G where
 f:=f
 e:=e
 u5:=ak
 acc:=λH=>match H with|[.fn A5 [(_,[.bh N _,_])]]=>fi A5 g&&fi N ti|_=>ak
 qp:=λH C=>match H with|[.fn _ [(_,[.bh N I,_])]]=>if h:N=ti then qp ((h▸I:List (D ti)).map r) C else ae|_=>ae
 run:=λz eV m k vs lW H C U v R h bx dE cG=>by
  split at R
  ·rename_i A5 t0 N I c;simp only[fx] at R;have h1:=kA R.1;have ai:=kA R.2;subst h1 ai;simp only[dif_pos] at h;have F:=bf h;have O:U.length=C.length:=by have:=(abZ F).length_eq;simpa using this
   match lW,dE with
   |[axv],⟨s4,_⟩=>
   refine WA (λx=>[.int .i64 (K x)]) aD aV (λx=>rfl) ok O (λp d H w h=>?_) (λbR b aw1 N VH jj j w kG q dV cY eL bn=>?_) cG
   ·subst bF
    match H,h with
    |[v],_=>exact AnyF.slices_SortFunc_none (P:=P) (ρ:=ap) {L with} p d v w
   ·match kG,eL with
    |[jf],⟨anx,_⟩=>
    obtain⟨gs,rfl,wk⟩:=s4
    match gs,wk with
    |[axx],⟨s5,_⟩=>
    obtain⟨js,iw,B,rfl,Y,oP⟩:=s5;obtain⟨M,Z,rfl,Vw,Vx⟩:=anx;have bX:M=#[]:=by
     obtain⟨l⟩:=M;cases l with
     |nil=>rfl
     |cons _ _=>exact Vw.elim
    subst bX;obtain⟨Z⟩:=Z
    match Z,Vx with
    |[Z2],⟨anA,_⟩=>
    obtain⟨ia,_,p6,rfl⟩:=anA
    match B,oP with
    |[d0,d1],⟨anF,_,_⟩=>
    have hh:0<(I.map r).length:=by
     unfold o1 at F;rw[if_neg (by
      intro e;have:(C.map K).length=0:=by rw[e];rfl
      simp at this;rw[this] at bR;simp at bR)] at F
     split at F
     ·rename_i A;exact A.2.2.2
     ·cases F
    have u3:m.load js (iw+0)=J d0:=KO bx (Y 0 d0 rfl);obtain⟨bz,c1,c2⟩:=cY.load js ia _ d0 p6 u3;rcases anF with⟨_,rfl⟩|⟨jR,S,c3,rfl,ao',_,mb⟩
    ·simp at hh
    have qc:z js≠.dead:=(w5 (Y 0 _ rfl)).ne;obtain⟨Q,_,Bb,fZ⟩:=c2;have s:∃d,bz=.slice (J ⟨Q.blk,Q.db+S,ae⟩) (I.map r).length d:=by
     have aR:I.length=(I.map r).length:=by simp
     rcases fZ with⟨_,A⟩|⟨_,_,_,_,_,_,A⟩|⟨_,hV,_⟩|⟨_,hV,_⟩|⟨_,_,_,_,_,_,_,_,_,A⟩
     ·exact⟨_,by rw[A,aR]⟩
     ·exact⟨_,by rw[A,aR]⟩
     ·omega
     ·omega
     ·exact⟨_,by rw[A,aR]⟩
    obtain⟨d,rfl⟩:=s;have aox:(m.blk b).iO=aa:=by rw[jj];rfl
    have kM:∀{x:Nat},(z x).iD->(m.blk x).live=aa:=λ{x} s=>by have:=(bx x s.ne).1;rw[s.mem] at this;rw[this];cases BA:z x<;>first|rfl|(rw[BA] at s;exact s.elim)
    have ne:∀{x:Nat}{E:kl},j x=J E->(z x).iD->E.blk≠q.blk:=λ{x E} bp s he=>by have:=cY.inj b x q E bn bp aox (kM s) he.symm;subst this;exact s.ne VH
    have Bu:=asv (w:=w) (lg:=ia.blk) (cu:=ia.db+(iw+0)) (kj:=Q.blk) (dz:=Q.db+S) (blk:=q.blk) L bF sW kK F c1 (λi nZ az=>?_) (ne p6 (w5 (Y 0 _ rfl))) (ne Bb ao') (by simpa using bR)
    ·rw[KC,KC];rw[ug] at Bu;exact Bu
    ·rw[sH] at az;obtain⟨a,bl,rfl⟩:=vT.1 az;obtain⟨cs,cL,c9⟩:=mb i a bl;obtain⟨bz,fo,k4⟩:=cY.load jR Q _ _ Bb (KO bx (c9 o _ (hk z a cs cL)));rw[B0 rfl k4] at fo;rw[<-fo];congr 2;omega
  ·cases R
end
end
end
end Go.aF