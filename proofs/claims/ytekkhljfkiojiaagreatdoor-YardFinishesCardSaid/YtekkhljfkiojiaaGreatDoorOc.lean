import Derived.Recover
import Derived.Shelf.SlSortCmp.NoneTotal
import Derived.Shelf.SlicesG.Cmp
import Derived.Shelf.Sort.Plain
import Derived.Shelf.Slices.In.SortNone
import Derived.Shelf.SlSortCmp.Whole1
import Derived.Test.YtekkhljfkiojiaaGreatDoorOb
set_option linter.defProp false
set_option linter.unusedSimpArgs false
set_option linter.unusedVariables false
set_option linter.unusedSectionVars false
open Array renaming replicate->nj
open Bool renaming and_eq_true->fx,and_eq_true_iff->tY,and_self->vK,noConfusion->Yy,not_eq_true'->Aq,or_eq_true->Ar,false->ak,true->aa
open Classical renaming choose->YA
open Go renaming IntKind->aG,Operand->bS,Program->bI,TypeId->bV,Value->af
open Go.Act renaming put->qB
open Go.IntKind renaming i64->Aw
open Go.Lib renaming bitLen->Ty
open Go.Region renaming wanted->qK
open Go.Sort renaming ahead->TL
open Go.Value renaming int->mu
open Go.World renaming cell?->rG
open List renaming all_cons->ml,all_eq_true->iA,eq_nil_of_length_eq_zero->yl,ext_getElem?->rv,flatMap_cons->II,getD_eq_getElem?_getD->YV,getElem?_append->AB,getElem?_append_left->kS,getElem?_append_right->kT,getElem?_cons_succ->qH,getElem?_eq_getElem->mm,getElem?_eq_none->Tz,getElem?_eq_some_iff->fq,getElem?_map->sH,getElem?_set->ll,length_append->sI,length_cons->ry,length_map->ug,map_congr_left->YW,map_cons->rA,mem_append->kU,mem_cons->ha,mem_cons_of_mem->kn,mem_cons_self->oG,mem_map->l2,mem_of_getElem?->mM,range->mN
open Nat renaming add_mul->ko,add_zero->pS,beq->fi,ble->iJ,blt->mn,eq_of_beq_eq_true->kA,le_of_ble_eq_true->pk,le_refl->e4,le_succ->mo,le_trans->jd,lt_of_lt_of_le->hS,zero_add->lH
open Option renaming bind->ab,getD_some->IV,map_eq_some_iff->vT,map_some->vU,some->kB,none->ae,some->J
namespace Go.aF
section
section
variable {P:bI} {D:Nat->Type} {X:e3 P D} {ap:Type} {z z':Nat->bW} {e m m':Mem} {k:Option Nat} {vs:List af} {fr:Nat->af} {E:List (Nat×bc D)} {O:List (ba D)} {o:Oper} {r:ap}
variable {x y:bS} {t u:bV} {K:bc D->List (ba D)->Option ap}
def gG (m a:Mem) (q:Option Nat):Prop:=m.next<=a.next/\∀b,b<m.next->q≠J b->a.blk b=m.blk b
def oI (b:List af) (a:List Nat) (q:Option Nat):Prop:=q=ae\/∃i,i∈a/\∃v,b[i]? =J v/\q=dQ v
def cH.mono {d:bS->af} {K e:Tag->af->Mem->Prop} (h:cH P d o m K) (a:∀t v b,K t v b->e t v b):cH P d o m e:=by
 rcases h with ⟨v,h,g⟩|⟨v,I,h,g⟩|⟨v,h,g⟩|⟨Y,v,h,g⟩|⟨n,v,b,h,g⟩
 ·exact .inl ⟨v,h,a _ _ _ g⟩
 ·exact .inr (.inl ⟨v,I,h,a _ _ _ g⟩)
 ·exact .inr (.inr (.inl ⟨v,h,a _ _ _ g⟩))
 ·exact .inr (.inr (.inr (.inl ⟨Y,v,h,a _ _ _ g⟩)))
 ·exact .inr (.inr (.inr (.inr ⟨n,v,b,h,a _ _ _ g⟩)))
def iV (X:e3 P D):Prop:=∀(f:Nat) (b:List (bc D)) (O:List (ba D)) {h:Type} (K:bc D->List (ba D)->Option h) (r:h) {z:Nat->bW} {e m:Mem} {k:Option Nat} {d:List af} (a:List af),
 b9 X.G O z e m k d->bP (rel X.G z d) b a->X.C f b O K=J r->h2 P f a.toArray m λv g=>dH X O z e k d K r v g/\(X.F f b O=aa->g=m)/\(X.W f=ak->∃q,gG m g q/\oI d (q1 b) q)
def bP.caps {caps:List (Nat×List (cv D))} {a:List af} (h:bP (λc g=>lU X.G z vs c.2 0 g) caps a):bP (rel X.G z vs) (caps.map λp=>bc.hd p.1 p.2 0) a:=by
 induction caps generalizing a with
 |nil=>cases a with
  |nil=>trivial
  |cons _ _=>exact h.elim
 |cons c caps b=>cases a with
  |nil=>exact h.elim
  |cons g a=>exact ⟨h.1,b h.2⟩
def acf {aK:Type} {T:cM aK} {aW:aK->List af} (aD:∀z x ds,T.rd z x ds->ds=aW x) {L:List af}:∀{xs:List aK} {o:Nat},(∀(i:Nat) (x:aK),xs[i]? =J x->∃cs,T.rd z x cs/\ql L (o+i*T.bM) cs)->(∀x∈xs,(aW x).length=T.bM)->
  ∀(i:Nat) (v:af),(xs.flatMap aW)[i]? =J v->L[o+i]? =J v
 |[],o,_,_,i,v,h=>by grind
 |x::xs,o,h,aR,i,v,az=>by
  obtain ⟨cs,h1,ai⟩:=h 0 x rfl;have:=aD _ _ _ h1;subst this;have Vj:=aR x oG;rw[II,AB] at az;split at az
  ·have:=ai i v az
   grind
  ·rename_i hA;have:=acf aD (xs:=xs) (o:=o+T.bM) (L:=L) (λj y bn=>by
    obtain ⟨cs,g1,g2⟩:=h (j+1) y (by grind)
    grind) (λy aZ=>aR y (kn _ aZ)) _ v az
   grind
def adJ {d:Type} {b:d->List af} {n:Nat}:∀{a:List d},(∀x∈a,(b x).length=n)->∀(i j:Nat) (x:d) (v:af),a[i]? =J x->(b x)[j]? =J v->(a.flatMap b)[i*n+j]? =J v
 |[],_,i,j,x,v,h,_=>by grind
 |y::a,e,0,j,x,v,h,f=>by
  grind
 |y::a,e,i+1,j,x,v,h,f=>by have k:=e y oG;rw[II,ko,Nat.one_mul,kT (by omega),show i*n+n+j - (b y).length=i*n+j by omega];exact adJ (λx g=>e x (kn _ g)) i j x v (by grind) f
def WI {b:Type} {d:b->List af} {n:Nat}:∀{a:List b},(∀x∈a,(d x).length=n)->(a.flatMap d).length=a.length*n
 |[],_=>by simp
 |x::a,h=>by rw[II,sI,h x oG,WI λy e=>h y (kn _ e),ry,ko];omega
def KK {f:Nat} {a:List (Nat×List (cv D))} {b:List (bc D)} {d:ns P X.G}:∀{l:List (ns P X.G)},xk X l f a b=J d->d.f=f/\a=[]/\d.acc b.tail=aa
 |[],h=>by cases h
 |s::l,h=>by
  unfold xk at h;by_cases e:(fi s.f f&&(a.isEmpty&&s.acc b.tail))=aa
  ·simp_all
  ·rw[if_neg e] at h;exact KK h
theorem acG {f:Nat} {H:List (bc D)} {n:ns P X.G} {d:List af} {I:List (Nat×List (cv D))} (bF:xk X X.S f I H=J n) (g:b9 X.G O z e m k vs) (dE:bP (rel X.G z vs) H d) (h:XD X n H O K=J r):
  h2 P f d.toArray m λv L=>dH X O z e k vs K r v L/\∃q,gG m L q/\oI vs (zC H) q:=by
 obtain ⟨rfl,_,yU⟩:=KK bF
 match H,d,dE with
 |[],_,_=>cases h
 |s::gV,ec::V,⟨N,ai⟩=>
  unfold XD at h;split at h
  ·rename_i i l bf;cases bf;split at h
   ·rename_i t xs w R;split at h
    ·rename_i he;subst he;obtain ⟨A,aZ,h⟩:=bind_some h;have M:dU (X.G.T n.e) z e m k xs ec:=g.obj i _ ec R N.1;have kI:∀{A:List (D n.e)} {L:Mem} {u:af},dU (X.G.T n.e) z e L k A u->dQ u=da u:=λhu=>hi (by obtain ⟨a,c,cp⟩:=hu.bT.len;grind);obtain ⟨cc,L,ay,n4,uX,UW,wA⟩:=n.run z e m k vs V gV xs A ec yU aZ g.aS.bZ ai M;refine ay.mono ?_;rintro u Q ⟨rfl,rfl⟩;have k2:∃q,gl m Q q/\dL z e Q k/\(q=ae\/da ec=q):=by
      rcases n4 with rfl|⟨b,Y,y,rfl⟩
      ·exact ⟨ae,⟨e4 _,g.aS.dead,λ_ _ _=>rfl⟩,g.aS, .inl rfl⟩
      ·have x:=M.bm b y;exact ⟨J b,zm g.aS.dead (M.lt b y),g.aS.put _ x.1 (M.lt b y) x.2, .inr y⟩
     obtain ⟨q,C,fb,x⟩:=k2;have Z:∃q,gG m Q q/\oI vs (zC (.c (.own i)::gV)) q:=⟨q,⟨C.next,C.blk⟩,by
      rcases x with x|x
      ·exact .inl x
      ·cases q with
       |none=>exact .inl rfl
       |some b=>exact .inr ⟨i,by simp[zC],_,N.1,by grind⟩⟩
     refine ⟨?_,Z⟩;have E:gl m Q (dQ ec):=by
      rcases x with rfl|x
      ·exact ⟨C.next,C.dead,λb y _=>C.blk b y (λe=>by grind)⟩
      grind
     by_cases F:n.u5=aa
     ·rw[if_pos F] at h⊢;have axO:dQ cc=dQ ec:=by grind
      have fP:=λj qj w hq B U hw=>g.fD j i qj _ w _ hq B R U rfl hw N.1;exact ⟨z,vs++[cc], .c (.own O.length),O.set i .dead++[.bh n.e A ak ak],(Inv.set O i (.inl rfl)).trans (Inv.push _ _),dT.refl z,j0,
       (g.kill i).push (q:=dQ ec) (o':= .bh n.e A ak ak) E fb (λj p w B hw U=>by
        rw[ll] at B;split at B
        ·split at B
         ·cases B;cases U
         grind
        grind) uX (λp bb US=>by grind),oi g (by obtain ⟨a,c,cp⟩:=uX.bT.len;exact ⟨a,c,cp⟩),h⟩
     ·rw[if_neg F] at h⊢;have:=wA (by grind);subst this;exact ⟨z,vs, .sq [],_,Inv.set O i (.inr rfl),dT.refl z,λ_ _ h=>h,g.pF (o':= .bh n.e A ak aa) R N.1 rfl E fb uX,⟨[],rfl,trivial⟩,h⟩
    grind
   grind
  grind
 |_::_,[],h=>exact h.elim
def ac':∀{d:List Nat} {a:List af},bP (sQ vs) d a->bP (rel X.G z vs) (d.map λi=>bc.box i 0) a
 |[],[],_=>trivial
 |[],_::_,h=>h.elim
 |_::_,[],h=>h.elim
 |_::_,_::_,⟨⟨f,b,h⟩,e⟩=>⟨⟨b,by grind,h⟩,ac' e⟩
def arf (T:iV X) {c:Call} (l:o.op= .call c) (n:b9 X.G O z e m k vs) (g:∀x,rel X.G z vs (dp E x) (bk fr x)) (h:sa X c E O K=J r):cH P (bk fr) o m λ_ v m'=>dH X O z e k vs K r v m':=by
 obtain ⟨ce,i,H⟩:=c;cases ce with
 |invoke r m=>cases h
 |value f=>
  simp only[sa] at h;split at h
  ·rename_i Q d L;have w:=g f;rw[L] at w;obtain ⟨q,F,B⟩:=w;split at h
   ·rename_i ke U;have V:d=[]:=(KK U).2.1;subst V;have wk:q=[]:=by cases q with
     |nil=>rfl
     |cons _ _=>exact B.elim
    subst wk;refine cH.call (B2 (args:=(i.toList.map (bk fr)).toArray) (caps:=#[]) l F (by grind) rfl) ?_;have:=(acG U n (w3 g) h).mono λ_ _ h=>h.1
    grind
   refine cH.call (B2 (args:=(i.toList.map (bk fr)).toArray) (caps:=q.toArray) l F (by grind) rfl) ?_;have:=(T Q _ O K r (i.toList.map (bk fr)++q) n ((w3 g).append B.caps) h).mono λ_ _ h=>h.1
   grind
  ·rename_i Q is L;have w:=g f;rw[L] at w;obtain ⟨q,F,B⟩:=w;refine cH.call (B2 (args:=(i.toList.map (bk fr)).toArray) (caps:=q.toArray) l F (by grind) rfl) ?_;have:=(T Q _ O K r (i.toList.map (bk fr)++q) n ((w3 g).append (ac' B)) h).mono λ_ _ h=>h.1
   grind
  grind
 |builtin b=>
  cases b with
  |len=>
   simp only[sa] at h;split at h
   ·rename_i x t A S;have j:i=#[x]:=by grind
    have C:H=#[t]:=by grind
    subst j C;exact arN (ts:=#[t]) l n (g x) h
   grind
  |append=>
   simp only[sa] at h;split at h
   ·rename_i x y t u A S;have j:i=#[x,y]:=by grind
    have C:H=#[t,u]:=by grind
    grind [aqz,are,ard,arG]
   grind
  |cap=>
   simp only[sa] at h;split at h
   ·rename_i x t A S;have j:i=#[x]:=by grind
    have C:H=#[t]:=by grind
    subst j C;split at h
    ·rename_i hE p hu;have R:=g x;rw[p] at R;exact cH.pure (.Jj x t hE l hu R) (dH.here (dR:= .c (.int .i64 0)) n rfl h)
    grind
   grind
  |max=>
   simp only[sa] at h;split at h
   ·rename_i x y A;have j:i=#[x,y]:=by grind
    subst j;have p:=g x;have s:=g y;split at h
    ·rename_i Z a Y b M I;rw[M] at p;rw[I] at s;split at h
     ·rename_i N;subst N;exact j1 n h (auP l p s) rfl
     grind
    grind
   grind
  |min=>
   simp only[sa] at h;split at h
   ·rename_i x y A;have j:i=#[x,y]:=by grind
    subst j;have p:=g x;have s:=g y;split at h
    ·rename_i Z a Y b M I;rw[M] at p;rw[I] at s;split at h
     ·rename_i N;subst N;exact j1 n h (auQ l p s) rfl
     grind
    grind
   grind
  |_=>cases h
def arz {s:bc D} {v:af} {p:YR D} (f:b9 X.G O z e m k vs) (h:XY O s=J p) (a:rel X.G z vs s v):nn (X.G.M p.u p.bG p.bA) z p.es v\/jD (X.G.M p.u p.bG p.bA) z e m k p.es v:=by
 unfold XY at h;split at h
 ·cases h;exact .inl a
 ·split at h
  ·rename_i u i g l bZ j d;cases h;have b:=f.obj _ _ v d a.1;cases bZ with
   |true=>exact .inl b
   |false=>exact .inr b
  grind
 grind
def arp {r:ap} {v:af} {g:Mem} (h:dH X O z e k vs (V3 K) r v g):dH X O z e k vs K r v g:=by
 obtain ⟨q,w,y,p,s,l,i,d,f,a⟩:=h;refine ⟨q,w, ?_⟩;unfold V3 at a;split at a
 ·rename_i j;split at a
  ·rename_i B x bZ A t;have n:=d.obj _ _ _ t f.1;have m:∃b,v= .pointer (J ⟨b,0,ae⟩):=by cases bZ<;>exact ⟨_,n.choose_spec.choose_spec.1⟩
   obtain ⟨b,rfl⟩:=m;exact ⟨.box j 0,p,s,l,i,d,⟨b,f.1,rfl⟩,a⟩
  grind
 grind
def Ln (cW:iV X) {U:Op} (B:o.op=U) (q:b9 X.G O z e m k vs) (A:∀x,rel X.G z vs (dp E x) (bk fr x)) (h:iR X U E O K=J r):cH P (bk fr) o m λ_ v m'=>dH X O z e k vs K r v m':=by
 cases U with
 |move x=>exact j1 q h (auR B rfl) (A x)
 |assign x=>exact j1 q h (asF B rfl) (A x)
 |nilCheck x=>
  have C:=A x;simp only[iR] at h;split at h
  ·rename_i i off H;have N:=C;rw[H] at N;obtain ⟨b,_,L⟩:=N;exact j1 q h (by rw[L];exact .nilCheck x _ B L) C
  ·rename_i i H;have N:=C;rw[H] at N;obtain ⟨b,l,_,L⟩:=N;exact j1 q h (by rw[L];exact .nilCheck x _ B L) C
  ·rename_i i bX dx off H;have N:=C;rw[H] at N;obtain ⟨b,f0,l,c,_,L⟩:=N;exact j1 q h (by rw[L];exact .nilCheck x _ B L) C
  ·rename_i t cs off H;have N:=C;rw[H] at N;obtain ⟨b,iw,ds,L,_⟩:=N;exact j1 q h (by rw[L];exact .nilCheck x _ B L) C
  grind
 |extract x i=>
  have C:=A x;simp only[iR] at h;split at h
  ·rename_i l H;rw[H] at C;obtain ⟨ds,L,T⟩:=C;split at h
   ·rename_i c F;obtain ⟨w,R,S⟩:=T.get i _ F;exact j1 q h (adm B L R) S
   ·rename_i p F;obtain ⟨w,R,S⟩:=T.get i _ F;exact j1 q h (adm B L R) S
   grind
  grind
 |pick c a b=>
  have F:=A c;simp only[iR] at h;split at h
  ·rename_i H;rw[H] at F;exact j1 q h (aeH (t:=aa) B F (if_pos rfl)) (A a)
  ·rename_i H;rw[H] at F;exact j1 q h (aeH (t:=ak) B F (if_neg (by simp))) (A b)
  grind
 |binOp U t x y u=>
  simp only[iR] at h;have C:=A x;have M:=A y;split at h
  ·rename_i t1 c1 t2 c2 Q Z;rw[Q] at C;rw[Z] at M;obtain ⟨c,v,k1,bb,S⟩:=ats B C M h;exact j1 q k1 bb S
  ·obtain ⟨c,v,k1,bb,S⟩:=asr B q C M h;exact j1 q k1 bb S
 |unOp U t x=>
  have C:=A x;cases U with
  |not=>
   simp only[iR] at h;split at h
   ·rename_i b H;rw[H] at C;exact j1 q h (apX B C) rfl
   grind
  |neg=>
   simp only[iR] at h;split at h
   ·rename_i kk a H;rw[H] at C;exact j1 q h (apV B C) rfl
   grind
  |_=>grind [iR]
 |convert s t x=>exact arh B q (A x) h
 |indexAddr t x y=>
  cases x with
  |global g=>exact arL B q (A y) h
  |_=>exact arM B q (A _) (A y) h
 |field t x n=>exact aqC B q (A x) h
 |fieldAddr t x n=>exact arJ B q (A x) h
 |load t x=>
  simp only[iR] at h;split at h
  ·unfold aea at h;refine (acF B q (A x) h).mono λ_ v m' bB=> ?_;obtain ⟨dv,jK,dR,cu,bR,Q,Z,V,br,cK⟩:=bB;dsimp only at cK;split at cK
   ·rename_i j;split at cK
    ·rename_i c dz bF;obtain ⟨z2,ec,a2,a3,a4⟩:=adL V bF br.1;exact ⟨z2,jK, .c c,dz,bR.trans ec,Q.trans a2,Z,a3,a4,cK⟩
    grind
   grind
  ·split at h
   ·grind [aqD]
   ·exact (acF B q (A x) h).mono λ_ _ _ h=>arp h
 |store t x y=>exact aqG B q (A x) (A y) h
 |alloc t=>exact aqy B q h
 |box t x=>
  simp only[iR] at h;split at h
  ·rename_i i cs az F;split at h
   ·rename_i T;exact (arH B q (A x) az F T h).mono λ_ _ _ h=>aro h
   grind
  grind
 |makeSlice t x y=>
  have C:=A x;simp only[iR] at h;split at h
  ·rename_i ht kk n I H;rw[H] at C;split at h
   ·exact aqF B I q C h
   ·split at h
    ·rename_i ti iE y2;exact arm B I q C y2 h
    grind
  grind
 |buildSlice t l cQ=>
  simp only[iR] at h;split at h
  ·grind [arP]
  ·split at h
   ·rename_i ht I;split at h
    ·rename_i ti iE;exact aqB B I q A h
    grind
   grind
 |build t cQ=>
  simp only[iR] at h;split at h
  ·rename_i bY ti I iE;split at h
   ·rename_i bb;split at h
    ·rename_i cs F;exact aqf B I q A bb F h
    grind
   grind
  ·rename_i n Jq ti I iE;split at h
   ·rename_i kk hk;split at h
    ·rename_i cs F;exact aqA B I hk q A F h
    grind
   grind
  grind
 |slice t x cf az h8=>
  cases h8 with
  |none=>exact ari B q A (A x) h
  |some h8=>
   cases cf with
   |some _=>grind [iR]
   |none=>
    cases az with
    |none=>grind [iR]
    |some y=>exact arj B q A h
 |index t x y=>
  have C:=A x;have M:=A y;simp only[iR] at h;split at h
  ·rename_i s kk n I Q Z;rw[Q] at C;rw[Z] at M;obtain ⟨c,F,h⟩:=bind_some h;exact as6 B I C M F (dH.here (dR:= .c (.int .u8 (UInt8.toNat c:Int))) q rfl h)
  grind [ark]
 |makeFunc fn first cap=>
  cases fn with
  |func f=>
   simp only[iR] at h;split at h
   ·split at h
    ·rename_i is bF F;exact arK B bF q A F h
    grind
   ·split at h
    ·rename_i caps cu bF F;exact asC B bF q A F h
    grind
  |_=>grind [iR]
 |makeMap t rs=>
  cases rs with
  |none=>
   simp only[iR] at h;split at h
   ·rename_i bG bA I;exact arO B I q h
   grind
  |some _=>grind [iR]
 |lookup t x y ok=>
  have C:=A x;have M:=A y;simp only[iR] at h;split at h
  ·rename_i u bG bA es T;have hm:=arz q T C;split at h
   ·rename_i cL v1 c9 v2 I hu;split at h
    ·rename_i eB;obtain ⟨rfl,rfl,rfl,rfl⟩:=eB;split at h
     ·rename_i eP Y;split at h
      ·rename_i a bl;exact arl B I hu q hm M bl h
      grind
     grind
    grind
   grind
  grind
 |mapUpdate t x y w=>
  have C:=A x;have M:=A y;have R:=A w;simp only[iR] at h;split at h
  ·rename_i i d Q V;rw[Q] at C;rw[V] at R;split at h
   ·rename_i u bG bA es dX hO;split at h
    ·rename_i cL v1 c9 v2 I hu;split at h
     ·rename_i eB;obtain ⟨rfl,rfl,rfl,rfl⟩:=eB;split at h
      ·rename_i eP Y;split at h
       ·rename_i a b bl aw;exact adk (.inl B) I hu q hO C.1 M R bl aw h
       grind
      grind
     grind
    grind
   grind
  grind
 |insert t x y w=>
  have C:=A x;have M:=A y;have R:=A w;simp only[iR] at h;split at h
  ·rename_i i d Q V;rw[Q] at C;rw[V] at R;split at h
   ·rename_i u bG bA es dX hO;split at h
    ·rename_i cL v1 c9 v2 I hu;split at h
     ·rename_i eB;obtain ⟨rfl,rfl,rfl,rfl⟩:=eB;split at h
      ·rename_i eP Y;split at h
       ·rename_i a b bl aw;exact adk (.inr B) I hu q hO C.1 M R bl aw h
       grind
      grind
     grind
    grind
   grind
  grind
 |call c=>exact arf cW B q A h
 |_=>grind [iR]
end
end
section
section
variable {P:bI} {D:Nat->Type} {X:e3 P D} {ap:Type} {z z':Nat->bW} {e m m':Mem} {k:Option Nat} {vs vs':List af} {fr:Nat->af} {E:List (Nat×bc D)} {O cr:List (ba D)} {o:Oper} {r:ap}
theorem gG.refl (m:Mem):gG m m ae:=⟨e4 _,λ_ _ _=>rfl⟩
def gG.push (m:Mem) (Y:bW):gG m (m.push Y) ae:=⟨mo _,λb a _=>if_neg (by omega)⟩
def gG.put (m:Mem) (c:Nat) (Y:bW):gG m (m.put c Y) (J c):=⟨e4 _,λb d a=>if_neg (λh=>a (by rw[h]))⟩
def gG.any (h:gG m m' ae) (q:Option Nat):gG m m' q:=⟨h.1,λb a _=>h.2 b a (by simp)⟩
def cH.Ke {a:bS->af} {K d:Tag->af->Mem->Prop} (h:cH P a o m K)
  (e:∀v,dD P a o v->(∃t,K t v m)->d .pure v m) (i:∀v,fH P a o m v->K (.read λm=>fH P a o m v) v m->d (.read λm=>fH P a o m v) v m)
  (f:∀Y v,jC P a o m.next Y v->K .new v (m.push Y)->d .new v (m.push Y)) (j:∀n v b,hR P (jn P n) a o m v b->K .fX v b->d .fX v b):cH P a o m d:=by
 rcases h with ⟨v,h,g⟩|⟨v,I,h,g⟩|⟨v,h,g⟩|⟨Y,v,h,g⟩|⟨n,v,b,h,g⟩
 ·exact .inl ⟨v,h,e v h ⟨_,g⟩⟩
 ·exact .inl ⟨v,h,e v h ⟨_,g⟩⟩
 ·exact .inr (.inr (.inl ⟨v,h,i v h g⟩))
 ·exact .inr (.inr (.inr (.inl ⟨Y,v,h,f Y v h g⟩)))
 ·exact .inr (.inr (.inr (.inr ⟨n,v,b,h,j n v b h g⟩)))
def ash {C:FuncId->Array af->Mem->af->Mem->Prop} {v:af} (K:∀x,rel X.G z vs (dp E x) (bk fr x)) (h:hR P C (bk fr) o m v m') {Q:List Nat} (r:sj X E o.op=J Q)
  (T:∀x R S,o.op≠ .call {callee:= .value x,args:=R,argTypes:=S}):∃q,gG m m' q/\oI vs Q q:=by
 cases h with
 |store t x y b A i L e h s az hm T g aR=>
  simp only[sj,h] at r;have d:=K x;split at r
  ·rename_i j p g;cases r;rw[g] at d;obtain ⟨Y,H,B⟩:=d;rw[s] at B;cases B;exact ⟨_,gG.put m b _, .inr ⟨j,by simp,_,H,rfl⟩⟩
  ·rename_i j u dx p g;cases r;rw[g] at d;obtain ⟨Y,f0,l,c,H,B⟩:=d;rw[s] at B;cases B;exact ⟨_,gG.put m b _, .inr ⟨j,by simp,_,H,rfl⟩⟩
  grind
 |call f I v m' h cW=>
  obtain ⟨x,R,S,first,V,h,_⟩:=h
  grind
 |vZ x y t u e i a l c h _ _ _ _ _ _=>exact ⟨ae,gG.refl _, .inl rfl⟩
 |sP x y t u e i z a l c n ew new h _ _ _ _ _ _ _ _ _ _ _ _ _ _=>exact ⟨ae,gG.push _ _, .inl rfl⟩
 |yy x y t u e i b A l c k n L new h _ _ s _ _ Z O _ qR _=>
  simp only[sj,h] at r;have d:=K x;split at r
  ·rename_i g;rw[g] at d;have d:bk fr x= .slice ae 0 0:=d
   grind
  ·rename_i j g;cases r;rw[g] at d;exact ⟨_,gG.put m b _, .inr ⟨j,by simp,_,d.1,by rw[s];rfl⟩⟩
  ·rename_i j _ _ _ g;cases r;rw[g] at d;obtain ⟨w,H,B⟩:=d;exact ⟨_,gG.put m b _, .inr ⟨j,by simp,_,H.1,by rw[<-B.blk,s];rfl⟩⟩
  ·rename_i g;cases r;rw[g] at d;obtain ⟨_,_,a,N⟩:=d
   grind
  grind
 |vY x y t u e i b A l c n L new h _ _ s _ Z O _ qR _=>
  simp only[sj,h] at r;have d:=K x;split at r
  ·rename_i g;rw[g] at d;have d:bk fr x= .slice ae 0 0:=d
   grind
  ·rename_i j g;cases r;rw[g] at d;exact ⟨_,gG.put m b _, .inr ⟨j,by simp,_,d.1,by rw[s];rfl⟩⟩
  ·rename_i j _ _ _ g;cases r;rw[g] at d;obtain ⟨w,H,B⟩:=d;exact ⟨_,gG.put m b _, .inr ⟨j,by simp,_,H.1,by rw[<-B.blk,s];rfl⟩⟩
  ·rename_i g;cases r;rw[g] at d;obtain ⟨_,_,a,N⟩:=d;rw[s] at N;cases N;have bR:n=0:=by omega
   have yT:new=[]:=yl (by grind);subst yT;refine ⟨ae,⟨e4 _,λc _ _=> ?_⟩, .inl rfl⟩
   grind [Mem.put,eY]
  grind
 |append x y t u e i z b A l n L new h _ _ _ _ _ _ s _ _ _ _ _ _=>
  simp only[sj,h] at r;have d:=K x;have M:gG m ((m.put b .dead).push (.own ((L.drop A).take (l*i.size)++new) e)) (J b):=by have:=gG.put m b .dead;exact ⟨mo _,λc M U=>by rw[show ((m.put b .dead).push _).blk c=(m.put b .dead).blk c from if_neg (by show c≠m.next;omega)];exact this.2 c M U⟩
  split at r
  ·rename_i g;rw[g] at d;have d:bk fr x= .slice ae 0 0:=d
   grind
  ·rename_i j g;cases r;rw[g] at d;exact ⟨_,M, .inr ⟨j,by simp,_,d.1,by rw[s];rfl⟩⟩
  ·rename_i j _ _ _ g;cases r;rw[g] at d;obtain ⟨w,H,B⟩:=d;exact ⟨_,M, .inr ⟨j,by simp,_,H.1,by rw[<-B.blk,s];rfl⟩⟩
  ·rename_i g;cases r;rw[g] at d;obtain ⟨_,mS,a,N⟩:=d
   grind
  grind
 |clear x t e i z b A l c L h _ _ _ _ _ _ _ _ _=>grind [sj]
 |copy x y t u e i b A l c L cs h _ _ _ _ _ _ _=>grind [sj]
 |mapUpdate hZ x jW j3 u bG bA b L eo vc F mJ ho h _ _ s _ _ _ _ _ _ _ _ _ _ _ _ _ _ _=>
  have d:=K x;have r:(match dp E x with| .c (.own j)=>J [j]|_=>ae)=J Q:=by rcases h with h|h<;>(rw[h] at r;exact r)
  split at r
  ·rename_i j g;cases r;rw[g] at d;exact ⟨_,gG.put m b _, .inr ⟨j,by simp,_,d.1,by rw[s];rfl⟩⟩
  grind
theorem ab3 {a:List (Nat×List (cv D))}:∀{l:List (bc D)},q1 (l++a.map λp=>bc.hd p.1 p.2 0)=q1 l
 |[]=>by
  induction a with
  |nil=>rfl
  |cons c a b=>exact b
 |s::l=>by cases s<;>simp only[List.cons_append,q1,ab3 (l:=l)]
def ate (M:iV X) {K:bc D->List (ba D)->Option ap} (I:b9 X.G O z e m k vs) (t:∀x,rel X.G z vs (dp E x) (bk fr x)) (qQ:lT o.op=aa) {y:List Nat} (a:sj X E o.op=J y) (h:iR X o.op E O K=J r):
  cH P (bk fr) o m λ_ v g=>dH X O z e k vs K r v g/\(tA X E O o.op=aa->g=m)/\∃q,gG m g q/\oI vs y q:=by
 have s:(∀x d l,o.op≠ .call {callee:= .value x,args:=d,argTypes:=l})->∀{p:Prop},tA X E O o.op=aa->p:=λi p F=>by
  unfold tA at F;split at F
  ·rename_i c ay;split at F
   ·rename_i f C;obtain ⟨ce,d,y⟩:=c
    grind
   grind
  grind
 have V:(∀x d l,o.op≠ .call {callee:= .value x,args:=d,argTypes:=l})->cH P (bk fr) o m λ_ v g=>dH X O z e k vs K r v g/\(tA X E O o.op=aa->g=m)/\∃q,gG m g q/\oI vs y q:=λi=>
  (Ln M rfl I t h).Ke (λv _ ⟨_,j⟩=>⟨j,λ_=>rfl,ae,gG.refl _, .inl rfl⟩) (λv _ j=>⟨j,λ_=>rfl,ae,gG.refl _, .inl rfl⟩) (λY v _ j=>⟨j,s i,ae,gG.push _ _, .inl rfl⟩) λn v g Z j=>⟨j,s i,ash t Z a i⟩
 by_cases i:∀x d l,o.op≠ .call {callee:= .value x,args:=d,argTypes:=l}
 ·grind
 ·simp only[Classical.not_forall,ne_eq,Classical.not_not] at i;obtain ⟨f,d,l,A⟩:=i;rw[A] at h a;simp only[sj] at a;have h:sa X {callee:= .value f,args:=d,argTypes:=l} E O K=J r:=h;simp only[sa] at h;split at h
  ·rename_i R b C;rw[C] at a;simp only at a;have N:=t f;rw[C] at N;obtain ⟨w,T,L⟩:=N;split at h
   ·rename_i ke S;rw[S] at a;cases a;have U:b=[]:=(KK S).2.1;subst U;have wk:w=[]:=by cases w with
     |nil=>rfl
     |cons _ _=>exact L.elim
    subst wk;refine cH.call (B2 (args:=(d.toList.map (bk fr)).toArray) (caps:=#[]) A T (by grind) rfl) ?_
    grind [tA,acG,w3]
   rename_i B;rw[B] at a;simp only at a;split at a
   ·grind
   rename_i Q;have Q:X.W R=ak:=by grind
   cases a;refine cH.call (B2 (args:=(d.toList.map (bk fr)).toArray) (caps:=w.toArray) A T (by grind) rfl) ?_;have:=(M R _ O K r (d.toList.map (bk fr)++w) I ((w3 t).append L.caps) h).mono λv g H=>(⟨H.1,H.2.1,H.2.2 Q⟩:_/\_/\_)
   grind [ab3,tA]
  ·grind
  grind
def WB {C:FuncId->Array af->Mem->af->Mem->Prop} (e:∀f a m v m',C f a m v m'->m.next<=m'.next) {b:bS->af} {v:af} (h:hR P C b o m v m'):m.next<=m'.next:=by
 cases h with
 |call f a v m' h d=>grind
 |sP=>exact mo _
 |append=>exact mo _
 |_=>exact e4 _
def aq' {C:FuncId->Array af->Mem->af->Mem->Prop} (d:∀f a m v m',C f a m v m'->m.next<=m'.next) {b:bS->af} {v:af} (h:ln P C b o m v m'):m.next<=m'.next:=by
 cases h with
 |new h=>exact mo _
 |fX h=>exact WB d h
 |_=>grind
def WW {C:FuncId->Array af->Mem->af->Mem->Prop} (d:∀f b m v a,C f b m v a->m.next<=a.next) {e:List Oper}:∀{l:List Oper} {i g:Nat->af} {m a:Mem},k6 P C e l i m g a->m.next<=a.next
 |[],_,_,_,_,⟨_,h⟩=>by grind
 |o::l,i,g,m,a,h=>by
  unfold k6 at h;split at h
  ·obtain ⟨v,n,k,j⟩:=h;exact jd (aq' d k) (WW d j)
  ·exact WW d h
def zp {C:FuncId->Array af->Mem->af->Mem->Prop} (a:∀f d m v b,C f d m v b->m.next<=b.next) {e:List Oper} {B:Array Nat}:∀{l:List Oper} {i:Nat} {A:Acc} {j g:Nat->af} {m b:Mem},hW P C e B i l A j m g b->m.next<=b.next
 |[],_,_,_,_,_,_,⟨_,h⟩=>by grind
 |o::l,i,A,j,g,m,b,h=>by
  unfold hW at h;split at h
  ·rcases h with ⟨v,_,h⟩|⟨v,_,_,h⟩|⟨Y,v,_,h⟩|⟨v,n,k,_,_,h⟩
   ·exact zp a h
   ·exact zp a h
   ·exact jd (mo _) (zp a h)
   ·exact jd (WB a k) (zp a h)
  ·exact zp a h
def aqZ {C:FuncId->Array af->Mem->af->Mem->Prop} (r:∀f i m v g,C f i m v g->m.next<=g.next):∀(n:Nat) {c:Code} {k j:Nat->af} {m g:Mem} {e:fG},lS P C n c k m e j g->m.next<=g.next:=by
 intro n;induction n with
 |zero=>intro c k j m g e h;exact h.elim
 |succ n z=>
  intro c k j m g e h;cases c with
  |skip=>obtain ⟨_,rfl,rfl⟩:=h;grind
  |label l=>obtain ⟨_,rfl,rfl⟩:=h;grind
  |exit w=>obtain ⟨_,rfl,rfl⟩:=h;grind
  |ret=>obtain ⟨_,rfl,rfl⟩:=h;grind
  |region w F d=>
   cases d with
   |false=>exact WW r h.2
   |true=>exact zp r h.2
  |seq a b=>
   rcases h with ⟨q,B,E,p,A⟩|h
   rotate_left
   ·exact h.2.next
   grind
  |cond c a b=>obtain ⟨t,_,p⟩:=h;grind
  |block w c=>obtain ⟨q,p,_⟩:=h;grind
  |scope c=>exact z h
  |loop c=>
   obtain ⟨q,B,E,p,A⟩:=h
   grind
  |rangeFunc f H x y=>exact h.elim
  |goto l=>exact h.elim
  |refuse s=>exact h.elim
def ab6:∀(n:Nat) (f:FuncId) (a:Array af) (m:Mem) (v:af) (b:Mem),jn P n f a m v b->m.next<=b.next
 |0,_,_,_,_,_,h=>h.elim
 |n+1,f,a,m,v,b,h=>by
  rcases h with ⟨_,h⟩|⟨fn,c,e,g,j,k,_,_,_,_,h,_,_,_,_,d⟩
  ·cases h<;>first|grind|grind|grind
  ·have i:=aqZ (ab6 n) n h;rcases d with rfl|⟨rfl,_⟩
   ·grind
   ·exact e4 _
def AM (m:Mem) (I:Mem->Prop) (ob:Option Nat):Prop:=∀a,(∀b,ob=J b->a.blk b=m.blk b)->I a
def ac5 {b a:Nat} {v:af} (h:m.load b a=J v) (d:m'.blk b=m.blk b):m'.load b a=J v:=by
 grind [Mem.load]
theorem KY {b:Nat} (d:m'.blk b=m.blk b):∀(n a:Nat),kd m' b a n=kd m b a n
 |0,_=>rfl
 |n+1,a=>by
  have:∀o,m'.load b o=m.load b o:=λo=>by grind [Mem.load]
  simp only[kd,this,KY d n]
def uv (z:Nat->bW) (a:List af) (ob:Option Nat):l4->Prop| .py=>False| .lost=>False| .bZ=>∀b,ob=J b->(z b).iD| .ob j=>∀b,ob=J b->∃u,a[j]? =J u/\dQ u=J b
def vW (z:Nat->bW) (a:List af) (b:Nat):l4->Prop| .py=>False| .lost=>False| .bZ=>(z b).iD| .ob j=>∃u,a[j]? =J u/\dQ u=J b
def vW.at {b:Nat} {s:l4} (h:vW z vs b s):uv z vs (J b) s:=by
 cases s with
 |py=>exact h
 |lost=>exact h
 |bZ=>intro c a;cases a;exact h
 |ob j=>intro c a;cases a;exact h
def aue {s:l4} {v:af} (aN:b9 X.G O z e m k vs) (bp:∀x,rel X.G z vs (dp E x) (bk fr x)) (bf:q9 E o.op=J s) (h:fH P (bk fr) o m v):
  ∃ob,AM m (λm=>fH P (bk fr) o m v) ob/\uv z vs ob s:=by
 have amR:∀{t:Nat} {c:cv D} {cs:List (cv D)} {off b VX:Nat},rel X.G z vs (.hd t (c::cs) off) (.pointer (J ⟨b,VX,ae⟩))->(z b).iD:=by
  rintro t c cs off b VX ⟨dJ,o',ds,h1,ai,aT⟩;cases h1;cases ds with
  |nil=>exact aT.elim
  |cons d ds=>exact w5 (ai 0 d rfl)
 have ptr:∀{x:bS} {b off:Nat},bk fr x= .pointer (J ⟨b,off,ae⟩)->(match dp E x with| .wb _ _=>J l4.bZ| .hd _ (_::_) _=>J l4.bZ| .box j _=>J (.ob j)| .el j _ _ _=>J (.ob j)|_=>ae)=J s->vW z vs b s:=by
  intro x b off an bf;have aV:=bp x;split at bf
  ·rename_i h1;rw[h1,an] at aV;obtain ⟨_,_,g2⟩:=aV
   grind
  ·rename_i h1;cases bf;rw[h1,an] at aV;exact amR aV
  ·rename_i h1;cases bf;rw[h1,an] at aV;obtain ⟨dJ,g1,g2⟩:=aV;cases g2;exact ⟨_,g1,rfl⟩
  ·rename_i h1;cases bf;rw[h1,an] at aV;obtain ⟨dJ,f0,l,c,g1,g2⟩:=aV;cases g2;exact ⟨_,g1,rfl⟩
  grind
 have bh:∀{t:Nat} {xs:List (D t)} {b off l c:Nat},fA (X.G.T t) z xs (.slice (J ⟨b,off,ae⟩) l c)->(z b).iD:=by
  rintro t xs b off l c (⟨h1,_⟩|⟨dJ,o',c3,h1,ai,_⟩)
  ·grind
  grind
 cases h with
 |load t x b off d v h an aJ bg aD=>simp only[q9,h] at bf;exact ⟨J b,λm' hm=> .load t x b off d v h an aJ bg (ac5 aD (hm b rfl)),(ptr an bf).at⟩
 |wc t x g n jx h an bB aJ bs=>
  have aV:=bp x;simp only[q9,h] at bf;have wj:s= .bZ:=by
   split at bf
   ·grind
   ·grind
   ·rename_i g1;rw[g1,an] at aV;obtain ⟨_,_,g2⟩:=aV
    grind
   ·rename_i g1;rw[g1,an] at aV;obtain ⟨_,_,_,_,_,g2⟩:=aV
    grind
   grind
  subst wj;exact ⟨ae,λm' _=> .wc t x g n jx h an bB aJ bs,λb aw=>by grind⟩
 |wI t x b off d i cs h an aJ bg az aD=>simp only[q9,h] at bf;exact ⟨J b,λm' hm=> .wI t x b off d i cs h an aJ bg az (by grind [KY]),(ptr an bf).at⟩
 |slice t x cf az cz i L b off l n dG h aJ fm an hm eW eN h1 ai aT=>
  simp only[q9,h] at bf;refine ⟨J b,λm' n4=> .slice t x cf az cz i L b off l n dG h aJ fm an (by grind) eW eN h1 ai aT,vW.at ?_⟩;have aV:=bp x;split at bf
  ·rename_i g;rw[g,an] at aV;cases aV
  ·rename_i g;cases bf;rw[g,an] at aV;exact bh aV
  ·rename_i g;cases bf;rw[g,an] at aV;exact ⟨_,aV.1,rfl⟩
  grind
 |vx t x cf az cz i L b off l c k n dG h aJ fm an hk hm eW eN h1 ai aT=>
  simp only[q9,h] at bf;refine ⟨J b,λm' n4=> .vx t x cf az cz i L b off l c k n dG h aJ fm an hk (by grind) eW eN h1 ai aT,vW.at ?_⟩;have aV:=bp x;split at bf
  ·rename_i g;rw[g,an] at aV;cases aV
  ·rename_i g;cases bf;rw[g,an] at aV;exact bh aV
  ·rename_i g;cases bf;rw[g,an] at aV;exact ⟨_,aV.1,rfl⟩
  grind
 |str jx t x cz b off l c cs h oa he aJ an aD=>
  simp only[q9,h] at bf;refine ⟨J b,λm' n4=> .str jx t x cz b off l c cs h oa he aJ an (by grind [KY]),vW.at ?_⟩;have aV:=bp x;split at bf
  ·rename_i g;cases bf;rw[g,an] at aV;exact bh aV
  ·rename_i g;cases bf;rw[g,an] at aV;exact ⟨_,aV.1,rfl⟩
  ·rename_i g;rw[g,an] at aV;cases aV
  ·rename_i g;rw[g,an] at aV;cases aV
  grind
 |zQ jx t x cz l c h oa he aJ an=>
  simp only[q9,h] at bf;refine ⟨ae,λm' n4=> .zQ jx t x cz l c h oa he aJ an, ?_⟩;have aV:=bp x;split at bf
  ·cases bf;intro b aw;grind
  ·cases bf;intro b aw;grind
  ·rename_i g;rw[g,an] at aV;cases aV
  ·rename_i g;rw[g,an] at aV;cases aV
  grind
 |lookup hZ x dx ok u bG bA b L F i z' v0 t ho h jk hu an nC tf mj bF hk bs az bx dw aR=>
  simp only[q9,h] at bf;rcases an with ⟨an,hm,qN⟩|⟨an,qN⟩
  ·refine ⟨J b,λm' n4=> .lookup hZ x dx ok u bG bA b L F i z' v0 t ho h jk hu (.inl ⟨an,by grind,qN⟩) nC tf mj bF hk bs az bx dw aR,vW.at ?_⟩;have aV:=bp x;split at bf
   ·rename_i g;cases bf;rw[g,an] at aV;rcases aV with ⟨h1,_⟩|⟨r,h1,ai⟩
    ·grind
    ·cases h1;show (z _).iD;rw[ai];exact True.intro
   ·rename_i g;cases bf;rw[g,an] at aV;exact ⟨_,aV.1,rfl⟩
   grind
  ·refine ⟨ae,λm' n4=> .lookup hZ x dx ok u bG bA b L F i z' v0 t ho h jk hu (.inr ⟨an,qN⟩) nC tf mj bF hk bs az bx dw aR, ?_⟩;split at bf
   ·cases bf;intro b aw;grind
   ·cases bf;intro b aw;grind
   grind
def agz (z:Nat->bW) (m:Mem) (a:List af) (I:Mem->Prop) (s:l4):Prop:=s= .lost\/∃ob,AM m I ob/\(∀b,ob=J b->b<m.next)/\uv z a ob s
structure iI (z:Nat->bW) (m:Mem) (vs:List af) (A:Acc) (L:gk):Prop where
 rd:∀x∈A.reads,∃y∈L.rd,y.1=x.1/\agz z m vs x.2 y.2
 j7:∀x∈A.iC,∃y∈L.j7,y.1=x.1/\(y.2.1=aa->m=x.2)/\∀j∈y.2.2,∃v,vs[j]? =J v/\∀b,dQ v=J b->b<m.next/\m.blk b=x.2.blk b
 jZ:∀x∈A.news,∃y∈L.jZ,y.1=x.1/\x.2<m.next/\∃v,vs[y.2]? =J v/\dQ v=J x.2
def AM.step {I:Mem->Prop} {ob q:Option Nat} (h:AM m I ob) (d:∀b,ob=J b->b<m.next) (e:gG m m' q) (f:∀b,ob=J b->q≠J b):AM m' I ob:=λi g=>h i λb a=>by
 rw[g b a,e.2 b (d b a) (f b a)]
def uv.mono {ob:Option Nat} {s:l4} (h:uv z vs ob s) (d:fl z z') (e:∀(i:Nat) (u:af),vs[i]? =J u->vs'[i]? =J u):uv z' vs' ob s:=by
 cases s with
 |py=>exact h
 |lost=>exact h
 |bZ=>intro b a;rw[d b (h b a)];exact h b a
 |ob j=>intro b a;obtain ⟨u,f,g⟩:=h b a;grind
def iI.step {A:Acc} {L:gk} {q:Option Nat} (h:iI z m vs A L) (K:fl z z') (s:∀(i:Nat) (u:af),vs[i]? =J u->vs'[i]? =J u) (k:gG m m' q)
  (L':gk) (E:∀y∈L.rd,∃a∈L'.rd,a.1=y.1/\(a.2= .lost\/a.2=y.2/\∀ob,uv z vs ob y.2->∀b,ob=J b->q≠J b))
  (O:∀y∈L.j7,∃a∈L'.j7,a.1=y.1/\(a.2.1=aa->y.2.1=aa/\m'=m)/\∀j∈a.2.2,j∈y.2.2/\∀v b,vs[j]? =J v->dQ v=J b->q≠J b) (F:∀y∈L.jZ,y∈L'.jZ):iI z' m' vs' A L' where
 rd:=λx g=>by
  obtain ⟨y,f,w,e⟩:=h.rd x g;obtain ⟨a,B,M,d⟩:=E y f;refine ⟨a,B,by grind, ?_⟩;rcases d with d|⟨d,t⟩
  ·exact .inl d
  ·rcases e with e|⟨ob,r,p,l⟩
   ·exact .inl (by grind)
   ·exact .inr ⟨ob,r.step p k (t ob l),λb n=>hS (p b n) k.1,by rw[d];exact l.mono K s⟩
 j7:=λx g=>by obtain ⟨y,f,w,Q,e⟩:=h.j7 x g;obtain ⟨a,B,M,R,d⟩:=O y f;refine ⟨a,B,by grind,λP=>by grind,λj H=> ?_⟩;obtain ⟨t,N⟩:=d j H;obtain ⟨v,r,p⟩:=e j t;refine ⟨v,s _ _ r,λb n=> ?_⟩;obtain ⟨l,S⟩:=p b n;exact ⟨hS l k.1,by rw[k.2 b l (N v b r n)];grind⟩
 jZ:=λx g=>by obtain ⟨y,f,w,e,v,C,I⟩:=h.jZ x g;exact ⟨y,F y f,w,hS e k.1,v,s _ _ C,I⟩
def iI.quiet {A:Acc} {L:gk} (h:iI z m vs A L) (e:fl z z') (b:∀(i:Nat) (u:af),vs[i]? =J u->vs'[i]? =J u) (f:m'=m):iI z' m' vs' A L:=
 h.step (q:=ae) e b (by grind [gG.refl]) L (λy a=>⟨y,a,rfl, .inr ⟨rfl,λ_ _ _ _=>by simp⟩⟩) (λy a=>⟨y,a,rfl,λh=>⟨h,f⟩,λj d=>⟨d,λ_ _ _ _=>by simp⟩⟩) λy a=>a
theorem adP {j:Nat} (p:b9 X.G O z e m k vs) (h:Lc O j=aa):∃v,vs[j]? =J v/\∀b,dQ v=J b->b<m.next/\(z b≠ .dead\/∃o,O[j]? =J o/\o.live=aa):=by
 unfold Lc at h;have F:∀{o:ba D},O[j]? =J o->o≠ .dead->(∀t w,o≠ .box t [] aa w)->∃v,vs[j]? =J v/\∀b,dQ v=J b->b<m.next/\(z b≠ .dead\/∃o,O[j]? =J o/\o.live=aa):=by
  intro o n I L;obtain ⟨v,x,i⟩:=p.at n;refine ⟨v,x,λb f=> ?_⟩;cases a:o.live with
  |true=>exact ⟨(i.lt a b f).1, .inr ⟨o,n,a⟩⟩
  |false=>
   have q:z b≠ .dead:=by
    cases o with
    |dead=>grind
    |bh t H bZ w=>
     cases bZ with
     |false=>cases a
     |true=>
      rcases (i:fA (X.G.T t) z H v) with ⟨rfl,_⟩|⟨C,N,K,rfl,g,_⟩
      ·cases f
      ·cases f;exact g.ne
    |box t l bZ w=>
     cases bZ with
     |false=>cases a
     |true=>
      obtain ⟨C,s,rfl,g,y⟩:=i;cases f;cases l with
      |nil=>grind
      |cons c l=>
       cases s with
       |nil=>exact y.elim
       |cons d s=>
        have:=g 0 d rfl
        grind [nH]
    |recv t l w=>cases a
    |arr _ _ _ _ _=>cases a
    |nest _ _ _ _ _ _=>cases a
    |map t B A E bZ w=>
     cases bZ with
     |false=>cases a
     |true=>
      rcases (i:nn (X.G.M t B A) z E v) with ⟨rfl,_⟩|⟨r,rfl,g⟩
      ·cases f
      ·cases f
       grind
   refine ⟨?_, .inl q⟩;exact (p.aS.bZ b q).2
 split at h
 ·grind
 ·grind
 ·grind
 grind
theorem asl {l:List Nat} {j:Nat}:l.any (fi j)=aa↔j∈l:=by
 simp_all
def adz {j:Nat} (h:tB O j=aa):∃o,O[j]? =J o/\o.live=aa:=by
 grind [tB]
theorem KH {d:List Nat} {q:Option Nat} (a:b9 X.G O z e m k vs) (y:d.all (tB O)=aa) (C:oI vs d q) {j:Nat} (h:vo O d j=aa) {v:af} {b:Nat} (f:vs[j]? =J v) (l:dQ v=J b):q≠J b:=by
 simp only[vo,fx,Aq] at h;rcases C with rfl|⟨i,A,w,n,rfl⟩
 ·simp
 ·intro t;have F:i≠j:=by
   grind [asl]
  obtain ⟨o,g,r⟩:=adz (iA.1 y i A);have I:=((a.obj i o w g n).lt r b t).2.1;obtain ⟨K,s,E⟩:=adP a h.1;rw[f] at s;cases s;rcases (E b l).2 with H|⟨p,B,x⟩
  ·grind
  ·exact a.fD i j o p w v F g B r x n f b t l
def ar0 {a:List Nat} {q:Option Nat} (f:b9 X.G O z e m k vs) (g:a.all (tB O)=aa) (j:oI vs a q) {b:Nat} (l:z b≠ .dead):q≠J b:=by
 rcases j with rfl|⟨i,h,w,n,rfl⟩
 ·simp
 ·intro r;obtain ⟨o,d,p⟩:=adz (iA.1 g i h);exact l ((f.obj i o w d n).lt p b r).2.1
theorem acK {d:List Nat} {q:Option Nat} (f:b9 X.G O z e m k vs) (g:d.all (tB O)=aa) (l:oI vs d q) {s:l4} (h:G5 O d s=aa) {ob:Option Nat} (a:uv z vs ob s):∀b,ob=J b->q≠J b:=by
 intro b i;cases s with
 |py=>exact a.elim
 |lost=>exact a.elim
 |bZ=>exact ar0 f g l (a b i).ne
 |ob j=>obtain ⟨u,n,p⟩:=a b i;exact KH f g l h n p
def ach:∀{l:List (ba D)} {i j:Nat},j∈vf O i l->∃n o,j=i+n/\l[n]? =J o/\o.live=aa
 |[],i,j,h=>by grind [vf]
 |o::l,i,j,h=>by
  simp only[vf] at h;have a:j∈vf O (i+1) l->∃n p,j=i+n/\(o::l)[n]? =J p/\p.live=aa:=λh=>by obtain ⟨n,p,f,d,b⟩:=ach h;exact ⟨n+1,p,by omega,d,b⟩
  split at h
  ·rename_i e;rcases ha.1 h with rfl|h
   ·grind
   grind
  grind
def iI.fX {A:Acc} {L:gk} {q:Option Nat} {B:Array Nat} {i:Nat} {ts:List Nat} {ra:Bool} (h:iI z m vs A L) (s:b9 X.G O z e m k vs) (Y:fl z z') (I:∀(i:Nat) (u:af),vs[i]? =J u->vs'[i]? =J u) (p:gG m m' q) (F:oI vs ts q) (yW:ra=aa->m'=m)
  (Q:XF B i O L ts=aa):u7 B i A m .fX m'/\iI z' m' vs' (qL A i m .fX) (A0 i O ts ra L):=by
 simp only[XF,fx,iA,Ar] at Q;obtain ⟨f,S,R⟩:=Q;have f:ts.all (tB O)=aa:=iA.2 f;refine ⟨⟨λx d E=> ?_,λx d E=> ?_⟩, ?_⟩
 ·obtain ⟨y,a,H,g⟩:=h.rd x d;have:=S y a;rw[H,E] at this;have r:G5 O ts y.2=aa:=by grind
  rcases g with g|⟨ob,cL,Z,fo⟩
  ·rw[g] at r;cases r
  ·exact cL m' λb l=>p.2 b (Z b l) (acK s f F r fo b l)
 ·obtain ⟨y,a,H,g,v,T,V⟩:=h.jZ x d;have:=R y a;rw[H,E] at this;have r:vo O ts y.2=aa:=by grind
  exact p.2 _ g (KH s f F r T V)
 ·have t:=h.step (L':=A0 i O ts ra L) Y I p (λy a=> ?_) (λy a=> ?_) λy a=>a
  ·refine ⟨t.rd,λx d=> ?_,t.jZ⟩;rcases ha.1 d with rfl|d
   ·refine ⟨(i,aa&&ra,(vf O 0 O).filter (vo O ts)),by simp[A0],rfl,λU=>yW (by grind),λj K=> ?_⟩;obtain ⟨C,w⟩:=List.mem_filter.1 K;obtain ⟨n,o,N,g2,g3⟩:=ach C;rw[lH] at N;subst N;obtain ⟨v,P,g5⟩:=s.at g2;refine ⟨v,I _ _ P,λb l=> ?_⟩;have M:=(g5.lt g3 b l).1;exact ⟨hS M p.1,p.2 b M (KH s f F w P l)⟩
   ·exact t.j7 x d
  ·refine ⟨if G5 O ts y.2=aa then y else (y.1, .lost),l2.2 ⟨y,a,rfl⟩,by grind, ?_⟩
   grind [acK]
  ·refine ⟨(y.1,y.2.1&&ra,y.2.2.filter (vo O ts)),l2.2 ⟨y,kn _ a,rfl⟩,rfl,λU=>by grind,λj K=> ?_⟩
   grind [KH]
def iI.A1 {A:Acc} {L:gk} {B:Array Nat} {i:Nat} (h:iI z m vs A L) (g:∀(i:Nat) (u:af),vs[i]? =J u->vs'[i]? =J u) (n:m.next<=m'.next)
  (r:Xo B i L=aa):u7 B i A m .fX m'/\iI z' m' vs' (qL A i m .fX) (XG i L):=by
 simp only[Xo,fx,iA] at r;refine ⟨⟨λx a p=> ?_,λx a p=> ?_⟩,⟨λx a=> ?_,λx a=> ?_,λx a=> ?_⟩⟩
 ·obtain ⟨y,b,d,_⟩:=h.rd x a
  grind
 ·obtain ⟨y,b,d,_⟩:=h.jZ x a
  grind
 ·obtain ⟨y,b,d,_⟩:=h.rd x a;exact ⟨(y.1, .lost),l2.2 ⟨y,b,rfl⟩,d, .inl rfl⟩
 ·rcases ha.1 a with rfl|a
  ·exact ⟨(i,ak,[]),oG,rfl,λf=>Yy f,λj e=>absurd e (by simp)⟩
  ·obtain ⟨y,b,d,_⟩:=h.j7 x a;exact ⟨(y.1,ak,[]),kn _ (l2.2 ⟨y,b,rfl⟩),d,λf=>Yy f,λj e=>absurd e (by simp)⟩
 ·obtain ⟨y,b,d,l,v,k,q⟩:=h.jZ x a;exact ⟨y,b,d,hS l n,v,g _ _ k,q⟩
def iI.afq {A:Acc} {L:gk} (h:iI z m vs A L) (i:Nat) (s:l4) (n:Option Nat):iI z m vs A (pD i s n L) where
 rd:=λx b=>by
  obtain ⟨y,d,a,e⟩:=h.rd x b;refine ⟨y, ?_,a,e⟩;unfold pD
  grind
 j7:=λx b=>by
  obtain ⟨y,d,a,e,f⟩:=h.j7 x b;cases n with
  |none=>exact ⟨y,d,a,e,f⟩
  |some j=>exact ⟨(y.1,ak,y.2.2),l2.2 ⟨y,d,rfl⟩,a,(by simp),f⟩
 jZ:=λx b=>by
  obtain ⟨y,d,a⟩:=h.jZ x b;refine ⟨y, ?_,a⟩;unfold pD
  grind
structure gC (fK:Nat) (z0 z:Nat->bW) (fr:Nat->af) (E:List (Nat×bc D)) (m:Mem) (A:Acc) (L:gk):Prop where
 le:fl z0 z
 n:fK<=m.next
 lt:∀b,(z0 b).iD->b<fK
 lK:∀x∈A.iC,∀b,(z0 b).iD->m.blk b=x.2.blk b
 ew:∀d,(L.pg.any (fi d))=ak->y4 (eI E d)=aa->∀b,dQ (fr d)=J b->(z0 b).iD
variable {z0:Nat->bW}
def gC.at {e:Nat} {A:Acc} {L:gk} (h:gC e z0 z fr E m A L) {x:bS} (a:tr E L x=aa):∀b,dQ (bk fr x)=J b->(z0 b).iD:=by
 unfold tr at a;split at a
 ·rename_i d;simp only[fx,Aq] at a;exact h.ew d a.1 a.2
 grind
def gC.read {fK:Nat} {A:Acc} {L:gk} {B:Array Nat} {i:Nat} {v:af} (h:gC fK z0 z fr E m A L) (f:abf E L o.op=aa) (X:fH P (bk fr) o m v):∀x∈A.iC,gD B i x.1=ak->fH P (bk fr) o x.2 v:=by
 intro x Y bl;have Z:=h.lK x Y;cases X with
 |load t q b a d v r e j H C=>rw[r] at f;have:=h.at f b (by rw[e];rfl);exact .load t q b a d v r e j H (ac5 C (Z b this).symm)
 |wc t q g n S r e bB j T=>exact .wc t q g n S r e bB j T
 |wI t q b a d i U r e j H s C=>rw[r] at f;have:=h.at f b (by rw[e];rfl);exact .wI t q b a d i U r e j H s (by grind [KY])
 |slice t q I s w i y b a l n r p j N e hm M K O Q R=>rw[p] at f;have:=h.at f b (by rw[e];rfl);exact .slice t q I s w i y b a l n r p j N e (by grind) M K O Q R
 |vx t q I s w i y b a l c k n r p j N e V hm M K O Q R=>rw[p] at f;have:=h.at f b (by rw[e];rfl);exact .vx t q I s w i y b a l c k n r p j N e V (by grind) M K O Q R
 |str S t q w b a l c U p oa he j e C=>rw[p] at f;cases f
 |zQ S t q w l c p oa he j e=>rw[p] at f;cases f
 |lookup hZ q dx ok u bG bA b y F i z' v0 t ho p jk hu e nC tf mj bF V T s bx dw hB=>rw[p] at f;cases f
def gC.jP {a:Nat} {A:Acc} {L:gk} (h:gC a z0 z fr E m A L) (b:fl z z'):gC a z0 z' fr E m A L:=⟨h.le.trans b,h.n,h.lt,h.lK,h.ew⟩
def arq {L:gk} {v:af} {fK:Nat} {A:Acc} (h:gC fK z0 z fr E m A L) (p:rK E L o.op=aa) (bb:dD P (bk fr) o v):∀b,dQ v=J b->(z0 b).iD:=by
 have lK:∀{w:af},flat w=aa->∀b,dQ w=J b->(z0 b).iD:=by
  intro w N b B;cases w with
  |pointer a=>cases a with
   |none=>cases B
   |some a=>cases N
  |slice a l c=>cases a with
   |none=>cases B
   |some a=>cases N
  |map r=>cases r with
   |none=>cases B
   |some r=>cases N
  |_=>cases B
 cases bb with
 |flat v T s Z aV=>grind
 |move x j=>
  rcases j with j|j
  ·rw[j] at p;exact h.at p
  ·rw[j] at p;exact h.at p
 |nilCheck x a j s=>rw[j] at p;intro b B;exact h.at p b (by grind)
 |fieldAddr t x i S f k b q j K bF hk T s=>rw[j] at p;intro c F;exact h.at p c (by rw[s];exact F)
 |indexAddr t x y e i b q l c k n j K C s Q R V=>rw[j] at p;intro c F;exact h.at p c (by rw[s];exact F)
 |JC t x y bX i l g kk n M K C T s Q R V aR=>intro b B;cases B
 |J4 t x y e i b q l k n j K C s Q R V=>rw[j] at p;intro c F;exact h.at p c (by rw[s];exact F)
 |pick c a b t j F=>rw[j] at p;cases p
 |extract x i us v j s Z=>rw[j] at p;cases p
 |field t x i S f d I v j _ _ _ _ _=>rw[j] at p;cases p
 |J6 t x y e d i l k n I j=>rw[j] at p;cases p
 |J5 t x y e d i l k n I v j=>rw[j] at p;cases p
 |build t cQ S i z I j _ _ _ _ _ _=>rw[j] at p;cases p
 |Jg t cQ n e i k z I j _ _ _ _ _ _=>rw[j] at p;cases p
 |slice t x U C e i b q l c n M j _ _ _ _ _ _ _ _ _=>rw[j] at p;cases p
 |nc t x U C e i j _ _ _ _ _=>rw[j] at p;cases p
 |slice3 t x X C e i b q l c M k' Y j _ _ _ _ _ _ _=>rw[j] at p;cases p
 |P5 t x U C X e i b q l c n M k' Kb J9 Y j _ _ _ _ _ _ _ _ _=>rw[j] at p;cases p
 |P4 t x X C e i Y j _ _ _ _ _=>rw[j] at p;cases p
 |len x t e a l c j _ _=>rw[j] at p;cases p
 |Jj x t e j _ _=>rw[j] at p;cases p
 |A2 O x y t u e a l c j _ _ _=>rw[j] at p;cases O<;>cases p
 |func fn first H j _=>rw[j] at p;cases p
def gC.put {j:Nat} {A:Acc} {L:gk} {v:af} {i:bc D} (h:gC j z0 z fr E m A L) (p:rK E L o.op=aa->∀b,dQ v=J b->(z0 b).iD):gC j z0 z (set fr o.dst v) (na E o.dst i) m A (sx E o L):=by
 cases r:o.dst with
 |none=>
  have e:sx E o L=L:=by grind [sx]
  rw[e];exact ⟨h.le,h.n,h.lt,h.lK,h.ew⟩
 |some d=>
  refine ⟨h.le,h.n,h.lt,h.lK,λc q g b a=> ?_⟩;by_cases f:c=d
  ·subst f;simp only[set,if_true] at a;by_cases l:rK E L o.op=aa
   ·grind
   simp_all [sx]
  ·simp only[set,if_neg f] at a;have k:eI (na E (J d) i) c=eI E c:=by
    grind [na,eI,kA]
   rw[k] at g;refine h.ew c ?_ g b a
   grind [sx,kA]
def gC.log {b:Nat} {A d:Acc} {L a:gk} (h:gC b z0 z fr E m A L) (f:d.iC=A.iC) (e:a.pg=L.pg):gC b z0 z fr E m d a:=⟨h.le,h.n,h.lt,by rw[f];exact h.lK,by rw[e];exact h.ew⟩
theorem gC.grow {e:Nat} {A:Acc} {L:gk} (h:gC e z0 z fr E m A L) (d:gG m m' ae):gC e z0 z fr E m' A L:=⟨h.le,jd h.n d.1,h.lt,λx f b a=>by
 rw[d.2 b (hS (h.lt b a) h.n) (by simp)];exact h.lK x f b a,h.ew⟩
def gC.fX {g i:Nat} {A:Acc} {L:gk} {q:Option Nat} {ts:List Nat} {ra:Bool} (h:gC g z0 z fr E m A L) (f:gG m m' q) (j:∀b,(z0 b).iD->q≠J b):gC g z0 z fr E m' (qL A i m .fX) (A0 i O ts ra L):=by
 have e:∀b,(z0 b).iD->m'.blk b=m.blk b:=λb a=>f.2 b (hS (h.lt b a) h.n) (λk=>j b a k);refine ⟨h.le,jd h.n f.1,h.lt,λx d b a=> ?_,h.ew⟩;rcases ha.1 d with rfl|d
 ·grind
 ·rw[e b a];exact h.lK x d b a
def gC.A1 {l i:Nat} {A:Acc} {L:gk} {r:Option Nat} (h:gC l z0 z fr E m A L) (q:m.next<=m'.next) (j:fl z z') (s:dL z e m k) (t:dL z' e m' r):gC l z0 z' fr E m' (qL A i m .fX) (XG i L):=by
 have f:∀b,(z0 b).iD->m'.blk b=m.blk b:=λb a=>by have p:=h.le b a;have g:=j b (by grind);rw[(s.bZ b (by rw[p];exact a.ne)).1,(t.bZ b (by rw[g,p];exact a.ne)).1,g]
 refine ⟨h.le.trans j,jd h.n q,h.lt,λx d b a=> ?_,h.ew⟩;rcases ha.1 d with rfl|d
 ·grind
 ·rw[f b a];exact h.lK x d b a
def asa {f:List Nat} {q:Option Nat} (h:b9 X.G O z e m k vs) (j:f.all (tB O)=aa) (d:oI vs f q) (r:fl z0 z):∀b,(z0 b).iD->q≠J b:=by
 intro b a t;rcases d with d|⟨i,l,v,g,s⟩
 ·grind
 ·have:=iA.1 j i l;unfold tB at this;split at this
  ·rename_i p n;have:=((h.obj i p v n g).lt this b (by grind)).2.1;rw[r b a] at this;rw[this] at a;exact a.elim
  grind
def gC.start {E:List (Nat×bc D)} (aN:b9 X.G O z e m k vs) (bp:∀d,rel X.G z vs (eI E d) (fr d)):gC m.next z z fr E m ⟨[],[],[]⟩ ⟨[],[],[],[],[]⟩:=by
 refine ⟨fl.refl z,e4 _,λb aw=>(aN.aS.bZ b aw.ne).2,by simp,λd _ bF b aw=> ?_⟩;have aV:=bp d;unfold y4 at bF;split at bF
 ·rename_i bX xs bf;rw[bf] at aV;rcases (aV:fA (X.G.T bX) z xs (fr d)) with ⟨h1,_⟩|⟨dJ,o',c3,h1,ai,_⟩
  ·rw[h1] at aw;cases aw
  ·rw[h1] at aw;cases aw
   grind
 ·rename_i t c cs off bf;rw[bf] at aV;obtain ⟨b,o',ds,h1,ai,aT⟩:=aV;rw[h1] at aw;cases aw;cases ds with
  |nil=>exact aT.elim
  |cons d ds=>
   have br:=ai 0 d rfl
   grind [w5]
 grind
def w9 {A:Acc} {L:gk} {E:List (Nat×bc D)} (h:iI z m vs A L):iI z m vs A (sx E o L):=by
 unfold sx;split
 ·grind
 ·split<;>exact ⟨h.rd,h.j7,h.jZ⟩
def iI.read {A:Acc} {L:gk} {B:Array Nat} {i:Nat} {s:l4} {v:af} {n:Option Nat} (h:iI z m vs A L) (aN:b9 X.G O z e m k vs) (bp:∀x,rel X.G z vs (dp E x) (bk fr x)) (bx:fl z z') (aD:∀(i:Nat) (u:af),vs[i]? =J u->vs'[i]? =J u)
  {fK:Nat} (bf:q9 E o.op=J s) (hk:(zO B i O L s||Lm B i E L s o.op)=aa) (aV:fH P (bk fr) o m v) (bs:gC (D:=D) fK z0 z fr E m A L):
  u7 B i A m (.read λm=>fH P (bk fr) o m v) m/\iI z' m vs' (qL A i m (.read λm=>fH P (bk fr) o m v)) (pD i s n L):=by
 obtain ⟨ob,h1,ai⟩:=aue aN bp bf aV;rw[Ar] at hk;have lt:∀b,ob=J b->b<m.next:=by
  intro b aw;cases s with
  |py=>exact ai.elim
  |lost=>exact ai.elim
  |bZ=>have bx:=ai b aw;exact (aN.aS.bZ b bx.ne).2
  |ob j=>
   have hk:zO B i O L (.ob j)=aa:=hk.resolve_right (by simp[Lm,aaj]);simp only[zO,fx] at hk;obtain ⟨u,g1,g2⟩:=ai b aw
   grind [adP]
 refine ⟨λx an bl=> ?_, ?_⟩
 ·rcases hk with hk|hk
  case inr=>
   simp only[Lm,fx] at hk;exact bs.read (B:=B) hk.2 aV x an bl
  obtain ⟨y,aZ,cL,lu,c9⟩:=h.j7 x an;refine h1 x.2 λb aw=> ?_;cases s with
  |py=>exact ai.elim
  |lost=>exact ai.elim
  |bZ=>
   grind [zO]
  |ob j=>
   simp only[zO,fx,iA,Ar] at hk;have:=hk.2 y aZ;rw[cL,bl] at this;have bn:y.2.1=aa\/j∈y.2.2:=by
    rcases this with h|h|h
    ·grind
    ·grind
    simp_all
   rcases bn with bn|bn
   ·grind
   obtain ⟨cc,g1,g2⟩:=c9 j bn;obtain ⟨u,g3,g4⟩:=ai b aw
   grind
 ·have aS:=((h.quiet (fl.refl z) (λ_ _ h=>h) rfl).afq i s n).quiet (m':=m) bx aD rfl;refine ⟨λx an=> ?_,aS.j7,aS.jZ⟩;rcases ha.1 an with rfl|an
  ·refine ⟨(i,s), ?_,rfl, .inr ⟨ob,h1,lt,ai.mono bx aD⟩⟩;unfold pD;cases s<;>first|exact ai.elim|grind
  ·exact aS.rd x an
def ato {Y:bW} {v:af} {g:bc D} {n:Option Nat} {N:Nat} (h:jC P (bk fr) o N Y v) (a:rel X.G z vs g v) (e:XZ g=J n):∃j,n=J j/\∃u,vs[j]? =J u/\dQ u=J N:=by
 have d:dQ v=J N:=by cases h<;>rfl
 unfold XZ at e;split at e
 ·cases e;exact ⟨_,rfl,v,a.1,d⟩
 ·cases e;obtain ⟨b,f,rfl⟩:=a;exact ⟨_,rfl,_,f,d⟩
 ·cases e;obtain ⟨b,l,f,rfl⟩:=a;exact ⟨_,rfl,_,f,d⟩
 ·have a:v= .int _ _:=a;rw[a] at d;cases d
 ·have a:v=aF.str _:=a;rw[a] at d;cases d
 grind
def iI.new {A:Acc} {L:gk} {i:Nat} {s:l4} {j:Nat} {Y:bW} (h:iI z m vs A L) (g:fl z z') (f:∀(i:Nat) (u:af),vs[i]? =J u->vs'[i]? =J u) (e:∃u,vs'[j]? =J u/\dQ u=J m.next):
  iI z' (m.push Y) vs' (qL A i m .new) (pD i s (J j) L):=by
 have b:=h.step (m':=m.push Y) (q:=ae) g f (gG.push m Y) (pD i s (J j) L) (λy a=>⟨y,by unfold pD;grind,rfl, .inr ⟨rfl,λ_ _ _ _=>by simp⟩⟩)
  (λy a=>⟨(y.1,ak,y.2.2),l2.2 ⟨y,a,rfl⟩,rfl,by simp,λj e=>⟨e,λ_ _ _ _=>by simp⟩⟩) λy a=>kn _ a
 refine ⟨b.rd,b.j7,λx d=> ?_⟩;rcases ha.1 d with rfl|d
 ·obtain ⟨u,k,l⟩:=e;exact ⟨(i,j),by simp[pD],rfl,Nat.lt_succ_self _,u,k,l⟩
 ·exact b.jZ x d
end
end
section
section
variable {P:bI} {D:Nat->Type} {X:e3 P D} {ap:Type} {z z':Nat->bW} {e m m':Mem} {k:Option Nat} {vs:List af} {fr:Nat->af} {E:List (Nat×bc D)} {O:List (ba D)} {o:Oper} {r:ap}
def fj (X:e3 P D) (z:Nat->bW) (b:List af) (E:List (Nat×bc D)) (a:Nat->af):Prop:=∀d,rel X.G z b (eI E d) (a d)
def fj.mono (h:fj X z vs E fr) {a:List af} (e:fl z z') (b:∀(i:Nat) (u:af),vs[i]? =J u->a[i]? =J u):fj X z' a E fr:=λd=>rel.mono (h d) e b
theorem fj.cons (h:fj X z vs E fr) {d:Nat} {s:bc D} (a:rel X.G z vs s (fr d)):fj X z vs ((d,s)::E) fr:=λi=>by
 simp only[eI];split
 ·simp_all
 ·exact h i
def fj.put (h:fj X z vs E fr) {d:Option Nat} {s:bc D} {v:af} (b:rel X.G z vs s v):fj X z vs (na E d s) (set fr d v):=by
 cases d with
 |none=>exact h
 |some d=>
  intro i;simp only[na,eI,set];split
  ·simp_all
  ·rename_i a;rw[if_neg]
   ·exact h i
   ·intro e;simp_all
def je (X:e3 P D) (O:List (ba D)) (z:Nat->bW) (e:Mem) (k:Option Nat) (j:List af) (K:List (Nat×bc D)->List (ba D)->Option ap) (r:ap) (g:Nat->af) (h:Mem):Prop:=∃d a f b,Inv O b/\dT e.next z d/\(∀(i:Nat) (u:af),j[i]? =J u->a[i]? =J u)/\b9 X.G b d e h k a/\fj X d a f g/\K f b=J r
def je.from {K:List (Nat×bc D)->List (ba D)->Option ap} {b:Nat->af} {f:Nat->bW} {g:List af} {d:List (ba D)} (n:Inv O d) (s:dT e.next z f) (j:∀(i:Nat) (u:af),vs[i]? =J u->g[i]? =J u) (h:je X d f e k g K r b m'):je X O z e k vs K r b m':=by
 obtain ⟨B,a,x,w,p,y,m,l,q,t⟩:=h;exact ⟨B,a,x,w,n.trans p,s.trans y,λi u A=>m i u (j i u A),l,q,t⟩
def je.here {K:List (Nat×bc D)->List (ba D)->Option ap} (a:b9 X.G O z e m k vs) (b:fj X z vs E fr) (d:K E O=J r):je X O z e k vs K r fr m:=⟨z,vs,E,O,Inv.refl O,dT.refl z,λ_ _ h=>h,a,b,d⟩
def acJ {d:Nat} {K:List (Nat×bc D)->Option ap} (e:fj X z vs E fr) (h:vn E d K=J r):∃f,fj X z vs f fr/\K f=J r:=by
 unfold vn at h;have a:=e d;split at h
 ·rename_i b g;rw[g] at a;cases b with
  |true=>rw[if_pos rfl] at h;exact ⟨_,e.cons (s:= .c (.bool aa)) a,h⟩
  |false=>rw[if_neg (by simp)] at h;exact ⟨_,e.cons (s:= .c (.bool ak)) a,h⟩
 ·grind
 grind
def atd (q:iV X) {K:List (Nat×bc D)->List (ba D)->Option ap} (i:b9 X.G O z e m k vs) (a:fj X z vs E fr) (h:BI X o E O K=J r):cH P (bk fr) o m λ_ v b=>je X O z e k vs K r (set fr o.dst v) b:=by
 have A:∀{E:List (Nat×bc D)},fj X z vs E fr->iR X o.op E O (λv O=>K (na E o.dst v) O)=J r->cH P (bk fr) o m λ_ v b=>je X O z e k vs K r (set fr o.dst v) b:=by intro E a h;refine cH.mono (Ln q rfl i (WN a) h) ?_;rintro t v b ⟨w,d,y,s,l,g,f,j,n,p⟩;exact ⟨w,d,_,s,l,g,f,j,(a.mono g.le f).put n,p⟩
 unfold BI at h;split at h
 ·obtain ⟨x,B,h⟩:=acJ a h
  grind
 grind
def B9 (x:iV X) {a:List Oper} {K:List (Nat×bc D)->List (ba D)->Option ap}:∀{l:List Oper} {E:List (Nat×bc D)} {O:List (ba D)} {z:Nat->bW} {g:List af} {m:Mem} {f:Nat->af},b9 X.G O z e m k g->fj X z g E f->tM X a l E O K=J r->ea P a l (je X O z e k g K r) f m
 |[],E,O,z,g,m,f,n,p,h=>ea.nil (je.here n p h)
 |o::l,E,O,z,g,m,f,n,p,h=>by
  unfold tM at h;have q:∀{E:List (Nat×bc D)},fj X z g E f->(BI X o E O λE O=>tM X a l E O K)=J r->cH P (bk f) o m λ_ v H=>ea P a l (je X O z e k g K r) (set f o.dst v) H:=by intro E p h;refine cH.mono (atd x n p h) ?_;rintro t v H ⟨Z,T,U,V,N,S,L,I,Q,R⟩;exact ea.mono (B9 x I Q R) λ_ _ M=>M.from N S L
  split at h
  ·grind [ea.Ue,wanted]
  ·rename_i j w F;split at h
   ·grind
   ·rename_i d C;obtain ⟨Y,y,h⟩:=acJ p h;have i:=y d;split at h
    ·rename_i b B;rw[B] at i;split at h
     ·rename_i A;exact ea.Ud F C i A (q y h)
     ·rename_i A;exact ea.P3 F C i (by cases b<;>cases w<;>simp at A⊢) (B9 x n (y.put (s:= .undef) rfl) h)
    ·rename_i B;rw[B] at i;exact ea.X6 F C i (B9 x n (y.put (s:= .undef) rfl) h)
    grind
variable {z0:Nat->bW}
def acq {d:Nat} {K:List (Nat×bc D)->Option ap} (g:fj X z vs E fr) (h:vn E d K=J r):∃e,fj X z vs e fr/\(∀c,eI e c=eI E c\/y4 (eI e c)=ak)/\K e=J r:=by
 have f:=g d;have a:∀{b:Bool} (c:Nat),eI ((d, .c (.bool b))::E) c=eI E c\/y4 (eI ((d, .c (.bool b))::E) c)=ak:=by
  intro b c;simp only[eI];split
  ·exact .inr rfl
  grind
 unfold vn at h;split at h
 ·rename_i b j;rw[j] at f;have f:fr d= .bool b:=f;split at h
  ·rename_i i;exact ⟨_,g.cons (by grind),a,h⟩
  ·rename_i i;exact ⟨_,g.cons (by grind),a,h⟩
 ·grind
 grind
def gC.split {f:Nat} {A:Acc} {L:gk} {b:List (Nat×bc D)} (h:gC f z0 z fr E m A L) (a:∀c,eI b c=eI E c\/y4 (eI b c)=ak):gC f z0 z fr b m A L:=⟨h.le,h.n,h.lt,h.lK,λd g e=>by
 rcases a d with a|a
 ·rw[a] at e;exact h.ew d g e
 grind⟩
def gC.skip {g:Nat} {A:Acc} {L:gk} {a:Option Nat} (h:gC g z0 z fr E m A L):gC g z0 z (set fr a undef) (na E a .undef) m A L:=by
 cases a with
 |none=>exact h
 |some d=>
  refine ⟨h.le,h.n,h.lt,h.lK,λc i e b f=> ?_⟩;simp only[na,eI] at e;split at e
  ·cases e
  ·rename_i j;have:c≠d:=by rintro rfl;simp_all
   simp only[set,if_neg this] at f;exact h.ew c i e b f
def ad' (cW:iV X) {B:Array Nat} {ops l:List Oper} {i:Nat} {A:Acc} {L:gk} {fK:Nat} {Q:(Nat->af)->Mem->Prop} {K:gk->List (Nat×bc D)->List (ba D)->Option ap} (aN:b9 X.G O z e m k vs) (bp:fj X z vs E fr) (dE:iI z m vs A L) (bs:gC fK z0 z fr E m A L) (h:Km X B i o L E O K=J r)
  (hk:∀{z':Nat->bW} {vs':List af} {m':Mem} {iH:Acc} {L':gk} {E':List (Nat×bc D)} {cr:List (ba D)} {v:af},Inv O cr->dT e.next z z'->(∀(i:Nat) (u:af),vs[i]? =J u->vs'[i]? =J u)->b9 X.G cr z' e m' k vs'->fj X z' vs' E' (set fr o.dst v)->iI z' m' vs' iH L'->gC fK z0 z' (set fr o.dst v) E' m' iH L'->K L' E' cr=J r->hQ P ops B (i+1) l iH Q (set fr o.dst v) m'):
  cH P (bk fr) o m λt v m1=>u7 B i A m t m1/\hQ P ops B (i+1) l (qL A i m t) Q (set fr o.dst v) m1:=by
 have cY:=WN bp;unfold Km at h;split at h
 ·rename_i qQ;split at h
  ·rename_i ts aJ;obtain ⟨my,h⟩:=gz h;have sR:∀{v:af},fH P (bk fr) o m v->False:=λaV=>by
    have:=Ks aV;revert this qQ;cases o.op<;>simp[lT,looks]
   have Ub:∀{Y:bW} {v:af},jC P (bk fr) o m.next Y v->False:=λaV=>by have:=BK aV;revert this qQ;cases o.op<;>simp[lT,sg]
   have r5:rK E L o.op=aa->False:=λbg=>by revert bg qQ;cases o.op<;>simp[lT,rK]
   refine (ate cW aN cY qQ aJ h).Ke (λv _ cp=> ?_) (λv aV _=>(sR aV).elim) (λY v aV _=>(Ub aV).elim) λn v m' he cp=> ?_
   ·obtain ⟨_,⟨z',vs',dR,cr,bR,h1,ai,aT,br,cK⟩,yW,q,ay,bm⟩:=cp;obtain ⟨g1,g2⟩:=dE.fX (B:=B) (ra:=tA X E O o.op) aN h1.le ai (gG.any (gG.refl m) ae) (.inl rfl) (λ_=>rfl) my;have e2:=(bs.fX (O:=O) (ts:=ts) (q:=ae) (i:=i) (ra:=tA X E O o.op) (gG.refl m) (λb _=>by simp)).jP h1.le;exact ⟨trivial,hk bR h1 ai aT ((bp.mono h1.le ai).put br) (w9 ⟨g2.rd,λx an=>g2.j7 x (kn _ an),g2.jZ⟩) (gC.put ⟨e2.le,e2.n,e2.lt,λx an=>e2.lK x (kn _ an),e2.ew⟩ λbg=>(r5 bg).elim) cK⟩
   ·obtain ⟨⟨z',vs',dR,cr,bR,h1,ai,aT,br,cK⟩,yW,q,ay,bm⟩:=cp;obtain ⟨g1,g2⟩:=dE.fX (B:=B) aN h1.le ai ay bm yW my;exact ⟨g1,hk bR h1 ai aT ((bp.mono h1.le ai).put br) (w9 g2) (gC.put ((bs.fX ay (asa aN (tY.1 my).1 bm bs.le)).jP h1.le) λbg=>(r5 bg).elim) cK⟩
  ·obtain ⟨my,h⟩:=gz h;have sR:∀{v:af},fH P (bk fr) o m v->False:=λaV=>by
    have:=Ks aV;revert this qQ;cases o.op<;>simp[lT,looks]
   have Ub:∀{Y:bW} {v:af},jC P (bk fr) o m.next Y v->False:=λaV=>by have:=BK aV;revert this qQ;cases o.op<;>simp[lT,sg]
   have r5:rK E L o.op=aa->False:=λbg=>by revert bg qQ;cases o.op<;>simp[lT,rK]
   refine (Ln cW rfl aN cY h).Ke (λv _ cp=> ?_) (λv aV _=>(sR aV).elim) (λY v aV _=>(Ub aV).elim) λn v m' he cp=> ?_
   ·obtain ⟨_,z',vs',dR,cr,bR,h1,ai,aT,br,cK⟩:=cp;obtain ⟨g1,g2⟩:=dE.A1 (z':=z') (m':=m) ai (e4 _) my;have e2:=bs.A1 (i:=i) (e4 _) h1.le aN.aS aT.aS;exact ⟨trivial,hk bR h1 ai aT ((bp.mono h1.le ai).put br) (w9 ⟨g2.rd,λx an=>g2.j7 x (kn _ an),g2.jZ⟩) (gC.put ⟨e2.le,e2.n,e2.lt,λx an=>e2.lK x (kn _ an),e2.ew⟩ λbg=>(r5 bg).elim) cK⟩
   ·obtain ⟨z',vs',dR,cr,bR,h1,ai,aT,br,cK⟩:=cp;have bB:=WB (ab6 n) he;obtain ⟨g1,g2⟩:=dE.A1 (z':=z') ai bB my;exact ⟨g1,hk bR h1 ai aT ((bp.mono h1.le ai).put br) (w9 g2) (gC.put (bs.A1 bB h1.le aN.aS aT.aS) λbg=>(r5 bg).elim) cK⟩
 ·rename_i qQ;split at h
  ·rename_i s bf;obtain ⟨my,h⟩:=gz h;refine (Ln cW rfl aN cY h).Ke (λv bb cp=> ?_) (λv aV cp=> ?_) (λY v aV cp=> ?_) λn v m' he _=>absurd (Wt he) qQ
   ·obtain ⟨_,z',vs',dR,cr,bR,h1,ai,aT,br,cK⟩:=cp;dsimp only at cK;split at cK
    ·rename_i n bB;exact ⟨trivial,hk bR h1 ai aT ((bp.mono h1.le ai).put br) (w9 ((dE.quiet h1.le ai rfl).afq i s n)) (gC.put (L:=pD i s n L) ((bs.jP h1.le).log rfl rfl) λbg=>arq bs bg bb) cK⟩
    grind
   ·obtain ⟨z',vs',dR,cr,bR,h1,ai,aT,br,cK⟩:=cp;dsimp only at cK;split at cK
    ·rename_i n bB;obtain ⟨g1,g2⟩:=dE.read (n:=n) (B:=B) (i:=i) aN cY h1.le ai bf my aV bs;exact ⟨g1,hk bR h1 ai aT ((bp.mono h1.le ai).put br) (w9 g2) (gC.put (L:=pD i s n L) ((bs.jP h1.le).log rfl rfl) λbg=>(by
      have:=Ks aV;revert this bg;cases o.op<;>simp[rK,looks])) cK⟩
    grind
   ·obtain ⟨z',vs',dR,cr,bR,h1,ai,aT,br,cK⟩:=cp;dsimp only at cK;split at cK
    ·rename_i n bB;rw[abH,if_pos (BK aV)] at bB;obtain ⟨j,rfl,bn⟩:=ato aV br bB;exact ⟨trivial,hk bR h1 ai aT ((bp.mono h1.le ai).put br) (w9 (dE.new (i:=i) (s:=s) (Y:=Y) h1.le ai bn)) (gC.put (L:=pD i s (J j) L) (((bs.grow (gG.push m Y)).jP h1.le).log rfl rfl) λbg=>(by
      have:=BK aV;revert this bg;cases o.op<;>simp[rK,sg])) cK⟩
    grind
  grind
def atq (x:iV X) {B:Array Nat} {b l:List Oper} {i:Nat} {A:Acc} {L:gk} {C:Nat} {Q:(Nat->af)->Mem->Prop} {K:gk->List (Nat×bc D)->List (ba D)->Option ap} (q:b9 X.G O z e m k vs) (s:fj X z vs E fr) (y:iI z m vs A L) (w:gC C z0 z fr E m A L) (h:BH X B i o L E O K=J r)
  (F:∀{d:Nat->bW} {a:List af} {g:Mem} {p:Acc} {j:gk} {f:List (Nat×bc D)} {n:List (ba D)} {v:af},Inv O n->dT e.next z d->(∀(i:Nat) (u:af),vs[i]? =J u->a[i]? =J u)->b9 X.G n d e g k a->fj X d a f (set fr o.dst v)->iI d g a p j->gC C z0 d (set fr o.dst v) f g p j->K j f n=J r->hQ P b B (i+1) l p Q (set fr o.dst v) g):
  cH P (bk fr) o m λt v H=>u7 B i A m t H/\hQ P b B (i+1) l (qL A i m t) Q (set fr o.dst v) H:=by
 unfold BH at h;split at h
 ·rename_i S M;obtain ⟨f,R,N,h⟩:=acq s h;have I:=w.split N;exact ad' x q R y I h F
 ·exact ad' x q s y w h F
def hQ.mono {a l:List Oper} {B:Array Nat} {i:Nat} {A:Acc} {K b:(Nat->af)->Mem->Prop} (h:hQ P a B i l A K fr m) (g:∀fr m,K fr m->b fr m):hQ P a B i l A b fr m:=
 let ⟨n,e,j,f,d⟩:=h;⟨n,e,j,f,g _ _ d⟩
def K0 (C:iV X) {B:Array Nat} {f:List Oper} {R:Nat} {K:List (Nat×bc D)->List (ba D)->Option ap}:∀{l:List Oper} {i:Nat} {A:Acc} {L:gk} {E:List (Nat×bc D)} {O:List (ba D)} {z:Nat->bW} {g:List af} {m:Mem} {a:Nat->af},b9 X.G O z e m k g->fj X z g E a->iI z m g A L->gC R z0 z a E m A L->vu X B f i l L E O K=J r->hQ P f B i l A (je X O z e k g K r) a m
 |[],i,A,L,E,O,z,g,m,a,p,q,F,T,h=>hQ.done λcb bF=>by rw[bF];exact je.here p q h
 |o::l,i,A,L,E,O,z,g,m,a,p,q,F,T,h=>by
  unfold vu at h;have x:∀{E:List (Nat×bc D)},fj X z g E a->gC R z0 z a E m A L->(BH X B i o L E O λL E O=>vu X B f (i+1) l L E O K)=J r->cH P (bk a) o m λt v S=>u7 B i A m t S/\hQ P f B (i+1) l (qL A i m t) (je X O z e k g K r) (set a o.dst v) S:=by intro E q w h;refine atq C p q F w h ?_;intro z' vs' m' iH L' E' cr v bR h1 Y V br cK jH fJ;exact hQ.mono (K0 C V br cK jH fJ) λ_ _ Z=>Z.from bR h1 Y
  split at h
  ·grind [hQ.cons,wanted]
  ·rename_i j y w;split at h
   ·grind
   ·rename_i d N;obtain ⟨ia,H,U,h⟩:=acq q h;have Q:=T.split U;have n:=H d;split at h
    ·rename_i b M;rw[M] at n;split at h
     ·rename_i I;exact hQ.Ud w N n I (x H Q h)
     ·rename_i I;exact hQ.P3 w N n (by cases b<;>cases y<;>simp at I⊢) (K0 C p (H.put (s:= .undef) rfl) F Q.skip h)
    ·rename_i M;rw[M] at n;exact hQ.X6 w N n (K0 C p (H.put (s:= .undef) rfl) F Q.skip h)
    grind
def iI.start:iI z m vs ⟨[],[],[]⟩ ⟨[],[],[],[],[]⟩:=⟨by simp,by simp,by simp⟩
def qJ (X:e3 P D) (B:Code) (u:mP D):Prop:=∀{b:Type} (E:List (Nat×bc D)) (O:List (ba D)) (K:fG->List (Nat×bc D)->List (ba D)->Option b) (r:b) {z:Nat->bW} {e m:Mem} {k:Option Nat} {a:List af} {d:Nat->af},
 u.fits E O=aa->b9 X.G O z e m k a->fj X z a E d->u.run E O K=J r->W P (sub B u.path) (λx=>je X O z e k a (K x) r) d m
theorem WZ:∀(c:Code) (p q:List Nat),sub (sub c p) q=sub c (p++q):=by
 intro c p;induction p generalizing c with
 |nil=>intro q;cases c<;>rfl
 |cons i p d=>
  intro q;cases c with
  |seq a b=>cases i with
   |zero=>exact d a q
   |succ i=>exact d b q
  |cond x a b=>cases i with
   |zero=>exact d a q
   |succ i=>exact d b q
  |block n c=>cases i with
   |zero=>exact d c q
   |succ i=>exact d c q
  |scope c=>cases i with
   |zero=>exact d c q
   |succ i=>exact d c q
  |loop c=>cases i with
   |zero=>exact d c q
   |succ i=>exact d c q
  |_=>rcases q with _|⟨_|j,q⟩<;>cases i<;>rfl
def zo {B c:Code} {p:List Nat} {i:Nat} (h:sub B p.reverse=c):sub B (i::p).reverse=sub c [i]:=by grind [WZ]
def sc (c:Code):sub c []=c:=by cases c<;>rfl
theorem aev:∀{p q:List Nat},Jr p q=aa->p=q
 |[],[],_=>rfl
 |a::p,b::q,h=>by simp only[Jr,fx] at h;rw[kA h.1,aev h.2]
 |[],_::_,h=>by cases h
 |_::_,[],h=>by cases h
def aqt {a:List (mP D)} {p:List Nat} {u:mP D} (h:sf a p E O=J u):u∈a/\u.path=p/\u.fits E O=aa:=by
 induction a with
 |nil=>cases h
 |cons w a b=>
  grind [sf,aev]
def adf:∀{n:Nat} {O a:List (ba D)} {z:Nat->bW} {m:Mem} {b:List af},b9 X.G O z e m k b->LK n O=J a->∃f,Inv O a/\dT e.next z f/\b9 X.G a f e m k b
 |0,O,a,z,m,b,d,h=>by cases h;grind [Inv.refl,dT.refl]
 |n+1,O,a,z,m,b,d,h=>by
  simp only[LK] at h;split at h
  ·rename_i w l;obtain ⟨t,p,i,j⟩:=adf d l;split at h
   ·split at h
    ·grind
    ·obtain ⟨s,r,q,g⟩:=BZ j h;exact ⟨s,p.trans r,i.trans q,g⟩
   grind
  grind
def je.fill {K:List (Nat×bc D)->List (ba D)->Option ap} {r:ap} {g:List af} {f:Mem} {d:Nat->af} (h:je X O z e k g (vq K) r d f):je X O z e k g K r d f:=by
 obtain ⟨B,x,w,A,n,t,l,j,p,a⟩:=h;unfold vq at a;split at a
 ·rename_i q m;obtain ⟨y,s,b,i⟩:=adf j m;exact ⟨y,x,w,q,n.trans s,t.trans b,l,i,p.mono b.le λ_ _ h=>h,a⟩
 grind
def Lh (cW:iV X) {B:Code} {us:List (mP D)} {L:Nat} (te:∀u∈us,L<u.path.length->qJ X B u):
  ∀(c:Code) (f:Bool) (p:List Nat) (E:List (Nat×bc D)) (O:List (ba D)) (K:fG->List (Nat×bc D)->List (ba D)->Option ap) (r:ap) {z:Nat->bW} {w:List af} {m:Mem} {A:Nat->af},
   sub B p.reverse=c->L<=p.length->(f=ak->L<p.length)->b9 X.G O z e m k w->fj X z w E A->j8 X us calm f p c E O K=J r->W P c (λx=>je X O z e k w (K x) r) A m:=by
 intro c;have q:∀{c:Code} {f:Bool} {p:List Nat} {E:List (Nat×bc D)} {O:List (ba D)} {K:fG->List (Nat×bc D)->List (ba D)->Option ap} {r:ap} {z:Nat->bW} {w:List af} {m:Mem} {A:Nat->af} {u:mP D},
   sub B p.reverse=c->(f=ak->L<p.length)->b9 X.G O z e m k w->fj X z w E A->(if f=aa then ae else sf us p.reverse E O)=J u->u.run E O K=J r->W P c (λx=>je X O z e k w (K x) r) A m:=by
  intro c f p E O K r z w m A u s y n g C h;cases f with
  |true=>grind
  |false=>
   obtain ⟨H,I,F⟩:=aqt C;have:=te u H (by grind) E O K r F n g h
   grind
 induction c with
 |seq a b VI VJ=>
  intro f p E O K r z w m A s N y n g h;simp only[j8] at h;split at h
  ·rename_i u C;exact q s y n g C h
  ·refine W.seq ((VI ak (0::p) E O _ r (by rw[zo s];exact sc a) (by grind) (λ_=>by grind) n g h).mono ?_);rintro x fY m1 ⟨V,Y,U,T,R,H,I,F,S,Z⟩;cases x with
   |normal=>have Z:=(if_pos rfl).symm.trans Z;exact (VJ ak (1::p) U T K r (by rw[zo s];exact sc b) (by grind) (λ_=>by grind) F S Z).mono λ_ _ _ M=>M.from R H I
   |exit i=>exact ⟨V,Y,U,T,R,H,I,F,S,(if_neg (by simp)).symm.trans Z⟩
   |ret=>exact ⟨V,Y,U,T,R,H,I,F,S,(if_neg (by simp)).symm.trans Z⟩
 |cond x a b VI VJ=>
  intro f p E O K r z w m A s N y n g h;simp only[j8] at h;split at h
  ·rename_i u C;exact q s y n g C h
  ·split at h
   ·rename_i t bf;have an:=WN g x;rw[bf] at an;cases t with
    |true=>rw[if_pos rfl] at h;exact W.amu an rfl (VI ak (0::p) E O K r (by rw[zo s];exact sc a) (by grind) (λ_=>by grind) n g h)
    |false=>rw[if_neg (by simp)] at h;exact W.Z0 an rfl (VJ ak (1::p) E O K r (by rw[zo s];exact sc b) (by grind) (λ_=>by grind) n g h)
   grind
 |scope c a1=>
  intro f p E O K r z w m A s N y n g h;simp only[j8] at h;split at h
  ·rename_i u C;exact q s y n g C h
  ·exact W.scope (a1 ak (0::p) E O K r (by rw[zo s];exact sc c) (by grind) (λ_=>by grind) n g h)
 |block i c a1=>
  intro f p E O K r z w m A s N y n g h;simp only[j8] at h;split at h
  ·rename_i u C;exact q s y n g C h
  ·refine W.block ((a1 ak (0::p) E O _ r (by rw[zo s];exact sc c) (by grind) (λ_=>by grind) n g h).mono ?_);rintro x fY m1 M;obtain ⟨V,Y,U,T,R,H,I,F,S,Z⟩:=M;cases x with
   |normal=>exact ⟨V,Y,U,T,R,H,I,F,S,by grind⟩
   |exit j=>
    by_cases hq:j=i
    ·subst hq;exact pZ.rS ⟨V,Y,U,T,R,H,I,F,S,by grind⟩
    ·exact pZ.qZ (by grind) ⟨V,Y,U,T,R,H,I,F,S,by grind⟩
   |ret=>exact ⟨V,Y,U,T,R,H,I,F,S,by grind⟩
 |region id ops d=>
  intro f p E O K r z w m A s N y n g h;simp only[j8] at h;split at h
  ·rename_i u C;exact q s y n g C h
  ·cases d with
   |true=>
    rw[if_pos rfl] at h;split at h
    ·rename_i ay;exact (W.calm (Q:=λx=>je X O z e k w (vq (K x)) r) ay (B9 cW n g h)).mono λ_ _ _ M=>M.fill
    ·exact (W.draw (Q:=λx=>je X O z e k w (vq (K x)) r) (K0 cW n g iI.start (gC.start n g) h)).mono λ_ _ _ M=>M.fill
   |false=>rw[if_neg (by simp)] at h;exact (W.region (Q:=λx=>je X O z e k w (vq (K x)) r) (B9 cW n g h)).mono λ_ _ _ M=>M.fill
 |loop c a1=>
  intro f p E O K r z w m A s N y n g h;simp only[j8] at h;split at h
  ·rename_i u C;exact q s y n g C h
  grind
 |skip=>intro f p E O K r z w m A s N y n g h;exact W.skip (je.here n g h)
 |label l=>intro f p E O K r z w m A s N y n g h;exact W.label (je.here n g h)
 |exit i=>intro f p E O K r z w m A s N y n g h;exact W.exit (je.here n g h)
 |ret=>intro f p E O K r z w m A s N y n g h;exact W.ret (je.here n g h)
 |_=>grind [j8]
end
end
section
inductive gR where
 |int (k:aG)|bool|str
 |bh (e:Nat)|mp (t bG bA:Nat)
 |agg (t:Nat)|hd (t:Nat)
 |fn (f:Nat) (ts:List Nat)
 |cut (j e:Nat)
inductive cw where
 |bh (e:Nat)|box (t:Nat)|recv (t:Nat)|arr (e t n:Nat)|map (t bG bA:Nat)
 |bL (t:Nat) (l:List (Nat×Nat))
 |uI (t f:Nat) (is:List Nat)
 |ne (e t:Nat)
inductive dt where
 |v (d:Nat) (c:gR)
 |o (d:Nat) (c:cw)
 |u (j:Nat) (c:cw)
noncomputable section
section
variable {P:bI} {D:Nat->Type}
def wF (D:Nat->Type):List Nat->Type|[]=>Unit|t::a=>D t×wF D a
def gR.ty (D:Nat->Type):gR->Type| .int _=>Int| .bool=>Bool| .str=>List UInt8| .bh e=>List (D e)| .mp _ b a=>List (D b×D a)| .agg t=>D t| .hd t=>D t| .fn _ d=>wF D d| .cut _ _=>Nat×Nat
def cw.ty (D:Nat->Type):cw->Type| .bh e=>List (D e)| .box t=>D t| .recv t=>D t| .arr e _ _=>List (D e)| .map _ b a=>List (D b×D a)| .bL t _=>D t| .uI _ _ _=>Unit| .ne _ t=>List (List (D t))
def dt.ty (D:Nat->Type):dt->Type| .v _ c=>c.ty D| .o _ c=>c.ty D| .u _ c=>c.ty D
def ft (D:Nat->Type):List dt->Type|[]=>Unit|i::a=>i.ty D×ft D a
variable (X:e3 P D)
def jl (t:Nat) (x:D t):List (cv D):=match X.I t with|some a=>a.kM x|none=>[]
def mA (t:Nat) (a:List (cv D)):Option (D t):=match X.I t with|some b=>b.qk a|none=>ae
def tD:(a:List Nat)->wF D a->List (Nat×List (cv D))|[],_=>[]|t::a,x=>(t,jl X t x.1)::tD a x.2
def xa:(d:List Nat)->List (Nat×List (cv D))->Option (wF D d)
 |[],[]=>J ()
 |t::d,p::l=>if p.1=t then (match mA X t p.2,xa d l with|some a,J b=>J (a,b)|_,_=>ae) else ae
 |_,_=>ae
def gR.mk:(c:gR)->c.ty D->bc D| .int k,n=> .c (.int k n)| .bool,b=> .c (.bool b)| .str,s=> .c (.str s)| .bh e,i=> .c (.bh e i)| .mp t d a,g=> .c (.mp t d a g)| .agg t,x=> .agg t (jl X t x)| .hd t,x=> .hd t (jl X t x) 0| .fn f h,x=> .fn f (tD X h x)| .cut j e,x=> .cut j e x.1 x.2
def gR.get:(c:gR)->bc D->Option (c.ty D)| .int k, .c (.int r n)=>if r=k then J n else ae| .bool, .c (.bool b)=>J b| .str, .c (.str s)=>J s| .bh e, .c .gE=>J []| .mp t m j, .c .oY=>J []| .bh e, .c (.bh g z)=>if h:g=e then J (h▸z) else ae| .mp t m j, .c (.mp a x w q)=>if h:x=m/\w=j then (if a=t then J (h.1▸h.2▸q) else ae) else ae| .agg t, .agg a d=>if a=t then mA X t d else ae| .hd t, .hd a d i=>if a=t/\i=0 then mA X t d else ae| .fn f y, .fn ma l=>if ma=f then xa X y l else ae| .cut _ e, .cut _ g p n=>if g=e then J (p,n) else ae|_,_=>ae
def nw:List (Nat×Nat)->Nat->Option Nat|[],_=>ae|p::l,i=>if fi p.1 i=aa then J p.2 else nw l i
def qi (a:Nat->Nat) (l:List (Nat×Nat)):Nat->List (cv D)->List (cv D)
 |_,[]=>[]
 |i,c::b=>(match nw l i with|some n=> .own (a n)|none=>c)::qi a l (i+1) b
def nQ (t:Nat):List (cv D):=match X.I t with|some a=>a.rk|none=>[]
def u6 (a:List (cv D)) (l:List (Nat×Nat)):Nat->List (cv D)->List (cv D)
 |_,[]=>[]
 |i,c::b=>(match nw l i with|some _=>a.getD i .gE|none=>c)::u6 a l (i+1) b
def cw.gO (b:Nat->Nat):(c:cw)->c.ty D->Bool->ba D| .bh e,a,w=> .bh e a ak w| .box t,x,w=> .box t (jl X t x) ak w| .recv t,x,w=> .recv t (jl X t x) w| .arr e t n,a,w=> .arr e t n a w| .map t g d,i,w=> .map t g d i ak w| .bL t l,x,w=> .box t (qi b l 0 (jl X t x)) ak w| .uI t f j,_,w=> .box t [.fn f (j.map b)] ak w| .ne e t,h,w=> .nest e t ((X.N e t).map vO.up) h ae w
def cw.mk (c:cw) (x:c.ty D) (w:Bool):ba D:=cw.gO X (λn=>n) c x w
def cw.hs:cw->List Nat| .bL _ l=>l.map Prod.snd| .uI _ _ a=>a|_=>[]
def oZ (a:Option Nat) (i:Nat):Bool:=match a with|some j=>fi j i|none=>ak
def Lv (a:List Nat) (b:List (cv D)):List (Nat×Nat)->Bool
 |[]=>aa
 |p::l=>(match b[p.1]? with|some (.own i)=>oZ (a[p.2]?) i|_=>ak)&&Lv a b l
def Ji (a:List Nat):List Nat->List Nat->Bool|[],[]=>aa|n::l,i::k=>oZ (a[n]?) i&&Ji a l k|_,_=>ak
def cw.get (g:List Nat):(c:cw)->ba D->Option (c.ty D)| .bh e, .bh cz d ak _=>if h:cz=e then J (h▸d) else ae| .box t, .box a b ak _=>if a=t then mA X t b else ae| .recv t, .recv a b _=>if a=t then mA X t b else ae| .arr e t n, .arr cz a w d _=>if h:cz=e then (if a=t/\w=n then J (h▸d) else ae) else ae| .map t j i, .map a r q m ak _=>if h:r=j/\q=i then (if a=t then J (h.1▸h.2▸m) else ae) else ae| .bL t l, .box a b ak _=>if a=t/\Lv g b l=aa then mA X t (u6 (nQ X t) l 0 b) else ae| .uI t f p, .box a [.fn s x] ak _=>if a=t/\s=f/\Ji g p x=aa then J () else ae| .ne e t, .nest cz a _ k ae _=>if h:a=t then (if cz=e then J (h▸k) else ae) else ae|_,_=>ae
def ba.clean:ba D->Bool| .box _ a _ _=>a.all zM| .recv _ a _=>a.all zM| .nest _ _ _ _ _ _=>ak|_=>aa
def UI (O:List (ba D)):bc D->Option (bc D×List (ba D))
 | .c c=>(match sY O c with|some (f,a)=>J (.c f,a)|none=>ae)
 | .agg t h=>(match uJ O h with|some (b,a)=>J (.agg t b,a)|none=>ae)
 | .cut i e g n=>(match v8 O i with|some (.bh d j,a)=>if d=e then J (.c (.bh d ((j.take n).drop g)),a) else ae|_=>ae)
 |s=>J (s,O)
def LM:bc D->Option Nat| .c (.own i)=>J i| .box i _=>J i| .arr i=>J i| .el i _ _ _=>J i|_=>ae
def xB (l:List (Nat×Nat)):Nat->List (cv D)->Bool
 |_,[]=>ak
 |i,c::a=>(match c with| .own _=>(match nw l i with|none=>aa|_=>ak)|_=>ak)||xB l (i+1) a
def Jw (l:List (Nat×Nat)):Nat->List (cv D)->List (ba D)->Option (List (cv D)×List (ba D))
 |_,[],O=>J ([],O)
 |i,c::e,O=>
  match (match nw l i with|some _=>J (c,O)|none=>sY O c) with
  |some (b,d)=>(match Jw l (i+1) e d with|some (a,f)=>J (b::a,f)|none=>ae)
  |none=>ae
def uK (l:List (Nat×Nat)) (O:List (ba D)) (i:Nat):Option (List (ba D)):=
 match O[i]? with
 |some (.box t b ak _)=>if xB l 0 b=aa then (match Jw l 0 b O with|some (a,d)=>J (d.set i (.box t a ak aa))|none=>ae) else J O
 |_=>J O
def UJ (c:gR) (O:List (ba D)) (s:bc D):Option (bc D×List (ba D)):=
 match c,s with
 | .cut _ _,s=>J (s,O)
 | .hd _, .box i a=>
  (match uK [] O i with
  |some b=>(match vp b (.box i a) with|some (p,d)=>J (.hd p.1 p.2 0,d)|none=>ae)
  |none=>ae)
 |_,s=>UI O s
def rL (E:List (Nat×bc D)):List dt->List (ba D)->Option (List (bc D)×List (ba D))
 |[],O=>J ([],O)
 | .v d c::a,O=>
  match UJ c O (eI E d) with
  |some (s,b)=>(match rL E a b with|some (l,e)=>J (s::l,e)|none=>ae)
  |none=>ae
 |_::a,O=>match rL E a O with|some (l,b)=>J (.un::l,b)|none=>ae
def rF:Nat:=2000000
def ZD:Nat:=100000000
def ZE:Nat:=200000000
def Co:List (cv D)->List Nat|[]=>[]| .own i::a=>i::Co a| .fn _ b::a=>b++Co a|_::a=>Co a
def ae8 (O:List (ba D)) (i:Nat):List Nat:=match O[i]? with|some (.box _ a _ _)=>Co a|some (.recv _ a _)=>Co a|_=>[]
def Xs (O:List (ba D)):Nat->List Nat->List Nat->List Nat|0,_,s=>s|_+1,[],s=>s|n+1,i::l,s=>if s.any (fi i)=aa then Xs O n l s else Xs O n (ae8 O i++l) (s++[i])
def ae3:List (Nat×bc D)->List Nat
 |[]=>[]
 |p::E=>(match LM p.2 with|some i=>[i]|none=>[])++ae3 E
def ae2 (E:List (Nat×bc D)) (O:List (ba D)):Nat->Nat->Option Nat
 |0,_=>ae
 |n+1,m=>if fi (m%64) 0=aa then LM (eI E (m / 64)) else (match ae2 E O n (m / 64) with|some i=>(ae8 O i)[m%64 - 1]? |none=>ae)
def T4 (E:List (Nat×bc D)) (O:List (ba D)) (d:Nat):Option Nat:=
 if iJ 1000000000 d=aa then LM (eI E d) else
 if iJ ZE d=aa then ae2 E O 8 (d - ZE) else
 if mn d rF=aa then LM (eI E d)
 else if iJ ZD d=aa then J (d - ZD)
 else match eI E ((d - rF) / 1000) with
  | .box i 0=>(match O[i]? with|some (.box _ a _ _)=>(match a[(d - rF)%1000]? with|some (.own n)=>J n|_=>ae)|_=>ae)
  |_=>ae
def I9 (E:List (Nat×bc D)) (O:List (ba D)):List dt->Option (List Nat)
 |[]=>J []
 | .o d _::a=>(match T4 E O d,I9 E O a with|some i,J l=>J (i::l)|_,_=>ae)
 |_::a=>I9 E O a
def pt (E:List (Nat×bc D)):List dt->List (ba D)->Option (List (ba D))
 |[],O=>J O
 | .o d (.box _)::a,O=>(match T4 E O d with|some i=>(match uK [] O i with|some b=>pt E a b|none=>ae)|none=>ae)
 | .o d (.bL _ l)::a,O=>(match T4 E O d with|some i=>(match uK l O i with|some b=>pt E a b|none=>ae)|none=>ae)
 | .u j (.box _)::a,O=>(match uK [] O j with|some b=>pt E a b|none=>ae)
 | .u j (.bL _ l)::a,O=>(match uK l O j with|some b=>pt E a b|none=>ae)
 |_::a,O=>pt E a O
def Z4 (a:List Nat):gR->bc D->Bool| .cut j _, .cut i _ _ _=>oZ (a[j]?) i|_,_=>aa
def iG (b:List Nat) (O:List (ba D)):(a:List dt)->List (bc D)->List Nat->Option (ft D a)
 |[],_,[]=>J ()
 | .v d c::a,s::l,e=>if Z4 b c s=aa then (match gR.get X c s,iG b O a l e with|some x,J y=>J (x,y)|_,_=>ae) else ae
 | .o d c::a,_::l,i::e=>
  match O[i]? with
  |some o=>(match cw.get X b c o,iG b O a l e with|some x,J y=>J (x,y)|_,_=>ae)
  |none=>ae
 | .u j c::a,_::l,e=>
  match O[j]? with
  |some o=>(match cw.get X b c o,iG b O a l e with|some x,J y=>J (x,y)|_,_=>ae)
  |none=>ae
 |_,_,_=>ae
def eU:(a:List dt)->ft D a->List (ba D)|[],_=>[]| .o _ c::a,x=>cw.mk X c x.1 ak::eU a x.2| .v _ _::a,x=>eU a x.2| .u _ _::a,x=>eU a x.2
def hc:(a:List dt)->ft D a->List (Nat×bc D)|[],_=>[]| .v d c::a,x=>(d,gR.mk X c x.1)::hc a x.2| .o _ _::a,x=>hc a x.2| .u _ _::a,x=>hc a x.2
def wa (a:List Nat):bc D->bc D->Bool| .c (.own j), .c (.own i)=>oZ (a[j]?) i| .box j o, .box i p=>oZ (a[j]?) i&&fi o p| .arr j, .arr i=>oZ (a[j]?) i| .c .gE, .c .gE=>aa| .c .za, .c .za=>aa| .c .oY, .c .oY=>aa| .undef, .undef=>aa| .un,_=>aa| .c (.int k n), .c (.int h l)=>decide (k=h)&&(n==l)| .c (.bool b), .c (.bool g)=>b==g| .fn f [], .fn e []=>fi f e| .hd t [.own j] o, .hd d [.own i] p=>oZ (a[j]?) i&&(fi t d&&fi o p)| .fn f [(t,[.own j])], .fn e [(d,[.own i])]=>oZ (a[j]?) i&&(fi t d&&fi f e)|_,_=>ak
def pE (a:Nat->Nat):bc D->bc D| .c (.own j)=> .c (.own (a j))| .box j o=> .box (a j) o| .arr j=> .arr (a j)| .hd t [.own j] o=> .hd t [.own (a j)] o| .fn f [(t,[.own j])]=> .fn f [(t,[.own (a j)])]|s=>s
def tE:List Nat->Bool|[]=>aa|i::l=> !(l.any λj=>fi j i)&&tE l
def Ci (l:List (Nat×Nat)):Nat->List (cv D)->Bool
 |_,[]=>aa
 |i,c::a=>(match nw l i with|some _=>aa|none=>zM c)&&Ci l (i+1) a
def cw.uF:cw->ba D->Bool| .bL _ l, .box _ a _ _=>Ci l 0 a|_,o=>o.clean
def zF (c:cw) (O:List (ba D)) (i:Nat):Bool:=match O[i]? with|some o=>o.nd|| !(c.uF o)|none=>aa
def mY (d:List Nat):(a:List dt)->ft D a->List Nat->List (ba D)->List (ba D)| .o _ c::a,x,i::b,O=>mY d a x.2 b (O.set i (cw.gO X (λn=>d.getD n 0) c x.1 (zF c O i)))| .v _ _::a,x,b,O=>mY d a x.2 b O| .u _ _::a,x,b,O=>mY d a x.2 b O|_,_,_,O=>O
def Lu (b:List dt) (f:List (Nat×bc D)) (E:List (Nat×bc D)) (O:List (ba D)):Option (ft D b×List Nat×List (ba D)):=match rL E b O,I9 E O b with|some (e,d),J a=>if tE a&&f.all λp=>wa a p.2 (eI E p.1) then match iG X a d b e a with|some x=>J (x,a,mY X a b x a d)|none=>ae else ae|_,_=>ae
def sl (a:List dt) (b:List (Nat×bc D)) (E:List (Nat×bc D)) (O:List (ba D)):Option (ft D a×List Nat×List (ba D)):=match pt E a O with|some d=>Lu X a b E d|none=>ae
end
section
variable {P:bI} {D:Nat->Type} {X:e3 P D} {z z':Nat->bW} {e m m':Mem} {k:Option Nat} {vs vs':List af} {fr:Nat->af} {E:List (Nat×bc D)} {O cr:List (ba D)}
def tC {t:Nat} {x:D t} {a:List af} (h:bP (ed X.G z vs) (jl X t x) a):bP (ed X.G z vs') (jl X t x) a:=by
 unfold jl at h⊢;split at h
 ·rename_i b _;exact b.rc z vs' x a (b.r6 z vs _ x a (b.V1 x) h)
 ·exact bP.mono (λ_ _ h=>h) (by cases a with|nil=>trivial|cons _ _=>exact h.elim)
def vl {t:Nat} {x:D t} {d:List (cv D)} {a:List af} (b:mA X t d=J x) (h:bP (ed X.G z vs) d a):bP (ed X.G z vs') (jl X t x) a:=by
 unfold mA at b;unfold jl;split at b
 ·rename_i e f;exact e.rc z vs' x a (e.r6 z vs d x a b h)
 grind
def LA {t:Nat} {x:D t} {a:List (cv D)} (b:mA X t a=J x) (h:a.all zM=aa):a=jl X t x:=by
 unfold mA at b;unfold jl;split at b
 ·rename_i d e;exact (d.Ko a x b).eq h
 grind
def auW {t:Nat} {x:D t} {b:List (cv D)} (a:mA X t b=J x):pR b (jl X t x):=by
 unfold mA at a;unfold jl;split at a
 ·rename_i d e;exact d.Ko b x a
 grind
def acC:∀{a:List Nat} {x:wF D a} {d:List af},bP (λc g=>lU X.G z vs c.2 0 g) (tD X a x) d->bP (λc g=>lU X.G z vs' c.2 0 g) (tD X a x) d
 |[],_,[],_=>trivial
 |[],_,_::_,h=>h.elim
 |t::a,x,[],h=>h.elim
 |t::a,x,g::d,⟨⟨b,o,j,k,f,e⟩,i⟩=>⟨⟨b,o,j,k,f,tC e⟩,acC i⟩
def acw:∀{d:List Nat} {l:List (Nat×List (cv D))} {x:wF D d} {e:List af},xa X d l=J x->bP (λc g=>lU X.G z vs c.2 0 g) l e->bP (λc g=>lU X.G z vs' c.2 0 g) (tD X d x) e
 |[],[],_,[],_,_=>trivial
 |[],[],_,_::_,_,h=>h.elim
 |[],_::_,_,_,h,_=>by cases h
 |_::_,[],_,_,h,_=>by cases h
 |t::d,p::l,x,[],_,h=>h.elim
 |t::d,p::l,x,g::e,h,⟨⟨b,o,n,q,i,f⟩,m⟩=>by
  simp only[xa] at h;split at h
  ·split at h
   ·rename_i a r k j;cases h;exact ⟨⟨b,o,n,q,i,vl k f⟩,acw j m⟩
   grind
  grind
def gR.y9:gR->Bool| .cut _ _=>ak|_=>aa
theorem gR.VP {c:gR} {x:c.ty D} {v:af} (k:c.y9=aa) (h:rel X.G z vs (gR.mk X c x) v):rel X.G z vs' (gR.mk X c x) v:=by
 cases c with
 |cut j e=>cases k
 |agg t=>obtain ⟨g,d,a⟩:=h;exact ⟨g,d,tC a⟩
 |hd t=>obtain ⟨b,o,g,d,a,i⟩:=h;exact ⟨b,o,g,d,a,tC i⟩
 |fn f m=>obtain ⟨l,d,a⟩:=h;exact ⟨l,d,acC a⟩
 |_=>exact h
def ad1 {a:Option Nat} {i:Nat} (h:oZ a i=aa):a=J i:=by
 unfold oZ at h
 grind [kA]
def gR.A7 {k:List Nat} {c:gR} {x:c.ty D} {s:bc D} {v:af} (q:∀(j i:Nat) (u:af),k[j]? =J i->vs[i]? =J u->vs'[j]? =J u) (n:Z4 k c s=aa) (a:gR.get X c s=J x) (h:rel X.G z vs s v):rel X.G z vs' (gR.mk X c x) v:=by
 unfold gR.get at a;split at a
 ·split at a
  ·rename_i d;cases a;subst d;exact h
  grind
 ·cases a;exact h
 ·cases a;exact h
 ·cases a;exact .inl ⟨h,rfl⟩
 ·cases a;exact .inl ⟨h,rfl⟩
 ·split at a
  ·rename_i d;cases a;subst d;exact h
  grind
 ·split at a
  ·rename_i d;split at a
   ·rename_i l;obtain ⟨f,e⟩:=d;subst f e l;cases a;exact h
   grind
  grind
 ·obtain ⟨_,a⟩:=gz a;obtain ⟨g,f,e⟩:=h;exact ⟨g,f,vl a e⟩
 ·obtain ⟨d,a⟩:=gz a;obtain ⟨b,o,g,f,e,m⟩:=h;exact ⟨b,o,g,by grind,e,vl a m⟩
 ·obtain ⟨d,a⟩:=gz a;subst d;obtain ⟨p,f,e⟩:=h;exact ⟨p,f,acw a e⟩
 ·obtain ⟨d,a⟩:=gz a;subst d;cases a;obtain ⟨w,f,e⟩:=h;exact ⟨w,⟨q _ _ _ (ad1 n) f.1,f.2⟩,e⟩
 grind
theorem cw.tn {a:Nat->Nat} {c:cw} {x:c.ty D} {w:Bool}:(cw.gO X a c x w).live=aa:=by cases c<;>rfl
theorem cw.Kc {a:Nat->Nat} {c:cw} {x:c.ty D} {w:Bool}:(cw.gO X a c x w).nd=w:=by cases c<;>first|rfl|simp[cw.gO,ba.nd]
theorem cw.u4 {c:cw} {x:c.ty D} {w:Bool}:(cw.mk X c x w).live=aa:=cw.tn
theorem lx {d e:Type} {R:d->e->Prop}:∀{l:List d} {k:List e},bP R l k↔l.length=k.length/\∀(i:Nat) (a:d) (b:e),l[i]? =J a->k[i]? =J b->R a b
 |[],[]=>by simp[bP]
 |[],_::_=>by simp[bP]
 |_::_,[]=>by simp[bP]
 |a::l,b::k=>by
  simp only[bP,lx (l:=l) (k:=k),ry];constructor
  ·grind
  ·rintro ⟨j,f⟩;exact ⟨f 0 a b rfl rfl,by omega,λi x y h g=>f (i+1) x y (by grind) (by grind)⟩
theorem B5 {b:Nat->Nat} {l:List (Nat×Nat)}:∀{cs:List (cv D)} {a i:Nat},(qi b l a cs)[i]? =(cs[i]?).map λc=>match nw l (a+i) with|some n=> .own (b n)|none=>c
 |[],a,i=>by rfl
 |c::cs,a,0=>by rfl
 |c::cs,a,i+1=>by simp only[qi,qH];rw[B5 (cs:=cs),show a+1+i=a+(i+1) by omega]
theorem ac7 {b:List (cv D)} {l:List (Nat×Nat)}:∀{cs:List (cv D)} {a i:Nat},(u6 b l a cs)[i]? =(cs[i]?).map λc=>match nw l (a+i) with|some _=>b.getD (a+i) .gE|none=>c
 |[],a,i=>by rfl
 |c::cs,a,0=>by rfl
 |c::cs,a,i+1=>by simp only[u6,qH];rw[ac7 (cs:=cs),show a+1+i=a+(i+1) by omega]
theorem Wy {b:Nat->Nat} {l:List (Nat×Nat)}:∀{cs:List (cv D)} {a:Nat},(qi b l a cs).length=cs.length
 |[],_=>rfl
 |c::cs,a=>by simp[qi,Wy (cs:=cs)]
def XE {t:Nat} (i:Nat):∃v,∀(z:Nat->bW) (a:List af),ed X.G z a ((nQ X t).getD i .gE) v:=by
 unfold nQ;cases f:X.I t with
 |none=>exact ⟨.slice ae 0 0,λz a=>rfl⟩
 |some d=>
  simp only;cases b:d.rk[i]? with
  |none=>exact ⟨.slice ae 0 0,λz a=>by rw[YV,b];rfl⟩
  |some c=>obtain ⟨v,e,_⟩:=(d.qX (λ_=> .dead) []).get i c b;refine ⟨v,λz a=> ?_⟩;rw[YV,b];exact (lx.1 (d.qX z a)).2 i c v b e
theorem adj {b:List (cv D)} {l:List (Nat×Nat)}:∀{cs:List (cv D)} {a:Nat},(u6 b l a cs).length=cs.length
 |[],_=>rfl
 |c::cs,a=>by simp[u6,adj (cs:=cs)]
def B1:∀{l:List (Nat×Nat)} {i n:Nat},nw l i=J n->(i,n)∈l
 |[],_,_,h=>by cases h
 |p::l,i,n,h=>by
  simp only[nw] at h;split at h
  ·grind [kA]
  ·exact kn _ (B1 h)
theorem KP {b:List Nat} {d:List (cv D)}:∀{l:List (Nat×Nat)},Lv b d l=aa->∀p∈l,∃i,d[p.1]? =J (.own i)/\b[p.2]? =J i
 |[],_,_,h=>by grind
 |q::l,h,p,a=>by
  simp only[Lv,fx] at h;rcases ha.1 a with rfl|a
  ·grind [oZ,kA]
  ·exact KP h.2 p a
theorem as9 {t:Nat} {x:D t}:(jl X t x).all qf=aa:=by
 unfold jl;split
 ·rename_i a _;exact a.VN x
 rfl
theorem aqH {c:cv D} {v:af} (a:qf c=aa) (h:ed X.G z vs c v) (d:∀f b,c≠ .fn f b):ed X.G z vs' c v:=by
 cases c<;>first|exact h|cases a|grind
theorem aq6 {c:cv D} {v:af} (d:qf c=aa) (h:ed X.G z vs c v):ed X.G z vs' c v:=by
 cases c with
 |fn f g=>
  cases g with
  |nil=>obtain ⟨a,e,b⟩:=h;exact ⟨a,e,by cases a with|nil=>trivial|cons _ _=>exact b.elim⟩
  |cons _ _=>cases d
 |_=>grind [aqH]
def XH (i:Nat):ba D->Prop| .box _ a _ _=> .own i∈a\/∃f b, .fn f b∈a/\i∈b|_=>False
def Lb {a:List Nat}:∀{l k:List Nat},Ji a l k=aa->bP (λn i=>a[n]? =J i) l k
 |[],[],_=>trivial
 |n::l,i::k,h=>by simp only[Ji,fx] at h;exact ⟨ad1 h.1,Lb h.2⟩
 |[],_::_,h=>by cases h
 |_::_,[],h=>by cases h
def adR {e i:Nat->Nat}:∀{a:List Nat} {b:List af},(∀n∈a,∀u,vs[e n]? =J u->vs'[i n]? =J u)->bP (sQ vs) (a.map e) b->bP (sQ vs') (a.map i) b
 |[],[],_,_=>trivial
 |[],_::_,_,h=>h.elim
 |_::_,[],_,h=>h.elim
 |n::a,g::b,d,⟨f,j⟩=>⟨⟨d n oG g f.1,f.2⟩,adR (λm k=>d m (kn _ k)) j⟩
def adS {f:List Nat} {k:Nat->Nat} (e:∀n i u,f[n]? =J i->vs[i]? =J u->vs'[k n]? =J u):∀{b d:List Nat} {a:List af},bP (λn i=>f[n]? =J i) b d->bP (sQ vs) d a->bP (sQ vs') (b.map k) a
 |[],[],[],_,_=>trivial
 |_::_,[],_,h,_=>h.elim
 |[],_::_,_,h,_=>h.elim
 |[],[],_::_,_,h=>h.elim
 |_::_,_::_,[],_,h=>h.elim
 |n::b,j::d,g::a,⟨q,m⟩,⟨l,p⟩=>⟨⟨e n j g q l.1,l.2⟩,adS e m p⟩
def cw.abB {B H:Nat->Nat} {c:cw} {x:c.ty D} {v:af} {w:Bool} (P:Bool) (h:hf X.G z e m k vs (cw.gO X B c x w) v) (C:∀n∈c.hs,XH (B n) (cw.gO X B c x w)->∀u,vs[B n]? =J u->vs'[H n]? =J u):hf X.G z e m k vs' (cw.gO X H c x P) v:=by
 cases c with
 |box t=>obtain ⟨b,g,r,j,y,q⟩:=h;exact ⟨b,g,r,j,y,tC q⟩
 |recv t=>obtain ⟨b,g,r,j,q⟩:=h;exact ⟨b,g,r,j,tC q⟩
 |bL t l=>
  obtain ⟨b,g,r,j,y,q⟩:=h;refine ⟨b,g,r,j,y,lx.2 ⟨?_,λi a d s K=> ?_⟩⟩
  ·grind [lx,Wy]
  ·rw[B5] at s;obtain ⟨R,I,s⟩:=vT.1 s;have A:=(lx.1 q).2 i _ d (by rw[B5,I];rfl) K;rw[lH] at s A;cases F:nw l i with
   |none=>
    grind [aq6,as9]
   |some n=>rw[F] at s A;subst s;exact ⟨C n (l2.2 ⟨_,B1 F,rfl⟩) (.inl (mM (i:=i) (by grind [B5]))) d A.1,A.2⟩
 |uI t f T=>
  obtain ⟨b,g,r,j,y,q⟩:=h;refine ⟨b,g,r,j,y, ?_⟩
  match g,q with
  |[d],⟨⟨N,L,M⟩,_⟩=>exact ⟨⟨N,L,adR (λn E=>C n E (.inr ⟨f,_,oG,l2.2 ⟨n,E,rfl⟩⟩)) M⟩,trivial⟩
 |ne e t=>obtain ⟨O,Q,h⟩:=h;exact ⟨O,Q,h.bT,h.len,h.oU,λp S=>by grind⟩
 |_=>exact h
def cw.y8 {a nR:Nat->Nat} {c:cw} {x:c.ty D} {v:af} {w:Bool} (b:Bool) (h:hf X.G z e m k vs (cw.gO X a c x w) v) (d:∀n∈c.hs,∀u,vs[a n]? =J u->vs'[nR n]? =J u):hf X.G z e m k vs' (cw.gO X nR c x b) v:=cw.abB b h λn f _=>d n f
def auf {e t:Nat}:ZB X.G e t ((X.N e t).map vO.up):=by
 intro f b;cases d:X.N e t with
 |none=>grind
 |some a=>rw[d] at b;cases b;exact ⟨a.cN,a.tid,a.aV⟩
theorem cw.A7 {L:List Nat} {N:Nat->Nat} {c:cw} {x:c.ty D} {o:ba D} {v:af} (f:cw.get X L c o=J x) (h:hf X.G z e m k vs o v) (F:∀n i u,L[n]? =J i->vs[i]? =J u->vs'[N n]? =J u) (w:Bool):hf X.G z e m k vs' (cw.gO X N c x w) v:=by
 unfold cw.get at f;split at f
 ·split at f
  ·rename_i g;cases f;subst g;exact h
  grind
 ·obtain ⟨g,f⟩:=gz f;subst g;obtain ⟨b,q,r,j,A,s⟩:=h;exact ⟨b,q,r,j,A,vl f s⟩
 ·obtain ⟨g,f⟩:=gz f;subst g;obtain ⟨b,q,r,j,s⟩:=h;exact ⟨b,q,r,j,vl f s⟩
 ·split at f
  ·rename_i g;split at f
   ·rename_i B;obtain ⟨r,j⟩:=B;subst g r j;cases f;exact h
   grind
  grind
 ·split at f
  ·rename_i g;split at f
   ·rename_i B;obtain ⟨r,j⟩:=g;subst r j B;cases f;exact h
   grind
  grind
 ·rename_i t l O S ez;obtain ⟨g,f⟩:=gz f;obtain ⟨rfl,Q⟩:=g;obtain ⟨b,q,r,j,A,s⟩:=h;have P:=(lx.1 s).1;have I:bP (ed X.G z vs) (u6 (nQ X O) l 0 S) ((mN q.length).map λi=>match nw l i with|some _=>YA (XE (X:=X) (t:=O) i)|none=>q.getD i undef):=by
   grind [lx,adj,ac7]
  have I:=vl (vs':=vs') f I;refine ⟨b,q,r,j,A,lx.2 ⟨by grind [Wy,lx],λi a d y M=> ?_⟩⟩;rw[B5] at y;obtain ⟨Y,bR,y⟩:=vT.1 y;rw[lH] at y;have Z:i<q.length:=(fq.1 M).1;cases K:nw l i with
  |none=>
   grind [lx]
  |some n=>rw[K] at y;subst y;obtain ⟨U,C,E⟩:=KP Q _ (B1 K);have H:=(lx.1 s).2 i _ d C M;exact ⟨F n U d E H.1,H.2⟩
 ·obtain ⟨⟨rfl,rfl,R⟩,f⟩:=gz f;obtain ⟨b,q,r,j,A,s⟩:=h;refine ⟨b,q,r,j,A, ?_⟩
  match q,s with
  |[d],⟨⟨T,C,E⟩,_⟩=>exact ⟨⟨T,C,adS F (Lb R) E⟩,trivial⟩
 ·split at f
  ·rename_i g;subst g;obtain ⟨g,f⟩:=gz f;subst g;cases f;obtain ⟨_,V,h⟩:=h;exact ⟨auf,V,h.bT,h.len,h.oU,λp bb=>by grind⟩
  grind
 grind
theorem cw.amY {e:List Nat} {c:cw} {x:c.ty D} {o:ba D} (g:cw.get X e c o=J x):∀n∈c.hs,∃i,e[n]? =J i:=by
 intro n d;unfold cw.get at g;split at g
 ·grind [cw.hs]
 ·grind [cw.hs]
 ·grind [cw.hs]
 ·grind [cw.hs]
 ·grind [cw.hs]
 ·obtain ⟨⟨_,q⟩,_⟩:=gz g;obtain ⟨p,r,rfl⟩:=l2.1 d
  grind [KP]
 ·rename_i t f y s z A w;obtain ⟨⟨_,_,m⟩,_⟩:=gz g;have:∀{l k:List Nat},bP (λn i=>e[n]? =J i) l k->∀n∈l,∃i,e[n]? =J i:=by
   intro l;induction l with
   |nil=>grind
   |cons a l j=>
    intro k h n d;cases k with
    |nil=>exact h.elim
    |cons b k=>
     rcases ha.1 d with rfl|d
     ·exact ⟨b,h.1⟩
     ·exact j h.2 n d
  exact this (Lb m) n d
 ·grind [cw.hs]
 grind
theorem cw.UL {b:List Nat} {c:cw} {x:c.ty D} {o:ba D} (a:cw.get X b c o=J x):o.live=aa:=by
 unfold cw.get at a;split at a<;>first|rfl|grind
def acH {e:Nat->Nat} {k:List (cv D)} {l:List (Nat×Nat)}:∀{cs ds:List (cv D)} {i:Nat},pR (u6 k l i cs) ds->Ci l i cs=aa->(∀j n,nw l (i+j)=J n->cs[j]? =ae\/cs[j]? =J (.own (e n)))->qi e l i ds=cs
 |[],[],_,_,_,_=>rfl
 |[],_::_,_,h,_,_=>h.elim
 |_::_,[],_,h,_,_=>h.elim
 |c::cs,d::ds,i,h,b,a=>by
  simp only[Ci,fx] at b;have f:=acH (cs:=cs) (ds:=ds) (i:=i+1) h.2 b.2 λj n p=>by have:=a (j+1) n (by grind);simpa using this
  simp only[qi,f];have g:=a 0;rw[pS] at g;cases m:nw l i with
  |some n=>
   grind
  |none=>
   have q:=h.1
   grind
theorem cw.amX {g:List Nat} {c:cw} {x:c.ty D} {o:ba D} (d:cw.get X g c o=J x) (h:c.uF o=aa):o=cw.gO X (λn=>g.getD n 0) c x o.nd:=by
 unfold cw.get at d;split at d
 ·split at d
  ·rename_i e;cases d;subst e;rfl
  grind
 ·obtain ⟨e,d⟩:=gz d;subst e;simp only[cw.gO,ba.nd];rw[<-LA d h]
 ·obtain ⟨e,d⟩:=gz d;subst e;simp only[cw.gO,ba.nd];rw[<-LA d h]
 ·split at d
  ·rename_i e;split at d
   ·rename_i m;obtain ⟨q,p⟩:=m;subst e q p;cases d;rfl
   grind
  grind
 ·split at d
  ·rename_i e;split at d
   ·rename_i m;obtain ⟨q,p⟩:=e;subst q p m;cases d;rfl
   grind
  grind
 ·rename_i t l z y A;obtain ⟨⟨rfl,s⟩,d⟩:=gz d;simp only[cw.gO,ba.nd];rw[acH (auW d) (h:Ci l 0 y=aa) λj n B=> .inr ?_];obtain ⟨i,C,E⟩:=KP s (j,n) (B1 (by grind))
  grind
 ·rename_i t f F z H I A;obtain ⟨⟨rfl,rfl,w⟩,d⟩:=gz d;have:∀{l k:List Nat},bP (λn i=>g[n]? =J i) l k->l.map (λn=>g.getD n 0)=k:=by
   intro l;induction l with
   |nil=>intro k e;cases k with
    |nil=>rfl
    |cons _ _=>exact e.elim
   |cons a l r=>
    intro k e;cases k with
    |nil=>exact e.elim
    |cons b k=>rw[rA,r e.2,YV,e.1];rfl
  simp only[cw.gO,ba.nd];rw[this (Lb w)]
 ·split at d
  ·rename_i e;subst e;obtain ⟨e,d⟩:=gz d;subst e;cases h
  grind
 grind
end
end
end
section
section
variable {P:bI} {D:Nat->Type} {X:e3 P D} {z z':Nat->bW} {e m m':Mem} {k:Option Nat} {vs vs':List af} {fr:Nat->af} {E:List (Nat×bc D)} {O cr:List (ba D)}
def b9.G3 (h:b9 X.G O z e m k vs) (len:vs'.length=cr.length) (a:Nat->Nat)
  (g:∀(i:Nat) (o:ba D),cr[i]? =J o->o.live=aa->∃p v,O[a i]? =J p/\p.live=aa/\vs[a i]? =J v/\vs'[i]? =J v/\hf X.G z e m k vs' o v)
  (L:∀(i:Nat) (o:ba D) (v:af),cr[i]? =J o->o.live=ak->vs'[i]? =J v->hf X.G z e m k vs' o v)
  (d:∀(i j:Nat) (o p:ba D),cr[i]? =J o->cr[j]? =J p->o.live=aa->p.live=aa->a i=a j->i=j):b9 X.G cr z e m k vs' where
 aS:=h.aS
 len:=len
 obj:=λi o v b f=>by
  grind
 fD:=λi j o p v w F b n q l f H=>by obtain ⟨K,M,B,C,E,r,_⟩:=g i o b q;obtain ⟨I,N,x,t,A,s,_⟩:=g j p n l;rw[f] at r;cases r;rw[H] at s;cases s;exact h.fD (a i) (a j) K I v w (λy=>F (d i j o p b n q l y)) B x C t E A
def hf.frozen {o:ba D} {v:af} (a:o.live=ak) (h:hf X.G z e m k vs o v) (d:fl z z') (f:∀(i:Nat) (u:af),vs[i]? =J u->vs'[i]? =J u):hf X.G z' e m' k vs' o v:=by
 cases o with
 |dead=>trivial
 |bh t w bZ _=>cases bZ with
  |true=>exact fA.mono d h
  |false=>cases a
 |box t r bZ _=>cases bZ with
  |true=>obtain ⟨b,l,n,j,g⟩:=h;exact ⟨b,l,n,Kp d j,pb.mono g d f⟩
  |false=>cases a
 |map t q p s bZ _=>cases bZ with
  |true=>exact nn.mono h d
  |false=>cases a
 |_=>cases a
def Cm (h:∀p∈E,rel X.G z vs p.2 (fr p.1)):fj X z vs E fr:=by
 induction E with
 |nil=>intro d;trivial
 |cons p E a=>exact (a λq b=>h q (kn _ b)).cons (h p oG)
def asY {s r:bc D} {v:af} (f:b9 X.G O z e m k vs) (h:UI O s=J (r,cr)) (d:rel X.G z vs s v):∃a,Inv O cr/\dT e.next z a/\b9 X.G cr a e m k vs/\rel X.G a vs r v:=by
 unfold UI at h;split at h
 ·split at h
  ·rename_i c C q b;cases h;exact zw f b d
  grind
 ·split at h
  ·rename_i t E x q b;cases h;obtain ⟨y,p,g⟩:=d;obtain ⟨a,i,j,l,n⟩:=K1 f b g;exact ⟨a,i,j,l,y,p,n⟩
  grind
 ·split at h
  ·rename_i B F q b;split at h
   ·rename_i A;subst A;cases h;obtain ⟨w,p,g⟩:=d;obtain ⟨a,i,j,l,n⟩:=zw (c:= .own _) f b p;exact ⟨a,i,j,l,g.avG n⟩
   grind
  grind
 grind [Inv.refl,dT.refl]
theorem arZ {i j t:Nat} {c:cv D} {a:List (cv D)} {bZ w:Bool} (h:v8 O j=J (c,cr)) (b:O[i]? =J (.box t a bZ w)):cr[i]? =J (.box t a bZ w):=by
 unfold v8 at h;split at h
 ·grind
 ·grind
 ·grind
 grind
theorem arY {i t:Nat} {c b:cv D} {a:List (cv D)} {bZ w:Bool} (h:sY O c=J (b,cr)) (d:O[i]? =J (.box t a bZ w)):cr[i]? =J (.box t a bZ w):=by
 unfold sY at h
 grind [arZ]
def adK {l:List (Nat×Nat)}:∀{p a:List (cv D)} {n:Nat} {O b:List (ba D)} {r:List af} {z:Nat->bW},b9 X.G O z e m k vs->Jw l n p O=J (a,b)->bP (ed X.G z vs) p r->
  ∃x,Inv O b/\dT e.next z x/\b9 X.G b x e m k vs/\bP (ed X.G x vs) a r/\∀(i t:Nat) (g:List (cv D)) (bZ w:Bool),O[i]? =J (.box t g bZ w)->b[i]? =J (.box t g bZ w)
 |[],a,n,O,b,[],z,y,h,_=>by cases h;grind [Inv.refl,dT.refl]
 |c::p,a,n,O,b,d::r,z,y,h,⟨P,H⟩=>by
  unfold Jw at h;split at h
  ·rename_i K q A;split at h
   ·rename_i I U Q;cases h;have j:∃f,Inv O q/\dT e.next z f/\b9 X.G q f e m k vs/\ed X.G f vs K d/\∀(i t:Nat) (g:List (cv D)) (bZ w:Bool),O[i]? =J (.box t g bZ w)->q[i]? =J (.box t g bZ w):=by
     split at A
     ·grind [Inv.refl,dT.refl]
     ·obtain ⟨f,C,s,E,F⟩:=zw y A P
      grind [arY]
    obtain ⟨f,C,s,E,F,N⟩:=j;obtain ⟨T,S,B,L,M,R⟩:=adK E Q (pb.mono H s.le λ_ _ h=>h);exact ⟨T,C.trans S,s.trans B,L,⟨ed.mono F B.le λ_ _ h=>h,M⟩,λ_ _ _ _ _ h=>R _ _ _ _ _ (N _ _ _ _ _ h)⟩
   grind
  grind
 |[],_,_,_,_,_::_,_,_,_,h=>h.elim
 |_::_,_,_,_,_,[],_,_,_,h=>h.elim
def adN {l:List (Nat×Nat)} {i:Nat} (n:b9 X.G O z e m k vs) (h:uK l O i=J cr):∃x,Inv O cr/\dT e.next z x/\b9 X.G cr x e m k vs:=by
 unfold uK at h;split at h
 ·rename_i t N w j;split at h
  ·split at h
   ·rename_i E F B;cases h;obtain ⟨v,g,b,p,s,A,y,C⟩:=n.at j;obtain ⟨q,H,I,d,K,L⟩:=adK n B C;have a:=L _ _ _ _ _ j;obtain ⟨P,S,r,f,Q,R⟩:=d.obj i _ v a g;have M:jQ q e m k b p t:=by
     rw[s] at r;cases r;exact ⟨A.blk,f.lt,f.dead,f.fresh⟩
    refine ⟨q,H.trans (Inv.set F i (.inr rfl)),I,d.pF (m':=m) a g rfl ⟨e4 _,d.aS.dead,λ_ _ _=>rfl⟩ d.aS ⟨b,p,s,M,y,K⟩⟩
   grind
  grind [Inv.refl,dT.refl]
 grind [Inv.refl,dT.refl]
def zv:∀{aQ:List dt} {O a:List (ba D)} {z:Nat->bW},b9 X.G O z e m k vs->pt E aQ O=J a->∃f,Inv O a/\dT e.next z f/\b9 X.G a f e m k vs
 |[],O,a,z,b,h=>by cases h;grind [Inv.refl,dT.refl]
 |it::aQ,O,a,z,b,h=>by
  have B:∀{l:List (Nat×Nat)} {i:Nat},(match uK l O i with|some a=>pt E aQ a|none=>ae)=J a->∃f,Inv O a/\dT e.next z f/\b9 X.G a f e m k vs:=by
   intro l i h;split at h
   ·rename_i y g;obtain ⟨A,q,r,s⟩:=adN b g;obtain ⟨x,w,p,n⟩:=zv s h;exact ⟨x,q.trans w,r.trans p,n⟩
   grind
  cases it with
  |v d c=>exact zv (aQ:=aQ) b h
  |o d c=>
   cases c with
   |box t=>
    grind [pt]
   |bL t l=>
    grind [pt]
   |_=>exact zv (aQ:=aQ) b h
  |u j c=>
   cases c with
   |box t=>grind [pt]
   |bL t l=>grind [pt]
   |_=>exact zv (aQ:=aQ) b h
def yd (X:e3 P D) (z:Nat->bW) (e:List af) (b:Nat->af):List dt->List (bc D)->Prop|[],[]=>True| .v d _::a,s::l=>rel X.G z e s (b d)/\yd X z e b a l| .o _ _::a,_::l=>yd X z e b a l| .u _ _::a,_::l=>yd X z e b a l|_,_=>False
def asZ {c:gR} {s g:bc D} {v:af} (d:b9 X.G O z e m k vs) (h:UJ c O s=J (g,cr)) (b:rel X.G z vs s v):∃a,Inv O cr/\dT e.next z a/\b9 X.G cr a e m k vs/\rel X.G a vs g v:=by
 unfold UJ at h;split at h
 ·grind [Inv.refl,dT.refl]
 ·rename_i t i A;split at h
  ·rename_i C j;split at h
   ·rename_i p F l;cases h;obtain ⟨E,w,f,x⟩:=adN d j;obtain ⟨B,y,q,n,r⟩:=KJ x (rel.mono b f.le λ_ _ h=>h) l;exact ⟨B,w.trans y,f.trans q,n,r⟩
   grind
  grind
 ·exact asY d h b
def w2:∀{aQ:List dt} {O f:List (ba D)} {l:List (bc D)} {z:Nat->bW},b9 X.G O z e m k vs->fj X z vs E fr->rL E aQ O=J (l,f)->∃i,Inv O f/\dT e.next z i/\b9 X.G f i e m k vs/\yd X i vs fr aQ l
 |[],O,f,l,z,a,b,h=>by cases h;exact ⟨z,Inv.refl _,dT.refl z,a,trivial⟩
 | .v d c::aQ,O,f,l,z,a,b,h=>by
  simp only[rL] at h;split at h
  ·rename_i s C q;split at h
   ·rename_i l1 n g;cases h;obtain ⟨F,w,p,x,y⟩:=asZ a q (b d);obtain ⟨B,A,j,r,t⟩:=w2 x (b.mono p.le λ_ _ h=>h) g;exact ⟨B,w.trans A,p.trans j,r,rel.mono y j.le λ_ _ h=>h,t⟩
   grind
  grind
 | .o d c::aQ,O,f,l,z,a,b,h=>by
  simp only[rL] at h;split at h
  ·rename_i l1 n g;cases h;exact w2 (aQ:=aQ) a b g
  grind
 | .u d c::aQ,O,f,l,z,a,b,h=>by
  simp only[rL] at h;split at h
  ·rename_i l1 n g;cases h;exact w2 (aQ:=aQ) a b g
  grind
structure yh (D:Nat->Type) where
 c:cw
 x:c.ty D
def cos:(a:List dt)->ft D a->List (yh D)|[],_=>[]| .o _ c::a,x=>⟨c,x.1⟩::cos a x.2| .v _ _::a,x=>cos a x.2| .u _ _::a,x=>cos a x.2
theorem mD:∀{aQ:List dt} {x:ft D aQ},eU X aQ x=(cos aQ x).map λq=>cw.mk X q.c q.x ak
 |[],_=>rfl
 | .o d c::aQ,x=>by show cw.mk X c x.1 ak::eU X aQ x.2=cw.mk X c x.1 ak::(cos aQ x.2).map _;rw[mD]
 | .v d c::aQ,x=>mD (aQ:=aQ)
 | .u d c::aQ,x=>mD (aQ:=aQ)
def yq (X:e3 P D) (a:List Nat) (O:List (ba D)):List Nat->List (yh D)->Prop:=bP λi q=>∃o,O[i]? =J o/\cw.get X a q.c o=J q.x
theorem zN {r:List Nat} (n:∀(j i:Nat) (u:af),r[j]? =J i->vs[i]? =J u->vs'[j]? =J u):∀{e:List dt} {l:List (bc D)} {m:List Nat} {x:ft D e},iG X r O e l m=J x->yd X z vs fr e l->∀p∈hc X e x,rel X.G z vs' p.2 (fr p.1)
 |[],_,_,_,_,_=>by simp[hc]
 | .v d c::e,[],_,_,_,h=>h.elim
 | .o d c::e,[],_,_,_,h=>h.elim
 | .u d c::e,[],_,_,_,h=>h.elim
 | .v d c::e,s::l,m,x,h,g=>by
  simp only[iG] at h;obtain ⟨t,h⟩:=gz h;split at h
  ·rename_i a b q k;cases h;intro p f;simp only[hc,ha] at f;rcases f with rfl|f
   ·exact gR.A7 n t q g.1
   ·exact zN n k g.2 p f
  grind
 | .o d c::e,s::l,[],x,h,g=>by cases h
 | .o d c::e,s::l,i::m,x,h,g=>by
  simp only[iG] at h;split at h
  ·split at h
   ·rename_i a b q k;cases h;intro p f;exact zN n k g p f
   grind
  grind
 | .u d c::e,s::l,m,x,h,g=>by
  simp only[iG] at h;split at h
  ·split at h
   ·rename_i a b q k;cases h;intro p f;exact zN n k g p f
   grind
  grind
def CG {j:List Nat}:∀{e:List dt} {l:List (bc D)} {f:List Nat} {x:ft D e},iG X j O e l f=J x->yq X j O f (cos e x)
 |[],[],[],_,_=>trivial
 |[],_::_,[],_,_=>trivial
 |[],_,_::_,_,h=>by grind [iG]
 | .v d c::e,[],_,_,h=>by grind [iG]
 | .o d c::e,[],_,_,h=>by grind [iG]
 | .u d c::e,[],_,_,h=>by grind [iG]
 | .v d c::e,s::l,f,x,h=>by
  simp only[iG] at h;obtain ⟨_,h⟩:=gz h;split at h
  ·rename_i a b k g;cases h;show yq X j O f (cos e b);exact CG g
  grind
 | .o d c::e,s::l,[],x,h=>by cases h
 | .o d c::e,s::l,i::f,x,h=>by
  simp only[iG] at h;split at h
  ·rename_i o m;split at h
   ·rename_i a b k g;cases h;exact ⟨⟨o,m,k⟩,CG g⟩
   grind
  grind
 | .u d c::e,s::l,f,x,h=>by
  simp only[iG] at h;split at h
  ·split at h
   ·rename_i a b k g;cases h;show yq X j O f (cos e b);exact CG g
   grind
  grind
def ab' {i:Nat} {l:List Nat} (h:tE (i::l)=aa):i∉l/\tE l=aa:=by
 simp only[tE,fx,Aq,List.any_eq_false] at h;refine ⟨λa=> ?_,h.2⟩;exact h.1 i a (by simp)
theorem We:∀{l:List Nat},tE l=aa->∀(a b i:Nat),l[a]? =J i->l[b]? =J i->a=b
 |[],_,a,b,i,h,_=>by grind
 |x::l,h,a,b,i,e,d=>by
  obtain ⟨g,f⟩:=ab' h;cases a with
  |zero=>
   grind
  |succ a=>
   cases b with
   |zero=>
    grind
   |succ b=>simp at e d;rw[We f a b i e d]
def Y3 (X:e3 P D) (a:List Nat) (O:List (ba D)):List Nat->List (yh D)->Prop:=bP λi q=>∃w,O[i]? =J (cw.gO X (λn=>a.getD n 0) q.c q.x w)
def atl {f:List Nat} (b:b9 X.G O z e m k vs) {i:Nat} {o:ba D} {c:cw} {x:c.ty D} (d:O[i]? =J o) (s:cw.get X f c o=J x) (w:Bool):b9 X.G (O.set i (cw.gO X (λn=>f.getD n 0) c x w)) z e m k vs:=by
 obtain ⟨v,q,t⟩:=b.at d;have r:=(fq.1 d).1;refine b.G3 (by rw[List.length_set];exact b.len) id (λj p a l=> ?_) (λj p u a l g=> ?_) (λi j _ _ _ _ _ _ h=>h)
 ·rw[ll] at a;split at a
  ·grind [cw.UL,cw.A7]
  ·obtain ⟨u,g,y⟩:=b.at a
   grind
 ·rw[ll] at a;split at a
  ·grind [cw.tn]
  ·exact b.obj j p u a g
def aez {b:List Nat} {i:Nat} {p:ba D}:∀{a:List Nat} {C:List (yh D)},yq X b O a C->i∉a->yq X b (O.set i p) a C
 |[],[],_,_=>trivial
 |j::a,q::C,⟨⟨o,g,e⟩,d⟩,f=>by
  refine ⟨⟨o, ?_,e⟩,aez d λh=>f (kn _ h)⟩
  grind
 |[],_::_,h,_=>h.elim
 |_::_,[],h,_=>h.elim
theorem ar5 {b:Type} {l:List b} {i:Nat} {a:b} (h:l[i]? =J a):l.set i a=l:=by
 apply rv
 grind
def Ll {f:List Nat}:∀{aQ:List dt} {x:ft D aQ} {bO:List Nat} {O:List (ba D)},b9 X.G O z e m k vs->yq X f O bO (cos aQ x)->tE bO=aa->
  Inv O (mY X f aQ x bO O)/\b9 X.G (mY X f aQ x bO O) z e m k vs/\Y3 X f (mY X f aQ x bO O) bO (cos aQ x)/\∀i,i∉bO->(mY X f aQ x bO O)[i]? =O[i]?
 |[],x,[],O,a,_,_=>⟨Inv.refl _,a,trivial,λ_ _=>rfl⟩
 |[],x,_::_,O,a,h,_=>h.elim
 | .v d c::aQ,x,bO,O,a,h,b=>by
  have:=Ll (aQ:=aQ) (x:=x.2) (bO:=bO) a h b
  grind [mY,cos]
 | .u d c::aQ,x,bO,O,a,h,b=>by
  have:=Ll (aQ:=aQ) (x:=x.2) (bO:=bO) a h b
  grind [mY,cos]
 | .o d c::aQ,x,[],O,a,h,b=>h.elim
 | .o d c::aQ,x,i::bO,O,a,⟨⟨o,g,n⟩,l⟩,b=>by
  obtain ⟨w,t⟩:=ab' b;have s:=atl a g n (zF c O i);obtain ⟨p,q,r,B⟩:=Ll (aQ:=aQ) (x:=x.2) (bO:=bO) s (aez l w) t;have y:=(fq.1 g).1;refine ⟨Inv.trans ?_ p,q,⟨⟨zF c O i, ?_⟩,r⟩,λj A=> ?_⟩
  ·grind [zF,Inv.set,cw.Kc,cw.amX,ar5,Inv.refl]
  ·grind [mY]
  grind [mY]
theorem zx {a:Option Nat} {i:Nat} (h:oZ a i=aa):a=J i:=by
 unfold oZ at h
 grind [kA]
def Wz {i j a:Nat} {v:af} (g:∀u,vs[i]? =J u->vs'[j]? =J u) (h:lU X.G z vs [.own i] a v):lU X.G z vs' [.own j] a v:=by
 obtain ⟨b,o,f,m,l,k⟩:=h;refine ⟨b,o,f,m,l, ?_⟩
 match f,k with
 |[d],⟨e,_⟩=>exact ⟨⟨g _ e.1,e.2⟩,trivial⟩
def ada {i j t d:Nat} {a:List af} (b:∀u,vs[i]? =J u->vs'[j]? =J u) (h:bP (λc g=>lU X.G z vs c.2 0 g) [(t,[.own i])] a):bP (λc g=>lU X.G z vs' c.2 0 g) [(d,[.own j])] a:=by
 match a,h with
 |[g],⟨e,_⟩=>exact ⟨Wz b e,trivial⟩
def Xi {m:List Nat} {s p:bc D} {v:af} (n:Nat->Nat) (h:wa m s p=aa) (a:rel X.G z vs p v) (f:∀(j i:Nat) (u:af),m[j]? =J i->vs[i]? =J u->vs'[n j]? =J u):rel X.G z vs' (pE n s) v:=by
 unfold wa at h;split at h
 ·exact ⟨f _ _ _ (zx h) a.1,a.2⟩
 ·simp only[fx] at h;obtain ⟨b,d,e⟩:=a;have:=kA h.2;subst this;exact ⟨b,f _ _ _ (zx h.1) d,e⟩
 ·obtain ⟨b,l,d,e⟩:=a;exact ⟨b,l,f _ _ _ (zx h) d,e⟩
 ·exact a
 ·exact a
 ·exact a
 ·exact a
 ·trivial
 ·simp only[fx,decide_eq_true_eq,beq_iff_eq] at h;obtain ⟨rfl,rfl⟩:=h;exact a
 ·have:=eq_of_beq h;subst this;exact a
 ·have:=kA h;subst this;obtain ⟨g,d,e⟩:=a;refine ⟨g,d, ?_⟩;cases g with
  |nil=>trivial
  |cons _ _=>exact e.elim
 ·simp only[fx] at h;obtain ⟨d,e,k⟩:=h;have:=kA k;subst this;exact Wz (f _ _ · (zx d)) a
 ·simp only[fx] at h;obtain ⟨d,e,k⟩:=h;have:=kA k;subst this;obtain ⟨g,q,r⟩:=a;exact ⟨g,q,ada (f _ _ · (zx d)) r⟩
 grind
theorem Lp (s:bc D):pE id s=s:=by
 unfold pE
 grind
structure YC (X:e3 P D) (aQ:List dt) (fg:List (Nat×bc D)) (x:ft D aQ) (bO:List Nat) (dz:List (ba D)) (z:Nat->bW) (e m:Mem) (k:Option Nat) (vs dB:List af) (fr:Nat->af):Prop where
 abC:b9 X.G dz z e m k vs
 abD:b9 X.G (eU X aQ x) z e m k dB
 afm:fj X z dB (hc X aQ x++fg) fr
 r5:tE bO=aa
 wQ:Y3 X bO dz bO (cos aQ x)
 len:dB.length=bO.length
 ep:∀(j i:Nat),bO[j]? =J i->∃u,dB[j]? =J u/\vs[i]? =J u
 gt:∀q∈cos aQ x,∀n∈q.c.hs,∃i,bO[n]? =J i
def atr {b:List dt} {M:List (Nat×bc D)} {x:ft D b} {a:List Nat} {C:List (ba D)} (T:b9 X.G O z e m k vs) (K:fj X z vs E fr) (h:Lu X b M E O=J (x,a,C)):
  ∃R dB,Inv O C/\dT e.next z R/\YC X b M x a C R e m k vs dB fr:=by
 unfold Lu at h;split at h
 ·rename_i cX cu azo bF bl;split at h
  ·rename_i r;simp only[fx] at r;split at h
   ·rename_i jL Y;cases h;obtain ⟨L,g0,N,g2,g3⟩:=w2 T K bF;have H:=CG Y;obtain ⟨tp,t,l,Z⟩:=Ll g2 H r.1;have Q:∀(j i:Nat),a[j]? =J i->∃u,(a.map λi=>vs.getD i undef)[j]? =J u/\vs[i]? =J u:=by
     intro j i d;obtain ⟨q,_,w,F⟩:=l.get j i d;obtain ⟨v,aD,_⟩:=t.at F
     grind
    have P:(eU X b x).length=a.length:=by rw[mD,ug];exact l.length.symm
    have y:∀(j:Nat) (f:ba D),(eU X b x)[j]? =J f->∃i q,q∈cos b x/\f=cw.mk X q.c q.x ak/\a[j]? =J i/\∃w,(mY X a b x a cu)[i]? =J (cw.gO X (λn=>a.getD n 0) q.c q.x w):=by
     intro j f d;have cF:=(fq.1 d).1;have g:a[j]? =J (a[j]'(by omega)):=mm (by omega);obtain ⟨q,fo,w,k4⟩:=l.get j _ g
     grind [mD]
    have rU:∀q∈cos b x,∀n∈q.c.hs,∃i,a[n]? =J i:=by
     intro q I;obtain ⟨j,d,he⟩:=List.mem_iff_getElem.1 I;have V:(cos b x)[j]? =J q:=by grind
     have g:a[j]? =J (a[j]'(by rw[H.length];grind)):=mm _;obtain ⟨ka,cL,o,_,c9⟩:=H.get j _ g
     grind [cw.amY]
    refine ⟨L,a.map λi=>vs.getD i undef,g0.trans tp,N,t, ?_, ?_,r.1,l,by simp,Q,rU⟩
    ·refine t.G3 (by grind) (λj=>a.getD j 0) (λj f d U=> ?_) (λj f u d U hu=> ?_) (λi j o p az d _ _ hq=> ?_)
     ·obtain ⟨i,q,I,rfl,g,w,F⟩:=y j f d;obtain ⟨u,A,B⟩:=Q j i g;have bg:a.getD j 0=i:=by grind
      refine ⟨_,u,by rw[bg];omega,cw.tn,by grind,A, ?_⟩;have:=t.obj i _ u F B;refine cw.y8 ak this λn bB xz oS=> ?_
      grind
     ·grind [cw.u4]
     grind [We]
    ·refine Cm λp s=> ?_;rcases kU.1 s with s|s
     ·grind [zN]
     ·have S:=iA.1 r.2 p s;have:=Xi (X:=X) (z:=L) (vs:=vs) (vs':=a.map λi=>vs.getD i undef) id S ((K.mono N.le λ_ _ h=>h) p.1) λj i u d hu=>by
       grind
      grind [Lp]
   grind
  grind
 grind
def ae4 {a:List dt} {f:List (Nat×bc D)} {x:ft D a} {d:List Nat} {b:List (ba D)} (j:b9 X.G O z e m k vs) (n:fj X z vs E fr) (h:sl X a f E O=J (x,d,b)):
  ∃i dB,Inv O b/\dT e.next z i/\YC X a f x d b i e m k vs dB fr:=by
 unfold sl at h;split at h
 ·rename_i A l;obtain ⟨y,r,g,s⟩:=zv j l;obtain ⟨w,dB,t,q,p⟩:=atr s (n.mono g.le λ_ _ h=>h) h;exact ⟨w,dB,r.trans t,g.trans q,p⟩
 grind
def ae0 (E:List (Nat×bc D)) (O:List (ba D)) (q a:Nat):Option (Nat×Nat×List (cv D)×Bool):=
 match eI E q with
 | .box i 0=>(match O[i]? with|some (.box t b ak w)=>(match b[a]? with|some .gE=>J (i,t,b,w)|_=>ae)|_=>ae)
 |_=>ae
def jJ:List dt->List (Nat×bc D)->List (ba D)->List (Nat×bc D)×List (ba D)
 | .o d (.bh t)::a,E,O=>
  if mn d rF=aa then (match eI E d with| .c .gE=>jJ a ((d, .c (.own O.length))::E) (O++[.bh t [] ak ak])|_=>jJ a E O)
  else (match ae0 E O ((d - rF) / 1000) ((d - rF)%1000) with|some (i,u,b,_)=>jJ a E (O.set i (.box u (b.set ((d - rF)%1000) (.own O.length)) ak aa)++[.bh t [] ak ak])|none=>jJ a E O)
 | .o d (.ne e t)::a,E,O=>if mn d rF=aa then (match eI E d with| .c .gE=>jJ a ((d, .c (.own O.length))::E) (O++[.nest e t ae [] ae ak])|_=>jJ a E O) else jJ a E O
 |_::a,E,O=>jJ a E O
 |[],E,O=>(E,O)
def mf:∀{aQ:List dt} {E:List (Nat×bc D)} {O:List (ba D)} {n:List af},b9 X.G O z e m k n->fj X z n E fr->∃r,Inv O (jJ aQ E O).2/\(∀(i:Nat) (u:af),n[i]? =J u->r[i]? =J u)/\b9 X.G (jJ aQ E O).2 z e m k r/\fj X z r (jJ aQ E O).1 fr
 |[],E,O,n,g,l=>⟨n,Inv.refl _,λ_ _ h=>h,g,l⟩
 | .v _ _::aQ,E,O,n,g,l=>mf (aQ:=aQ) g l
 | .u _ _::aQ,E,O,n,g,l=>mf (aQ:=aQ) g l
 | .o _ (.box _)::aQ,E,O,n,g,l=>mf (aQ:=aQ) g l
 | .o _ (.recv _)::aQ,E,O,n,g,l=>mf (aQ:=aQ) g l
 | .o _ (.arr _ _ _)::aQ,E,O,n,g,l=>mf (aQ:=aQ) g l
 | .o _ (.map _ _ _)::aQ,E,O,n,g,l=>mf (aQ:=aQ) g l
 | .o _ (.bL _ _)::aQ,E,O,n,g,l=>mf (aQ:=aQ) g l
 | .o _ (.uI _ _ _)::aQ,E,O,n,g,l=>mf (aQ:=aQ) g l
 | .o d (.ne eV t)::aQ,E,O,n,g,l=>by
  have I:b9 X.G (O++[.nest eV t ae [] ae ak]) z e m k (n++[.slice ae 0 0]):=by refine g.push (q:=ae) ⟨e4 _,g.aS.dead,λ_ _ _=>rfl⟩ g.aS (λ_ _ _ _ _ _=>e6.qg) ?_ λ_ _ _=>e6.qg;exact ⟨λf bF=>(by grind),[],⟨⟨.inl ⟨rfl,rfl⟩,λb x=>(by cases x)⟩,rfl,λj w xs h=>(by grind),λp bb=>(by grind)⟩⟩
  unfold jJ;split
  ·split
   ·rename_i M;have s:=l d;rw[M] at s;have s:fr d= .slice ae 0 0:=s;obtain ⟨r,A,B,C,F⟩:=mf (aQ:=aQ) (E:=(d, .c (.own O.length))::E) I ((l.mono (fl.refl z) j0).cons ⟨by rw[s,<-g.len];simp,by rw[s];rfl,by rw[s];rfl⟩);exact ⟨r,(Inv.push O _).trans A,λi u H=>B i u (j0 i u H),C,F⟩
   ·exact mf (aQ:=aQ) g l
  ·exact mf (aQ:=aQ) g l
 | .o d (.bh t)::aQ,E,O,n,g,l=>by
  have I:∀{O:List (ba D)},b9 X.G O z e m k n->b9 X.G (O++[.bh t [] ak ak]) z e m k (n++[.slice ae 0 0]):=λ{O} g=>by refine g.push (q:=ae) ⟨e4 _,g.aS.dead,λ_ _ _=>rfl⟩ g.aS (λ_ _ _ _ _ _=>e6.qg) ?_ λ_ _ _=>e6.qg;exact (⟨.inl ⟨rfl,rfl⟩,λb x=>by cases x⟩:dU (X.G.T t) z e m k [] (.slice ae 0 0))
  unfold jJ;split
  ·split
   ·rename_i M;have s:=l d;rw[M] at s;have s:fr d= .slice ae 0 0:=s;obtain ⟨r,A,B,C,F⟩:=mf (aQ:=aQ) (E:=(d, .c (.own O.length))::E) (I g) ((l.mono (fl.refl z) j0).cons ⟨by rw[s,<-g.len];simp,by rw[s];rfl,by rw[s];rfl⟩);exact ⟨r,(Inv.push O _).trans A,λi u H=>B i u (j0 i u H),C,F⟩
   ·exact mf (aQ:=aQ) g l
  ·generalize (d - rF) / 1000=q;generalize (d - rF)%1000=off;split
   ·rename_i i u y w bB;have x:O[i]? =J (.box u y ak w)/\y[off]? =J .gE:=by
     grind [ae0]
    obtain ⟨v,R,b,Z,h1,U,S,Y⟩:=g.at x.1;have N:=I g;have az:=(fq.1 x.1).1;have Q:O.set i (.box u (y.set off (.own O.length)) ak aa)++[(.bh t [] ak ak:ba D)]=(O++[(.bh t [] ak ak:ba D)]).set i (.box u (y.set off (.own O.length)) ak aa):=by
     grind
    have P:b9 X.G (O.set i (.box u (y.set off (.own O.length)) ak aa)++[.bh t [] ak ak]) z e m k (n++[.slice ae 0 0]):=by
     rw[Q];refine N.pF (m':=m) (v:=v) (o:= .box u y ak w) (by grind) (j0 _ _ R) rfl ⟨e4 _,g.aS.dead,λ_ _ _=>rfl⟩ g.aS ?_;refine ⟨b,Z,h1,U,S,lx.2 ⟨by grind [lx],λj a d K s=> ?_⟩⟩;rw[ll] at K;split at K
     ·rename_i V;split at K
      ·cases K;subst V;have L:d= .slice ae 0 0:=(lx.1 Y).2 off _ d x.2 s;exact ⟨by rw[L,<-g.len];simp,by rw[L];rfl,by rw[L];rfl⟩
      grind
     grind [ed.mono,lx,fl.refl]
    obtain ⟨r,A,B,C,F⟩:=mf (aQ:=aQ) (E:=E) P (l.mono (fl.refl z) j0);exact ⟨r,((Inv.set O i (.inr rfl)).trans (Inv.push _ _)).trans A,λi u H=>B i u (j0 i u H),C,F⟩
   ·exact mf (aQ:=aQ) g l
end
end
section
structure lF (D:Nat->Type) where
 ex:fG
 outs:List dt
 fg:List (Nat×bc D)
noncomputable section
section
variable {P:bI} {D:Nat->Type}
def mz (D:Nat->Type):List dt->Type|[]=>Unit|[i]=>i.ty D|i::j::a=>i.ty D×mz D (j::a)
def Mn:(a:List dt)->ft D a->mz D a|[],_=>()|[_],x=>x.1|_::j::b,x=>(x.1,Mn (j::b) x.2)
def gn:(a:List dt)->mz D a->ft D a|[],_=>()|[_],y=>(y,())|_::j::b,y=>(y.1,gn (j::b) y.2)
def so:List (lF D)->Type|[]=>Empty|[x]=>mz D x.outs|x::y::a=>mz D x.outs⊕so (y::a)
def Jb {d:Type}:(g:List (lF D))->so g->((x:lF D)->mz D x.outs->d)->d
 |[],e,_=>nomatch (e:Empty)
 |[x],y,k=>k x y
 |x::y::f,r,k=>match (r:mz D x.outs⊕so (y::f)) with| .inl a=>k x a| .inr b=>Jb (y::f) b k
variable (X:e3 P D)
def aeI (n:Nat):ba D->Bool
 | .box _ a _ _=>a.all λc=>match c with| .own i=>mn i n| .fn _ b=>b.all λi=>mn i n|_=>aa
 |_=>aa
def Cs (n:Nat) (O:List (ba D)):Nat->List Nat->Bool
 |_,[]=>aa
 |j,k::a=>(if k=1 then (match O[j]? with|some o=>o.live&& !o.nd&&aeI n o|none=>ak) else aa)&&Cs n O (j+1) a
def X3 (n:Nat) (d:List Nat) (x:lF D) (E:List (Nat×bc D)) (O:List (ba D)):Option (mz D x.outs):=match rL E x.outs O,I9 E O x.outs with|some (e,b),J a=>if tE a&&(a.all λi=>iJ n i||fi (d.getD i 0) 0)&&Cs n b 0 d&&x.fg.all λp=>wa (mN n++a) p.2 (eI E p.1) then match iG X (mN n++a) b x.outs e a with|some y=>J (Mn x.outs y)|none=>ae else ae|_,_=>ae
def xv (n:Nat) (b:List Nat) (x:lF D) (E:List (Nat×bc D)) (O:List (ba D)):Option (mz D x.outs):=match pt (jJ x.outs E O).1 x.outs (jJ x.outs E O).2 with|some a=>X3 X n b x (jJ x.outs E O).1 a|none=>ae
def sk (n:Nat) (d:List Nat):(f:List (lF D))->fG->List (Nat×bc D)->List (ba D)->Option (so f)
 |[],_,_,_=>ae
 |[x],e,E,O=>if e=x.ex then xv X n d x E O else ae
 |x::y::g,e,E,O=>if e=x.ex then (match xv X n d x E O with|some a=>J (Sum.inl a)|none=>ae) else (match sk n d (y::g) e E O with|some b=>J (Sum.inr b)|none=>ae)
def kc (b:Nat->Nat):(a:List dt)->ft D a->Nat->ba D| .u i c::a,x,j=>if fi i j=aa then cw.gO X b c x.1 aa else kc b a x.2 j| .v _ _::a,x,j=>kc b a x.2 j| .o _ _::a,x,j=>kc b a x.2 j|[],_,_=> .dead
def wE (n:Nat):Nat:=n
def o0 (a:List dt) (y:ft D a):Nat->List Nat->List (ba D)->List (ba D)|i,k::b,o::O=>(if k=1 then o else if k=2 then kc X wE a y i else .dead)::o0 a y (i+1) b O|i,[],o::O=> .dead::o0 a y (i+1) [] O|_,_,[]=>[]
def ly (b:List Nat) (d:List (ba D)) (a:List dt) (y:ft D a):List (ba D):=o0 X a y 0 b d++eU X a y
end
section
variable {P:bI} {D:Nat->Type} {X:e3 P D} {z z':Nat->bW} {e m m':Mem} {k:Option Nat} {vs vs':List af} {fr:Nat->af} {E:List (Nat×bc D)} {O cr:List (ba D)}
def ae1:∀{aQ:List dt} (x:ft D aQ),gn aQ (Mn aQ x)=x
 |[],_=>rfl
 |[_],_=>rfl
 |_::j::a,x=>by show (x.1,gn (j::a) (Mn (j::a) x.2))=x;rw[ae1 (aQ:=j::a) x.2];rfl
def KG {n:Nat} {j:List Nat} {i:fG}:∀{e:List (lF D)} {d:so e},sk X n j e i E O=J d->∃x y,x∈e/\i=x.ex/\xv X n j x E O=J y/\∀{k:Type} (K:(x:lF D)->mz D x.outs->k),Jb e d K=K x y
 |[],_,h=>by cases h
 |[x],d,h=>by obtain ⟨g,f⟩:=gz h;exact ⟨x,d,oG,g,f,λ_=>rfl⟩
 |x::y::w,d,h=>by
  simp only[sk] at h;split at h
  ·rename_i m;split at h
   ·rename_i a q;cases h;exact ⟨x,a,oG,m,q,λ_=>rfl⟩
   grind
  ·split at h
   ·rename_i b p;cases h;obtain ⟨s,t,g,f,l,r⟩:=KG p;exact ⟨s,t,kn _ g,f,l,λK=>r K⟩
   grind
def KV {m:List Nat} {n:Nat}:∀{aQ:List dt} {l:List (bc D)} {g:List Nat} {x:ft D aQ} {j:Nat},iG X m O aQ l g=J x->(∀e,kc X e aQ x j= .dead)\/∃c y o,O[j]? =J o/\cw.get X m c o=J y/\∀e,kc X e aQ x j=cw.gO X e c y aa
 |[],_,_,_,_,_=> .inl λ_=>rfl
 | .v d c::aQ,[],_,_,_,h=>by grind [iG]
 | .o d c::aQ,[],_,_,_,h=>by grind [iG]
 | .u d c::aQ,[],_,_,_,h=>by grind [iG]
 | .v d c::aQ,s::l,g,x,j,h=>by
  simp only[iG] at h;obtain ⟨_,h⟩:=gz h;split at h
  ·rename_i a b k f;cases h;exact KV (n:=n) (aQ:=aQ) f
  grind
 | .o d c::aQ,s::l,[],x,j,h=>by cases h
 | .o d c::aQ,s::l,i::g,x,j,h=>by
  simp only[iG] at h;split at h
  ·split at h
   ·rename_i a b k f;cases h;exact KV (n:=n) (aQ:=aQ) f
   grind
  grind
 | .u d c::aQ,s::l,g,x,j,h=>by
  simp only[iG] at h;split at h
  ·rename_i o p;split at h
   ·rename_i a b k f;cases h;by_cases r:fi d j=aa
    ·have:=kA r;subst this;refine .inr ⟨c,a,o,p,k,λe=> ?_⟩;show (if fi d d=aa then cw.gO X e c a aa else _)=_
     grind
    ·have q:∀e,kc X e (.u d c::aQ) (a,b) j=kc X e aQ b j:=λe=>by
      show (if fi d j=aa then cw.gO X e c a aa else _)=_
      grind
     simp only[q];exact KV (n:=n) (aQ:=aQ) (j:=j) f
   grind
  grind
def dt.hs:dt->List Nat| .v _ _=>[]| .o _ c=>c.hs| .u _ c=>c.hs
def dt.y9:dt->Bool| .v _ c=>c.y9|_=>aa
def tx:∀{aQ:List dt} {x:ft D aQ} {j:Nat},(∀a,kc X a aQ x j= .dead)\/∃d c y,dt.u d c∈aQ/\∀a,kc X a aQ x j=cw.gO X a c y aa
 |[],_,_=> .inl λ_=>rfl
 | .v d c::aQ,x,j=>by
  rcases tx (aQ:=aQ) (x:=x.2) (j:=j) with h|⟨d,c,y,e,b⟩
  ·exact .inl h
  ·exact .inr ⟨d,c,y,kn _ e,b⟩
 | .o d c::aQ,x,j=>by
  rcases tx (aQ:=aQ) (x:=x.2) (j:=j) with h|⟨d,c,y,e,b⟩
  ·exact .inl h
  ·exact .inr ⟨d,c,y,kn _ e,b⟩
 | .u d c::aQ,x,j=>by
  by_cases f:fi d j=aa
  ·exact .inr ⟨d,c,x.1,oG,λa=>if_pos f⟩
  ·have g:∀a,kc X a (.u d c::aQ) x j=kc X a aQ x.2 j:=λa=>if_neg f;simp only[g];rcases tx (aQ:=aQ) (x:=x.2) (j:=j) with h|⟨d,c,y,e,b⟩
   ·grind
   ·exact .inr ⟨d,c,y,kn _ e,b⟩
def xc:∀{aQ:List dt} {x:ft D aQ} {o:ba D},o∈eU X aQ x->∃d c y,dt.o d c∈aQ/\o=cw.mk X c y ak
 |[],_,_,h=>by grind [eU]
 | .v d c::aQ,x,o,h=>let ⟨d,c,y,b,a⟩:=xc (aQ:=aQ) (x:=x.2) h;⟨d,c,y,kn _ b,a⟩
 | .u d c::aQ,x,o,h=>let ⟨d,c,y,b,a⟩:=xc (aQ:=aQ) (x:=x.2) h;⟨d,c,y,kn _ b,a⟩
 | .o d c::aQ,x,o,h=>by
  simp only[eU,ha] at h;rcases h with rfl|h
  ·exact ⟨d,c,x.1,oG,rfl⟩
  ·obtain ⟨d,c,y,b,a⟩:=xc (aQ:=aQ) (x:=x.2) h
   grind
theorem zB:∀{aQ:List dt} {x:ft D aQ} {p:Nat×bc D},p∈hc X aQ x->∃d c y,dt.v d c∈aQ/\p.2=gR.mk X c y
 |[],_,_,h=>by grind [hc]
 | .o d c::aQ,x,o,h=>by
  obtain ⟨f,b,y,e,a⟩:=zB (aQ:=aQ) (x:=x.2) h
  grind
 | .u d c::aQ,x,o,h=>by
  obtain ⟨f,b,y,e,a⟩:=zB (aQ:=aQ) (x:=x.2) h
  grind
 | .v d c::aQ,x,o,h=>by
  simp only[hc,ha] at h;rcases h with rfl|h
  ·exact ⟨d,c,x.1,oG,rfl⟩
  ·obtain ⟨f,b,y,e,a⟩:=zB (aQ:=aQ) (x:=x.2) h
   grind
theorem q5 {a:List dt} {y:ft D a}:∀{i:Nat} {b:List Nat} {O:List (ba D)},(o0 X a y i b O).length=O.length
 |i,[],[]=>rfl
 |i,_::_,[]=>rfl
 |i,k::b,o::O=>by simp[o0,q5]
 |i,[],o::O=>by simp[o0,q5]
theorem xd {outs:List dt} {y:ft D outs}:∀{i:Nat} {ks:List Nat} {O:List (ba D)} {j:Nat} {o:ba D},O[j]? =J o->(o0 X outs y i ks O)[j]? =J (if ks.getD j 0=1 then o else if ks.getD j 0=2 then kc X wE outs y (i+j) else .dead)
 |i,ks,[],j,o,h=>by grind
 |i,k::ks,p::O,0,o,h=>by grind [o0]
 |i,k::ks,p::O,j+1,o,h=>by
  simp only[qH] at h;have:=xd (outs:=outs) (y:=y) (i:=i+1) (ks:=ks) h
  grind [o0]
 |i,[],p::O,0,o,h=>by rfl
 |i,[],p::O,j+1,o,h=>by
  simp only[qH] at h;have:=xd (outs:=outs) (y:=y) (i:=i+1) (ks:=[]) h
  grind [o0]
theorem aru {n:Nat} {o:ba D} (h:aeI n o=aa):∀i,XH i o->i<n:=by
 intro i a;cases o with
 |box t b bZ w=>
  rcases a with a|⟨f,e,a,d⟩
  ·have:=iA.1 h _ a;simp_all
  ·have:=iA.1 h _ a;simp_all
 |_=>exact a.elim
def ac3 {n:Nat}:∀{a:List Nat} {i j:Nat},Cs n O i a=aa->a.getD j 0=1->∃o,O[i+j]? =J o/\o.live=aa/\o.nd=ak/\∀i,XH i o->i<n
 |[],i,j,_,h=>by grind
 |k::a,i,0,b,h=>by
  grind [Cs,aru]
 |k::a,i,j+1,b,h=>by
  simp only[Cs,fx] at b;simp only[List.getD_cons_succ] at h;obtain ⟨o,e,d⟩:=ac3 b.2 h
  grind
def arn {d:List dt} {g:List Nat} {x:ft D d} {f:lF D} {y:mz D f.outs} {dB:List af} (az:Inv (eU X d x) O) (aD:∀(i:Nat) (u:af),dB[i]? =J u->vs[i]? =J u) (hV:dB.length=(eU X d x).length)
  (aN:b9 X.G O z e m k vs) (bp:fj X z vs E fr) (h:X3 X dB.length g f E O=J y):
  ∃z' ep,dT e.next z z'/\b9 X.G (ly X g (eU X d x) f.outs (gn _ y)) z' e m k (dB++ep)/\∀p∈hc X f.outs (gn _ y)++f.fg,rel X.G z' (dB++ep) p.2 (fr p.1):=by
 unfold X3 at h;split at h
 ·rename_i cX cu b bF bl;split at h
  ·rename_i ay;simp only[fx] at ay;obtain ⟨⟨⟨c1,c2⟩,yA⟩,ZP⟩:=ay;split at h
   ·rename_i B aw;cases h;rw[ae1];obtain ⟨dv,g0,g1,L,g3⟩:=w2 aN bp bF;have Y:=CG aw;have kL:=az.trans g0;have S:∀(j i:Nat),b[j]? =J i->∃u,(b.map λi=>vs.getD i undef)[j]? =J u/\vs[i]? =J u:=by
     intro j i t;obtain ⟨q,_,o,a,_⟩:=Y.get j i t;obtain ⟨v,aD,_⟩:=L.at a
     grind
    have hlen:(eU X f.outs B).length=b.length:=by rw[mD,ug];exact Y.length.symm
    have P:∀(j:Nat) (o:ba D),(ly X g (eU X d x) f.outs B)[j]? =J o->
      (j<dB.length/\∃M,(eU X d x)[j]? =J M/\o=(if g.getD j 0=1 then M else if g.getD j 0=2 then kc X wE f.outs B j else .dead))\/
      (dB.length<=j/\(eU X f.outs B)[j - dB.length]? =J o):=by
     grind [ly,q5,xd]
    have R:∀(j:Nat) (u:af),j<dB.length->vs[j]? =J u->(dB++b.map λi=>vs.getD i undef)[j]? =J u:=by
     grind
    have rU:∀(n i:Nat) (u:af),(mN dB.length++b)[n]? =J i->vs[i]? =J u->(dB++b.map λi=>vs.getD i undef)[n]? =J u:=by
     grind
    refine ⟨dv,b.map λi=>vs.getD i undef,g1, ?_, ?_⟩
    ·refine L.G3 ?_ (λj=>if j<dB.length then j else b.getD (j - dB.length) 0) (λj o t I=> ?_) (λj o u t I U=> ?_) (λi j o p fm t aaS aaT hq=> ?_)
     ·grind [ly,q5]
     ·rcases P j o t with ⟨A,M,Q,a⟩|⟨hA,a⟩
      ·simp only[if_pos A];by_cases H:g.getD j 0=1
       ·rw[if_pos H] at a;subst a;obtain ⟨p,l,r,Z,V0⟩:=ac3 yA H;rw[lH] at l;have:=kL.ew j p (by omega) l r Z;rw[Q] at this;cases this;obtain ⟨v,s,N⟩:=L.at l;obtain ⟨_,c,w,_,rfl⟩:=xc (mM Q);exact ⟨_,v,l,r,s,R j v A s,cw.abB ak N λn _ a u U=>R n u (V0 n a) U⟩
       ·rw[if_neg H] at a;by_cases K:g.getD j 0=2
        ·rw[if_pos K] at a;rcases KV (n:=0) (j:=j) aw with F|⟨c,w,p,l,r,Z⟩
         ·rw[a,F] at I;cases I
         ·obtain ⟨v,s,N⟩:=L.at l;refine ⟨p,v,l,cw.UL r,s,R j v A s, ?_⟩;rw[a,Z];exact cw.A7 r N rU aa
        ·rw[if_neg K] at a;rw[a] at I;cases I
      ·have bB:¬j<dB.length:=by omega
       simp only[if_neg bB];have A:=(fq.1 a).1;have T:b[j - dB.length]? =J (b[j - dB.length]'(by omega)):=mm (by omega);obtain ⟨q,fv,p,l,r⟩:=Y.get _ _ T;rw[mD,sH,fv] at a;have a:=(kB.inj a).symm;subst a;obtain ⟨u,G7,Ya⟩:=S _ _ T;obtain ⟨v,s,N⟩:=L.at l;rw[Ya] at s;cases s;have F:b.getD (j - dB.length) 0=b[j - dB.length]'(by omega):=by grind
       refine ⟨p,u,by grind,cw.UL r,by grind, ?_, ?_⟩
       ·grind
       ·exact cw.A7 r N rU ak
     ·rcases P j o t with ⟨A,M,Q,a⟩|⟨hA,a⟩
      ·by_cases H:g.getD j 0=1
       ·rw[if_pos H] at a;subst a;obtain ⟨_,c,w,_,rfl⟩:=xc (mM Q)
        grind [cw.u4]
       ·rw[if_neg H] at a;by_cases K:g.getD j 0=2
        ·rw[if_pos K] at a;rcases tx (X:=X) (aQ:=f.outs) (x:=B) (j:=j) with F|⟨_,c,w,_,F⟩
         ·rw[a,F];trivial
         grind [cw.tn]
        ·rw[if_neg K] at a;rw[a];trivial
      ·obtain ⟨_,c,w,_,rfl⟩:=xc (mM a)
       grind [cw.u4]
     ·have dead:∀(i j:Nat) (o p:ba D),i<dB.length->dB.length<=j->(ly X g (eU X d x) f.outs B)[i]? =J o->(ly X g (eU X d x) f.outs B)[j]? =J p->o.live=aa->i=b.getD (j - dB.length) 0->False:=by
       intro i j o p Vb aaN a C eW hq;rcases P j p C with ⟨A,_⟩|⟨_,wv⟩
       ·omega
       ·have A:=(fq.1 wv).1;have T:b[j - dB.length]? =J (b[j - dB.length]'(by omega)):=mm (by omega);have F:b.getD (j - dB.length) 0=b[j - dB.length]'(by omega):=by grind
        have hm:i∈b:=by grind
        have:=iA.1 c2 i hm;simp only[Ar] at this;have nC:g.getD i 0=0:=by
         grind [pk,kA]
        rcases P i o a with ⟨_,M,_,V⟩|⟨hA,_⟩
        ·rw[nC] at V;simp at V;rw[V] at eW;cases eW
        grind
      by_cases h1:i<dB.length
      ·by_cases ai:j<dB.length
       ·grind
       grind
      ·by_cases ai:j<dB.length
       ·grind
       grind [We]
    ·intro p C;rcases kU.1 C with C|C
     ·grind [zN]
     ·have aJ:=iA.1 ZP p C;have:=Xi (X:=X) (z:=dv) (vs:=vs) (vs':=dB++b.map λi=>vs.getD i undef) id aJ ((bp.mono g1.le λ_ _ h=>h) p.1) λj i u t U=>by
       grind
      grind [Lp]
   grind
  grind
 grind
def B8 {ins:List dt} {ks:List Nat} {x:ft D ins} {ee:lF D} {y:mz D ee.outs} {dB:List af} (j:Inv (eU X ins x) O) (f:∀(i:Nat) (u:af),dB[i]? =J u->vs[i]? =J u) (C:dB.length=(eU X ins x).length)
  (g:b9 X.G O z e m k vs) (n:fj X z vs E fr) (h:xv X dB.length ks ee E O=J y):
  ∃b a,dT e.next z b/\b9 X.G (ly X ks (eU X ins x) ee.outs (gn _ y)) b e m k (dB++a)/\∀p∈hc X ee.outs (gn _ y)++ee.fg,rel X.G b (dB++a) p.2 (fr p.1):=by
 obtain ⟨K,t,w,A,B⟩:=mf (aQ:=ee.outs) g n;unfold xv at h;split at h
 ·rename_i N l;obtain ⟨M,H,d,q⟩:=zv A l;obtain ⟨L,a,I,s,r⟩:=arn ((j.trans t).trans H) (λi u F=>w i u (f i u F)) C q (B.mono d.le λ_ _ h=>h) h;exact ⟨L,a,d.trans I,s,r⟩
 grind
end
end
end
section
structure h4 (D:Nat->Type) where
 path:List Nat
 ins:List dt
 fg:List (Nat×bc D)
 ks:List Nat
 iM:List (lF D)
 keep:List Nat
noncomputable section
section
variable {P:bI} {D:Nat->Type}
def h4.F (p:h4 D):Type:=ft D p.ins->Option (so p.iM)
def gU:List dt->Nat|[]=>0| .o _ _::a=>gU a+1|_::a=>gU a
def tJ:bc D->Bool| .c (.own _)| .box _ _| .arr _| .c .gE| .c .za| .c .oY| .undef| .un| .c (.int _ _)| .c (.bool _)| .fn _ []| .hd _ [.own _] _| .fn _ [(_,[.own _])]=>aa|_=>ak
def GY:bc D->Option Nat| .c (.own j)| .box j _| .arr j| .hd _ [.own j] _| .fn _ [(_,[.own j])]=>J j|_=>ae
def Jy (n:Nat) (a:List Nat) (s:bc D):Bool:=tJ s&&match GY s with|some j=>iJ n j|| !Nat.beq (a.getD j 0) 0|none=>aa
def q8:List Nat->Nat->Option Nat
 |[],_=>ae
 |a::b,i=>if fi a i=aa then J 0 else (match q8 b i with|some j=>J (j+1)|none=>ae)
variable (X:e3 P D)
def sd (e:Nat->Nat) (d b:List Nat) (a:List dt) (y:ft D a):Nat->List (ba D)->List (ba D)
 |_,[]=>[]
 |i,o::O=>(match q8 d i with|some j=>(if b.getD j 0=1 then o else if b.getD j 0=2 then kc X e a y j else .dead)|none=>if o.live=aa then .dead else o)::sd e d b a y (i+1) O
def mkOr (b:Nat->Nat):(a:List dt)->ft D a->List (ba D)|[],_=>[]| .o _ c::a,x=>cw.gO X b c x.1 ak::mkOr b a x.2| .v _ _::a,x=>mkOr b a x.2| .u _ _::a,x=>mkOr b a x.2
def num (a:List Nat) (n N:Nat) (j:Nat):Nat:=if mn j n=aa then a.getD j 0 else N+(j - n)
def T1 (p:h4 D) (b:List Nat) (N:Nat) (a:lF D) (y:ft D a.outs) (E:List (Nat×bc D)):List (Nat×bc D):=hc X a.outs y++((a.fg.map λq=>(q.1,pE (num b (gU p.ins) N) q.2))++p.keep.map λd=>(d,eI E d))
def uE (p:h4 D) (a:List Nat) (b:List (ba D)) (d:lF D) (y:ft D d.outs):List (ba D):=sd X (num a (gU p.ins) b.length) a p.ks d.outs y 0 b++mkOr X (num a (gU p.ins) b.length) d.outs y
def h4.G2 (p:h4 D) (F:p.F) (E:List (Nat×bc D)) (O:List (ba D)) {b:Type} (K:fG->List (Nat×bc D)->List (ba D)->Option b):Option b:=match sl X p.ins p.fg E O with|some (x,d,e)=>ab (F x) λf=>Jb p.iM f λa y=>K a.ex (T1 X p d e.length a (gn _ y) E) (uE X p d e a (gn _ y))|none=>ae
def h4.run (p:h4 D) (F:p.F) (E:List (Nat×bc D)) (O:List (ba D)) {a:Type} (K:fG->List (Nat×bc D)->List (ba D)->Option a):Option a:=p.G2 X F (jJ p.ins E O).1 (jJ p.ins E O).2 K
def h4.zd (p:h4 D) (F:p.F):mP D where
 path:=p.path
 fits:=λE O=>(sl X p.ins p.fg (jJ p.ins E O).1 (jJ p.ins E O).2).isSome
 run:=λE O {_} K=>p.run X F E O K
def Kk (n:Nat) (a:List Nat) (r:Nat):Bool:=iJ n r|| !Nat.beq (a.getD r 0) 0
def zA (n:Nat) (a:List Nat):Nat->List dt->Bool|_,[]=>aa|j, .o _ c::b=>(!Nat.beq (a.getD j 0) 1||c.hs.all (Kk n a))&&zA n a (j+1) b|j,_::b=>zA n a j b
def h4.p0 (B:Code) (p:h4 D):Bool:=((p.iM.all λee=>ee.outs.all λi=>i.y9&&i.hs.all (Kk (gU p.ins) p.ks))&&zA (gU p.ins) p.ks 0 p.ins)&&(p.iM.all (λee=>ee.fg.all λq=>Jy (gU p.ins) p.ks q.2)&&p.keep.all λd=> !(q6 (sub B p.path)).contains d)
def y7:Nat->List Nat->List Nat->List (ba D)->Bool
 |_,[],_,_=>aa
 |j,k::b,a,O=>(if k=0 then aa else oZ (a[j]?) j&&(if k=1 then (match O[j]? with|some o=> !o.nd|none=>ak) else aa))&&y7 (j+1) b a O
def aeY (p:h4 D) (F:p.F) (a:fG) (E:List (Nat×bc D)) (O:List (ba D)):Option (so p.iM):=if a= .normal then match sl X p.ins p.fg (jJ p.ins E O).1 (jJ p.ins E O).2 with|some (x,b,d)=>if y7 0 p.ks b d=aa then F x else ae|none=>ae else sk X (gU p.ins) p.ks p.iM a E O
end
section
variable {P:bI} {D:Nat->Type} {X:e3 P D} {z z':Nat->bW} {e m m':Mem} {k:Option Nat} {vs vs':List af} {fr:Nat->af} {E:List (Nat×bc D)} {O cr:List (ba D)}
def aeE {n:Nat} {a:List Nat} {r:Nat} (h:Kk n a r=aa):n<=r\/a.getD r 0≠0:=by
 simp only[Kk,Ar,Aq] at h;rcases h with h|h
 ·simp_all
 ·refine .inr λb=> ?_;simp_all
theorem BJ {n:Nat} {ks:List Nat}:∀{aQ:List dt} {x:ft D aQ} {i j:Nat} {q:yh D},zA n ks i aQ=aa->(cos aQ x)[j]? =J q->ks.getD (i+j) 0=1->∀r∈q.c.hs,n<=r\/ks.getD r 0≠0
 |[],_,_,_,_,_,h,_=>by grind [cos]
 | .v d c::aQ,x,i,j,q,hk,h,h1=>BJ (aQ:=aQ) (x:=x.2) hk h h1
 | .u d c::aQ,x,i,j,q,hk,h,h1=>BJ (aQ:=aQ) (x:=x.2) hk h h1
 | .o d c::aQ,x,i,0,q,hk,h,h1=>by simp only[cos,List.getElem?_cons_zero] at h;cases h;simp only[zA,fx] at hk;intro r aV;have ai:=hk.1;rw[pS] at h1;rw[h1] at ai;exact aeE (iA.1 (by simp_all) r aV)
 | .o d c::aQ,x,i,j+1,q,hk,h,h1=>by simp only[cos,qH] at h;simp only[zA,fx] at hk;exact BJ (aQ:=aQ) (x:=x.2) hk.2 h (by grind)
def adl {cJ nR:Nat->Nat} {l:List (Nat×Nat)} (h:∀p∈l,cJ p.2=nR p.2):∀{cs:List (cv D)} {i:Nat},qi cJ l i cs=qi nR l i cs
 |[],_=>rfl
 |c::cs,i=>by
  simp only[qi,adl h (cs:=cs)];congr 1;cases bF:nw l i with
  |none=>rfl
  |some n=>simp only;rw[h _ (B1 bF)]
def ata {a b:Nat->Nat} {c:cw} {x:c.ty D} {w:Bool} (h:∀r∈c.hs,a r=b r):cw.gO X a c x w=cw.gO X b c x w:=by
 cases c with
 |bL t l=>simp only[cw.gO];rw[adl λp g=>h p.2 (l2.2 ⟨p,g,rfl⟩)]
 |uI t f d=>simp only[cw.gO];rw[show d.map a=d.map b from YW λn e=>h n e]
 |_=>rfl
theorem va {a:Nat->Nat}:∀{aQ:List dt} {x:ft D aQ},mkOr X a aQ x=(cos aQ x).map λq=>cw.gO X a q.c q.x ak
 |[],_=>rfl
 | .o d c::aQ,x=>by show cw.gO X a c x.1 ak::mkOr X a aQ x.2=cw.gO X a c x.1 ak::(cos aQ x.2).map _;rw[va]
 | .v d c::aQ,x=>va (aQ:=aQ)
 | .u d c::aQ,x=>va (aQ:=aQ)
theorem me:∀{aQ:List dt} {x:ft D aQ},(eU X aQ x).length=gU aQ
 |[],_=>rfl
 | .v _ _::aQ,x=>me (aQ:=aQ)
 | .u _ _::aQ,x=>me (aQ:=aQ)
 | .o _ _::aQ,x=>by show ((eU X aQ x.2).length+1)=gU aQ+1;rw[me]
def XI (X:e3 P D) (p:h4 D) (x:ft D p.ins) (h:so p.iM) (z:Nat->bW) (e:Mem) (k:Option Nat) (dB:List af) (i:fG) (g:Nat->af) (j:Mem):Prop:=
 ∃b d a y,a∈p.iM/\i=a.ex/\(∀{f:Type} (K:(x:lF D)->mz D x.outs->f),Jb p.iM h K=K a y)/\dT e.next z b/\
  b9 X.G (ly X p.ks (eU X p.ins x) a.outs (gn _ y)) b e j k (dB++d)/\∀q∈hc X a.outs (gn _ y)++a.fg,rel X.G b (dB++d) q.2 (g q.1)
def sB (f:fG->fG) (X:e3 P D) (B:Code) (p:h4 D) (F:p.F):Prop:=∀(x:ft D p.ins) (a:so p.iM) {z:Nat->bW} {e m:Mem} {k:Option Nat} {dB:List af} {b:Nat->af},
 F x=J a->b9 X.G (eU X p.ins x) z e m k dB->fj X z dB (hc X p.ins x++p.fg) b->W P (sub B p.path) (λd=>XI X p x a z e k dB (f d)) b m
def qF (X:e3 P D) (B:Code) (p:h4 D) (F:p.F):Prop:=∀(x:ft D p.ins) (a:so p.iM) {z:Nat->bW} {e m:Mem} {k:Option Nat} {dB:List af} {b:Nat->af},
 F x=J a->b9 X.G (eU X p.ins x) z e m k dB->fj X z dB (hc X p.ins x++p.fg) b->W P (sub B p.path) (XI X p x a z e k dB) b m
def sB.of {d:fG->fG} (t:iV X) {B:Code} {us:List (mP D)} {p:h4 D} {F:p.F} (P:∀u∈us,p.path.length<u.path.length->qJ X B u)
  (w:∀x,j8 X us calm aa p.path.reverse (sub B p.path) (hc X p.ins x++p.fg) (eU X p.ins x) (λb=>sk X (gU p.ins) p.ks p.iM (d b))=F x):sB d X B p F:=by
 intro x C z e m k dB U A a l;have h:=w x;rw[A] at h;have i:dB.length=gU p.ins:=by rw[a.len,me]
 refine (Lh t (L:=p.path.length) P (sub B p.path) aa p.path.reverse _ _ _ C (by grind) (by simp) (by simp) a l h).mono ?_;rintro b T m1 ⟨S,Z,Y,R,j,O,g,f,n,r⟩;obtain ⟨E,y,K,M,V,N⟩:=KG r;obtain ⟨Q,H,s,q,I⟩:=B8 (ks:=p.ks) (x:=x) j g a.len f n (by rw[i];omega);exact ⟨Q,H,E,y,K,M,N,O.trans s,q,I⟩
def qF.of (r:iV X) {B:Code} {us:List (mP D)} {p:h4 D} {F:p.F} (N:∀u∈us,p.path.length<u.path.length->qJ X B u)
  (s:∀x,j8 X us calm aa p.path.reverse (sub B p.path) (hc X p.ins x++p.fg) (eU X p.ins x) (sk X (gU p.ins) p.ks p.iM)=F x):qF X B p F:=by
 intro x w z e m k dB T t a i;have h:=s x;rw[t] at h;have f:dB.length=gU p.ins:=by rw[a.len,me]
 refine (Lh r (L:=p.path.length) N (sub B p.path) aa p.path.reverse _ _ _ w (by grind) (by simp) (by simp) a i h).mono ?_;rintro R S Z ⟨Q,Y,V,P,g,M,d,b,j,n⟩;obtain ⟨A,y,H,I,U,K⟩:=KG n;obtain ⟨O,C,q,l,E⟩:=B8 (ks:=p.ks) (x:=x) g d a.len b j (by rw[f];omega);exact ⟨O,C,A,y,H,I,K,M.trans q,l,E⟩
theorem XU {s:bc D} {v:af} {cJ:Nat->Nat} (h:tJ s=aa) (a:rel X.G z vs s v) (f:∀(j:Nat) (u:af),GY s=J j->vs[j]? =J u->vs'[cJ j]? =J u):rel X.G z vs' (pE cJ s) v:=by
 unfold tJ at h;split at h
 ·exact ⟨f _ _ rfl a.1,a.2⟩
 ·obtain ⟨b,e,d⟩:=a;exact ⟨b,f _ _ rfl e,d⟩
 ·obtain ⟨b,l,e,d⟩:=a;exact ⟨b,l,f _ _ rfl e,d⟩
 ·exact a
 ·exact a
 ·exact a
 ·exact a
 ·exact a
 ·exact a
 ·exact a
 ·obtain ⟨g,e,d⟩:=a;refine ⟨g,e, ?_⟩;cases g with
  |nil=>trivial
  |cons _ _=>exact d.elim
 ·exact Wz (λu=>f _ u rfl) a
 ·obtain ⟨g,e,d⟩:=a;exact ⟨g,e,ada (λu=>f _ u rfl) d⟩
 grind
theorem adO {n:Nat} {b:List Nat} {s:bc D} (h:Jy n b s=aa):tJ s=aa/\∀j,GY s=J j->n<=j\/b.getD j 0≠0:=by
 simp only[Jy,fx] at h;refine ⟨h.1,λj d=> ?_⟩;have a:=h.2;rw[d] at a;simp only[Ar,Aq] at a;rcases a with a|a
 ·simp_all
 ·refine .inr λe=> ?_;simp_all
def K7:∀{b:List Nat} {i j:Nat} {a:List Nat},y7 i b a O=aa->b.getD j 0≠0->a[i+j]? =J (i+j)/\(b.getD j 0=1->∃o,O[i+j]? =J o/\o.nd=ak)
 |[],i,j,a,_,h=>by grind
 |k::b,i,0,a,d,h=>by
  grind [y7,zx]
 |k::b,i,j+1,a,d,h=>by
  simp only[y7,fx] at d;simp only[List.getD_cons_succ] at h⊢;have:=K7 d.2 h
  grind
def auU {a:List dt} {y:ft D a} {b:List Nat} {A B:List (ba D)} (d:A.length=B.length) (h:∀j,b.getD j 0=1->A[j]? =B[j]?):o0 X a y 0 b A=o0 X a y 0 b B:=by
 apply rv
 grind [xd,q5]
def qF.loop (cW:iV X) {B c:Code} {us:List (mP D)} {p:h4 D} {F:Nat->p.F} (mS:sub B p.path= .loop c) (hk:p.p0 B=aa) (te:∀u∈us,p.path.length+1<u.path.length->qJ X B u) (bR:∀x,F 0 x=ae)
  (eB:∀n x,j8 X us calm aa (0::p.path.reverse) c (hc X p.ins x++p.fg) (eU X p.ins x) (aeY X p (F n))=F (n+1) x):∀n,qF X B p (F n):=by
 intro n;induction n with
 |zero=>intro x eX z e m k dB fr eF;grind
 |succ n a1=>
  intro x eX z e m k dB fr eF aN bp;have h:=eB n x;rw[eF] at h;rw[mS];have bB:dB.length=gU p.ins:=by rw[aN.len,me]
  refine W.apr ((Lh cW (L:=p.path.length+1) te c aa (0::p.path.reverse) _ _ _ eX (by rw[List.reverse_cons,List.reverse_reverse,<-WZ,mS];exact sc c) (by simp) (by simp) aN bp h).mono ?_);rintro ex fY m1 ⟨dv,jK,ia,cu,bR,h1,ai,aT,br,cK⟩;have other:sk X (gU p.ins) p.ks p.iM ex ia cu=J eX->XI X p x eX z e k dB ex fY m1:=by intro cK;obtain ⟨ee,y,g1,g2,g3,g4⟩:=KG cK;obtain ⟨z2,ep,cL,c9,fo⟩:=B8 (ks:=p.ks) (x:=x) bR ai aN.len aT br (by rw[bB];omega);exact ⟨z2,ep,ee,y,g1,g2,g4,h1.trans cL,c9,fo⟩
  cases ex with
  |exit i=>exact other cK
  |ret=>exact other cK
  |normal=>
   show W P (.loop c) _ fY m1;have cK:(match sl X p.ins p.fg (jJ p.ins ia cu).1 (jJ p.ins ia cu).2 with
    |some (x,bO,dz)=>if y7 0 p.ks bO dz=aa then F n x else ae
    |none=>ae)=J eX:=cK
   split at cK
   ·rename_i jL bO dz aV;obtain ⟨Vi,p7⟩:=gz cK;obtain ⟨awu,dX,ix,pH,G8⟩:=mf (aQ:=p.ins) aT br;obtain ⟨z2,Yf,i1,i2,k0⟩:=ae4 pH G8 aV;have i1:=dX.trans i1;have ai:∀(i:Nat) (u:af),dB[i]? =J u->awu[i]? =J u:=λi u hu=>ix i u (ai i u hu);have aaJ:=a1 jL eX p7 k0.abD k0.afm;rw[mS] at aaJ;refine aaJ.mono ?_;rintro ex ic m2 ⟨z3,ep,ee,y,g1,g2,g3,g4,g5,g6⟩;have same:∀j,p.ks.getD j 0≠0->∀u,Yf[j]? =J u->dB[j]? =J u:=by
     intro j bn u hu;obtain ⟨s1,_⟩:=K7 Vi bn;rw[lH] at s1;obtain ⟨xz,t1,t2⟩:=k0.ep _ _ s1;rw[hu] at t1;cases t1;have cF:j<dB.length:=by have:=(fq.1 hu).1;rw[k0.len,k0.wQ.length,<-ug (f:=λq=>cw.mk X q.c q.x ak),<-mD,me] at this;omega
     grind
    have lM:Yf.length=dB.length:=by rw[k0.len,k0.wQ.length,<-ug (f:=λq=>cw.mk X q.c q.x ak),<-mD,me,bB]
    have X5:∀(j:Nat) (u:af),gU p.ins<=j\/p.ks.getD j 0≠0->(Yf++ep)[j]? =J u->(dB++ep)[j]? =J u:=by
     grind
    have nB:=hk;simp only[h4.p0,fx] at nB;have aaQ:=nB.1.1;have anZ:=nB.1.2;have ayj:o0 X ee.outs (gn _ y) 0 p.ks (eU X p.ins jL)=o0 X ee.outs (gn _ y) 0 p.ks (eU X p.ins x):=by
     refine auU (by grind [me]) λj bn=> ?_;obtain ⟨s1,s2⟩:=K7 Vi (show p.ks.getD j 0≠0 by grind);obtain ⟨o,iw,iQ⟩:=s2 bn;rw[lH] at s1 iw;obtain ⟨q,fv,w,fQ⟩:=k0.wQ.get j j s1;rw[iw] at fQ;have fQ:=kB.inj fQ;subst fQ;rw[cw.Kc] at iQ;subst iQ;have V5:(eU X p.ins jL)[j]? =J (cw.mk X q.c q.x ak):=by grind [mD]
     have aaO:j<(eU X p.ins x).length:=by grind [me]
     have ew:=(bR.trans i1).ew j _ aaO iw cw.tn cw.Kc;rw[V5,ew];refine congrArg J (ata λr aV=> ?_);obtain ⟨apd,aaL⟩:=k0.gt q (mM fv) r aV;have Bt:r<gU p.ins:=by
      have:=(fq.1 aaL).1;rw[k0.wQ.length,<-ug (f:=λq=>cw.mk X q.c q.x ak),<-mD,me] at this
      grind
     rcases BJ (i:=0) anZ fv (by grind) r aV with h|h
     ·omega
     ·obtain ⟨avD,_⟩:=K7 Vi h
      grind
    have anM:∀q∈ee.fg,Jy (gU p.ins) p.ks q.2=aa:=by
     grind
    have ta:∀i∈ee.outs,∀r∈i.hs,gU p.ins<=r\/p.ks.getD r 0≠0:=λi az r aV=>aeE (iA.1 (tY.1 (iA.1 (iA.1 aaQ ee g1) i az)).2 r aV);refine ⟨z3,ep,ee,y,g1,g2,g3,(h1.trans i2).trans g4, ?_,λq bm=> ?_⟩
    ·have wy:ly X p.ks (eU X p.ins jL) ee.outs (gn _ y)=ly X p.ks (eU X p.ins x) ee.outs (gn _ y):=by grind [ly]
     rw[wy] at g5;have key:∀(i:Nat) (o:ba D),(ly X p.ks (eU X p.ins x) ee.outs (gn _ y))[i]? =J o->o.live=aa->(gU p.ins<=i\/p.ks.getD i 0≠0):=by
      intro i o aM aR;by_cases cF:i<gU p.ins
      ·refine .inr λnC=> ?_;unfold ly at aM;rw[kS (by grind [q5,me])] at aM;have bf:(eU X p.ins x)[i]? =J ((eU X p.ins x)[i]'(by grind [me])):=mm _;rw[xd bf,nC] at aM;simp at aM;subst aM;cases aR
      grind
     have mk:∀(i:Nat) (o:ba D),(ly X p.ks (eU X p.ins x) ee.outs (gn _ y))[i]? =J o->o= .dead\/∃c a w,o=cw.mk X c a w/\∀r∈c.hs,gU p.ins<=r\/p.ks.getD r 0≠0:=by
      intro i o aM;unfold ly at aM;by_cases cF:i<gU p.ins
      ·rw[kS (by grind [q5,me])] at aM;have bf:(eU X p.ins x)[i]? =J ((eU X p.ins x)[i]'(by grind [me])):=mm _;rw[xd bf] at aM;have aM:=(kB.inj aM).symm;by_cases cL:p.ks.getD i 0=1
       ·grind [mD,BJ]
       ·rw[if_neg cL] at aM;by_cases c9:p.ks.getD i 0=2
        ·rw[if_pos c9] at aM;rcases tx (X:=X) (aQ:=ee.outs) (x:=gn _ y) (j:=0+i) with bg|⟨d,c,a,bg,he⟩
         ·grind
         ·exact .inr ⟨c,a,aa,by rw[aM,he];rfl,ta _ bg⟩
        grind
      ·rw[kT (by grind [q5,me])] at aM;obtain ⟨d,c,a,bg,cp⟩:=xc (mM aM);exact .inr ⟨c,a,ak,cp,ta _ bg⟩
     refine g5.G3 (by rw[<-g5.len];grind) id (λi o aM aR=> ?_) (λi o u aM aR hu=> ?_) (λi j _ _ _ _ _ _ h=>h)
     ·obtain ⟨v,v1,v2⟩:=g5.at aM;refine ⟨o,v,aM,aR,v1,X5 i v (key i o aM aR) v1, ?_⟩;rcases mk i o aM with rfl|⟨c,a,w,rfl,aV⟩
      ·trivial
      ·exact cw.y8 w v2 λr nG u hu=>X5 r u (aV r nG) hu
     ·rcases mk i o aM with rfl|⟨c,a,w,rfl,_⟩
      ·trivial
      grind [cw.u4]
    ·have aV:=g6 q bm;rcases kU.1 bm with bm|bm
     ·obtain ⟨d,c,a,bg,ay⟩:=zB bm;rw[ay] at aV⊢;exact gR.VP (tY.1 (iA.1 (iA.1 aaQ ee g1) _ bg)).1 aV
     ·obtain ⟨s1,s2⟩:=adO (anM q bm);have:=XU (X:=X) (cJ:=id) (vs':=dB++ep) s1 aV λj u bn hu=>X5 j u (s2 j bn) hu
      grind [Lp]
   grind
def zg:∀{b:List Nat} {i j:Nat},q8 b i=J j->b[j]? =J i
 |[],_,_,h=>by cases h
 |a::b,i,j,h=>by
  simp only[q8] at h;split at h
  ·grind [kA]
  ·split at h
   ·rename_i e d;cases h;rw[qH];exact zg d
   grind
theorem Ky {d:Nat->Nat} {b e:List Nat} {a:List dt} {y:ft D a}:∀{i:Nat} {O:List (ba D)},(sd X d b e a y i O).length=O.length
 |i,[]=>rfl
 |i,o::O=>by simp[sd,Ky]
theorem acN {cJ:Nat->Nat} {bO ks:List Nat} {outs:List dt} {y:ft D outs}:∀{i:Nat} {O:List (ba D)} {a:Nat} {o:ba D},O[a]? =J o->(sd X cJ bO ks outs y i O)[a]? =J (match q8 bO (i+a) with|some j=>(if ks.getD j 0=1 then o else if ks.getD j 0=2 then kc X cJ outs y j else .dead)|none=>if o.live=aa then .dead else o)
 |i,[],a,o,h=>by grind
 |i,p::O,0,o,h=>by grind [sd]
 |i,p::O,a+1,o,h=>by
  simp only[qH] at h;have:=acN (cJ:=cJ) (bO:=bO) (ks:=ks) (outs:=outs) (y:=y) (i:=i+1) h
  grind [sd]
def sB.Kn {rn:fG->fG} {B:Code} {p:h4 D} {F:p.F} (h:sB rn X B p F) (hk:p.p0 B=aa) {ap:Type} (E:List (Nat×bc D)) (O:List (ba D)) (K:fG->List (Nat×bc D)->List (ba D)->Option ap) (r:ap) {z:Nat->bW} {e m:Mem} {k:Option Nat} {M:List af} {fr:Nat->af}
  (aN:b9 X.G O z e m k M) (bp:fj X z M E fr) (N:p.G2 X F E O K=J r):W P (sub B p.path) (λx=>je X O z e k M (K (rn x)) r) fr m:=by
 unfold h4.G2 at N;split at N
 ·rename_i x g b az;obtain ⟨eX,eF,N⟩:=bind_some N;obtain ⟨dv,dB,i1,i2,H⟩:=ae4 aN bp az;simp only[h4.p0,fx] at hk;have bB:g.length=gU p.ins:=by rw[<-me (X:=X) (x:=x),mD,ug];exact H.wQ.length
  have wq:dB.length=gU p.ins:=by rw[H.len,bB]
  refine (h x eX eF H.abD H.afm).keep ?_;rintro ex fY m1 anY ⟨z2,T,n,y,g1,g2,g3,g4,Y,g6⟩;rw[g3] at N;rw[g2];have qR:T.length=(eU X n.outs (gn _ y)).length:=by
   have:=Y.len
   grind [ly,q5,me]
  have oM:M.length=b.length:=H.abC.len;have V:∀(i:Nat) (u:af),M[i]? =J u->(M++T)[i]? =J u:=j0;have rU:∀(j:Nat) (u:af),(dB++T)[j]? =J u->(M++T)[num g (gU p.ins) b.length j]? =J u:=by
   intro j u hu;unfold num;by_cases cF:j<gU p.ins
   ·have aw:mn j (gU p.ins)=aa:=by simp_all
    rw[if_pos aw];rw[kS (by omega)] at hu;have R:g[j]? =J (g.getD j 0):=by grind
    obtain ⟨xz,t1,t2⟩:=H.ep _ _ R
    grind
   grind [Nat.blt_eq]
  have iF:∀(i:Nat) (o:ba D),(uE X p g b n (gn _ y))[i]? =J o->
    (i<b.length/\∃Q,b[i]? =J Q/\o=(match q8 g i with|some j=>(if p.ks.getD j 0=1 then Q else if p.ks.getD j 0=2 then kc X (num g (gU p.ins) b.length) n.outs (gn _ y) j else .dead)|none=>if Q.live=aa then .dead else Q))\/
    (b.length<=i/\(mkOr X (num g (gU p.ins) b.length) n.outs (gn _ y))[i - b.length]? =J o):=by
   grind [uE,Ky,acN]
  have wy:∀(j:Nat) (mZ:ba D),(eU X p.ins x)[j]? =J mZ->(ly X p.ks (eU X p.ins x) n.outs (gn _ y))[j]? =J (if p.ks.getD j 0=1 then mZ else if p.ks.getD j 0=2 then kc X wE n.outs (gn _ y) j else .dead):=by
   grind [ly,q5,xd]
  have aoA:∀(i:Nat) (o:ba D),(eU X n.outs (gn _ y))[i]? =J o->(ly X p.ks (eU X p.ins x) n.outs (gn _ y))[gU p.ins+i]? =J o:=by
   grind [ly,q5,me]
  have s9:∀(i:Nat) (o:ba D),(uE X p g b n (gn _ y))[i]? =J o->o.live=aa->
    (∃j,q8 g i=J j/\((p.ks.getD j 0=1/\b[i]? =J o)\/(p.ks.getD j 0≠1/\p.ks.getD j 0=2/\o=kc X (num g (gU p.ins) b.length) n.outs (gn _ y) j)))\/(b.length<=i/\(mkOr X (num g (gU p.ins) b.length) n.outs (gn _ y))[i - b.length]? =J o):=by
   intro i o I l;rcases iF i o I with ⟨cF,Q,ai,f⟩|h
   ·left;cases C:q8 g i with
    |some j=>
     rw[C] at f;dsimp only at f;refine ⟨j,rfl, ?_⟩;by_cases S:p.ks.getD j 0=1
     ·grind
     ·rw[if_neg S] at f;by_cases U:p.ks.getD j 0=2
      ·grind
      ·rw[if_neg U] at f;rw[f] at l;cases l
    |none=>
     rw[C] at f;dsimp only at f;by_cases br:Q.live=aa
     ·rw[if_pos br] at f;rw[f] at l;cases l
     grind
   grind
  refine ⟨z2,M++T,_,_,i1.trans ?_,i2.trans g4,V, ?_,Cm ?_,N⟩
  ·refine ⟨?_,λi o az I l aJ=> ?_⟩
   ·grind [uE,Ky]
   ·rcases s9 i o I l with ⟨j,_,h|⟨_,_,h⟩⟩|h
    ·grind
    ·rcases tx (X:=X) (aQ:=n.outs) (x:=gn _ y) (j:=j) with t|⟨_,c,a,_,t⟩
     ·rw[h,t] at l;cases l
     grind [cw.Kc]
    grind
  ·refine Y.G3 ?_ (λi=>if i<b.length then (q8 g i).getD 0 else gU p.ins+(i - b.length)) (λi o I l=> ?_) (λi o u I l hu=> ?_) (λi j o q fm bn aaS aaT hq=> ?_)
   ·grind [uE,Ky,va,mD]
   ·rcases s9 i o I l with ⟨j,C,s⟩|⟨hA,s⟩
    ·have R:=zg C;obtain ⟨q,V5,w,fQ⟩:=H.wQ.get j i R;have fv:(eU X p.ins x)[j]? =J (cw.mk X q.c q.x ak):=by grind [mD]
     obtain ⟨u,t1,t2⟩:=H.ep _ _ R;have cF:i<b.length:=(fq.1 fQ).1;simp only[if_pos cF,C,IV];have L:=wy j _ fv;have JZ:(dB++T)[j]? =J u:=j0 _ _ t1;rcases s with ⟨S,s⟩|⟨S,U,s⟩
     ·rw[if_pos S] at L;rw[fQ] at s;have s:=kB.inj s;subst s;have cG:=Y.obj j _ u L JZ;refine ⟨_,u,L,cw.u4,JZ,V _ _ t2,cw.y8 w cG λr N xz oS=> ?_⟩;obtain ⟨apd,aaL⟩:=H.gt q (mM V5) r N
      grind [num,Nat.blt_eq]
     ·rw[if_neg S,if_pos U] at L;have cG:=Y.obj j _ u L JZ;rcases tx (X:=X) (aQ:=n.outs) (x:=gn _ y) (j:=j) with t|⟨_,c,a,_,t⟩
      ·rw[s,t] at l;cases l
      ·rw[t] at cG;refine ⟨_,u,L,by grind [cw.tn],JZ,V _ _ t2, ?_⟩;rw[s,t];exact cw.y8 aa cG λr _ xz oS=>rU r xz oS
    ·have aoj:¬i<b.length:=by omega
     simp only[if_neg aoj];rw[va,sH] at s;obtain ⟨q,A,rfl⟩:=vT.1 s;have L:=aoA (i - b.length) (cw.mk X q.c q.x ak) (by grind [mD]);obtain ⟨u,G7,Ya⟩:=Y.at L;refine ⟨_,u,L,cw.u4,G7, ?_, ?_⟩
     ·rw[kT (by omega),wq,show gU p.ins+(i - b.length) - gU p.ins=i - b.length by omega] at G7
      grind
     ·exact cw.y8 ak Ya λr _ xz oS=>rU r xz oS
   ·rcases iF i o I with ⟨cF,Q,ai,f⟩|⟨_,h⟩
    ·cases C:q8 g i with
     |some j=>
      rw[C] at f;dsimp only at f;have R:=zg C;obtain ⟨q,fv,w,fQ⟩:=H.wQ.get j i R;rw[ai] at fQ;by_cases S:p.ks.getD j 0=1
      ·grind [cw.tn]
      ·rw[if_neg S] at f;by_cases U:p.ks.getD j 0=2
       ·rw[if_pos U] at f;rcases tx (X:=X) (aQ:=n.outs) (x:=gn _ y) (j:=j) with t|⟨_,c,a,_,t⟩
        ·rw[f,t];trivial
        grind [cw.tn]
       ·rw[if_neg U] at f;rw[f];trivial
     |none=>
      rw[C] at f;dsimp only at f;by_cases br:Q.live=aa
      ·rw[if_pos br] at f;rw[f];trivial
      ·rw[if_neg br] at f;subst f;rw[kS (by omega)] at hu;exact (H.abC.obj i o u ai hu).frozen l g4.le V
    grind [va,cw.tn]
   ·have Z:∀(i:Nat) (o:ba D),(uE X p g b n (gn _ y))[i]? =J o->o.live=aa->(i<b.length/\∃j,q8 g i=J j/\j<gU p.ins)\/b.length<=i:=by
     intro i o I l;rcases s9 i o I l with ⟨j,C,_⟩|⟨hA,_⟩
     ·have R:=zg C
      grind
     grind
    rcases Z i o fm aaS with ⟨ec,a2,a3,a4⟩|ec
    ·rcases Z j q bn aaT with ⟨js,jR,Jc,aw'⟩|js
     ·simp only[if_pos ec,if_pos js,a3,Jc,IV] at hq;subst hq;have s1:=zg a3;have s2:=zg Jc
      grind
     grind
    grind
  ·intro q A;unfold T1 at A;rcases kU.1 A with A|A
   ·obtain ⟨d,c,a,t,s⟩:=zB A;have:=g6 q (kU.2 (.inl A));rw[s] at this⊢;exact gR.VP (tY.1 (iA.1 (iA.1 hk.1.1 n g1) _ t)).1 this
   ·rcases kU.1 A with A|A
    ·obtain ⟨r7,aoG,rfl⟩:=l2.1 A
     grind [adO,XU]
    ·obtain ⟨d,t,rfl⟩:=l2.1 A;have hw:=iA.1 hk.2.2 d t;have:=anY d (by grind);show rel X.G z2 (M++T) (eI E d) (fY d);rw[this];exact rel.mono (bp d) (i2.le.trans g4.le) V
 grind
def qF.Kn {B:Code} {p:h4 D} {F:p.F} (h:qF X B p F) (j:p.p0 B=aa) {b:Type} (E:List (Nat×bc D)) (O:List (ba D)) (K:fG->List (Nat×bc D)->List (ba D)->Option b) (r:b) {z:Nat->bW} {e m:Mem} {k:Option Nat} {a:List af} {d:Nat->af}
  (f:b9 X.G O z e m k a) (i:fj X z a E d) (g:p.G2 X F E O K=J r):W P (sub B p.path) (λx=>je X O z e k a (K x) r) d m:=
 sB.Kn (rn:=id) h j E O K r f i g
def sB.zd {f:fG->fG} {B:Code} {p:h4 D} {F:p.F} (h:sB f X B p F) (w:p.p0 B=aa) {b:Type} (E:List (Nat×bc D)) (O:List (ba D)) (K:fG->List (Nat×bc D)->List (ba D)->Option b) (r:b) {z:Nat->bW} {e m:Mem} {k:Option Nat} {a:List af} {d:Nat->af}
  (g:b9 X.G O z e m k a) (l:fj X z a E d) (i:p.run X F E O K=J r):W P (sub B p.path) (λx=>je X O z e k a (K (f x)) r) d m:=by
 obtain ⟨y,n,q,s,t⟩:=mf (aQ:=p.ins) g l;exact (h.Kn w _ _ K r s t i).mono λ_ _ _ j=>j.from n (dT.refl z) q
def qF.zd {B:Code} {p:h4 D} {F:p.F} (h:qF X B p F) (n:p.p0 B=aa):qJ X B (p.zd X F):=by
 intro s E O K r z e m k w t _ a f b;obtain ⟨q,g,i,j,l⟩:=mf (aQ:=p.ins) a f;exact (h.Kn n _ _ K r j l b).mono λ_ _ _ d=>d.from g (dT.refl z) i
end
end
end
section
structure fS (D:Nat->Type) where
 f:Nat
 lQ:Nat
 ins:List dt
 fg:List (Nat×bc D)
 ij:Option (Nat×Nat)
 re:Nat
 outs:List dt
 fu:List (Nat×bc D)
 lV:List ResultVar
 flat:Bool
def pX:Nat:=1000000
def nL:Nat->List ResultVar->List Nat|_,[]=>[]|n, .tmp d::a=>d::nL (n+1) a|n, .cell _ _::a=>n::nL (n+1) a
def fS.eX {D:Nat->Type} (d:fS D):List Nat:=nL pX d.lV
noncomputable section
section
variable {P:bI} {D:Nat->Type}
def XX (P:bI) (t:Nat) (a:bc D) (O:List (ba D)):Option (bc D):=match a with| .box i b=>(match O[i]? with|some (.box _ d _ _)=>o7 (P:=P) t d b J|some (.recv _ d _)=>o7 (P:=P) t d b J|_=>ae)|_=>ae
def xx (P:bI) (E:List (Nat×bc D)) (O:List (ba D)):Nat->List ResultVar->Option (List (Nat×bc D))
 |_,[]=>J []
 |n, .tmp d::b=>if mn d pX=aa then xx P E O (n+1) b else ae
 |n, .cell a t::b=>match XX P t (eI E a) O,xx P E O (n+1) b with|some V,J l=>J ((n,V)::l)|_,_=>ae
def tL (D:Nat->Type):Option (Nat×Nat)->Type|none=>Unit|some p=>D p.2
def fS.F (d:fS D):Type:=tL D d.ij->ft D d.ins->Option (mz D d.outs)
variable (X:e3 P D)
def rb:(c:Option (Nat×Nat))->tL D c->List (ba D)|none,_=>[]|some p,x=>[.recv p.2 (jl X p.2 x) ak]
def xu:Option (Nat×Nat)->List (Nat×bc D)|none=>[]|some p=>[(p.1, .box 0 0)]
def sm (d:fS D):List Nat:=match d.ij with|none=>[]|some _=>[d.re]
def fS.ee (d:fS D):lF D:=⟨.ret,d.outs,d.fu⟩
@[irreducible] def fk:Nat:=1000000000
def tq (a:List (Nat×bc D)) (b i:Nat):Bool:=mn i 63&&(match eI a (b+1+i) with| .c (.own _)=>aa|_=>ak)
def x2 (a:List (Nat×bc D)) (d:List (cv D)) (b:Nat):Nat->List (cv D)->List (cv D)|_,[]=>[]|i,c::e=>(if tq a b i=aa then d.getD i .gE else c)::x2 a d b (i+1) e
def Ua (E:List (Nat×bc D)) (n:Nat):bc D:=
 if fi (n%64) 0=aa then .un else
 match eI E (n / 64) with
 | .agg _ a=>(match a[n%64 - 1]? with|some c=> .c c|none=> .un)
 |_=> .un
def yF (E:List (Nat×bc D)):List (Nat×bc D)->List (Nat×bc D)|[]=>[]|p::l=>if iJ fk p.1=aa then (p.1,Ua E (p.1 - fk))::yF E l else yF E l
def uH (b E:List (Nat×bc D)):List dt->Option (List (Nat×bc D))
 |[]=>J []
 | .v s c::a=>
  if iJ fk s=aa then
   if fi ((s - fk)%64) 0=aa then
    match eI E ((s - fk) / 64) with
    | .agg t d=>(match uH b E a with|some l=>J ((s, .agg t (x2 b (nQ X t) s 0 d))::l)|none=>ae)
    |_=>ae
   else ae
  else uH b E a
 | .o _ _::a=>uH b E a
 | .u _ _::a=>uH b E a
def wg:List dt->Bool|[]=>ak| .v s _::a=>iJ fk s||wg a|_::a=>wg a
def PY (d:fS D) (a:fG) (E:List (Nat×bc D)) (O:List (ba D)):Option (mz D d.outs):=
 if a= .normal\/a= .ret then ab (xx P E O pX d.lV) λl=>
  if wg d.outs=aa then
   if ((l++E).all (λp=>mn p.1 fk)&&d.eX.all λx=>mn x fk)=aa then
    ab (uH X d.fu (l++E) d.outs) λb=>xv X (sm d).length (sm d) d.ee (b++(yF (l++E) d.fu++(l++E))) O
   else ae
  else xv X (sm d).length (sm d) d.ee (l++E) O
 else ae
def XT (b:Bool) (s:bc D) (c:cv D):cv D:=match b,s with|true, .c (.own n)=> .own n|_,_=>c
def wS (E:List (Nat×bc D)) (b:Nat):Nat->List (cv D)->List (cv D)|_,[]=>[]|i,c::a=>XT (mn i 63) (eI E (b+1+i)) c::wS E b (i+1) a
def BB (a b:List (Nat×bc D)):List Nat->List (Nat×bc D)
 |[]=>[]
 |d::e=>match eI a (fk+64*d) with| .agg t f=>(d, .agg t (wS b (fk+64*d) 0 f))::BB a b e|_=>BB a b e
def IE (a:List dt) (g:List (Nat×bc D)) (e:Nat->af):Prop:=∀d t,dt.v (fk+64*d) (.agg t)∈a->∃f b:List af,e (fk+64*d)= .agg f.toArray/\e d= .agg b.toArray/\b.length=f.length/\
 ∀(i:Nat) (w:af),b[i]? =J w->if tq g (fk+64*d) i=aa then e (fk+64*d+1+i)=w else f[i]? =J w
def PX (a b:List (Nat×bc D)) (d:List Nat):List (Nat×bc D):=BB a b d++(a++b)
def mg:Nat->List (bc D)->List (Nat×bc D)|_,[]=>[]|i,s::l=>(i,s)::mg (i+1) l
def P7 (E:List (Nat×bc D)):List Nat->Option (List (cv D⊕(Nat×List (cv D))))|[]=>J []|d::b=>match eI E d,P7 E b with| .c c,J l=>J (.inl c::l)| .agg t a,J l=>J (.inr (t,a)::l)|_,_=>ae
def GZ (E:List (Nat×bc D)):List Nat->Option (bc D)
 |[d]=>J (eI E d)
 |ds=>match P7 E ds with|some l=>J (.sq l)|none=>ae
def Cp:cv D->Option af| .int k n=>J (.int k n)| .bool b=>J (.bool b)| .str s=>J (aF.str s)|_=>ae
def xl:List (cv D)->Option (List af)
 |[]=>J []
 |c::a=>match Cp c,xl a with|some v,J l=>J (v::l)|_,_=>ae
def tG:List (cv D⊕(Nat×List (cv D)))->Option (List af)
 |[]=>J []
 | .inl c::l=>(match Cp c,tG l with|some v,J a=>J (v::a)|_,_=>ae)
 | .inr p::l=>(match xl p.2,tG l with|some b,J a=>J (.agg b.toArray::a)|_,_=>ae)
def Cq:bc D->Option af
 | .c c=>Cp c
 | .agg _ a=>(match xl a with|some b=>J (.agg b.toArray)|none=>ae)
 | .sq l=>(match tG l with|some d=>J (.tuple d.toArray)|none=>ae)
 |_=>ae
def zP (t:Nat):Option (ba D)->Option (D t)|some (.box b a ak _)=>if b=t then mA X t a else ae|some (.recv b a _)=>if b=t then mA X t a else ae|_=>ae
def GW (t:Nat) (a:List (cv D)):ba D->ba D| .box _ _ _ _=> .box t a ak aa|_=> .recv t a aa
def sh:List dt->Bool|[]=>aa| .o _ (.recv _)::_=>ak| .o _ _::a=>sh a| .v _ c::a=>c.y9&&sh a| .u _ _::a=>sh a
def wL (i N j:Nat):Nat:=if fi j 0=aa then i else N+(j - 1)
def Ck (a:List dt) (g:List (Nat×bc D)) (e:List Nat) (flat:Bool) (h:Nat) (k:List (bc D)) (O b:List (ba D)) {f:Type} (K:bc D->List (ba D)->Option f):(m:Option (Nat×Nat))->(tL D m->Option (mz D a))->Option f
 |none,G=>
  ab (G ()) λy=>
   match GZ (PX (hc X a (gn _ y)) (g.map λq=>(q.1,pE (λj=>b.length+j) q.2)) e) e with
   |some d=>if flat=aa then (match Cq d with|some _=>K d O|none=>ae) else K d (b++mkOr X (λj=>b.length+j) a (gn _ y))
   |none=>ae
 |some p,G=>
  match eI (mg 0 k) p.1 with
  | .box i 0=>
   match b[i]? with
   |some o=>
    ab (zP X p.2 (J o)) λr=>
    ab (G r) λy=>
     match GZ (PX (hc X a (gn _ y)) (g.map λq=>(q.1,pE (wL i b.length) q.2)) e) e with
     |some d=>
      if h=2 then
       match kc X wE a (gn _ y) 0 with
       | .recv t l _=>if t=p.2 then K d (b.set i (GW p.2 l o)++mkOr X (wL i b.length) a (gn _ y)) else ae
       |_=>ae
      else if h=1 then (if o.clean=aa then K d (b++mkOr X (wL i b.length) a (gn _ y)) else K d (b.set i (GW p.2 (jl X p.2 r) o)++mkOr X (wL i b.length) a (gn _ y))) else ae
     |none=>ae
   |none=>ae
  |_=>ae
def fS.call (d:fS D) (F:d.F) (a:List (bc D)) (O:List (ba D)) {b:Type} (K:bc D->List (ba D)->Option b):Option b:=if fi a.length d.lQ then match rL (mg 0 a) d.ins O with|some (f,e)=>if d.fg.all λp=>wa [] p.2 (eI (mg 0 a) p.1) then match iG X [] e d.ins f [] with|some x=>Ck X d.outs d.fu d.eX d.flat d.re a O e K d.ij λr=>F r x|none=>ae else ae|none=>ae else ae
end
section
variable {P:bI} {D:Nat->Type} {X:e3 P D} {z dv z2:Nat->bW} {e m m1:Mem} {k q:Option Nat} {vs:List af} {fr:Nat->af} {E:List (Nat×bc D)} {O cr:List (ba D)}
def b9.call (h:b9 X.G O dv e m k vs) (bx:dT m.next dv z2) (s:gl m m1 q) (aS:dL z2 e m1 k) (aR:cr.length=O.length)
  (aM:∀(j:Nat) (o':ba D),cr[j]? =J o'->(O[j]? =J o'/\(o'.live=aa->∀v,vs[j]? =J v->e6 (dQ v) q))\/(∃o,O[j]? =J o/\o.live=aa/\∀v,vs[j]? =J v->hf X.G z2 e m1 k vs o' v)):b9 X.G cr z2 e m1 k vs where
 aS:=aS
 len:=by rw[aR];exact h.len
 obj:=λj o' v bn aD=>by
  rcases aM j o' bn with ⟨h1,ai⟩|⟨o,h1,ai,aT⟩
  ·have cG:=h.obj j o' v h1 aD;cases dE:o'.live with
   |false=>exact cG.frozen dE bx.le λ_ _ h=>h
   |true=>exact (cG.same s (λ_=>ai dE v aD) λ_ _ h=>h).jP bx.le (λ_ b aw=>bx.low b (cG.lt dE b aw).1) λ_ b j L t aw=>bx.low b (h.aS.bZ b (by grind)).2
  grind
 fD:=λa b o p v w jV bl aw hr lO aD hw=>by
  have key:∀(j:Nat) (o':ba D),cr[j]? =J o'->o'.live=aa->∃o,O[j]? =J o/\o.live=aa:=by
   grind
  obtain ⟨iw,g1,g2⟩:=key a o bl hr;obtain ⟨iQ,g3,g4⟩:=key b p aw lO;exact h.fD a b iw iQ v w jV g1 g3 g2 g4 aD hw
def b9.al6 {N:List (ba D)} {a:List af} {s:Nat} (h:b9 X.G O z e m k vs) (E:a.length=N.length)
  (M:∀(j:Nat) (o:ba D) (v:af),O[j]? =J o->vs[j]? =J v->o.live=aa->∀b,dQ v=J b->b<s)
  (K:∀(j:Nat) (o:ba D) (v:af),N[j]? =J o->a[j]? =J v->hf X.G z e m k (vs++a) o v/\∀b,dQ v=J b->s<=b)
  (L:∀(i j:Nat) (o p:ba D) (v w:af),i≠j->N[i]? =J o->N[j]? =J p->a[i]? =J v->a[j]? =J w->e6 (dQ v) (dQ w)):b9 X.G (O++N) z e m k (vs++a):=by
 have t:∀(j:Nat) (o:ba D) (v:af),(O++N)[j]? =J o->(vs++a)[j]? =J v->(j<O.length/\O[j]? =J o/\vs[j]? =J v)\/(O.length<=j/\N[j - O.length]? =J o/\a[j - O.length]? =J v):=by
  intro j o v f d;by_cases F:j<O.length
  ·rw[kS F] at f;rw[kS (by rw[h.len];grind)] at d
   grind
  ·rw[kT (by omega)] at f;rw[kT (by rw[h.len];omega),h.len] at d
   grind
 refine ⟨h.aS,by rw[sI,sI,h.len,E],λj o v f d=> ?_,λi j o p v w H f x C B d y=> ?_⟩
 ·rcases t j o v f d with ⟨_,l,g⟩|⟨_,l,g⟩
  ·exact (h.obj j o v l g).same (m':=m) (q:=ae) ⟨e4 _,h.aS.dead,λ_ _ _=>rfl⟩ (λ_=>e6.qg) j0
  grind
 ·have A:∀(i j:Nat) (o p:ba D) (v w:af),O[i]? =J o->vs[i]? =J v->o.live=aa->N[j]? =J p->a[j]? =J w->e6 (dQ v) (dQ w):=by
   intro i j o p v w f d C x y b I P
   grind
  rcases t i o v f d with ⟨_,l,g⟩|⟨_,l,g⟩
  ·rcases t j p w x y with ⟨_,n,r⟩|⟨_,n,r⟩
   ·exact h.fD i j o p v w H l n C B g r
   grind
  ·rcases t j p w x y with ⟨_,n,r⟩|⟨_,n,r⟩
   ·exact (A j _ p o w v n r B l g).symm
   grind
def KR:∀{aQ:List dt} {x:ft D aQ} {q:yh D},sh aQ=aa->q∈cos aQ x->∀t,q.c≠ .recv t
 |[],_,_,_,h=>by grind [cos]
 | .v d c::aQ,x,o,a,h=>KR (aQ:=aQ) (x:=x.2) (tY.1 a).2 h
 | .u d c::aQ,x,o,a,h=>KR (aQ:=aQ) (x:=x.2) a h
 | .o d c::aQ,x,o,a,h=>by
  simp only[cos,ha] at h;have b:(∀t,c≠ .recv t)/\sh aQ=aa:=by
   cases c with
   |recv t=>cases a
   |_=>exact ⟨λt h=>(by grind),a⟩
  rcases h with rfl|h
  ·grind
  ·exact KR (aQ:=aQ) (x:=x.2) b.2 h
def born {c:cw} {x:c.ty D} {w:Bool} {v:af} {kk:Option Nat} {E:Nat->Nat} (q:∀t,c≠ .recv t) (i:e.next<=m.next) (h:hf X.G z m m1 kk vs (cw.gO X E c x w) v):hf X.G z e m1 k vs (cw.gO X E c x w) v/\∀b,dQ v=J b->m.next<=b:=by
 cases c with
 |recv t=>grind
 |bL t l=>obtain ⟨b,A,rfl,d,g,s⟩:=h;exact ⟨⟨b,A,rfl,⟨d.blk,d.lt,d.dead, .inl (jd i g)⟩,jd i g,s⟩,λc q=>by cases q;grind⟩
 |uI t f O=>obtain ⟨b,A,rfl,d,g,s⟩:=h;exact ⟨⟨b,A,rfl,⟨d.blk,d.lt,d.dead, .inl (jd i g)⟩,jd i g,s⟩,λc q=>by cases q;grind⟩
 |bh t=>have h:dU (X.G.T t) z m m1 kk x v:=h;refine ⟨(⟨h.bT,λb y=>jd i (h.fresh b y)⟩:dU (X.G.T t) z e m1 k x v), ?_⟩;rw[hi (by obtain ⟨a,c,rfl⟩:=h.bT.len;grind)];exact h.fresh
 |box t=>obtain ⟨b,A,rfl,d,g,s⟩:=h;exact ⟨⟨b,A,rfl,⟨d.blk,d.lt,d.dead, .inl (jd i g)⟩,jd i g,s⟩,λc q=>by cases q;grind⟩
 |arr t u n=>obtain ⟨⟨b,rfl⟩,h⟩:=h;exact ⟨⟨⟨b,rfl⟩,h.bT,λb y=>jd i (h.fresh b y)⟩,λc q=>h.fresh c q⟩
 |map t C B=>have h:jD (X.G.M t C B) z m m1 kk x v:=h;obtain ⟨r,rfl,d,g,s,F⟩:=h.bT;exact ⟨(⟨⟨r,rfl,d,g,s,jd i F⟩⟩:jD (X.G.M t C B) z e m1 k x _),λc q=>by cases q;grind⟩
 |ne N t=>obtain ⟨H,I,h⟩:=h;refine ⟨⟨H,I,⟨h.bT.bT,λb y=>jd i (h.bT.fresh b y)⟩,h.len,λj w K d g s=>(h.oU j w K d g s).Ja i,λp L=>by grind⟩, ?_⟩;rw[hi (by obtain ⟨a,c,rfl⟩:=h.bT.bT.len;grind)];exact h.bT.fresh
def W2:∀{i:List Nat} {l:List (cv D⊕(Nat×List (cv D)))},fj X z vs E fr->P7 E i=J l->bP (vt X.G z vs) l (i.map fr)/\∀x∈i.map fr,storable x=aa
 |[],l,e,h=>by cases h;exact ⟨trivial,by simp⟩
 |d::k,l,e,h=>by
  simp only[P7] at h;have a:=e d;split at h
  ·rename_i c l1 g f;cases h;rw[g] at a;obtain ⟨j,m⟩:=W2 e f;refine ⟨⟨a,j⟩,λx b=> ?_⟩;rcases ha.1 b with rfl|b
   ·exact (ed.afp a).1
   grind
  ·rename_i t n l1 g f;cases h;rw[g] at a;obtain ⟨j,m⟩:=W2 e f;refine ⟨⟨a,j⟩,λx b=> ?_⟩;rcases ha.1 b with rfl|b
   ·obtain ⟨k,a,_⟩:=a;rw[a];rfl
   grind
  grind
def Xf {a:List Nat} {d:bc D} (b:fj X z vs E fr) (h:GZ E a=J d):rel X.G z vs d (pack (a.map fr))/\((a.map fr).length=1\/∀x∈a.map fr,storable x=aa):=by
 unfold GZ at h;split at h
 ·cases h;exact ⟨b _, .inl rfl⟩
 ·rename_i i j;split at h
  ·rename_i l e;cases h;obtain ⟨f,g⟩:=W2 b e;refine ⟨?_, .inr g⟩;have:pack (a.map fr)= .tuple (a.map fr).toArray:=by
    simp_all [pack]
   rw[this];exact ⟨_,rfl,f⟩
  grind
def WE {c:cv D} {v w:af} (h:Cp c=J w) (a:ed X.G z vs c v):v=w/\dy w=aa:=by
 cases c<;>first|(cases h;done)|(cases h;exact ⟨a,rfl⟩)
def WG:∀{b:List (cv D)} {e a:List af},xl b=J a->bP (ed X.G z vs) b e->e=a/\a.all dy=aa
 |[],[],_,h,_=>by cases h;grind
 |c::b,d::e,a,h,⟨j,i⟩=>by
  simp only[xl] at h;split at h
  ·rename_i v l f g;cases h;obtain ⟨rfl,k⟩:=WE f j;obtain ⟨rfl,m⟩:=WG g i
   grind
  grind
 |[],_::_,_,_,h=>h.elim
 |_::_,[],_,_,h=>h.elim
def WH:∀{l:List (cv D⊕(Nat×List (cv D)))} {b a:List af},tG l=J a->bP (vt X.G z vs) l b->b=a/\a.all kz=aa
 |[],[],_,h,_=>by cases h;grind
 | .inl c::l,d::b,a,h,⟨j,i⟩=>by
  simp only[tG] at h;split at h
  ·rename_i v l1 f g;cases h;obtain ⟨rfl,e⟩:=WE f j;obtain ⟨rfl,k⟩:=WH g i;have:kz d=aa:=by cases d<;>first|exact e|cases e
   grind
  grind
 | .inr p::l,d::b,a,h,⟨⟨n,m,j⟩,i⟩=>by
  simp only[tG] at h;split at h
  ·rename_i v l1 f g;cases h;obtain ⟨rfl,e⟩:=WG f j;obtain ⟨rfl,k⟩:=WH g i;subst m;exact ⟨rfl,by simp only[ml,k,Bool.and_true];exact e⟩
  grind
 |[],_::_,_,_,h=>h.elim
 |_::_,[],_,_,h=>h.elim
def arX {s:bc D} {v w:af} (h:Cq s=J w) (a:rel X.G z vs s v):v=w/\aF.flat w=aa:=by
 unfold Cq at h;split at h
 ·obtain ⟨rfl,g⟩:=WE h a;refine ⟨rfl, ?_⟩;cases v<;>first|exact g|cases g
 ·split at h
  ·rename_i f d;cases h;obtain ⟨e,rfl,b⟩:=a;obtain ⟨rfl,g⟩:=WG d b;exact ⟨rfl,g⟩
  grind
 ·split at h
  ·rename_i i d;cases h;obtain ⟨e,rfl,b⟩:=a;obtain ⟨rfl,g⟩:=WH d b;exact ⟨rfl,g⟩
  grind
 grind
def PW:Option (Nat×Nat)->List dt|none=>[]|some p=>[.o p.1 (.recv p.2)]
def X2:(c:Option (Nat×Nat))->tL D c->ft D (PW c)|none,_=>()|some _,r=>(r,())
def auZ (c:Option (Nat×Nat)) (r:tL D c):eU X (PW c) (X2 c r)=rb X c r:=by cases c<;>rfl
def ati {c:Option (Nat×Nat)} {r:tL D c} {n:Nat}:(match c with|none=>[]|some _=>[n]).length=(rb X c r).length:=by cases c<;>rfl
def asL {d:fS D} {r:tL D d.ij}:(rb X d.ij r).length=(sm d).length:=by
 unfold sm;rw[<-ati (X:=X) (r:=r) (n:=d.re)]
def at2 (X:e3 P D) (d:fS D) (r:tL D d.ij) (y:mz D d.outs) (z:Nat->bW) (m:Mem) (kk:Option Nat) (dB:List af) (f:fG) (h:Nat->af) (g:Mem):Prop:=(f= .normal\/f= .ret)/\∃a,q2 P h g d.lV (d.eX.map a)/\∃b e,dT m.next z b/\b9 X.G (ly X (sm d) (rb X d.ij r) d.outs (gn _ y)) b m g kk (dB++e)/\(∀q∈hc X d.outs (gn _ y)++d.fu,rel X.G b (dB++e) q.2 (a q.1))/\IE d.outs d.fu a
def Au (X:e3 P D) (B:Code) (d:fS D) (F:d.F):Prop:=∀(r:tL D d.ij) (x:ft D d.ins) (y:mz D d.outs) {z:Nat->bW} {m:Mem} {kk:Option Nat} {dB:List af} {a:Nat->af},
 F r x=J y->b9 X.G (rb X d.ij r) z m m kk dB->fj X z dB (hc X d.ins x++(d.fg++xu d.ij)) a->W P B (at2 X d r y z m kk dB) a m
def arx {t:Nat} {a:bc D} {V:bc D} {v:af} (s:b9 X.G O z e m k vs) (N:rel X.G z vs a v) (h:XX P t a O=J V):∃b l w,v= .pointer (J ⟨b,l,ae⟩)/\rel X.G z vs V w/\∃d,P.underlying t=J d/\
  (if lI d=aa then ∃i f,P.info? t=J i/\kd m b l i.size=J f/\w= .agg f.toArray else m.load b l=J w):=by
 have q:∀{b n:Nat} {f:List (cv D)} {g:List af},(∀(j:Nat) (w:af),g[j]? =J w->m.load b (0+j)=J w)->bP (ed X.G z vs) f g->o7 (P:=P) t f n J=J V->∃w,rel X.G z vs V w/\∃d,P.underlying t=J d/\(if lI d=aa then ∃i f,P.info? t=J i/\kd m b n i.size=J f/\w= .agg f.toArray else m.load b n=J w):=by
  intro b n f g C p h;unfold o7 at h;split at h
  ·grind
  ·rename_i d E;split at h
   ·rename_i S;split at h
    ·grind
    ·rename_i i U;split at h
     ·rename_i K;cases h;have L:bP (ed X.G z vs) ((f.drop n).take i.size) ((g.drop n).take i.size):=bP.take _ (bP.drop _ p);have Z:((g.drop n).take i.size).length=i.size:=by rw[<-L.length];grind
      refine ⟨.agg ((g.drop n).take i.size).toArray,⟨_,rfl,L⟩,d,E, ?_⟩
      grind [Cc]
     grind
   ·rename_i S;split at h
    ·rename_i c R;cases h;obtain ⟨w,Y,M⟩:=p.get n c R;refine ⟨w,M,d,E, ?_⟩
     grind
    grind
 unfold XX at h;split at h
 ·rename_i i l;obtain ⟨b,A,T⟩:=N;split at h
  ·rename_i u f bZ Q y;have F:=s.obj i _ _ y A;cases bZ with
   |true=>
    obtain ⟨H,g,r,C,p⟩:=F;cases r;obtain ⟨w,I,B⟩:=q (b:=b) (s.aS.tm C) p h
    grind
   |false=>
    obtain ⟨H,g,r,x,_,p⟩:=F;cases r;obtain ⟨w,I,B⟩:=q (b:=b) x.tm p h
    grind
  ·rename_i u f Q y;obtain ⟨H,g,r,x,p⟩:=s.obj i _ _ y A;cases r;obtain ⟨w,I,B⟩:=q (b:=b) x.tm p h
   grind
  grind
 grind
def Xt:∀{e:List ResultVar} {n:Nat} {l:List (Nat×bc D)},xx P E O n e=J l->∀x∈nL n e,x<pX\/n<=x
 |[],n,l,_,x,b=>by grind [nL]
 | .tmp d::e,n,l,h,x,b=>by
  obtain ⟨g,f⟩:=gz h;simp only[nL,ha] at b;rcases b with rfl|b
  ·simp_all
  ·rcases Xt f x b with h|h
   ·grind
   grind
 | .cell a t::e,n,l,h,x,b=>by
  simp only[xx] at h;split at h
  ·rename_i V i _ f;simp only[nL,ha] at b;rcases b with rfl|b
   ·grind
   ·rcases Xt f x b with h|h
    ·grind
    grind
  grind
def Xu (s:b9 X.G O z e m k vs) (r:fj X z vs E fr):∀{g:List ResultVar} {n:Nat} {l:List (Nat×bc D)},pX<=n->xx P E O n g=J l->∃f,(∀d,d<n->f d=fr d)/\fj X z vs (l++E) f/\q2 P fr m g ((nL n g).map f)
 |[],n,l,_,h=>by cases h;exact ⟨fr,λ_ _=>rfl,r,trivial⟩
 | .tmp d::g,n,l,p,h=>by
  obtain ⟨F,j⟩:=gz h;have q:d<pX:=by simp_all
  obtain ⟨f,y,A,C⟩:=Xu s r (Nat.le_succ_of_le p) j;exact ⟨f,λd q=>y d (Nat.lt_succ_of_lt q),A,y d (Nat.lt_succ_of_lt (hS q p)),C⟩
 | .cell a t::g,n,l,p,h=>by
  simp only[xx] at h;split at h
  ·rename_i V K F j;cases h;obtain ⟨f,y,A,C⟩:=Xu s r (Nat.le_succ_of_le p) j;obtain ⟨b,B,w,I,N,Q⟩:=arx s (r a) F;refine ⟨λi=>if i=n then w else f i,λd q=> ?_,λi=> ?_, ?_⟩
   ·grind
   ·show rel X.G z vs (eI ((n,V)::(K++E)) i) (if i=n then w else f i);simp only[eI];split
    ·simp_all
    ·rename_i L;rw[if_neg (by rintro rfl;simp_all)];exact A i
   ·have M:(nL (n+1) g).map (λi=>if i=n then w else f i)=(nL (n+1) g).map f:=by
     apply YW;intro x H;rw[if_neg];rintro rfl;rcases Xt j _ H with h|h<;>omega
    refine ⟨⟨b,B,I, ?_⟩, ?_⟩
    ·grind
    grind
  grind
def adx {d:List (Nat×bc D)} {e:List (cv D)} {b:Nat}:∀{cs:List (cv D)} {a i:Nat},(x2 d e b a cs)[i]? =(cs[i]?).map λc=>if tq d b (a+i)=aa then e.getD (a+i) .gE else c
 |[],a,i=>by rfl
 |c::cs,a,0=>by rfl
 |c::cs,a,i+1=>by simp only[x2,qH];rw[adx (cs:=cs),show a+1+i=a+(i+1) by omega]
theorem ady {d:List (Nat×bc D)} {e:List (cv D)} {b:Nat}:∀{cs:List (cv D)} {a:Nat},(x2 d e b a cs).length=cs.length
 |[],_=>rfl
 |c::cs,a=>by simp[x2,ady (cs:=cs)]
def fj.app {A:List (Nat×bc D)} (b:fj X z vs E fr) (h:∀p∈A,rel X.G z vs p.2 (fr p.1)):fj X z vs (A++E) fr:=by
 induction A with
 |nil=>grind
 |cons p A a=>grind [cons]
theorem W4 {n:Nat}:∀{E:List (Nat×bc D)},(E.all λp=>mn p.1 n)=aa->∀s,n<=s->eI E s= .un
 |[],_,s,_=>rfl
 |p::E,h,s,a=>by
  simp only[ml,fx] at h;have b:p.1<n:=by simp_all
  simp only[eI];rw[if_neg (by simp;omega)];exact W4 h.2 s a
def BY {f:List (Nat×bc D)}:∀{aQ:List dt} {l:List (Nat×bc D)},uH X f E aQ=J l->(∀p∈l,fk<=p.1/\(p.1 - fk)%64=0/\∃t a,eI E ((p.1 - fk) / 64)= .agg t a/\p.2= .agg t (x2 f (nQ X t) p.1 0 a))/\
  ∀s c,dt.v s c∈aQ->fk<=s->∃t a,eI E ((s - fk) / 64)= .agg t a
 |[],l,h=>by cases h;exact ⟨by simp,by simp⟩
 | .o _ _::aQ,l,h=>by
  obtain ⟨b,d⟩:=BY (aQ:=aQ) h
  grind
 | .u _ _::aQ,l,h=>by
  obtain ⟨b,d⟩:=BY (aQ:=aQ) h
  grind
 | .v PZ j::aQ,l,h=>by
  simp only[uH] at h;split at h
  ·rename_i e;obtain ⟨g,h⟩:=gz h;split at h
   ·rename_i t a k;split at h
    ·rename_i l1 i;cases h;obtain ⟨b,d⟩:=BY (aQ:=aQ) i
     grind [pk,kA]
    grind
   grind
  ·rename_i e;obtain ⟨b,d⟩:=BY (aQ:=aQ) h
   grind [Nat.ble_eq_true_of_le]
def WD:∀{l:List (Nat×bc D)},∀p∈yF E l,fk<=p.1/\p.2=Ua E (p.1 - fk)
 |[],p,h=>by cases h
 |q::l,p,h=>by
  simp only[yF] at h;split at h
  ·rename_i a;rcases ha.1 h with rfl|h
   ·simp_all
   ·exact WD p h
  ·exact WD p h
def att {r:List (Nat×bc D)} {j:List dt} {L:List (Nat×bc D)} (N:fj X z vs E fr) (oO:(E.all λp=>mn p.1 fk)=aa) (h:uH X r E j=J L):
  ∃k,(∀s,s<fk->k s=fr s)/\fj X z vs (L++(yF E r++E)) k/\IE j r k:=by
 obtain ⟨m1,m2⟩:=BY h
 let n:Nat->Nat:=λs=>match eI E s with| .agg t _=>t|_=>0
 let k:Nat->af:=λs=>if s<fk then fr s else match fr ((s - fk) / 64) with
  | .agg e=>if (s - fk)%64=0 then .agg ((mN e.toList.length).map λi=>if tq r s i=aa then YA (XE (X:=X) (t:=n ((s - fk) / 64)) i) else e.toList.getD i undef).toArray else e.toList.getD ((s - fk)%64 - 1) undef
  |v=>v
 have S:∀s,s<fk->k s=fr s:=λs A=>if_pos A;have x:∀s t f,fk<=s->eI E ((s - fk) / 64)= .agg t f->∃e:List af,fr ((s - fk) / 64)= .agg e.toArray/\bP (ed X.G z vs) f e/\
   k s=if (s - fk)%64=0 then .agg ((mN e.length).map λi=>if tq r s i=aa then YA (XE (X:=X) (t:=t) i) else e.getD i undef).toArray else e.getD ((s - fk)%64 - 1) undef:=by
  intro s t f A g;have y:=N ((s - fk) / 64);rw[g] at y;obtain ⟨e,m,q⟩:=y;refine ⟨e,m,q, ?_⟩;show (if s<fk then _ else _)=_;rw[if_neg (by omega)];simp only[m,n,g]
 have F:fj X z vs E k:=λs=>by
  by_cases A:s<fk
  ·rw[S s A];exact N s
  ·rw[W4 oO s (by omega)];trivial
 refine ⟨k,S,(F.app λp I=> ?_).app λp I=> ?_,λd t hm=> ?_⟩
 ·obtain ⟨m,q⟩:=WD p I;rw[q];unfold Ua;split
  ·trivial
  ·rename_i Y;split
   ·rename_i t f g;obtain ⟨e,_,C,l⟩:=x p.1 t f m g;split
    ·rename_i c V;obtain ⟨w,R,y⟩:=C.get _ c V;rw[l,if_neg (by simp_all)];have H:e.getD ((p.1 - fk)%64 - 1) undef=w:=by grind
     rw[H];exact y
    ·trivial
   ·trivial
 ·obtain ⟨m,q,t,f,g,br⟩:=m1 p I;obtain ⟨e,_,C,l⟩:=x p.1 t f m g;rw[br,l,if_pos q];have Q:=(lx.1 C).1;refine ⟨_,rfl,lx.2 ⟨by grind [ady],λi a b B T=> ?_⟩⟩;rw[adx] at B;obtain ⟨a0,Y,B⟩:=vT.1 B;rw[lH] at B;have M:i<e.length:=by grind
  rw[sH,List.getElem?_range M] at T
  grind [lx]
 ·obtain ⟨O,f,g⟩:=m2 _ _ hm (by omega);obtain ⟨e,P,C,l⟩:=x (fk+64*d) O f (by omega) g;have Z:(fk+64*d - fk) / 64=d:=by omega
  have e2:(fk+64*d - fk)%64=0:=by omega
  rw[if_pos e2] at l;rw[Z] at P g;have bg:d<fk:=by
   grind [W4]
  refine ⟨_,e,l,by grind,by simp,λi w R=> ?_⟩;have M:=(fq.1 R).1;split
  ·rename_i aM;have U:i<63:=by
    grind [tq,Nat.blt_eq]
   obtain ⟨nv,K,_,fo⟩:=x (fk+64*d+1+i) O f (by omega) (by rw[show (fk+64*d+1+i - fk) / 64=d by omega];grind);rw[show (fk+64*d+1+i - fk) / 64=d by omega,P] at K;have K:e=nv:=by
    grind
   subst K;rw[fo,if_neg (by omega),show (fk+64*d+1+i - fk)%64 - 1=i by omega]
   grind
  simp_all
def Au.of (U:iV X) {B:Code} {us:List (mP D)} {d:fS D} {F:d.F} (te:∀u∈us,0<u.path.length->qJ X B u)
  (V:∀r x,j8 X us calm aa [] B (hc X d.ins x++(d.fg++xu d.ij)) (rb X d.ij r) (PY X d)=F r x):Au X B d F:=by
 intro r x y z m kk dB fr Y f S;have h:=V r x;rw[Y] at h;refine (Lh U (L:=0) te B aa [] _ _ _ y (sc B) (by simp) (by simp) f S h).mono ?_;rintro ex fY m1 ⟨dv,jK,ia,cu,bR,I,E,k,T,q⟩;obtain ⟨n,q⟩:=gz q;obtain ⟨l,Z,a⟩:=bind_some q;obtain ⟨K,fv,H,M⟩:=Xu k T (e4 _) Z;have R:(sm d).length=dB.length:=by rw[f.len,asL]
 rw[R] at a;have g:=auZ (X:=X) d.ij r;by_cases j:wg d.outs=aa
 ·replace a:=(if_pos j).symm.trans a
  obtain ⟨N,a⟩:=gz a;simp only[fx] at N;obtain ⟨BE,p,a⟩:=bind_some a;obtain ⟨O,kN,iS,wR⟩:=att H N.1 p;obtain ⟨C,w,s,e,A⟩:=B8 (ks:=sm d) (ins:=PW d.ij) (x:=X2 d.ij r) (ee:=d.ee) (by grind) E (by rw[g];exact f.len) k iS a;rw[g] at e;have oR:d.eX.map K=d.eX.map O:=YW λx n=>(kN x (by simp_all)).symm;exact ⟨n,O,oR▸M,C,w,I.trans s,e,A,wR⟩
 replace a:=(if_neg j).symm.trans a
 obtain ⟨C,w,s,e,A⟩:=B8 (ks:=sm d) (ins:=PW d.ij) (x:=X2 d.ij r) (ee:=d.ee) (by grind) E (by rw[g];exact f.len) k H a;rw[g] at e;refine ⟨n,K,M,C,w,I.trans s,e,A,λP t hm=>absurd ?_ j⟩;have:∀{b:List dt},dt.v (fk+64*P) (.agg t)∈b->wg b=aa:=by
  intro b;induction b with
  |nil=>grind
  |cons i b Q=>
   intro h;rcases ha.1 h with rfl|h
   ·simp[wg]
   ·have:=Q h;cases i<;>simp[wg,this]
 grind
end
end
end
section
noncomputable section
section
variable {P:bI} {D:Nat->Type} {X:e3 P D} {z dv z2:Nat->bW} {e m m1:Mem} {k q:Option Nat} {vs:List af} {fr:Nat->af} {E:List (Nat×bc D)} {O cr:List (ba D)} {ap:Type} {r:ap}
def WC:∀{l:List (bc D)} {b:List af} {i:Nat},bP (rel X.G z vs) l b->(∀(j:Nat) (v:af),b[j]? =J v->fr (i+j)=v)->fj X z vs (mg i l) fr
 |[],[],i,_,_=>λd=>trivial
 |s::l,a::b,i,⟨k,e⟩,f=>by
  refine (WC (i:=i+1) e λj v g=> ?_).cons ?_
  ·rw[show i+1+j=i+(j+1) by omega];simp_all
  ·have:=f 0 a rfl
   grind
 |[],_::_,_,h,_=>h.elim
 |_::_,[],_,h,_=>h.elim
structure Il (P:bI) (X:e3 P D) (d:fS D) (F:d.F):Prop where
 ex:∃fn c,P.funcs[d.f]? =J fn/\qm P fn c/\lR P d.f=aa/\iJ d.lQ fn.ntmps=aa/\fn.results.toList=d.lV/\Au X c d F
 new:sh d.outs=aa
 ay9:(d.fg.all λp=>tJ p.2)=aa
 avH:(d.fu.all λp=>tJ p.2)=aa
 avI:(d.fg.all λp=>(GY p.2).isNone)=aa
def Wb {c:cv D} {w:af} (h:Cp c=J w):ed X.G z vs c w/\dy w=aa/\kz w=aa/\aF.flat w=aa:=by
 cases c<;>first|(cases h;done)|(cases h;exact ⟨rfl,rfl,rfl,rfl⟩)
def Wc:∀{b:List (cv D)} {a:List af},xl b=J a->bP (ed X.G z vs) b a/\a.all dy=aa
 |[],_,h=>by cases h;exact ⟨trivial,rfl⟩
 |c::b,a,h=>by
  simp only[xl] at h;split at h
  ·rename_i v l d e;cases h;obtain ⟨f,i,_⟩:=Wb (X:=X) (z:=z) (vs:=vs) d;obtain ⟨g,j⟩:=Wc e;exact ⟨⟨f,g⟩,by grind⟩
  grind
def Wd:∀{l:List (cv D⊕(Nat×List (cv D)))} {a:List af},tG l=J a->bP (vt X.G z vs) l a/\a.all kz=aa
 |[],_,h=>by cases h;exact ⟨trivial,rfl⟩
 | .inl c::l,a,h=>by
  simp only[tG] at h;split at h
  ·rename_i v l1 b d;cases h;obtain ⟨e,_,g,_⟩:=Wb (X:=X) (z:=z) (vs:=vs) b;obtain ⟨f,i⟩:=Wd d;exact ⟨⟨e,f⟩,by grind⟩
  grind
 | .inr p::l,a,h=>by
  simp only[tG] at h;split at h
  ·rename_i v l1 b d;cases h;obtain ⟨e,g⟩:=Wc (X:=X) (z:=z) (vs:=vs) b;obtain ⟨f,i⟩:=Wd d;exact ⟨⟨⟨v,rfl,e⟩,f⟩,by simp only[ml,i,Bool.and_true];exact g⟩
  grind
def aqu {s:bc D} {w:af} (h:Cq s=J w):rel X.G z vs s w/\aF.flat w=aa:=by
 unfold Cq at h;split at h
 ·obtain ⟨a,_,_,b⟩:=Wb (X:=X) (z:=z) (vs:=vs) h;exact ⟨a,b⟩
 ·split at h
  ·rename_i e d;cases h;obtain ⟨a,b⟩:=Wc (X:=X) (z:=z) (vs:=vs) d;exact ⟨⟨e,rfl,a⟩,b⟩
  grind
 ·split at h
  ·rename_i f d;cases h;obtain ⟨a,b⟩:=Wd (X:=X) (z:=z) (vs:=vs) d;exact ⟨⟨f,rfl,a⟩,b⟩
  grind
 grind
def Inv.app (O N:List (ba D)):Inv O (O++N):=⟨by simp,λi p a b _ _=>by grind⟩
def b9.nil (a:b9 X.G O z e m k vs):b9 X.G ([]:List (ba D)) z m m ae []:=⟨dL.start a.aS.bZ a.aS.dead,rfl,by simp,by simp⟩
def ad6 {kk:Option Nat} (h:dL dv e m k) (a:dL z2 m m1 kk) (i:∀b,kk=J b->e.next<=b\/k=J b):dL z2 e m1 k/\gl m m1 kk:=
 ⟨⟨a.bZ,a.dead,h.oL,jd h.next a.next,λb d f=>by
  rw[a.kept b (hS d h.next) (λg=>by grind)];exact h.kept b d f⟩,⟨a.next,a.dead,a.kept⟩⟩
def adv {a:List dt} {e:List (Nat×bc D)} {d f:List (bc D)} {j:List (ba D)} {x:ft D a} {dB:List af} (i:fj X z vs (mg 0 d) fr) (l:yd X z vs fr a f) (k:iG X [] j a f []=J x)
  (h:(e.all λp=>wa [] p.2 (eI (mg 0 d) p.1))=aa):∀p∈hc X a x++e,rel X.G z dB p.2 (fr p.1):=by
 intro p b;rcases kU.1 b with b|b
 ·grind [zN]
 ·have g:=iA.1 h p b;have:=Xi (X:=X) (vs':=dB) id g (i p.1) (by simp)
  grind [Lp]
def after {a:List dt} {y:ft D a} {pU:List (ba D)} {dB d:List af} {kk:Option Nat} {L z:List (ba D)} {f:Nat->Nat} (O:b9 X.G L dv e m k vs) (C:b9 X.G z z2 e m1 k vs) (r:b9 X.G (pU++eU X a y) z2 m m1 kk (dB++d)) (U:dB.length=pU.length) (F:sh a=aa)
  (I:∀(j:Nat) (o:ba D) (v:af),z[j]? =J o->vs[j]? =J v->o.live=aa->∀b,dQ v=J b->b<m.next) (l:∀(j:Nat) (u:af),(dB++d)[j]? =J u->(vs++d)[f j]? =J u):b9 X.G (z++mkOr X f a y) z2 e m1 k (vs++d):=by
 have R:(eU X a y).length=(mkOr X f a y).length:=by grind [mD,va]
 have S:d.length=(eU X a y).length:=by
  have:=r.len
  grind
 have A:∀(j:Nat) (o:ba D) (v:af),(mkOr X f a y)[j]? =J o->d[j]? =J v->∃q∈cos a y,o=cw.gO X f q.c q.x ak/\(pU++eU X a y)[pU.length+j]? =J (cw.mk X q.c q.x ak)/\(dB++d)[pU.length+j]? =J v:=by
  grind [va,mD]
 refine C.al6 (S.trans R) I (λj o v h g=> ?_) (λi j o p v w V h H g Q=> ?_)
 ·obtain ⟨q,B,rfl,s,t⟩:=A j o v h g;have K:=r.obj _ _ v s t;exact born (KR F B) O.aS.next (cw.y8 (nR:=f) (vs':=vs++d) ak K λn _ u P=>l n u P)
 ·obtain ⟨q,B,rfl,s,t⟩:=A i o v h g;obtain ⟨Y,E,rfl,M,N⟩:=A j p w H Q;exact r.fD _ _ _ _ v w (by omega) s M cw.u4 cw.u4 t N
theorem KS:∀{aQ:List dt},sh aQ=aa->∀d c,dt.v d c∈aQ->c.y9=aa
 | .v d c::aQ,h,e,b,a=>by
  have h:=tY.1 h;rcases ha.1 a with f|a
  ·grind
  ·exact KS (aQ:=aQ) h.2 e b a
 | .u d c::aQ,h,e,b,a=>by
  rcases ha.1 a with f|a
  ·grind
  ·exact KS (aQ:=aQ) h e b a
 | .o d c::aQ,h,e,b,a=>by
  rcases ha.1 a with f|a
  ·grind
  ·refine KS (aQ:=aQ) ?_ e b a;cases c<;>first|exact h|cases h
def K9:∀{aQ:List dt} {x:ft D aQ} {p:Nat×bc D},p∈hc X aQ x->∃c y,dt.v p.1 c∈aQ/\p.2=gR.mk X c y
 |[],_,_,h=>by grind [hc]
 | .o d c::aQ,x,p,h=>by
  obtain ⟨b,y,e,a⟩:=K9 (aQ:=aQ) (x:=x.2) h
  grind
 | .u d c::aQ,x,p,h=>by
  obtain ⟨b,y,e,a⟩:=K9 (aQ:=aQ) (x:=x.2) h
  grind
 | .v d c::aQ,x,p,h=>by
  rcases ha.1 h with rfl|h
  ·grind
  ·obtain ⟨b,y,e,a⟩:=K9 (aQ:=aQ) (x:=x.2) h
   grind
def W5:∀{E:List (Nat×bc D)} {s:Nat} {v:bc D},eI E s=v->v≠ .un->(s,v)∈E
 |[],_,_,h,a=>absurd h.symm a
 |p::E,s,v,h,a=>by
  simp only[eI] at h;split at h
  ·grind [kA]
  ·exact kn _ (W5 h a)
def adA {a:Nat->Nat}:∀{l:List (Nat×bc D)} {s:Nat},eI (l.map λq=>(q.1,pE a q.2)) s=pE a (eI l s)
 |[],_=>rfl
 |p::l,s=>by
  simp only[rA,eI];split
  ·rfl
  ·exact adA
def adn {b:Nat}:∀{cs:List (cv D)} {a i:Nat},(wS E b a cs)[i]? =(cs[i]?).map (XT (mn (a+i) 63) (eI E (b+1+(a+i))))
 |[],a,i=>by rfl
 |c::cs,a,0=>by rfl
 |c::cs,a,i+1=>by simp only[wS,qH];rw[adn (cs:=cs),show a+1+i=a+(i+1) by omega]
theorem ado {b:Nat}:∀{cs:List (cv D)} {a:Nat},(wS E b a cs).length=cs.length
 |[],_=>rfl
 |c::cs,a=>by simp[wS,ado (cs:=cs)]
def WK {b e:List (Nat×bc D)}:∀{f:List Nat},∀p∈BB b e f,∃t a,eI b (fk+64*p.1)= .agg t a/\p.2= .agg t (wS e (fk+64*p.1) 0 a)
 |[],p,h=>by cases h
 |d::i,p,h=>by
  simp only[BB] at h;split at h
  ·rename_i t a g;rcases ha.1 h with rfl|h
   ·grind
   ·exact WK p h
  ·exact WK p h
def atA {b:List dt} {y:ft D b} {f:List (Nat×bc D)} {k:Nat->Nat} {O:List Nat} (h:∀q∈hc X b y++f.map λq=>(q.1,pE k q.2),rel X.G z vs q.2 (fr q.1)) (I:IE b f fr):fj X z vs (PX (hc X b y) (f.map λq=>(q.1,pE k q.2)) O) fr:=by
 refine (Cm h).app λp L=> ?_;obtain ⟨t,cs,T,F⟩:=WK p L;have A:=W5 T (by simp);obtain ⟨c,a,R,S⟩:=K9 A;have H:c= .agg t:=by cases c<;>simp[gR.mk] at S;grind
 subst H;obtain ⟨Z,N,r,M,fo,V⟩:=I _ _ R;obtain ⟨l,Y,s⟩:=h _ (kU.2 (.inl A));rw[Y] at r;have r:l=Z:=by
  grind
 subst r;rw[F];have x:=(lx.1 s).1;refine ⟨N,M,lx.2 ⟨by grind [ado],λi C w d U=> ?_⟩⟩;rw[adn] at d;obtain ⟨E,K,d⟩:=vT.1 d;rw[lH,adA] at d;have j:=V i w U;cases g:tq f (fk+64*p.1) i with
 |true=>
  rw[if_pos g] at j;unfold tq at g;simp only[fx] at g;obtain ⟨Q,P⟩:=g;split at P
  ·rename_i n e;rw[Q,e] at d;have d:cv.own (k n)=C:=d;subst d;have B:=W5 e (by simp);have:=h (fk+64*p.1+1+i, .c (.own (k n))) (kU.2 (.inr (l2.2 ⟨_,B,rfl⟩)));rw[<-j];exact this
  grind
 |false=>
  rw[if_neg (by grind)] at j;have aV:=(lx.1 s).2 i E w K j;unfold XT at d;split at d
  ·rename_i n aw e;exfalso;have:eI f (fk+64*p.1+1+i)= .c (.own n)\/∃m,eI f (fk+64*p.1+1+i)= .c (.own m):=by
    generalize eI f (fk+64*p.1+1+i)=q at e;cases q with
    |c q=>cases q<;>first|exact .inr ⟨_,rfl⟩|cases e
    |_=>first|cases e|(unfold pE at e;grind)
   grind [tq]
  grind
def aeF {k:List Nat} {a:List dt} {y:ft D a} {d:List (Nat×bc D)} {dB f:List af} {e:Nat->Nat} (n:sh a=aa) (m:(d.all λp=>tJ p.2)=aa) (h:(∀q∈hc X a y++d,rel X.G z dB q.2 (fr q.1))/\IE a d fr) (l:∀(j:Nat) (u:af),dB[j]? =J u->f[e j]? =J u):
  fj X z f (PX (hc X a y) (d.map λq=>(q.1,pE e q.2)) k) fr:=by
 obtain ⟨h,i⟩:=h;refine atA (λq b=> ?_) i;rcases kU.1 b with b|b
 ·grind [zB,gR.VP,KS]
 ·obtain ⟨r,g,rfl⟩:=l2.1 b
  grind [XU]
def asJ {t b:Nat} {o:ba D} {x:D t} (g:zP X t (J o)=J x) (I:hf X.G z e m k vs o (.pointer (J ⟨b,0,ae⟩))):
  o.live=aa/\(e.next<=b\/k=J b)/\(∀h,hf X.G z m m (J b) h (.recv t (jl X t x) ak:ba D) (.pointer (J ⟨b,0,ae⟩)))/\
  (∀{p:Nat->bW} {l:Mem} {w:Bool} {a:D t} {H:List af},hf X.G p m l (J b) H (.recv t (jl X t a) w:ba D) (.pointer (J ⟨b,0,ae⟩))->hf X.G p e l k vs (GW t (jl X t a) o) (.pointer (J ⟨b,0,ae⟩))/\(o.clean=aa->a=x->hf X.G p e l k vs o (.pointer (J ⟨b,0,ae⟩)))):=by
 unfold zP at g;split at g
 ·rename_i L K w C;cases C;obtain ⟨q,g⟩:=gz g;subst q;obtain ⟨c,B,F,f,i,A⟩:=I;cases F;refine ⟨rfl, .inl i,λh=>⟨b,B,rfl,⟨f.blk,f.lt,f.dead, .inr rfl⟩,vl g A⟩, ?_⟩;intro p l w a H r;obtain ⟨c,n,E,d,j⟩:=r;cases E;refine ⟨⟨b,n,rfl,⟨d.blk,d.lt,d.dead, .inl i⟩,i,tC j⟩,λs y=> ?_⟩;subst y;rw[LA g s];exact ⟨b,n,rfl,⟨d.blk,d.lt,d.dead, .inl i⟩,i,tC j⟩
 ·rename_i L K w C;cases C;obtain ⟨q,g⟩:=gz g;subst q;obtain ⟨c,B,F,f,A⟩:=I;cases F;refine ⟨rfl,f.fresh,λh=>⟨b,B,rfl,⟨f.blk,f.lt,f.dead, .inr rfl⟩,vl g A⟩, ?_⟩;intro p l w a H r;obtain ⟨c,n,E,d,j⟩:=r;cases E;refine ⟨⟨b,n,rfl,⟨d.blk,d.lt,d.dead,f.fresh⟩,tC j⟩,λs y=> ?_⟩;subst y;rw[LA g s];exact ⟨b,n,rfl,⟨d.blk,d.lt,d.dead,f.fresh⟩,tC j⟩
 grind
def fS.quiet (d:fS D):Bool:=d.flat&&d.ij.isNone
def gL (X:e3 P D) (d:fS D) (F:d.F):Prop:=∀(g:List (bc D)) (O:List (ba D)) {i:Type} (K:bc D->List (ba D)->Option i) (r:i) {z:Nat->bW} {e m:Mem} {k:Option Nat} {b:List af} (a:List af),
 b9 X.G O z e m k b->bP (rel X.G z b) g a->d.call X F g O K=J r->h2 P d.f a.toArray m λv h=>dH X O z e k b K r v h/\(d.quiet=aa->h=m)/\∃q,gG m h q/\oI b (q1 g) q
def gl.ZV {q:Option Nat} (h:gl m m1 q):gG m m1 q:=⟨h.next,h.blk⟩
def ac8 {i a d:Nat}:∀{l:List (bc D)} {n:Nat},eI (mg n l) d= .box i a->i∈q1 l
 |[],n,h=>by cases h
 |s::l,n,h=>by
  simp only[mg,eI] at h;split at h
  ·subst h;exact oG
  ·have:=ac8 h;cases s<;>first|exact this|exact kn _ this
def Il.call {d:fS D} {F:d.F} (eF:Il P X d F):gL X d F:=by
 intro cX O ap K r z e m k vs args aN dE h;obtain ⟨fn,c,f1,f2,f3,f4,f5,mS⟩:=eF.ex;have nE:=eF.new;have aa7:=eF.avH;unfold fS.call at h;obtain ⟨hlen,h⟩:=gz h;have hlen:=kA hlen;split at h
 ·rename_i mv cu bF;obtain ⟨an,h⟩:=gz h;split at h
  ·rename_i x aw;have cN:args.toArray.size<=fn.ntmps:=by
    rw[List.size_toArray,<-dE.length,hlen];simp_all
   have bp:∀fr:Nat->af,(∀i v,args.toArray.toList[i]? =J v->fr i=v)->fj X z vs (mg 0 cX) fr:=λfr hU=>WC dE λj v bn=>by grind
   obtain ⟨f,lQ,ins,fg,ij,re,outs,fu,lV,flat⟩:=d;cases ij with
   |none=>
    obtain ⟨y,aZ,h⟩:=bind_some h;split at h
    ·rename_i dR By;have body:∀fr:Nat->af,(∀i v,args.toArray.toList[i]? =J v->fr i=v)->W P c (λex fY m1=>(ex= .normal\/ex= .ret)/\∃dv z2 ep,Inv O cu/\dT e.next z dv/\b9 X.G cu dv e m k vs/\dT m.next dv z2/\b9 X.G (eU X outs (gn outs y)) z2 m m1 ae ep/\∃ic,q2 P fY m1 lV ((nL pX lV).map ic)/\(rel X.G z2 (vs++ep) dR (pack ((nL pX lV).map ic))/\(((nL pX lV).map ic).length=1\/∀x∈(nL pX lV).map ic,storable x=aa))) fr m:=by
      intro fr hU;obtain ⟨dv,g0,g1,g2,g3⟩:=w2 aN (bp fr hU) bF;have Bt:=adv (dB:=[]) ((bp fr hU).mono g1.le λ_ _ h=>h) g3 aw an;refine (mS () x y (z:=dv) (m:=m) (kk:=ae) (dB:=[]) aZ g2.nil (Cm λp bb=>Bt p (by grind [xu]))).mono ?_;rintro ex fY m1 ⟨he,ic,fv,z2,ep,cL,c9,fo⟩;have c9:b9 X.G (eU X outs (gn outs y)) z2 m m1 ae ep:=c9;refine ⟨he,dv,z2,ep,g0,g1,g2,cL,c9,ic,fv,Xf (aeF (dB:=ep) nE aa7 fo λj u hu=> ?_) By⟩;show (vs++ep)[cu.length+j]? =J u;rw[kT (by rw[g2.len];omega),g2.len,show cu.length+j - cu.length=j by omega]
      grind
     split at h
     ·split at h
      ·rename_i w hw;obtain ⟨dX,ix⟩:=aqu (X:=X) (z:=z) (vs:=vs) hw;refine (h2.flat (z:=z) f1 f2 f3 cN ix λfr hU=>(body fr hU).mono ?_).mono ?_
       ·rintro ex fY m1 ⟨he,dv,z2,ep,_,_,_,_,c9,ic,fv,fo,k4⟩;exact ⟨he,z2,c9.aS,_,by grind,k4,(arX hw fo).1⟩
       ·rintro v m' ⟨rfl,rfl⟩;exact ⟨dH.here aN dX h,λ_=>rfl,ae,gG.refl _, .inl rfl⟩
      grind
     ·rename_i aoi;refine h2.any f1 f2 f3 cN λfr hU=>(body fr hU).mono ?_;rintro ex fY m1 ⟨he,dv,z2,ep,g0,g1,g2,cL,c9,ic,fv,fo,k4⟩;obtain ⟨s1,s2⟩:=ad6 (e:=e) (k:=k) g2.aS c9.aS (by simp);refine ⟨he,_,by grind,k4,⟨z2,vs++ep,dR,_,g0.trans (Inv.app _ _),g1.trans (cL.Ja aN.aS.next),j0, ?_,fo,h⟩,λbm=>absurd (by grind [fS.quiet]) aoi,ae,s2.ZV, .inl rfl⟩;have aT:=g2.call cL s2 s1 rfl λj o' bn=> .inl ⟨bn,λ_ v _=>e6.qg⟩;have aol:∀(j:Nat) (u:af),([]++ep)[j]? =J u->(vs++ep)[cu.length+j]? =J u:=λj u hu=>by
       rw[kT (by rw[g2.len];omega),g2.len,show cu.length+j - cu.length=j by omega]
       grind
      exact after (pU:=[]) (dB:=[]) g2 aT c9 rfl nE (λj o v aM aD aR b aw=>((g2.obj j o v aM aD).lt aR b aw).1) aol
    grind
   |some p=>
    unfold Ck at h;dsimp only at h;split at h
    ·rename_i i az;split at h
     ·rename_i o aM;obtain ⟨G0,aa4,h⟩:=bind_some h;obtain ⟨y,aZ,h⟩:=bind_some h;split at h
      ·rename_i dR By;refine h2.any f1 f2 f3 cN λfr hU=> ?_;obtain ⟨dv,g0,g1,g2,g3⟩:=w2 aN (bp fr hU) bF;have Bt:=λdB=>adv (dB:=dB) ((bp fr hU).mono g1.le λ_ _ h=>h) g3 aw an;have bb:=bp fr hU p.1;rw[az] at bb;obtain ⟨b,js,jR⟩:=bb;have cG:=g2.obj i o _ aM js;obtain ⟨oq,o9,ay5,ay6⟩:=asJ aa4 cG;have am':b9 X.G (rb X (J p) G0) dv m m (J b) [.pointer (J ⟨b,0,ae⟩)]:=by
        refine ⟨dL.start g2.aS.bZ g2.aS.dead,rfl,λj o' v bn aD=> ?_,λa dJ o' qj v w jV bl e5=> ?_⟩
        ·grind [rb]
        grind
       refine (mS G0 x y (z:=dv) (m:=m) (kk:=J b) (dB:=[.pointer (J ⟨b,0,ae⟩)]) aZ am' (Cm λq bm=> ?_)).mono ?_
       ·rcases kU.1 bm with bm|bm
        ·grind
        ·rcases kU.1 bm with bm|bm
         ·grind
         ·simp only[xu,ha,List.not_mem_nil,or_false] at bm;subst bm;exact ⟨b,rfl,jR⟩
       rintro ex fY m1 ⟨he,ic,fv,z2,ep,cL,c9,fo⟩;obtain ⟨s1,s2⟩:=ad6 (e:=e) (k:=k) g2.aS c9.aS (λc ay=>by grind);have ax1:i<cu.length:=(fq.1 aM).1;have rU:∀(j:Nat) (u:af),([af.pointer (J ⟨b,0,ae⟩)]++ep)[j]? =J u->(vs++ep)[wL i cu.length j]? =J u:=by
        intro j u hu;cases j with
        |zero=>
         simp at hu;subst hu;show (vs++ep)[i]? =_
         grind
        |succ j=>
         simp at hu;show (vs++ep)[cu.length+(j+1 - 1)]? =_;rw[kT (by rw[g2.len];omega),g2.len,show cu.length+(j+1 - 1) - cu.length=j by omega]
         grind
       have oR:=Xf (aeF nE aa7 fo rU) By;have c9:b9 X.G (([if re=1 then (.recv p.2 (jl X p.2 G0) ak:ba D) else if re=2 then kc X wE outs (gn outs y) 0 else .dead]:List (ba D))++eU X outs (gn outs y)) z2 m m1 (J b) ([.pointer (J ⟨b,0,ae⟩)]++ep):=c9;have cp:=c9.obj 0 _ (.pointer (J ⟨b,0,ae⟩)) rfl rfl;have apart:∀(j:Nat) (o':ba D),j≠i->cu[j]? =J o'->o'.live=aa->∀v,vs[j]? =J v->e6 (dQ v) (J b):=λj o' JO bn aR v aD=>g2.fD j i o' o v _ JO bn aM aR oq aD js;have apu:∀(j:Nat) (o':ba D) (v:af),cu[j]? =J o'->vs[j]? =J v->o'.live=aa->∀c,dQ v=J c->c<m.next:=λj o' v aM aD aR c ay=>((g2.obj j o' v aM aD).lt aR c ay).1;have fin:∀{sL:List (ba D)},Inv cu sL->b9 X.G sL z2 e m1 k vs->(∀(j:Nat) (o':ba D) (v:af),sL[j]? =J o'->vs[j]? =J v->o'.live=aa->∀c,dQ v=J c->c<m.next)->K dR (sL++mkOr X (wL i cu.length) outs (gn outs y))=J r->dH X O z e k vs K r (pack ((nL pX lV).map ic)) m1:=by intro sL anR aT cF k1;exact ⟨z2,vs++ep,dR,_,(g0.trans anR).trans (Inv.app _ _),g1.trans (cL.Ja aN.aS.next),j0,after g2 aT c9 rfl nE cF rU,oR.1,k1⟩
       have pF:∀{Ki:ba D},Ki.nd=aa->(∀v,vs[i]? =J v->hf X.G z2 e m1 k vs Ki v)->K dR (cu.set i Ki++mkOr X (wL i cu.length) outs (gn outs y))=J r->dH X O z e k vs K r (pack ((nL pX lV).map ic)) m1:=by
        intro Ki aJ aT k1;refine fin (Inv.set cu i (.inr aJ)) (g2.call cL s2 s1 (by simp) λj o' bn=> ?_) (λj o' v bn aD aR c ay=> ?_) k1
        ·grind
        grind
       refine ⟨he,_,by grind,oR.2, ?_,λbm=>absurd bm (by simp[fS.quiet]),J b,s2.ZV, .inr ⟨i,ac8 az,_,js,rfl⟩⟩;split at h
       ·rename_i Bn;rw[if_neg (by omega),if_pos Bn] at cp;split at h
        ·rename_i t cs w hu;obtain ⟨aJ,h⟩:=gz h;rcases tx (X:=X) (aQ:=outs) (x:=gn outs y) (j:=0) with bg|⟨_,c3,a',_,bg⟩
         ·grind
         ·cases c3 with
          |recv eu=>
           have bg:=bg wE;have Bi:=bg;rw[hu] at bg;simp only[cw.gO] at bg;cases bg;subst aJ;rw[Bi] at cp;refine pF ?_ (λv aD=> ?_) h
           ·unfold GW;split<;>rfl
           grind
          |_=>rw[bg] at hu;cases hu
        grind
       ·obtain ⟨Vd,h⟩:=gz h;rw[if_pos Vd] at cp;split at h
        ·rename_i kK;refine fin (Inv.refl cu) (g2.call cL s2 s1 rfl λj o' bn=> ?_) apu h
         grind
        ·refine pF ?_ (λv aD=> ?_) h
         ·unfold GW;split<;>rfl
         grind
      grind
     grind
    grind
  grind
 grind
structure mK (D:Nat->Type) where
 d:fS D
 F:d.F
def fS.fits (X:e3 P D) (d:fS D) (a:List (bc D)) (O:List (ba D)):Bool:=
 fi a.length d.lQ&&match rL (mg 0 a) d.ins O with
 |some (e,b)=>(d.fg.all λp=>wa [] p.2 (eI (mg 0 a) p.1))&&(iG X [] b d.ins e []).isSome
 |none=>ak
def K2 (X:e3 P D):List (mK D)->Nat->List (bc D)->List (ba D)->{b:Type}->(bc D->List (ba D)->Option b)->Option b|[],_,_,_,_,_=>ae|x::l,f,a,O,_,K=>if (fi x.d.f f&&x.d.fits X a O)=aa then x.d.call X x.F a O K else K2 X l f a O K
def Lk (X:e3 P D):List (mK D)->Nat->List (bc D)->List (ba D)->Bool|[],_,_,_=>ak|x::l,f,a,O=>if (fi x.d.f f&&x.d.fits X a O)=aa then x.d.quiet else Lk X l f a O
structure j6 (D:Nat->Type) where
 F:(f:Nat)->List (bc D)->List (ba D)->Bool
 hg:bS->Option bS->Option bS->Nat
 C:(f:Nat)->List (bc D)->List (ba D)->{ap:Type}->(bc D->List (ba D)->Option ap)->Option ap
 W:(f:Nat)->Bool
def e3.gm (X:e3 P D) (q:j6 D):e3 P D:={X with C:=q.C,F:=q.F,hg:=q.hg,W:=q.W}
def e3.with (X:e3 P D) (l:List (mK D)):e3 P D:=X.gm ⟨Lk X l,X.hg,K2 X l,X.W⟩
def e3.l9 (X:e3 P D) (f:bS->Option bS->Option bS->Nat):e3 P D:=X.gm ⟨X.F,f,X.C,X.W⟩
theorem ar4 (l:j6 D) (t:Nat):nQ (X.gm l) t=nQ X t:=by
 cases a:X.I t with
 |none=>
  have b:(X.gm l).I t=ae:=a
  grind [nQ]
 |some d=>have b:(X.gm l).I t=J d:=a;simp_all [nQ]
def w6 (l:j6 D) (t:Nat) (x:D t):jl (X.gm l) t x=jl X t x:=by
 cases a:X.I t with
 |none=>
  have b:(X.gm l).I t=ae:=a
  grind [jl]
 |some d=>have b:(X.gm l).I t=J d:=a;simp_all [jl]
theorem vb (l:j6 D) (t:Nat) (a:List (cv D)):mA (X.gm l) t a=mA X t a:=by
 cases b:X.I t with
 |none=>
  have d:(X.gm l).I t=ae:=b
  grind [mA]
 |some e=>have d:(X.gm l).I t=J e:=b;simp_all [mA]
def ab9 (l:j6 D):∀(a:List Nat) (x:wF D a),tD (X.gm l) a x=tD X a x
 |[],_=>rfl
 |t::a,x=>by show (t,jl (X.gm l) t x.1)::tD (X.gm l) a x.2=(t,jl X t x.1)::tD X a x.2;rw[ab9 l a x.2,w6 l t x.1]
theorem ab8 (l:j6 D):∀(a:List Nat) (x:List (Nat×List (cv D))),xa (X.gm l) a x=xa X a x
 |[],[]=>rfl
 |[],_::_=>rfl
 |_::_,[]=>rfl
 |t::a,p::x=>by simp only[xa,ab8 l a x,vb]
theorem gR.VQ (l:j6 D) (c:gR) (x:c.ty D):gR.mk (X.gm l) c x=gR.mk X c x:=by
 cases c with
 |fn f b=>exact congrArg (bc.fn f) (ab9 l b x)
 |agg t=>exact congrArg (bc.agg t) (w6 l t x)
 |hd t=>exact congrArg (λa=>bc.hd t a 0) (w6 l t x)
 |_=>rfl
def gR.JB (l:j6 D) (c:gR) (s:bc D):gR.get (X.gm l) c s=gR.get X c s:=by
 unfold gR.get;split
 ·rfl
 ·rfl
 ·rfl
 ·rfl
 ·rfl
 ·rfl
 ·rfl
 ·grind [vb]
 ·grind [vb]
 ·grind [ab8]
 ·rfl
 rfl
theorem cw.Kd (l:j6 D) (b:Nat->Nat) (c:cw) (x:c.ty D) (w:Bool):cw.gO (X.gm l) b c x w=cw.gO X b c x w:=by
 cases c with
 |box t=>exact congrArg (λa=>ba.box t a ak w) (w6 l t x)
 |recv t=>exact congrArg (λa=>ba.recv t a w) (w6 l t x)
 |bL t p=>exact congrArg (λa=>ba.box t (qi b p 0 a) ak w) (w6 l t x)
 |_=>rfl
theorem cw.VQ (l:j6 D) (c:cw) (x:c.ty D) (w:Bool):cw.mk (X.gm l) c x w=cw.mk X c x w:=cw.Kd l _ c x w
def cw.JB (l:j6 D) (a:List Nat) (c:cw) (o:ba D):cw.get (X.gm l) a c o=cw.get X a c o:=by
 unfold cw.get;split
 ·rfl
 ·grind [vb]
 ·grind [vb]
 ·rfl
 ·rfl
 ·grind [ar4,vb]
 ·rfl
 ·rfl
 rfl
def aq3 (l:j6 D) (t:Nat) (o:Option (ba D)):zP (X.gm l) t o=zP X t o:=by
 unfold zP;split
 ·rw[vb]
 ·rw[vb]
 rfl
theorem B6 (l:j6 D) {f:List Nat}:∀(a:List dt) (b:List (bc D)) (e:List Nat),iG (X.gm l) f O a b e=iG X f O a b e
 |[],_,[]=>rfl
 |[],_,_::_=>by rfl
 | .v _ _::_,[],_=>by rfl
 | .o _ _::_,[],_=>by rfl
 | .u _ _::_,[],_=>by rfl
 | .v d c::a,s::b,e=>by simp only[iG,gR.JB,B6 l a b e]
 | .o d c::a,s::b,[]=>rfl
 | .o d c::a,s::b,i::e=>by simp only[iG,cw.JB,B6 l a b e]
 | .u d c::a,s::b,e=>by simp only[iG,cw.JB,B6 l a b e]
def WQ (l:j6 D):∀(a:List dt) (x:ft D a),eU (X.gm l) a x=eU X a x
 |[],_=>rfl
 | .v d c::a,x=>WQ l a x.2
 | .u d c::a,x=>WQ l a x.2
 | .o d c::a,x=>by
  show cw.mk (X.gm l) c x.1 ak::eU (X.gm l) a x.2=cw.mk X c x.1 ak::eU X a x.2;rw[WQ l a x.2]
  grind [cw.VQ]
def zr (l:j6 D) {b:Nat->Nat}:∀(a:List dt) (x:ft D a),mkOr (X.gm l) b a x=mkOr X b a x
 |[],_=>rfl
 | .v d c::a,x=>zr l a x.2
 | .u d c::a,x=>zr l a x.2
 | .o d c::a,x=>by
  show cw.gO (X.gm l) b c x.1 ak::mkOr (X.gm l) b a x.2=cw.gO X b c x.1 ak::mkOr X b a x.2;rw[zr l a x.2]
  grind [cw.Kd]
def zk (l:j6 D):∀(a:List dt) (x:ft D a),hc (X.gm l) a x=hc X a x
 |[],_=>rfl
 | .v d c::a,x=>by
  show (d,gR.mk (X.gm l) c x.1)::hc (X.gm l) a x.2=(d,gR.mk X c x.1)::hc X a x.2;rw[zk l a x.2]
  grind [gR.VQ]
 | .u d c::a,x=>zk l a x.2
 | .o d c::a,x=>zk l a x.2
def BQ (l:j6 D) {b:Nat->Nat}:∀(a:List dt) (x:ft D a) (j:Nat),kc (X.gm l) b a x j=kc X b a x j
 |[],_,_=>rfl
 | .v d c::a,x,j=>BQ l a x.2 j
 | .u d c::a,x,j=>by
  show (if fi d j=aa then cw.gO (X.gm l) b c x.1 aa else kc (X.gm l) b a x.2 j)=(if fi d j=aa then cw.gO X b c x.1 aa else kc X b a x.2 j);rw[BQ l a x.2 j]
  grind [cw.Kd]
 | .o d c::a,x,j=>BQ l a x.2 j
def acR (l:j6 D) (d:fS D) (F:d.F) (a:List (bc D)) (O:List (ba D)) {e:Type} (K:bc D->List (ba D)->Option e):d.call (X.gm l) F a O K=d.call X F a O K:=by
 obtain ⟨f,m,h,j,g,n,b,k,i,flat⟩:=d;unfold fS.call;dsimp only;simp only[B6];cases g with
 |none=>simp_all [Ck,zk,zr]
 |some p=>simp only[Ck,zk,zr,BQ,aq3,w6]
def iV.l9 {f:bS->Option bS->Option bS->Nat} (h:iV X):iV (X.l9 f):=h
def gL.l9 {f:bS->Option bS->Option bS->Nat} {d:fS D} {F:d.F} (h:gL (X.l9 f) d F):gL X d F:=by
 intro i O l K r z e m k n a g j b;rw[<-acR ⟨X.F,f,X.C,X.W⟩] at b;exact h i O K r a g j b
def gL.or {d:fS D} {F l h:d.F} (L:d.ij=ae) (Q:∀r x y,F r x=J y->l r x=J y\/h r x=J y) (E:gL X d l) (w:gL X d h):gL X d F:=by
 intro g O N K r z e m k Z b n s a;have j:d.call X l g O K=J r\/d.call X h g O K=J r:=by
  obtain ⟨f,T,I,R,H,Y,t,S,U,flat⟩:=d;unfold fS.call at a⊢;obtain ⟨q,a⟩:=gz a;rw[if_pos q,if_pos q];split at a
  ·rename_i V P C;obtain ⟨A,a⟩:=gz a;simp only[C,if_pos A];split at a
   ·rename_i x B;simp only[B];cases H with
    |none=>
     unfold Ck at a⊢;obtain ⟨y,M,a⟩:=bind_some a
     grind
    |some p=>grind
   grind
  grind
 rcases j with i|i
 ·exact E g O K r b n s i
 ·exact w g O K r b n s i
def acg {f:Nat} {i:List (bc D)} {K:bc D->List (ba D)->Option ap} {a:List af} (n:b9 X.G O z e m k vs) (p:bP (rel X.G z vs) i a):∀{l:List (mK D)},(∀x∈l,gL X x.d x.F)->K2 X l f i O K=J r->h2 P f a.toArray m λv j=>dH X O z e k vs K r v j/\(Lk X l f i O=aa->j=m)/\∃q,gG m j q/\oI vs (q1 i) q
 |[],_,b=>by cases b
 |x::l,h,b=>by
  unfold K2 at b;unfold Lk;split at b
  ·rename_i g;rw[if_pos g];simp only[fx] at g;have:=kA g.1;subst this;exact h x oG i O K r a n p b
  ·rename_i g;rw[if_neg g];exact acg n p (λy s=>h y (kn _ s)) b
def iV.of {l:List (mK D)} (h:∀x∈l,gL X x.d x.F):iV (X.with l):=by
 intro f p O n K r z e m k s b g j i;exact (acg (X:=X) g j h i).mono λv q a=>⟨a.1,a.2.1,λ_=>a.2.2⟩
def aqT {l:List (mK D)} {x:mK D} (h:gL X x.d x.F) (a:∀y∈l,gL X y.d y.F):∀y∈x::l,gL X y.d y.F:=by
 grind
end
end
end
section
inductive LT:Type 1 where
 |int (k:aG)|bool|str
 |bh (aK:Type) (T:cM aK)
 |mp (aK cg:Type) (M:ph aK cg)
 |fn
def LT.ty:LT->Type| .int _=>Int| .bool=>Bool| .str=>List UInt8| .bh aK _=>List aK| .mp aK a _=>List (aK×a)| .fn=>Option Nat
def aah:Option Nat->af|none=> .nilFunc|some n=> .func (.func n) #[] #[]
def LT.rd (z:Nat->bW):(l:LT)->l.ty->af->Prop| .int k,n,v=>v= .int k n| .bool,b,v=>v= .bool b| .str,s,v=>v=aF.str s| .bh _ T,d,v=>fA T z d v| .mp _ _ M,a,v=>nn M z a v| .fn,o,v=>v=aah o
def h6:List LT->Type|[]=>Unit|l::a=>l.ty×h6 a
def pa (z:Nat->bW):(a:List LT)->h6 a->List af->Prop|[],_,[]=>True|l::a,x,v::b=>l.rd z x.1 v/\pa z a x.2 b|_,_,_=>False
def ad2 {z:Nat->bW}:∀{a:List LT} {x:h6 a} {b:List af},pa z a x b->b.length=a.length
 |[],_,[],_=>rfl
 |l::a,x,v::d,h=>by simp[ad2 h.2]
 |[],_,_::_,h=>h.elim
 |_::_,_,[],h=>h.elim
def adp {z f:Nat->bW} (b:fl z f):∀{a:List LT} {x:h6 a} {e:List af},pa z a x e->pa f a x e
 |[],_,[],_=>trivial
 |l::a,x,v::j,h=>⟨by
  have d:=h.1;cases l with
  |bh g T=>exact fA.mono b d
  |mp g i M=>exact nn.mono d b
  |_=>exact d,adp b h.2⟩
 |[],_,_::_,h=>h.elim
 |_::_,_,[],h=>h.elim
def ad3 {z:Nat->bW}:∀{e:List LT} {x:h6 e} {f:List af},pa z e x f->∀c∈f,storable c=aa/\c.cells=#[c]
 |[],_,[],_,c,b=>by grind
 |l::e,x,v::j,h,c,b=>by
  rcases ha.1 b with rfl|b
  ·have d:=h.1;cases l with
   |bh g T=>obtain ⟨a,c,rfl⟩:=fA.len d;exact ⟨rfl,rfl⟩
   |mp g i M=>rcases d with ⟨rfl,_⟩|⟨r,rfl,_⟩<;>exact ⟨rfl,rfl⟩
   |fn=>obtain ⟨x,y⟩:=x;cases x<;>(obtain rfl:=d;exact ⟨rfl,rfl⟩)
   |_=>obtain rfl:=d;exact ⟨rfl,rfl⟩
  ·exact ad3 h.2 c b
 |[],_,_::_,h,_,_=>h.elim
 |_::_,_,[],h,_,_=>h.elim
def fB (t:bV) (a:List LT) {b:Type} (f:b->h6 a):cM b where
 bM:=a.length
 tid:=t
 rd:=λz x e=>pa z a (f x) e
 len:=λ_ _ _ h=>ad2 h
 mono:=λ_ _ d _ _ h=>adp d h
 one:=λ_ _ _ h=>ad3 h
noncomputable section
inductive hJ where
 |int (k:aG)|bool|str
 |bh (e:Nat)
 |mp (t bG bA:Nat)
 |fn
section
variable {P:bI} {D:Nat->Type} (G:l6 D)
def Ju:Option Nat->cv D|none=> .wJ|some n=> .fn n []
def hJ.lt:hJ->LT| .int k=> .int k| .bool=> .bool| .str=> .str| .bh e=> .bh (D e) (G.T e)| .mp t b a=> .mp (D b) (D a) (G.M t b a)| .fn=> .fn
def gJ:List hJ->List LT|[]=>[]|c::a=>c.lt G::gJ a
def jX:(a:List hJ)->h6 (gJ G a)->List (cv D)|[],_=>[]| .int k::a,x=> .int k x.1::jX a x.2| .bool::a,x=> .bool x.1::jX a x.2| .str::a,x=> .str x.1::jX a x.2| .bh e::a,x=> .bh e x.1::jX a x.2| .mp t d b::a,x=> .mp t d b x.1::jX a x.2| .fn::a,x=>Ju x.1::jX a x.2
def jm:(a:List hJ)->List (cv D)->Option (h6 (gJ G a))
 |[],[]=>J ()
 | .int k::a, .int k' n::d=>if k'=k then (match jm a d with|some y=>J (n,y)|none=>ae) else ae
 | .bool::a, .bool b::d=>(match jm a d with|some y=>J (b,y)|none=>ae)
 | .str::a, .str s::d=>(match jm a d with|some y=>J (s,y)|none=>ae)
 | .bh e::a, .bh cz m::d=>if h:cz=e then (match jm a d with|some y=>J ((h▸m:List (D e)),y)|none=>ae) else ae
 | .bh e::a, .gE::d=>(match jm a d with|some y=>J (([]:List (D e)),y)|none=>ae)
 | .mp t g f::a, .mp eu l j i::d=>if h:l=g/\j=f then (if eu=t then (match jm a d with|some y=>J ((h.1▸h.2▸i:List (D g×D f)),y)|none=>ae) else ae) else ae
 | .mp t g f::a, .oY::d=>(match jm a d with|some y=>J (([]:List (D g×D f)),y)|none=>ae)
 | .fn::a, .wJ::d=>(match jm a d with|some y=>J ((ae:Option Nat),y)|none=>ae)
 | .fn::a, .fn n []::d=>(match jm a d with|some y=>J ((J n:Option Nat),y)|none=>ae)
 |_,_=>ae
variable {G}
def atu {z:Nat->bW} {a:List af} {o:Option Nat} {v:af} (h:v=aah o):ed G z a (Ju o) v:=by
 cases o with
 |none=>exact h
 |some n=>exact ⟨[],h,trivial⟩
def xb {z:Nat->bW} {d:List af}:∀{a:List hJ} {x:h6 (gJ G a)} {b:List af},pa z (gJ G a) x b->bP (ed G z d) (jX G a x) b
 |[],_,[],_=>trivial
 | .int k::a,x,v::w,h=>⟨h.1,xb h.2⟩
 | .bool::a,x,v::w,h=>⟨h.1,xb h.2⟩
 | .str::a,x,v::w,h=>⟨h.1,xb h.2⟩
 | .bh e::a,x,v::w,h=>⟨h.1,xb h.2⟩
 | .mp t g f::a,x,v::w,h=>⟨h.1,xb h.2⟩
 | .fn::a,x,v::w,h=>⟨atu h.1,xb h.2⟩
 | .mp _ _ _::_,_,[],h=>h.elim
 | .fn::_,_,[],h=>h.elim
 |[],_,_::_,h=>h.elim
 | .int _::_,_,[],h=>h.elim
 | .bool::_,_,[],h=>h.elim
 | .str::_,_,[],h=>h.elim
 | .bh _::_,_,[],h=>h.elim
def vk:∀{a:List hJ} (x:h6 (gJ G a)),jm G a (jX G a x)=J x
 |[],_=>rfl
 | .int k::a,x=>by show (if k=k then (match jm G a (jX G a x.2) with|some y=>J (x.1,y)|none=>ae) else ae)=_;rw[vk x.2,if_pos rfl];rfl
 | .bool::a,x=>by show (match jm G a (jX G a x.2) with|some y=>J (x.1,y)|none=>ae)=_;rw[vk x.2];rfl
 | .str::a,x=>by show (match jm G a (jX G a x.2) with|some y=>J (x.1,y)|none=>ae)=_;rw[vk x.2];rfl
 | .bh e::a,x=>by show (if h:e=e then (match jm G a (jX G a x.2) with|some y=>J ((h▸x.1:List (D e)),y)|none=>ae) else ae)=_;rw[vk x.2,dif_pos rfl];rfl
 | .mp t d b::a,x=>by show (if h:d=d/\b=b then (if t=t then (match jm G a (jX G a x.2) with|some y=>J ((h.1▸h.2▸x.1:List (D d×D b)),y)|none=>ae) else ae) else ae)=_;rw[vk x.2,dif_pos ⟨rfl,rfl⟩,if_pos rfl];rfl
 | .fn::a,(ae,y)=>by show (match jm G a (jX G a y) with|some y=>J ((ae:Option Nat),y)|none=>ae)=_;rw[vk y];rfl
 | .fn::a,(J n,y)=>by show (match jm G a (jX G a y) with|some y=>J ((J n:Option Nat),y)|none=>ae)=_;rw[vk y];rfl
def ath {z:Nat->bW} {O:List af}:∀{e:List hJ} {g:List (cv D)} {x:h6 (gJ G e)} {p:List af},jm G e g=J x->bP (ed G z O) g p->pa z (gJ G e) x p:=by
 intro e;induction e with
 |nil=>
  intro g x p h s;cases g with
  |nil=>cases p with
   |nil=>trivial
   |cons _ _=>exact s.elim
  |cons c g=>cases h
 |cons l e i=>
  intro g x p h s;cases g with
  |nil=>cases l<;>cases h
  |cons c g=>
   cases p with
   |nil=>exact s.elim
   |cons d p=>
    obtain ⟨m,j⟩:=s;have a:∀{C:Type} {f:h6 (gJ G e)->C} {o:Option (h6 (gJ G e))} {r:C},(match o with|some y=>J (f y)|none=>ae)=J r->∃y,o=J y/\r=f y:=by
     grind
    cases l with
    |int k=>
     cases c with
     |int Q n=>obtain ⟨q,h⟩:=gz (aK:=h6 (gJ G (.int k::e))) h;subst q;obtain ⟨y,b,rfl⟩:=a h;exact ⟨m,i b j⟩
     |_=>cases h
    |bool=>
     cases c with
     |bool n=>obtain ⟨y,b,rfl⟩:=a h;exact ⟨m,i b j⟩
     |_=>cases h
    |str=>
     cases c with
     |str n=>obtain ⟨y,b,rfl⟩:=a h;exact ⟨m,i b j⟩
     |_=>cases h
    |bh t=>
     cases c with
     |bh w P=>
      by_cases q:w=t
      ·subst q;have h:(if h:w=w then (match jm G e g with|some y=>J ((h▸P:List (D w)),y)|none=>ae) else ae)=J x:=h;rw[dif_pos rfl] at h;obtain ⟨y,b,rfl⟩:=a h;exact ⟨m,i b j⟩
      grind [jm]
     |gE=>obtain ⟨y,b,rfl⟩:=a h;exact ⟨.inl ⟨m,rfl⟩,i b j⟩
     |_=>cases h
    |mp t F E=>
     cases c with
     |mp I B A H=>
      by_cases q:B=F/\A=E
      ·obtain ⟨rfl,rfl⟩:=q;have h:(if h:B=B/\A=A then (if I=t then (match jm G e g with|some y=>J ((h.1▸h.2▸H:List (D B×D A)),y)|none=>ae) else ae) else ae)=J x:=h;rw[dif_pos ⟨rfl,rfl⟩] at h;obtain ⟨q,h⟩:=gz h;subst q;obtain ⟨y,b,rfl⟩:=a h;exact ⟨m,i b j⟩
      grind [jm]
     |oY=>obtain ⟨y,b,rfl⟩:=a h;exact ⟨.inl ⟨m,rfl⟩,i b j⟩
     |_=>cases h
    |fn=>
     cases c with
     |wJ=>obtain ⟨y,b,rfl⟩:=a h;exact ⟨m,i b j⟩
     |fn n N=>
      cases N with
      |nil=>
       obtain ⟨y,b,rfl⟩:=a h;obtain ⟨M,K,L⟩:=m;cases M with
       |nil=>exact ⟨K,i b j⟩
       |cons _ _=>exact L.elim
      |cons _ _=>cases h
     |_=>cases h
def auV:∀{d:List hJ} {e:List (cv D)} {x:h6 (gJ G d)},jm G d e=J x->pR e (jX G d x):=by
 intro d;induction d with
 |nil=>
  intro e x h;cases e with
  |nil=>trivial
  |cons c e=>cases h
 |cons l d g=>
  intro e x h;cases e with
  |nil=>cases l<;>cases h
  |cons c e=>
   have a:∀{q:Type} {f:h6 (gJ G d)->q} {o:Option (h6 (gJ G d))} {r:q},(match o with|some y=>J (f y)|none=>ae)=J r->∃y,o=J y/\r=f y:=by
    grind
   cases l with
   |int k=>
    cases c with
    |int E n=>obtain ⟨i,h⟩:=gz (aK:=h6 (gJ G (.int k::d))) h;subst i;obtain ⟨y,b,rfl⟩:=a h;exact ⟨λ_=>rfl,g b⟩
    |_=>cases h
   |bool=>
    cases c with
    |bool n=>obtain ⟨y,b,rfl⟩:=a h;exact ⟨λ_=>rfl,g b⟩
    |_=>cases h
   |str=>
    cases c with
    |str n=>obtain ⟨y,b,rfl⟩:=a h;exact ⟨λ_=>rfl,g b⟩
    |_=>cases h
   |bh t=>
    cases c with
    |bh j C=>
     by_cases i:j=t
     ·subst i;have h:(if h:j=j then (match jm G d e with|some y=>J ((h▸C:List (D j)),y)|none=>ae) else ae)=J x:=h;rw[dif_pos rfl] at h;obtain ⟨y,b,rfl⟩:=a h;exact ⟨λ_=>rfl,g b⟩
     grind [jm]
    |gE=>obtain ⟨y,b,rfl⟩:=a h;exact ⟨λh=>(by cases h),g b⟩
    |_=>cases h
   |mp t w s=>
    cases c with
    |mp A p m z=>
     by_cases i:p=w/\m=s
     ·obtain ⟨rfl,rfl⟩:=i;have h:(if h:p=p/\m=m then (if A=t then (match jm G d e with|some y=>J ((h.1▸h.2▸z:List (D p×D m)),y)|none=>ae) else ae) else ae)=J x:=h;rw[dif_pos ⟨rfl,rfl⟩] at h;obtain ⟨i,h⟩:=gz h;subst i;obtain ⟨y,b,rfl⟩:=a h;exact ⟨λ_=>rfl,g b⟩
     grind [jm]
    |oY=>obtain ⟨y,b,rfl⟩:=a h;exact ⟨λh=>(by cases h),g b⟩
    |_=>cases h
   |fn=>
    cases c with
    |wJ=>obtain ⟨y,b,rfl⟩:=a h;exact ⟨λ_=>rfl,g b⟩
    |fn n B=>
     cases B with
     |nil=>obtain ⟨y,b,rfl⟩:=a h;exact ⟨λ_=>rfl,g b⟩
     |cons _ _=>cases h
    |_=>cases h
def X9:∀{a:List hJ},(gJ G a).length=a.length
 |[]=>rfl
 |l::a=>by simp[gJ,X9]
def pM:List hJ->List (cv D)|[]=>[]| .int k::a=> .int k 0::pM a| .bool::a=> .bool ak::pM a| .str::a=> .str []::pM a| .bh _::a=> .gE::pM a| .mp _ _ _::a=> .oY::pM a| .fn::a=> .wJ::pM a
def oD:List hJ->List af|[]=>[]| .int k::a=> .int k 0::oD a| .bool::a=> .bool ak::oD a| .str::a=> .string ⟨#[]⟩::oD a| .bh _::a=> .slice ae 0 0::oD a| .mp _ _ _::a=> .map ae::oD a| .fn::a=> .nilFunc::oD a
def xe {z:Nat->bW} {b:List af}:∀{a:List hJ},bP (ed G z b) (pM a:List (cv D)) (oD a)
 |[]=>trivial
 | .int k::a=>⟨rfl,xe⟩
 | .bool::a=>⟨rfl,xe⟩
 | .str::a=>⟨rfl,xe⟩
 | .bh _::a=>⟨rfl,xe⟩
 | .mp _ _ _::a=>⟨rfl,xe⟩
 | .fn::a=>⟨rfl,xe⟩
def vg:∀{a:List hJ} {x:h6 (gJ G a)},(jX G a x).all qf=aa
 |[],_=>rfl
 | .int k::a,x=>by simp only[jX,ml,vg,qf,vK]
 | .bool::a,x=>by simp only[jX,ml,vg,qf,vK]
 | .str::a,x=>by simp only[jX,ml,vg,qf,vK]
 | .bh _::a,x=>by simp only[jX,ml,vg,qf,vK]
 | .mp _ _ _::a,x=>by simp only[jX,ml,vg,qf,vK]
 | .fn::a,(ae,y)=>by simp only[jX,Ju,ml,vg,qf,vK]
 | .fn::a,(J n,y)=>by simp only[jX,Ju,ml,vg,qf,List.isEmpty,vK]
def tR:(a:List hJ)->h6 (gJ G a)|[]=>()| .int _::a=>((0:Int),tR a)| .bool::a=>(ak,tR a)| .str::a=>(([]:List UInt8),tR a)| .bh e::a=>(([]:List (D e)),tR a)| .mp _ d b::a=>(([]:List (D d×D b)),tR a)| .fn::a=>((ae:Option Nat),tR a)
def xw {z:Nat->bW}:∀(a:List hJ),pa z (gJ G a) (tR (G:=G) a) (oD a)
 |[]=>trivial
 | .int _::a=>⟨rfl,xw a⟩
 | .bool::a=>⟨rfl,xw a⟩
 | .str::a=>⟨rfl,xw a⟩
 | .bh _::a=>⟨.inl ⟨rfl,rfl⟩,xw a⟩
 | .mp _ _ _::a=>⟨.inl ⟨rfl,rfl⟩,xw a⟩
 | .fn::a=>⟨rfl,xw a⟩
def WY:∀(a:List hJ),(oD a).all dy=aa/\(oD a).length=a.length
 |[]=>⟨rfl,rfl⟩
 |c::a=>by have:=WY a;cases c<;>exact ⟨by simp only[oD,ml,this.1];rfl,by grind [oD]⟩
def awe {t:Nat} (ls:List hJ) (to:D t->h6 (gJ G ls)) (of:h6 (gJ G ls)->D t) (h1:∀x,of (to x)=x) (ai:∀y,to (of y)=y) (i:TypeInfo)
  (jU:G.T t=fB t (gJ G ls) to) (az:P.info? t=J i) (cN:i.size=ls.length) (hh:(ls.length==0)=ak) (hp:iJ i.bytes 32768=aa) (bx:i.zero=J (i.zero.getD undef)) (hL:(i.zero.getD undef).cells.toList=oD ls):dP P G t where
 rk:=pM ls
 qX:=λz vs=>by rw[hL];exact xe
 VN:=λx=>vg
 kM:=λx=>jX G ls (to x)
 qk:=λcs=>match jm G ls cs with|some y=>J (of y)|none=>ae
 x0:=of (tR ls)
 i:=i
 c0:=i.zero.getD undef
 tid:=by rw[jU];rfl
 az:=az
 cN:=by rw[jU,cN];exact X9.symm
 hh:=by rw[jU];show ((gJ G ls).length==0)=ak;rw[X9];exact hh
 hp:=hp
 bx:=bx
 dw:=by rw[hL];exact (WY ls).1
 et:=by rw[<-Array.length_toList,hL,(WY ls).2,cN]
 GX:=λz=>by rw[jU,hL];show pa z (gJ G ls) (to (of (tR ls))) (oD ls);rw[ai];exact xw ls
 rc:=λz vs x cs h=>by rw[jU] at h;exact xb h
 r6:=λz vs cs x ds h aV=>by
  rw[jU];split at h
  ·rename_i y aZ;cases h;show pa z (gJ G ls) (to (of y)) ds;rw[ai];exact ath aZ aV
  ·cases h
 V1:=λx=>by show (match jm G ls (jX G ls (to x)) with|some y=>J (of y)|none=>ae)=J x;rw[vk];exact congrArg J (h1 x)
 Ko:=λcs x h=>by
  split at h
  ·rename_i y aZ;cases h;rw[ai];exact auV aZ
  ·cases h
def ara (u:UInt8):gW (u.toNat:Int)=J u:=by
 unfold gW;have:=u.toNat_lt;rw[if_pos (by omega)];simp
def awf {t:Nat} (to:D t->UInt8) (of:UInt8->D t) (abL:Option UInt8->Option (D t)) (Vr:∀o,abL o=o.map of) (h1:∀x,of (to x)=x) (ai:∀y,to (of y)=y) (i:TypeInfo) (aoU:(G.T t).tid=t) (td:(G.T t).bM=1) (e0:∀z x cs,(G.T t).rd z x cs↔cs=[.int .u8 (to x).toNat])
  (az:P.info? t=J i) (cN:i.size=1) (hp:iJ i.bytes 32768=aa) (bx:i.zero=J (.int .u8 0)):dP P G t where
 rk:=[.int .u8 0]
 qX:=λz vs=>⟨rfl,trivial⟩
 VN:=λx=>rfl
 kM:=λx=>[.int .u8 (to x).toNat]
 qk:=λcs=>match cs with|[.int .u8 n]=>abL (gW n)|_=>ae
 x0:=of 0
 i:=i
 c0:= .int .u8 0
 tid:=aoU
 az:=az
 cN:=by rw[td,cN]
 hh:=by rw[td];rfl
 hp:=hp
 bx:=bx
 dw:=rfl
 et:=by rw[cN];rfl
 GX:=λz=>(e0 z _ _).2 (by rw[ai];rfl)
 rc:=λz vs x cs h=>by rw[(e0 z x cs).1 h];exact ⟨rfl,trivial⟩
 r6:=λz vs cs x ds h aV=>by
  split at h
  ·rename_i n;cases ds with
   |nil=>exact aV.elim
   |cons d ds=>
    cases ds with
    |cons _ _=>exact aV.2.elim
    |nil=>
     rw[Vr] at h;cases hu:gW n with
     |none=>rw[hu] at h;cases h
     |some u=>rw[hu] at h;cases h;have:d= .int .u8 n:=aV.1;rw[this,acM hu];exact (e0 z _ _).2 (by rw[ai])
  ·cases h
 V1:=λx=>by simp only[ara,Vr,vU,h1]
 Ko:=λcs x h=>by
  split at h
  ·rename_i n;rw[Vr] at h;cases hu:gW n with
   |none=>rw[hu] at h;cases h
   |some u=>rw[hu] at h;cases h;rw[ai,acM hu];exact pR.refl _
  ·cases h
def hC:(a:List hJ)->h6 (gJ G a)->List af|[],_=>[]| .int k::a,x=> .int k x.1::hC a x.2| .bool::a,x=> .bool x.1::hC a x.2| .str::a,x=>aF.str x.1::hC a x.2| .bh _::a,x=>undef::hC a x.2| .mp _ _ _::a,x=>undef::hC a x.2| .fn::a,x=>undef::hC a x.2
def nK (P:bI):List Field->Nat->List hJ->Bool
 |[],_,[]=>aa
 | f :: bY, i, .int _ :: ls => (f.offset == i && f.name != "_") && ((match P.underlying f.type with | J (.int _) => aa | _ => ak) && nK P bY (i + 1) ls)
 | f :: bY, i, .bool :: ls => (f.offset == i && f.name != "_") && ((match P.underlying f.type with | J .bool => aa | _ => ak) && nK P bY (i + 1) ls)
 | f :: bY, i, .str :: ls => (f.offset == i && f.name != "_") && ((match P.underlying f.type with | J .string => aa | _ => ak) && nK P bY (i + 1) ls)
 |_,_,_=>ak
def Kx:∀{e:List Field} {i:Nat} {a:List hJ} {x y:h6 (gJ G a)},nK P e i a=aa->sN P e i (hC a x) (hC a y)
 |[],_,[],_,_,_=>trivial
 |f::e,i, .int k::a,x,y,h=>by
  simp only[nK,fx,beq_iff_eq,bne_iff_ne] at h;obtain ⟨⟨j,d⟩,b,g⟩:=h;refine ⟨j,d, .inl ?_,Kx g⟩;split at b
  ·exact ⟨k,_,_,_,‹_›,rfl,rfl⟩
  grind
 |f::e,i, .bool::a,x,y,h=>by
  simp only[nK,fx,beq_iff_eq,bne_iff_ne] at h;obtain ⟨⟨j,d⟩,b,g⟩:=h;refine ⟨j,d, .inr (.inl ?_),Kx g⟩;split at b
  ·exact ⟨_,_,‹_›,rfl,rfl⟩
  grind
 |f::e,i, .str::a,x,y,h=>by
  simp only[nK,fx,beq_iff_eq,bne_iff_ne] at h;obtain ⟨⟨j,d⟩,b,g⟩:=h;refine ⟨j,d, .inr (.inr ?_),Kx g⟩;split at b
  ·exact ⟨_,_,‹_›,rfl,rfl⟩
  grind
 |_::_,_, .bh _::_,_,_,h=>by cases h
 |_::_,_, .mp _ _ _::_,_,_,h=>by cases h
 |_::_,_, .fn::_,_,_,h=>by cases h
 |[],_,_::_,_,_,h=>by cases h
 |_::_,_,[],_,_,h=>by cases h
def K8:∀{b:List Field} {i:Nat} {a:List hJ} {x y:h6 (gJ G a)},nK P b i a=aa->hC a x=hC a y->x=y
 |_,_,[],_,_,_,_=>rfl
 |f::b,i, .int k::a,x,y,h,e=>by simp only[nK,fx] at h;simp only[hC,List.cons.injEq] at e;exact Prod.ext (mu.inj e.1).2 (K8 h.2.2 e.2)
 |f::b,i, .bool::a,x,y,h,e=>by simp only[nK,fx] at h;simp only[hC,List.cons.injEq] at e;exact Prod.ext (af.bool.inj e.1) (K8 h.2.2 e.2)
 |f::b,i, .str::a,x,y,h,e=>by simp only[nK,fx] at h;simp only[hC,List.cons.injEq] at e;exact Prod.ext (ad7 e.1) (K8 h.2.2 e.2)
 |_::_,_, .bh _::_,_,_,h,_=>by cases h
 |[],_, .bh _::_,_,_,h,_=>by cases h
 |[],_, .int _::_,_,_,h,_=>by cases h
 |[],_, .bool::_,_,_,h,_=>by cases h
 |[],_, .str::_,_,_,h,_=>by cases h
 |_::_,_, .mp _ _ _::_,_,_,h,_=>by cases h
 |_::_,_, .fn::_,_,_,h,_=>by cases h
 |[],_, .mp _ _ _::_,_,_,h,_=>by cases h
 |[],_, .fn::_,_,_,h,_=>by cases h
def Ld {z:Nat->bW}:∀{j:List Field} {i:Nat} {a:List hJ} {x:h6 (gJ G a)} {b:List af},nK P j i a=aa->pa z (gJ G a) x b->b=hC a x
 |_,_,[],_,[],_,_=>rfl
 |_,_,[],_,_::_,_,h=>h.elim
 |f::j,i, .int k::a,x,d::b,h,e=>by simp only[nK,fx] at h;have g:d= .int k x.1:=e.1;rw[hC,g,<-Ld h.2.2 e.2]
 |f::j,i, .bool::a,x,d::b,h,e=>by simp only[nK,fx] at h;have g:d= .bool x.1:=e.1;rw[hC,g,<-Ld h.2.2 e.2]
 |f::j,i, .str::a,x,d::b,h,e=>by simp only[nK,fx] at h;have g:d=aF.str x.1:=e.1;rw[hC,g,<-Ld h.2.2 e.2]
 |_::_,_, .bh _::_,_,_,h,_=>by cases h
 |_::_,_, .mp _ _ _::_,_,_,h,_=>by cases h
 |_::_,_, .fn::_,_,_,h,_=>by cases h
 |[],_,_::_,_,_,h,_=>by cases h
 |_::_,_, .int _::_,_,[],_,h=>h.elim
 |_::_,_, .bool::_,_,[],_,h=>h.elim
 |_::_,_, .str::_,_,[],_,h=>h.elim
def Xh {t:Nat} (ls:List hJ) (to:D t->h6 (gJ G ls)) (of:h6 (gJ G ls)->D t) (h1:∀x,of (to x)=x) (bY:Array Field) (eq:D t->D t->Bool) (jU:G.T t=fB t (gJ G ls) to) (he:∀x y,eq x y=aa↔x=y)
  (aJ:P.underlying t=J (.struct bY)) (bb:P.stoodInHeld t=ak) (bs:P.eqGuardType P.depth t=ak) (bf:nK P bY.toList 0 ls=aa):AI P G t where
 bY:=bY
 eq:=eq
 aW:=λx=>hC ls (to x)
 aJ:=aJ
 bb:=bb
 bs:=bs
 bf:=λx y=>Kx bf
 aD:=λz x ds h=>by rw[jU] at h;exact Ld bf h
 he:=λx y=>by
  rw[he];constructor
  ·rintro rfl;rfl
  ·intro h;have:=K8 bf h;rw[<-h1 x,<-h1 y,this]
def VK {a:Type} (k:aG) (d:Int->a):bc D->Option a:=λs=>match s with| .c (.int b n)=>if b=k then J (d n) else ae|_=>ae
def VL {a:Type} (b:List UInt8->a):bc D->Option a:=λs=>match s with| .c (.str n)=>J (b n)|_=>ae
def Ye {a:Type} (k:aG) (b:Int->a):cv D->Option a:=λs=>match s with| .int k' n=>if k'=k then J (b n) else ae|_=>ae
def Yd {a:Type} (b:Bool->a):cv D->Option a:=λs=>match s with| .bool n=>J (b n)|_=>ae
def atE {z:Nat->bW} {g:List af} {b:Type} {k:aG} {d:Int->b} {s:bc D} {a:b} {v:af} (h:VK k d s=J a) (e:rel G z g s v):∃n,a=d n/\v= .int k n:=by
 unfold VK at h;split at h
 ·split at h
  ·rename_i f;cases h;subst f;exact ⟨_,rfl,e⟩
  grind
 grind
def atF {z:Nat->bW} {f:List af} {b:Type} {d:List UInt8->b} {s:bc D} {a:b} {v:af} (h:VL d s=J a) (e:rel G z f s v):∃n,a=d n/\v=aF.str n:=by
 unfold VL at h;split at h
 ·cases h;exact ⟨_,rfl,e⟩
 grind
def atW {z:Nat->bW} {g:List af} {b:Type} {k:aG} {d:Int->b} {s:cv D} {a:b} {v:af} (h:Ye k d s=J a) (e:ed G z g s v):∃n,a=d n/\v= .int k n:=by
 unfold Ye at h;split at h
 ·split at h
  ·rename_i f;cases h;subst f;exact ⟨_,rfl,e⟩
  grind
 grind
def atV {z:Nat->bW} {f:List af} {b:Type} {d:Bool->b} {s:cv D} {a:b} {v:af} (h:Yd d s=J a) (e:ed G z f s v):∃n,a=d n/\v= .bool n:=by
 unfold Yd at h;split at h
 ·cases h;exact ⟨_,rfl,e⟩
 grind
structure Ax (P:bI) (G:l6 D) (bG:Nat) where
 dec:DecidableEq (D bG)
 K:nX P bG (G.eo bG)
 qY:bc D->Option (D bG)
 wo:∀z vs s a v,qY s=J a->rel G z vs s v->v=ey (ek P bG) (G.eo bG a)
structure AP (P:bI) (G:l6 D) (bA:Nat) where
 V:oK P bA (G.eo bA)
 tN:cv D->Option (D bA)
 pG:D bA->cv D
 z0:D bA
 i:TypeInfo
 az:P.info? bA=J i
 u0:ek P bA=ak
 bx:i.zero=J (ey ak (G.eo bA z0))
 y0:∀z vs c a v,tN c=J a->ed G z vs c v->v=ey ak (G.eo bA a)
 th:∀z vs a,ed G z vs (pG a) (ey ak (G.eo bA a))
def abz {e d:Nat} (a:Ax P G e) (b:AP P G d):IP P G e d where
 dec:=a.dec
 K:=a.K
 V:=b.V
 qY:=a.qY
 tN:=b.tN
 pG:=b.pG
 z0:=b.z0
 i:=b.i
 az:=b.az
 bx:=by rw[b.u0];exact b.bx
 wo:=a.wo
 y0:=by rw[b.u0];exact b.y0
 th:=by rw[b.u0];exact b.th
 u0:=b.u0
def apj {bG:Nat} (k:aG) (of:Int->D bG) (dec:DecidableEq (D bG)) (i:TypeInfo) (h:P.underlying bG=J (.int k)) (K:nX P bG (G.eo bG)) (hk:∀n,G.eo bG (of n)=[.int k n]):Ax P G bG where
 dec:=dec
 K:=K
 qY:=VK k of
 wo:=λz vs s a v h1 ai=>by obtain ⟨n,rfl,rfl⟩:=atE h1 ai;rw[hk,si h rfl];rfl
def apk {bG:Nat} (of:List UInt8->D bG) (dec:DecidableEq (D bG)) (h:P.underlying bG=J .string) (K:nX P bG (G.eo bG)) (hk:∀n,G.eo bG (of n)=[aF.str n]):Ax P G bG where
 dec:=dec
 K:=K
 qY:=VL of
 wo:=λz vs s a v h1 ai=>by obtain ⟨n,rfl,rfl⟩:=atF h1 ai;rw[hk,si h rfl];rfl
def aws {bA:Nat} (k:aG) (of:Int->D bA) (to:D bA->Int) (h1:∀x,of (to x)=x) (i:TypeInfo) (h:P.underlying bA=J (.int k)) (az:P.info? bA=J i) (V:oK P bA (G.eo bA)) (hk:∀n,G.eo bA (of n)=[.int k n]) (bx:i.zero=J (.int k 0)):AP P G bA where
 V:=V
 tN:=Ye k of
 pG:=λx=> .int k (to x)
 z0:=of 0
 i:=i
 az:=az
 u0:=si h rfl
 bx:=by rw[hk];exact bx
 y0:=λz vs c a v g1 g2=>by obtain ⟨n,rfl,rfl⟩:=atW g1 g2;rw[hk];rfl
 th:=λz vs a=>by have:=hk (to a);rw[h1] at this;rw[this];rfl
def awr {bA:Nat} (of:Bool->D bA) (to:D bA->Bool) (h1:∀x,of (to x)=x) (i:TypeInfo) (h:P.underlying bA=J .bool) (az:P.info? bA=J i) (V:oK P bA (G.eo bA)) (hk:∀n,G.eo bA (of n)=[.bool n]) (bx:i.zero=J (.bool ak)):AP P G bA where
 V:=V
 tN:=Yd of
 pG:=λx=> .bool (to x)
 z0:=of ak
 i:=i
 az:=az
 u0:=si h rfl
 bx:=by rw[hk];exact bx
 y0:=λz vs c a v g1 g2=>by obtain ⟨n,rfl,rfl⟩:=atV g1 g2;rw[hk];rfl
 th:=λz vs a=>by have:=hk (to a);rw[h1] at this;rw[this];rfl
def asI {X:e3 P D} {B:Code} {u:mP D} {a:List (mP D)} (h:qJ X B u) (b:∀v∈a,qJ X B v):∀v∈u::a,qJ X B v:=by
 grind
def atg {X:e3 P D} {B:Code}:∀v∈([]:List (mP D)),qJ X B v:=by simp
def gL.law {X:e3 P D} {d:fS D} {F:d.F} (q:gL X d F) {m:Mem} {z:Nat->bW} (n:lk z m) (l:∀b,m.next<=b->m.blk b= .dead) {g:List (bc D)} {a:List af} (p:bP (rel X.G z []) g a)
  (h:d.call X F g [] (λe _=>J e)=J (.c (.bool aa))):h2 P d.f a.toArray m λv _=>v= .bool aa:=by
 have j:b9 X.G ([]:List (ba D)) z m m ae []:=⟨dL.start n l,rfl,by simp,by simp⟩
 refine (q g [] (λe _=>J e) _ a j p h).mono λv w i=> ?_;obtain ⟨⟨x,s,e,t,_,_,_,_,k,r⟩,_⟩:=i;cases r;exact k
end
end
end
section
noncomputable section
section
variable {P:bI} {D:Nat->Type} {X:e3 P D} {ap:Type} {z z':Nat->bW} {e m m':Mem} {k:Option Nat} {vs vs':List af} {fr:Nat->af} {E:List (Nat×bc D)} {O cr:List (ba D)}
theorem KT (l:j6 D) {d:List Nat}:∀(a:List dt) (x:ft D a) (b:List Nat) (O:List (ba D)),mY (X.gm l) d a x b O=mY X d a x b O
 |[],_,_,_=>rfl
 | .o _ c::a,x,[],O=>rfl
 | .o _ c::a,x,i::b,O=>by
  show mY (X.gm l) d a x.2 b (O.set i (cw.gO (X.gm l) (λn=>d.getD n 0) c x.1 (zF c O i)))=mY X d a x.2 b (O.set i (cw.gO X (λn=>d.getD n 0) c x.1 (zF c O i)));rw[KT l a x.2 b]
  grind [cw.Kd]
 | .v _ _::a,x,b,O=>KT l a x.2 b O
 | .u _ _::a,x,b,O=>KT l a x.2 b O
def acv (l:j6 D) {d:Nat->Nat} {b e:List Nat} {a:List dt} {y:ft D a}:∀(O:List (ba D)) (i:Nat),sd (X.gm l) d b e a y i O=sd X d b e a y i O
 |[],i=>rfl
 |o::O,i=>by simp only[sd,BQ,acv l O (i+1)]
def aq4 (l:j6 D) (a:List dt) (b:List (Nat×bc D)) (E:List (Nat×bc D)) (O:List (ba D)):sl (X.gm l) a b E O=sl X a b E O:=by
 grind [sl,Lu,B6,KT]
def adr (l:j6 D) (p:h4 D) (F:p.F) (E:List (Nat×bc D)) (O:List (ba D)) {a:Type} (K:fG->List (Nat×bc D)->List (ba D)->Option a):p.run (X.gm l) F E O K=p.run X F E O K:=by
 simp_all [T1,zk,uE,acv,zr,h4.run,h4.G2,aq4]
def zb:fG->fG| .normal=> .ret|ex=>ex
def arE {a:fG} (h:zb a= .ret):a= .normal\/a= .ret:=by
 cases a<;>first|grind|exact .inr rfl|cases h
structure e7 (D:Nat->Type) where
 f:Nat
 lQ:Nat
 ins:List dt
 fg:List (Nat×bc D)
 ks:List Nat
 outs:List dt
 fu:List (Nat×bc D)
 eX:List Nat
 bZ:Bool:=ak
def Jv (a:List Nat) (i:Nat) (O:List (ba D)):List (ba D):=match O[i]? with|some (.box t b ak w)=>if (!(a.any (fi i))&&b.all avq)=aa then O.set i (.box t b aa w) else O|_=>O
def LL (a:List Nat):Nat->List (ba D)->List (ba D)|0,O=>O|n+1,O=>Jv a n (LL a n O)
def asX {keep:List Nat} {i:Nat} (f:b9 X.G O z e m k vs):∃d,Inv O (Jv keep i O)/\dT e.next z d/\b9 X.G (Jv keep i O) d e m k vs:=by
 unfold Jv;split
 ·rename_i t h w l;split
  ·rename_i n;simp only[fx] at n;obtain ⟨v,j,p⟩:=f.at l;have a:=p;obtain ⟨b,y,rfl,_⟩:=a;have q:vp O (.box i 0)=J ((t,h),O.set i (.box t h aa w)):=by
    grind [vp]
   obtain ⟨d,x,A,r,_⟩:=KJ (X:=X) f (s:= .box i 0) (g:= .pointer (J ⟨b,0,ae⟩)) ⟨b,j,rfl⟩ q
   grind
  grind [Inv.refl,dT.refl]
 grind [Inv.refl,dT.refl]
theorem adi {a:List Nat} (b:b9 X.G O z e m k vs):∀n:Nat,∃d,Inv O (LL a n O)/\dT e.next z d/\b9 X.G (LL a n O) d e m k vs
 |0=>⟨z,Inv.refl _,dT.refl z,b⟩
 |n+1=>by obtain ⟨r,g,p,f⟩:=adi b n;obtain ⟨q,h,j,l⟩:=asX (keep:=a) (i:=n) f;exact ⟨q,g.trans h,p.trans j,l⟩
def e7.pre (d:e7 D) (a:List (bc D)) (O:List (ba D)):List (ba D):=if d.bZ=aa then LL (Xs O 100 (ae3 (mg 0 a)) []) O.length O else O
def e7.ap3 {d:e7 D} {cX:List (bc D)} (b:b9 X.G O z e m k vs):∃a,Inv O (d.pre cX O)/\dT e.next z a/\b9 X.G (d.pre cX O) a e m k vs:=by
 grind [e7.pre,adi,Inv.refl,dT.refl]
def e7.gA (d:e7 D):h4 D:={path:=[],ins:=d.ins,fg:=d.fg,ks:=d.ks,iM:=[⟨.ret,d.outs,d.fu⟩],keep:=[]}
def avd:fG->Bool| .ret=>aa|_=>ak
variable (X) in
def e7.call (d:e7 D) (F:d.gA.F) (a:List (bc D)) (O:List (ba D)) {b:Type} (K:bc D->List (ba D)->Option b):Option b:=
 if fi a.length d.lQ=aa then d.gA.run X F (mg 0 a) (d.pre a O) λf E O=>if avd f=aa then (match GZ E d.eX with|some e=>K e O|none=>ae) else ae
 else ae
variable (X) in
def e7.fits (d:e7 D) (a:List (bc D)) (O:List (ba D)):Bool:=fi a.length d.lQ&&(sl X d.ins d.fg (jJ d.ins (mg 0 a) O).1 (jJ d.ins (mg 0 a) O).2).isSome
structure Tw (P:bI) (X:e3 P D) (d:e7 D) (F:d.gA.F):Prop where
 ex:∃fn c,P.funcs[d.f]? =J fn/\qm P fn c/\lR P d.f=aa/\iJ d.lQ fn.ntmps=aa/\fn.results.toList=d.eX.map .tmp/\d.gA.p0 c=aa/\sB zb X c d.gA F
def fR (X:e3 P D) (d:e7 D) (F:d.gA.F):Prop:=∀(h:List (bc D)) (O:List (ba D)) {g:Type} (K:bc D->List (ba D)->Option g) (r:g) {z:Nat->bW} {e m:Mem} {k:Option Nat} {b:List af} (a:List af),
 b9 X.G O z e m k b->bP (rel X.G z b) h a->d.call X F h O K=J r->h2 P d.f a.toArray m λv i=>dH X O z e k b K r v i
def ad5 {m:Mem}:∀(l:List Nat),q2 P fr m (l.map .tmp) (l.map fr)
 |[]=>trivial
 |_::l=>⟨rfl,ad5 l⟩
def Tw.call {d:e7 D} {F:d.gA.F} (S:Tw P X d F):fR X d F:=by
 intro g O ap K r z e m k vs b w p h;obtain ⟨fn,c,T,U,V,Y,Z,f6,mS⟩:=S.ex;unfold e7.call at h;obtain ⟨a,h⟩:=gz h;have a:=kA a;have M:b.toArray.size<=fn.ntmps:=by rw[List.size_toArray,<-p.length,a];exact pk Y
 refine h2.any T U V M λfr hU=> ?_;have E:fj X z vs (mg 0 g) fr:=WC p λj v C=>by rw[lH];exact hU j v (by simpa using C)
 obtain ⟨A,u9,s,iS⟩:=e7.ap3 (d:=d) (cX:=g) w;have n:=mS.zd f6 (mg 0 g) (d.pre g O) _ r iS (E.mono s.le λ_ _ h=>h) h;rw[show sub c d.gA.path=c from sc c] at n;refine n.mono ?_;rintro q fY m1 ⟨R,jK,ia,N,B,h1,y,x,H,f⟩;obtain ⟨i,f⟩:=gz f;have l:zb q= .ret:=by revert i;cases zb q<;>intro i<;>first|rfl|cases i
 split at f
 ·rename_i Q t;obtain ⟨L,I⟩:=Xf H t;exact ⟨arE l,_,by rw[Z];exact ad5 d.eX,I,R,jK,Q,N,u9.trans B,s.trans h1,y,x,L,f⟩
 ·cases f
def fR.base {q:j6 D} {d:e7 D} {F:d.gA.F} (h:fR (X.gm q) d F):fR X d F:=by
 intro f O j K r z e m k l a g i b;have b:d.call (X.gm q) F f O K=J r:=by unfold e7.call at b⊢;rw[adr];exact b
 exact h f O K r a g i b
structure GE (D:Nat->Type) where
 d:e7 D
 F:d.gA.F
def e7.Z1 (d:e7 D) (a:List (bc D)) (O:List (ba D)):Bool:=fi ((jJ d.ins (mg 0 a) O).2.filter ba.live).length (gU d.ins)
variable (X) in
def ZL (l:List (GE D)) (d:e7 D) (f:Nat) (a:List (bc D)) (O:List (ba D)):Bool:=d.fits X a O&&(d.Z1 a O|| !(l.any λy=>fi y.d.f f&&(y.d.Z1 a O&&y.d.fits X a O)))
variable (X) in
def JD:List (GE D)->Nat->List (bc D)->List (ba D)->{b:Type}->(bc D->List (ba D)->Option b)->Option b|[],f,a,O,_,K=>X.C f a O K|x::l,f,a,O,_,K=>if (fi x.d.f f&&ZL X l x.d f a O)=aa then x.d.call X x.F a O K else JD l f a O K
variable (X) in
def JE:List (GE D)->Nat->List (bc D)->List (ba D)->Bool|[],f,a,O=>X.F f a O|x::l,f,a,O=>if (fi x.d.f f&&ZL X l x.d f a O)=aa then ak else JE l f a O
variable (X) in
def A8:List (GE D)->Nat->Bool|[],f=>X.W f|x::l,f=>fi x.d.f f||A8 l f
def e3.gen (X:e3 P D) (l:List (GE D)):e3 P D:=X.gm ⟨JE X l,X.hg,JD X l,A8 X l⟩
def aey (w:iV X) {f:Nat} {j:List (bc D)} {K:bc D->List (ba D)->Option ap} {r:ap} {a:List af} (s:b9 X.G O z e m k vs) (t:bP (rel X.G z vs) j a):∀{l:List (GE D)},(∀x∈l,fR X x.d x.F)->JD X l f j O K=J r->
  h2 P f a.toArray m λv p=>dH X O z e k vs K r v p/\(JE X l f j O=aa->p=m)/\(A8 X l f=ak->∃q,gG m p q/\oI vs (q1 j) q)
 |[],_,i=>w f j O K r a s t i
 |x::l,h,i=>by
  unfold JD at i;unfold JE A8;split at i
  ·rename_i g;rw[if_pos g];simp only[fx] at g;have:=kA g.1;subst this;refine (h x oG j O K r a s t i).mono λv p n=>⟨n,λb=>Yy b,λb=> ?_⟩
   rw[g.1] at b;cases b
  ·rename_i g;rw[if_neg g];refine (aey w s t (λy A=>h y (kn _ A)) i).mono λv p n=>⟨n.1,n.2.1,λb=>n.2.2 ?_⟩
   cases B:A8 X l f with
   |false=>rfl
   |true=>rw[B,Bool.or_true] at b;cases b
def iV.gen {l:List (GE D)} (i:iV X) (h:∀x∈l,fR X x.d x.F):iV (X.gen l):=by
 intro f p O n K r z e m k q a b j g;exact aey (X:=X) i b j h g
def gL.gm {q:j6 D} {d:fS D} {F:d.F} (h:gL (X.gm q) d F):gL X d F:=by
 intro g O j K r z e m k l a f i b;rw[<-acR q] at b;exact h g O K r a f i b
def fR.up {q:j6 D} {d:e7 D} {F:d.gA.F} (h:fR X d F):fR (X.gm q) d F:=by
 intro f O j K r z e m k l a g i b;have b:d.call X F f O K=J r:=by unfold e7.call at b⊢;rw[adr] at b;exact b
 exact h f O K r a g i b
def iV.amW {a:List (mK D)} {l:List (GE D)} (e:iV (X.with a)) (h:∀x∈l,fR X x.d x.F):iV ((X.with a).gen l):=iV.gen e λx b=>(h x b).up
def as1:∀y∈([]:List (GE D)),fR X y.d y.F:=by simp
def arR {l:List (GE D)} {x:GE D} (h:fR X x.d x.F) (a:∀y∈l,fR X y.d y.F):∀y∈x::l,fR X y.d y.F:=by
 grind
end
end
end
section
noncomputable section
section
variable {P:bI} {D:Nat->Type} {cT:e3 P D}
structure mi (cT:e3 P D) where
 X:e3 P D
 ok:iV X
 iB:∀{d:fS D} {F:d.F},gL X d F->gL cT d F
 Z7:∀{d:e7 D} {F:d.gA.F},fR X d F->fR cT d F
def mi.l9 (E:mi cT) (f:bS->Option bS->Option bS->Nat):mi cT:=⟨E.X.l9 f,iV.l9 E.ok,λh=>E.iB (gL.l9 h),λh=>E.Z7 (fR.base h)⟩
structure eS (cT:e3 P D) where
 bY:List (mK D)
 gs:List (GE D)
 ok:∀y∈bY,gL cT y.d y.F
 UM:∀y∈gs,fR cT y.d y.F
def eS.nil:eS cT:=⟨[],[],by simp,as1⟩
def eS.l7 (T:eS cT) (d:fS D) (F:d.F) (h:gL cT d F):eS cT:=⟨⟨d,F⟩::T.bY,T.gs,aqT (x:=⟨d,F⟩) h T.ok,T.UM⟩
def eS.ir (T:eS cT) (d:e7 D) (F:d.gA.F) (h:fR cT d F):eS cT:=⟨T.bY,⟨d,F⟩::T.gs,T.ok,arR (x:=⟨d,F⟩) h T.UM⟩
def eS.bk (T:eS cT):mi cT:=⟨(cT.with T.bY).gen T.gs,iV.amW (iV.of T.ok) T.UM,λh=>gL.gm (gL.gm h),λh=>fR.base (fR.base h)⟩
structure ch (E:mi cT) (B:Code) where
 us:List (mP D)
 ok:∀u∈us,qJ E.X B u
variable {E:mi cT} {B:Code}
def ch.nil:ch E B:=⟨[],atg⟩
def ch.add (a:ch E B) (p:h4 D) (F:p.F) (h:qF E.X B p F) (b:p.p0 B=aa):ch E B:=⟨p.zd E.X F::a.us,asI (h.zd b) a.ok⟩
def ch.aS (a:ch E B) (p:h4 D) (F:p.F) (d:p.p0 B=aa:=by kernel_rfl)
  (b:∀x,j8 E.X a.us calm aa p.path.reverse (aF.sub B p.path) (hc E.X p.ins x++p.fg) (eU E.X p.ins x) (sk E.X (gU p.ins) p.ks p.iM)=F x:=by intro x;kernel_rfl):ch E B:=
 a.add p F (qF.of E.ok (λu h _=>a.ok u h) b) d
def aeA:Code->Bool| .loop _=>aa|_=>ak
def aqw {B:Code} {p:List Nat} (h:aeA (aF.sub B p)=aa):aF.sub B p= .loop (aF.sub B (p++[0])):=by
 rw[<-WZ];cases a:aF.sub B p<;>rw[a] at h<;>first|(cases h;done)|exact congrArg Code.loop (sc _).symm
def ch.bE (a:ch E B) (N:Nat) (p:h4 D) (F:Nat->p.F) (b:(aeA (aF.sub B p.path)&&p.p0 B)=aa:=by kernel_rfl) (d:∀x,F 0 x=ae:=by exact λx=>rfl)
  (e:∀n x,j8 E.X a.us calm aa (0::p.path.reverse) (aF.sub B (p.path++[0])) (hc E.X p.ins x++p.fg) (eU E.X p.ins x) (aeY E.X p (F n))=F (n+1) x:=by intro n x;kernel_rfl):ch E B:=
 a.add p (F N) (qF.loop E.ok (aqw (tY.1 b).1) (tY.1 b).2 (λu h _=>a.ok u h) d e N) (tY.1 b).2
def Cu (P:bI) (f a:Nat) (fn:Func):Bool:=fn.body.isSome&&(lR P f&&iJ a fn.ntmps)
def adQ {fn:Func} (h:fn.body.isSome=aa):fn.body=J (en fn):=by
 unfold en;cases a:fn.body with
 |none=>grind
 |some c=>rfl
def fS.ho (P:bI) (d:fS D) (fn:Func):Bool:=Cu P d.f d.lQ fn&&(sh d.outs&&((d.fg.all λp=>tJ p.2)&&((d.fu.all λp=>tJ p.2)&&(d.fg.all λp=>(GY p.2).isNone))))
def ch.fn {fn:Func} (b:ch E (en fn)) {d:fS D} {F:d.F} (m:P.funcs[d.f]? =J fn) (a:d.ho P fn=aa:=by kernel_rfl) (l:fn.results.toList=d.lV:=by exact rfl)
  (n:∀r x,j8 E.X b.us calm aa [] (en fn) (hc E.X d.ins x++(d.fg++xu d.ij)) (rb E.X d.ij r) (PY E.X d)=F r x:=by intro r x;kernel_rfl):gL cT d F:=by
 unfold fS.ho Cu at a;simp only[fx] at a;obtain ⟨⟨p,g,i⟩,j,k,e,q⟩:=a;exact E.iB (Il.call ⟨⟨fn,_,m, .inl (adQ p),g,i,l,Au.of E.ok (us:=b.us) (λu h _=>b.ok u h) n⟩,j,k,e,q⟩)
def e7.ho (P:bI) (d:e7 D) (fn:Func):Bool:=Cu P d.f d.lQ fn&&d.gA.p0 (en fn)
def ch.fd {fn:Func} {c:Code} (b:ch E c) {d:fS D} {F:d.F} (m:P.funcs[d.f]? =J fn) (p:qm P fn c) (a:d.ho P fn=aa:=by kernel_rfl) (l:fn.results.toList=d.lV:=by exact rfl)
  (n:∀r x,j8 E.X b.us calm aa [] c (hc E.X d.ins x++(d.fg++xu d.ij)) (rb E.X d.ij r) (PY E.X d)=F r x:=by intro r x;kernel_rfl):gL cT d F:=by
 unfold fS.ho Cu at a;simp only[fx] at a;obtain ⟨⟨s,g,i⟩,j,k,e,q⟩:=a;exact E.iB (Il.call ⟨⟨fn,_,m,p,g,i,l,Au.of E.ok (us:=b.us) (λu h _=>b.ok u h) n⟩,j,k,e,q⟩)
def ch.iu {fn:Func} (b:ch E (en fn)) {d:e7 D} {F:d.gA.F} (k:P.funcs[d.f]? =J fn) (a:d.ho P fn=aa:=by kernel_rfl) (j:fn.results.toList=d.eX.map .tmp:=by exact rfl)
  (l:∀x,j8 E.X b.us calm aa d.gA.path.reverse (aF.sub (en fn) d.gA.path) (hc E.X d.gA.ins x++d.gA.fg) (eU E.X d.gA.ins x) (λn=>sk E.X (gU d.gA.ins) d.gA.ks d.gA.iM (zb n))=F x:=by intro x;kernel_rfl):fR cT d F:=by
 unfold e7.ho Cu at a;simp only[fx] at a;obtain ⟨⟨m,e,g⟩,i⟩:=a;exact E.Z7 (Tw.call ⟨⟨fn,_,k, .inl (adQ m),e,g,j,i,sB.of E.ok (us:=b.us) (λu h _=>b.ok u h) l⟩⟩)
def ad (k:Nat):dt:= .v k (.int .i64)
def a6 (k:Nat):dt:= .v k .bool
def vs (k:Nat):dt:= .v k .str
def aW (k e:Nat):dt:= .v k (.bh e)
def cm (k t:Nat):dt:= .v k (.agg t)
def e1 (k t:Nat):dt:= .v k (.hd t)
def ax (k e:Nat):dt:= .o k (.bh e)
def ob (k t:Nat):dt:= .o k (.box t)
def aX (k t:Nat):dt:= .o (100000000+k) (.box t)
def eJ (k t:Nat):dt:= .u k (.box t)
def aE (k j:Nat):Nat×bc D:=(k, .box j 0)
def a8 (k j:Nat):Nat×bc D:=(k, .c (.own j))
def abS:Nat->Nat->List Nat|0,_=>[]|f+1,n=>if iJ n 1=aa then [] else abS f (n / 10)++[n%10]
def abR (n:Nat):List Nat:=abS 40 n
def dI (k:Nat) (l:List dt):List (lF D):=[⟨.exit k,[],[]⟩,⟨.ret,l,[]⟩]
def b3 (l:List dt):List (lF D):=[⟨.normal,l,[]⟩]
def eD (k:Nat) (l:List dt):List (lF D):=[⟨.exit k,l,[]⟩]
def cV (n:Nat) (b:List dt) (d:List (lF D)) (a:List Nat):h4 D:=⟨abR n,b,[],[],d,a⟩
def bi (n:Nat) (b:List dt) (d:List (Nat×bc D)) (f:List Nat) (e:List (lF D)) (a:List Nat):h4 D:=⟨abR n,b,d,f,e,a⟩
def awg:dt->ResultVar| .v k _=> .tmp k| .o k _=> .tmp k| .u k _=> .tmp k
def sX (f d:Nat) (b a:List dt) (e:List ResultVar):fS D:=⟨f,d,b,[],ae,0,a,[],e,aa⟩
def gS (f e:Nat) (b a:List dt) (d:List (Nat×bc D)) (g:List ResultVar):fS D:=⟨f,e,b,[],ae,0,a,d,g,ak⟩
def cx (f d:Nat) (b a:List dt):fS D:=⟨f,d,b,[],ae,0,a,[],a.map awg,aa⟩
def ga {G:l6 D} {t:Nat} (a:List hJ) (b:D t->h6 (gJ G a)) (d:h6 (gJ G a)->D t) {i:TypeInfo} (f:P.info? t=J i) (j:∀x,d (b x)=x:=by exact λ_=>rfl) (e:∀y,b (d y)=y:=by exact λ_=>rfl)
  (n:G.T t=fB t (gJ G a) b:=by exact rfl) (h:i.size=a.length:=by exact rfl) (l:(a.length==0)=ak:=by exact rfl) (m:iJ i.bytes 32768=aa:=by exact rfl) (g:i.zero=J (i.zero.getD undef):=by exact rfl) (k:(i.zero.getD undef).cells.toList=oD a:=by exact rfl):dP P G t:=
 awe a b d j e i n f h l m g k
def l1 {a:Type} (x:a):a×Unit:=(x,())
def ju {a:Type} (y:a×Unit):a:=y.1
def eS.go (T:eS cT) (d:fS D) (F:d.F) {fn:Func} (e:P.funcs[d.f]? =J fn) (a:ch T.bk (en fn):=ch.nil) (h:d.ho P fn=aa:=by kernel_rfl) (b:fn.results.toList=d.lV:=by exact rfl)
  (g:∀r x,j8 T.bk.X a.us calm aa [] (en fn) (hc T.bk.X d.ins x++(d.fg++xu d.ij)) (rb T.bk.X d.ij r) (PY T.bk.X d)=F r x:=by intro r x;kernel_rfl):eS cT:=T.l7 d F (a.fn e h b g)
def eS.mx (T:eS cT) (d:e7 D) (F:d.gA.F) {fn:Func} (e:P.funcs[d.f]? =J fn) (a:ch T.bk (en fn):=ch.nil) (i:d.ho P fn=aa:=by kernel_rfl) (b:fn.results.toList=d.eX.map .tmp:=by exact rfl)
  (g:∀x,j8 T.bk.X a.us calm aa d.gA.path.reverse (aF.sub (en fn) d.gA.path) (hc T.bk.X d.gA.ins x++d.gA.fg) (eU T.bk.X d.gA.ins x) (λh=>sk T.bk.X (gU d.gA.ins) d.gA.ks d.gA.iM (zb h))=F x:=by intro x;kernel_rfl):eS cT:=T.ir d F (a.iu e i b g)
end
end
end
section
def W7 {P : bI} {g : FuncId} {fn : Func} {id t3 t4 : Nat} {iw iQ : Oper} {X : Code} {ty tz : bV} {al8 : Array bV} (bF : P.funcs[g]? = J fn) (bB : (fn.name == "runtime.NumGoroutine") = ak)
  (aw:fn.body=J (.seq (.region id #[iw,iQ] ak) (.cond (.tmp t4) X .skip))) (h1:iw.op= .call {callee:= .builtin .recover,args:=#[],argTypes:=al8}) (d1:iw.dst=J t3) (g1:iw.guard=ae)
  (ai:iQ.op= .binOp .neq ty (.tmp t3) (.const .nilIface) tz) (d2:iQ.dst=J t4) (g2:iQ.guard=ae) (avD:t3<fn.ntmps) (ay7:t4<fn.ntmps) (aV:fn.results=#[])
  (fv:∀w,(eqGuard .neq ty (.tmp t3) (.const .nilIface) .nilIface .nilIface).run P w= .ok () w) (fQ:∀w,(binOp .neq ty .nilIface .nilIface).run P w= .ok (.bool ak) w):Cl P g:=by
 refine ⟨⟨fn,bF,bB,by grind⟩,λcs w=> ?_⟩;refine callsD_of_wpS bF aw λamw ds hm=>wpS_seq (wpS_region ?_);have cN:(cs++nj (fn.ntmps - cs.size) undef).size>=fn.ntmps:=by grind
 generalize cs++nj (fn.ntmps - cs.size) undef=T at cN;show wpOpsS P #[iw,iQ] _ [0,1] _ _ w;have dX:qK iw (yielded #[iw,iQ] T)=aa:=by grind [qK]
 have bX:∀ap,(execOp ap iw).run P w= .ok .recover w:=λap=>by simp[execOp,h1,resolve,invoke,builtin]
 have aoM:recoverD (amw::ds)=ae:=by grind [recoverD]
 unfold wpOpsS;simp only[show (#[iw,iQ]:Array Oper)[0]? =J iw from rfl,dX,if_true,bX,aoM];unfold wpOpsS;have ix:qK iQ (yielded #[iw,iQ] (qB {tmps:=T,defers:=[]} iw.dst .nilIface).tmps)=aa:=by grind [qK]
 have aD:(qB {tmps:=T,defers:=[]} iw.dst .nilIface).eval (.tmp t3)= .nilIface:=by simp[Act.eval,qB,d1,show t3<T.size by omega]
 have e2:(execOp (qB {tmps:=T,defers:=[]} iw.dst .nilIface).eval iQ).run P w= .ok (.value (.bool ak)) w:=by have ay:(qB {tmps:=T,defers:=[]} iw.dst .nilIface).eval (.const .nilIface)= .nilIface:=rfl;simp_all [execOp]
 simp only[show (#[iw,iQ]:Array Oper)[1]? =J iQ from rfl,ix,if_true,e2];rw[Oper.upon_value];have ao0:(qB (qB {tmps:=T,defers:=[]} iw.dst .nilIface) iQ.dst (.bool ak)).eval (.tmp t4)= .bool ak:=by simp[Act.eval,qB,d1,d2,show t4<T.size by omega]
 refine wpS_cond ao0 (wpS_of_wp (wp_skip ?_));refine ⟨by grind [qB], .returning, ?_, .tuple #[],by simp[results,aV],⟨_,rfl⟩,rfl,rfl⟩;rw[<-hm]
def oh:Code->Code| .seq A (.seq (.region b a d) B)=> .seq A (.seq (.region b a.pop d) B)|k=>k
end
section
open Go.Sort Go.Shelf Go.Proofs
noncomputable def ou {a:Type} [Inhabited a] (d:a->a->Int) (b:List a):List a:=(pdq (ltOf d) b.toArray 0 b.toArray.size (Ty b.toArray.size) aa aa).toList
noncomputable def G6 {a:Type} [Inhabited a] (d:a->a->Int) (b:List a):Option (List a):=if b.length<4611686018427387904 then J (ou d b) else ae
def p1 (x y:Int):Int:=Lib.compareInt x y
section
variable {aK:Type} [Inhabited aK]
def asc (x y:Int):decide (p1 x y<0)=decide (x<y):=by
 grind [p1,Lib.compareInt]
def W0 (f:aK->Int):SWO (ltOf λx y=>p1 (f x) (f y)):=by
 have e:∀x y,ltOf (λx y=>p1 (f x) (f y)) x y=decide (f x<f y):=λx y=>asc _ _;refine ⟨λx=> ?_,λx y z b a=> ?_,λx y z b a=> ?_⟩
 ·grind
 ·grind
 grind
def Wi (b:aK->aK->Int) (d:SWO (ltOf b)) (a:List aK):PermIn 0 a.length a.toArray (ou b a).toArray/\SortedIn (ltOf b) 0 a.length (ou b a).toArray:=by
 have h:=pdq_sorts (ltOf b) d a.toArray 0 a.toArray.size (Ty a.toArray.size) aa aa (Nat.zero_le _) (e4 _) (Or.inl rfl);have e:(ou b a).toArray=pdq (ltOf b) a.toArray 0 a.toArray.size (Ty a.toArray.size) aa aa:=by rfl
 grind
def BU (a:aK->aK->Int) (d:SWO (ltOf a)) (b:List aK):(ou a b).length=b.length:=by
 have:=(Wi a d b).1.1
 grind
def acL (a:aK->aK->Int) (d:SWO (ltOf a)) (b:List aK):(ou a b).Perm b:=by
 have h:=(Wi a d b).1;have e:=BU a d b;have f:=h.2.2
 grind
theorem acY {a:aK->List af} {k:Nat} (e:∀x,(a x).length=k):∀(b:List aK) (t:Nat),t<b.length*k->(b.flatMap a)[t]? =J ((a b.toArray[t / k]!)[t%k]!)
 |[],t,h=>by grind
 |x::b,t,h=>by
  have f:0<k:=by grind
  rw[II,AB];split
  ·grind [Nat.div_eq_of_lt,Nat.mod_eq_of_lt]
  ·rename_i d;rw[e] at d⊢;have d:k<=t:=by omega
   rw[acY e b (t - k) (by grind [ko])];have i:t / k=(t - k) / k+1:=by rw[<-Nat.sub_add_cancel d,Nat.add_div_right _ f];simp
   have g:t%k=(t - k)%k:=by rw[<-Nat.sub_add_cancel d,Nat.add_mod_right];simp
   grind
theorem KD {a:aK->List af} {k:Nat} (e:∀x,(a x).length=k) (b:List aK):(b.flatMap a).length=b.length*k:=by
 induction b with
 |nil=>simp
 |cons x b d=>grind
theorem arW {a:aK->List af} {k:Nat} (e:∀x,(a x).length=k) (b:List aK):(flatK a k b.toArray).toList=b.flatMap a:=by
 refine rv λt=> ?_;by_cases d:t<b.length*k
 ·grind [acY,flatK]
 ·rw[Tz (l:=b.flatMap a) (by grind [KD]),Tz (by simp_all)]
variable {P:bI} {ap:Ren}
def Wh {f l:Nat} {p F k:List af} {w:World} {a:Nat} (q:k.length=F.length) (C:0<F.length)
  (h:∀b g:Nat,a<w.heap.size->Holds id w a b F.toArray->Calls P f (.slice (J ⟨a,b,ae⟩) l g::p).toArray w λe r=>e= .returned (.tuple #[])/\∃n m,r=grow (putRow id (TL w n) a b k.toArray) m):zE P f p l F k w a:=by
 intro b g x t bZ B y K;have z:Holds id w a b F.toArray:=by
  intro j H
  grind [rG,World.frozen?]
 have d:a<w.heap.size:=by
  grind
 refine (h b g d z).mono ?_;rintro e r ⟨rfl,n,m,rfl⟩;have s:∀c,c<w.heap.size->(grow (putRow id (TL w n) a b k.toArray) m).heap[c]? =(w.heap.modify a (onCells (putCells id b k.toArray)))[c]? :=by
  grind [grow,putRow,mapBlock,TL]
 refine ⟨rfl,rfl,rfl,rfl,by grind,λc E I=> ?_, ?_⟩
 ·grind
 ·rw[s a d,Array.getElem?_modify,if_pos rfl,B];simp only[vU,onCells];congr 2;have A:b+F.length<=x.size:=by
   have:=(Array.getElem?_eq_some_iff.1 (y _ _ (mm (l:=F) (i:=F.length - 1) (by omega)))).1;omega
  apply Array.ext_getElem?
  grind [o5,putCells]
def ar8 (L:SlLaysF0.n6 P ap) {f g k:Nat} (M:ap.f 6=f) (H:∀w,(isAgg (ap.t 24)).run P w= .ok aa w) (I:∀w,(Go.sizeOf (ap.t 24)).run P w= .ok k w) (a:aK->List af) (p:∀x,(a x).length=k) (N:∀x,(a x).all dy=aa)
  (h:aK->aK->Int) (B:SWO (ltOf h)) (R:∀d w,(callFunc g d).run P w= .ok (.enter g d) w)
  (O:∀(x y:aK) (W:World),Calls P g #[.agg (a x).toArray, .agg (a y).toArray] W λe E=>e= .returned (.int .i64 (h x y))/\∃q Q,E=grow (W.drewN q) Q)
  (b:List aK) (V:b.length<4611686018427387904) (Y:0<k) (T:0<b.length) (w:World) (i:Nat):zE P f [.func (.func g) #[] #[]] b.length (b.flatMap a) ((ou h b).flatMap a) w i:=by
 subst M;have F:=BU h B b;have e:∀r:List aK,(r.flatMap a).toArray=flatK a k r.toArray:=λr=>by grind [arW]
 refine Wh (by rw[KD p,KD p,F]) (by rw[KD p];simp_all) λz s l A=> ?_;rw[e] at A;have S:∀x,∀v∈a x,v.oneCell'=aa:=λx v K=>(acX (j:=λ_=>ae) (iA.1 (N x) v K)).one;refine (AnyQ.slices_SortFunc_eq L k H I a p S h B g #[] i z s b.toArray w R (λm C U _ x y=>O x y _) A l (by grind)).mono ?_;rintro X E ⟨rfl,n,C,rfl⟩;refine ⟨rfl,n,C, ?_⟩;rw[e,show (ou h b).toArray=pdq (ltOf h) b.toArray 0 b.toArray.size (Ty b.toArray.size) aa aa by rfl];rfl
end
noncomputable section
section
variable {P:bI} {D:Nat->Type} {G:l6 D}
def AV:List hJ->Bool|[]=>aa| .bh _::_=>ak| .mp _ _ _::_=>ak| .fn::_=>ak|_::a=>AV a
def w0 {z:Nat->bW}:∀{ls:List hJ} {x:h6 (gJ G ls)} {a:List af},AV ls=aa->pa z (gJ G ls) x a->a=hC ls x
 |[],_,[],_,_=>rfl
 |[],_,_::_,_,h=>h.elim
 | .int k::ls,x,d::a,h,e=>by have b:d= .int k x.1:=e.1;rw[hC,b,<-w0 (ls:=ls) h e.2]
 | .bool::ls,x,d::a,h,e=>by have b:d= .bool x.1:=e.1;rw[hC,b,<-w0 (ls:=ls) h e.2]
 | .str::ls,x,d::a,h,e=>by have b:d=aF.str x.1:=e.1;rw[hC,b,<-w0 (ls:=ls) h e.2]
 | .bh _::_,_,_,h,_=>by cases h
 | .mp _ _ _::_,_,_,h,_=>by cases h
 | .fn::_,_,_,h,_=>by cases h
 | .int _::_,_,[],_,h=>h.elim
 | .bool::_,_,[],_,h=>h.elim
 | .str::_,_,[],_,h=>h.elim
def zu {z:Nat->bW}:∀{ls:List hJ} {x:h6 (gJ G ls)},AV ls=aa->pa z (gJ G ls) x (hC ls x)
 |[],_,_=>trivial
 | .int k::ls,x,h=>⟨rfl,zu (ls:=ls) h⟩
 | .bool::ls,x,h=>⟨rfl,zu (ls:=ls) h⟩
 | .str::ls,x,h=>⟨rfl,zu (ls:=ls) h⟩
 | .bh _::_,_,h=>by cases h
 | .mp _ _ _::_,_,h=>by cases h
 | .fn::_,_,h=>by cases h
def BS:∀{ls:List hJ} {x:h6 (gJ G ls)},AV ls=aa->(hC ls x).all dy=aa
 |[],_,_=>rfl
 | .int k::ls,x,h=>by simp only[hC,ml,BS (ls:=ls) (x:=x.2) h];rfl
 | .bool::ls,x,h=>by simp only[hC,ml,BS (ls:=ls) (x:=x.2) h];rfl
 | .str::ls,x,h=>by simp only[hC,ml,BS (ls:=ls) (x:=x.2) h];rfl
 | .bh _::_,_,h=>by cases h
 | .mp _ _ _::_,_,h=>by cases h
 | .fn::_,_,h=>by cases h
def w4:∀{ls:List hJ} {x:h6 (gJ G ls)},(hC ls x).length=ls.length
 |[],_=>rfl
 | .int k::ls,x=>by simp only[hC,ry,w4 (ls:=ls)]
 | .bool::ls,x=>by simp only[hC,ry,w4 (ls:=ls)]
 | .str::ls,x=>by simp only[hC,ry,w4 (ls:=ls)]
 | .bh _::ls,x=>by simp only[hC,ry,w4 (ls:=ls)]
 | .mp _ _ _::ls,x=>by simp only[hC,ry,w4 (ls:=ls)]
 | .fn::ls,x=>by simp only[hC,ry,w4 (ls:=ls)]
def WA {e f:Nat} {z:Nat->bW} {N m:Mem} {k:Option Nat} {d g:List (D e)} {v:af} {n:List af} (a:D e->List af) (E:∀z x M,(G.T e).rd z x M->M=a x) (I:∀z x,(G.T e).rd z x (a x)) (bF:∀x,(a x).all dy=aa) (U:lR P f=aa) (bB:g.length=d.length)
  (bR:∀(p:Option Addr) (F:Nat) (R:List af) (w:World),R.length=n.length->Calls P f (.slice p 0 F::R).toArray w λx w'=>x= .returned (.tuple #[])/\w'=w)
  (bf:0<d.length->∀(b:Nat) (L:List af) (t:bV),z b= .dead->m.blk b= .own L t->∀(j:cj) (w:World) (A:List af) (q:kl),WF m->Rel P j m w->bP (de j) n A->j b=J q->zE P f A d.length (d.flatMap a) (g.flatMap a) w q.blk)
  (K:dU (G.T e) z N m k d v):∃y B,h2 P f (v::n).toArray m (λu H=>u=(if ak=aa then y else .tuple #[])/\H=B)/\(B=m\/∃b X,da v=J b/\B=m.put b X)/\dU (G.T e) z N B k g y/\da y=da v/\(ak=ak->y=v):=by
 have C:∀l:List (D e),∀x∈l,(a x).length=(G.T e).bM:=λl x _=>(G.T e).len z x _ (I z x);have Y:∀l:List (D e),(l.flatMap a).all dy=aa:=λl=>by
  grind
 have ayO:d=[]->(∃p c,v= .slice p 0 c)->h2 P f (v::n).toArray m (λu H=>u=(if ak=aa then v else .tuple #[])/\H=m)/\g=d:=λr ⟨p,c,E⟩=>by subst r E;exact ⟨h2.sort U (ar9 p c n bR) ⟨rfl,rfl⟩,yl bB⟩
 rcases K.bT with ⟨rfl,rfl⟩|⟨b,h,L,c,rfl,O,g2,Q,g4,g5,g6⟩
 ·grind
 ·by_cases hV:d.length=0
  ·grind
  ·have Z:=WI (C d);have ax8:=WI (C g);have S:(eY L h (g.flatMap a)).length=L.length:=mB _ _ _;refine ⟨_,m.put b (.own (eY L h (g.flatMap a)) (G.T e).tid),h2.sort U (ar' b h d.length c L (G.T e).tid (d.flatMap a) (g.flatMap a) n (λj w A q dV cY eL s=>bf (by omega) b L _ Q O j w A q dV cY eL s) (by omega) O ?_ (by grind) (by grind) (Y _) (Y _)) ⟨rfl,rfl⟩, .inr ⟨b,_,rfl,rfl⟩,⟨.inr ⟨b,h,eY L h (g.flatMap a),c,by grind,by simp[Mem.put],g2,Q,by grind,by grind,λi x r=> ?_⟩,K.fresh⟩,rfl,λ_=>rfl⟩
   ·refine rv λj=> ?_;rw[List.getElem?_take];split
    ·rename_i s;rw[List.getElem?_drop];have V:=mm s;rw[V];exact acf E (λi x r=>g6 i x r) (C d) j _ V
    grind
   ·refine ⟨a x,I z x,λj u s=> ?_⟩;have hk:=adJ (C g) i j x u r s;rw[o5 _ _ _ _ (by grind)];have cF:=(fq.1 hk).1;rw[if_pos (by omega),show h+i*(G.T e).bM+j - h=i*(G.T e).bM+j by omega]
    grind
def asW {g:Nat} {z:Nat->bW} {n e d:List af} {j:cj} (i:bP (rel G z n) [.fn g []] e) (k:bP (de j) e d):d=[.func (.func g) #[] #[]]:=by
 match e,d,i,k with
 |[_],[_],⟨⟨a,rfl,b⟩,_⟩,⟨m,_⟩=>
  have:a=[]:=by cases a with
   |nil=>rfl
   |cons _ _=>exact b.elim
  subst this;obtain ⟨a,f,p,b,h⟩:=m;have q:a=#[]:=by
   obtain ⟨l⟩:=a;cases l with
   |nil=>rfl
   |cons _ _=>exact b.elim
  have r:f=#[]:=by
   obtain ⟨l⟩:=f;cases l with
   |nil=>rfl
   |cons _ _=>exact h.elim
  grind
def avF {t:Nat} (d:List hJ) (l:D t->h6 (gJ G d)) (F:G.T t=fB t (gJ G d) l) (r:AV d=aa) (H:D t) (a:D t->Int) {n:Ren} (L:SlLaysF0.n6 P n) (f g:Nat) (C:n.f 6=f) (V:lR P f=aa)
  (K:∀w,(isAgg (n.t 24)).run P w= .ok aa w) (M:∀w,(Go.sizeOf (n.t 24)).run P w= .ok d.length w) (Y:∀i w,(callFunc g i).run P w= .ok (.enter g i) w) (S:mn 0 d.length=aa)
  (U:∀(x y:D t) (W:World),Calls P g #[.agg (hC d (l x)).toArray, .agg (hC d (l y)).toArray] W λe Z=>e= .returned (.int .i64 (p1 (a x) (a y)))/\∃q X,Z=grow (W.drewN q) X):ns P G where
 f:=f
 e:=t
 u5:=ak
 acc:=λs=>match s with|[.fn A5 []]=>fi A5 g|_=>ak
 qp:=λ_=> @G6 (D t) ⟨H⟩ λx y=>p1 (a x) (a y)
 run:=λz eV m k vs lW s I b4 v B h bx E Q=>by
  letI:Inhabited (D t):=⟨H⟩
  split at B
  ·obtain rfl:=kA B;unfold G6 at h;split at h
   ·rename_i O;cases h;refine WA (λx=>hC d (l x)) (λz x ds h=>by rw[F] at h;exact w0 r h) (λz x=>by rw[F];exact zu r) (λx=>BS r) V (BU _ (W0 a) I) (λp A s w h=> ?_) (λN b _ eu _ _ j w kG q dV cY R bn=> ?_) Q
    ·subst C;rw[<-E.length] at h
     match s,h with
     |[v],_=>exact AnyF.slices_SortFunc_none L p A v w
    ·have e:=asW E R;subst e;exact ar8 L C K M (λx=>hC d (l x)) (λ_=>w4) (λ_=>BS r) (λx y=>p1 (a x) (a y)) (W0 a) Y U I O (pk S) N w q.blk
   ·cases h
  ·cases B
end
end
end
section
open Go.Sort Go.Shelf Go.Proofs Go.RowKit
noncomputable section
def ve (a:List Int):Option (List Int):=if a.length<4611686018427387904 then J (if a.Pairwise (·<=·) then a else a.mergeSort λx y=>decide (x<=y)) else ae
def uF {a:Type} (x:List a):Option (List a):=wK x λt=>if t=aa then J [] else ab (cD [] x) λy=>J y
def Lg {b:Type} {x y:List b} (h:(ab (cD [] x) λy=>J y)=J y):uF x=J y:=
 atc λt a=>by
  cases t with
  |false=>grind
  |true=>rw[a rfl] at h;exact h
def gL.imp {P:bI} {D:Nat->Type} {X:e3 P D} {d:fS D} {F rq:d.F} (a:d.ij=ae) (b:∀r x y,F r x=J y->rq r x=J y) (h:gL X d rq):gL X d F:=gL.or a (λr x y g=> .inl (b r x y g)) h h
def aqv {b a:List Int} (h:ve b=J a):ve (b.map λx=>x)=J (a.map λx=>x):=by simp_all
section
variable {aK:Type} [Inhabited aK]
def acj (b:aK->af) (w:World) (a e:Nat) (d:List aK):putRow b w a e d.toArray=putRow id w a e (d.map b).toArray:=by
 unfold putRow putCells
 grind
def acx {b:aK->af} {w:World} {a e:Nat} {d:List aK} (h:Holds id w a e (d.map b).toArray):Holds b w a e d.toArray:=by
 intro j f;have f:j<d.length:=by grind
 have:=h j (by grind)
 grind
end
section
variable {P:bI} {D:Nat->Type} {G:l6 D} {t:Nat}
def KC (b:D t->Int) (a:List (D t)):(a.flatMap λx=>[mu .i64 (b x)])=(a.map b).map (mu .i64):=by
 induction a with
 |nil=>rfl
 |cons x a d=>grind
def au2 (to:D t->Int) (aD:∀z x ds,(G.T t).rd z x ds->ds=[.int .i64 (to x)]) (aV:∀z x,(G.T t).rd z x [.int .i64 (to x)]) (qp:List (D t)->Option (List (D t))) (bf:∀{xs b4},qp xs=J b4->ve (xs.map to)=J (b4.map to)) {ap:Ren} (L:Lays.n189 P ap) (f:Nat) (bF:ap.f 189=f) (ok:lR P f=aa):ns P G where
 f:=f
 e:=t
 u5:=ak
 acc:=List.isEmpty
 qp:=λ_=>qp
 run:=λz eV m k vs lW gV xs b4 v oN h bx dE cG=>by
  cases gV with
  |cons _ _=>cases oN
  |nil=>
  cases lW with
  |cons _ _=>exact dE.elim
  |nil=>
  subst bF;have h:=bf h;unfold ve at h;split at h
  ·rename_i cF;have h:((xs.map to).mergeSort λx y=>decide (x<=y))=b4.map to:=by
    have h:=kB.inj h;split at h
    ·rename_i bf;rw[<-h];exact List.mergeSort_of_pairwise (bf.imp λh=>decide_eq_true h)
    ·exact h
   have hlen:b4.length=xs.length:=by have:=congrArg List.length h;simpa using this.symm
   refine WA (λx=>[.int .i64 (to x)]) aD aV (λx=>rfl) ok hlen (λp cap gV w h=> ?_) (λbR b _ eu _ _ j w kG q dV cY eL bn=> ?_) cG
   ·cases gV with
    |cons _ _=>simp at h
    |nil=>exact Any.slices_Sort_int_none L p cap w
   ·cases kG with
    |cons _ _=>exact eL.elim
    |nil=>
    rw[KC,KC];refine Wh (by simp[hlen]) (by simpa using bR) λoff cap hblk hH=> ?_;have ay:=Any.slices_Sort_int L q.blk off cap (xs.map to) w (acx hH) hblk cF;rw[ug] at ay;refine ay.mono ?_;rintro e w' ⟨rfl,n,os,rfl⟩;exact ⟨rfl,n,os,by rw[<-h,acj]⟩
  ·cases h
def afh {e:Nat} (d:dP P G e) (K:P.follows .mixedOrders=aa) {fn:Func} (f:Nat) (s:P.funcs[f]? =J fn) (p:fn.body.isSome=aa) (C:lR P f=aa) (M:iJ 3 fn.ntmps=aa) (L:fn.results.toList=[.tmp 6]) (B:Tu t (en fn)) (q:P.underlying t=J (.slice e)):ns P G where
 f:=f
 e:=e
 u5:=aa
 acc:=λg=>match g with|[.c (.int .i64 _), .c (.int .i64 _)]=>aa|_=>ak
 qp:=λg l=>match g with|[.c (.int _ a), .c (.int _ b)]=>AY l a b|_=>ae
 run:=λz Q m k U I g l N v j h O A x=>by
  split at j
  ·rename_i a b
   match I,A with
   |[_,_],⟨rfl,rfl,_⟩=>
    simp only[AY] at h;split at h
    ·rename_i r;cases h;obtain ⟨w,R,rfl⟩:=r;obtain ⟨n,rfl⟩:=Int.eq_ofNat_of_zero_le w;obtain ⟨b,Y,y,i,E,F,H⟩:=ase (T:=G.T e) K s p C (pk M) L B (by rw[d.tid];exact q) (by rw[d.tid];exact d.az) d.bx d.dw d.et d.cN x (a:=n) (by omega);exact ⟨y,_,F.mono λu S h=>⟨by rw[if_pos rfl];exact h.1,h.2⟩, .inr ⟨b,Y,i,rfl⟩,H,by rw[i,E],λh=>by cases h⟩
    ·cases h
  ·cases j
end
end
end
section
open Go.Sort Go.Shelf Go.Proofs Go.RowKit
noncomputable section
abbrev pW (n:Nat):Type:={x:Int // 0<=x/\x<n}
def o1 (a d:List Int):Option (List Int):=
 if d=[] then J [] else
 if h:(∀x∈d,0<=x/\x<a.length)/\(∀b∈a,0<=b/\b<4294967296)/\d.length<4611686018427387904/\0<a.length then
  J ((@ou (pW a.length) ⟨⟨0,by omega⟩⟩ (λx y=>a.getD x.1.toNat 0 - a.getD y.1.toNat 0) (d.pmap Subtype.mk h.1)).map Subtype.val)
 else ae
def W1 {a:Type} (f:a->Int):SWO (ltOf λx y=>f x - f y):=by
 have e:∀x y,ltOf (λx y=>f x - f y) x y=decide (f x<f y):=λx y=>by grind [ltOf]
 refine ⟨λx=> ?_,λx y z d b=> ?_,λx y z d b=> ?_⟩
 ·grind
 ·grind
 grind
def abZ {a b d:List Int} (h:o1 a b=J d):d.Perm b:=by
 unfold o1 at h;split at h
 ·grind
 ·split at h
  ·rename_i e;cases h
   letI:Inhabited (pW a.length):=⟨⟨0,by omega⟩⟩
   have:=(acL (λ(x y:pW a.length)=>a.getD x.1.toNat 0 - a.getD y.1.toNat 0) (W1 _) (b.pmap Subtype.mk e.1)).map Subtype.val;simp_all [List.map_pmap]
  grind
def aqp {b d a:List Int} (h:o1 b d=J a):o1 b (d.map λx=>x)=J (a.map λx=>x):=by simp_all
section
variable {P:bI} {ap:Ren} {f g bM o:Nat} {eZ xs b4:List Int} {w:World} {lg cu kj dz cap blk:Nat}
def Wr {a:Type} [Inhabited a] {b:a->af} {e n:Nat} {d:Array a} {f:Array Obj} {c i:Nat} {v:af} (h:w.cell? ⟨c,i,ae⟩=J v) (g:c≠blk):(sortWorld b w blk e n d f).cell? ⟨c,i,ae⟩=J v:=by
 grind [rG,sortWorld,grow,putRow,mapBlock,TL]
def asu [Inhabited (pW eZ.length)] (L:SlLaysF.n6 P ap) (sW:∀args w,(callFunc g args).run P w= .ok (.enter g args) w)
  (kK:∀(x y bL b:Int) (lg cu kj dz n cap:Nat) (W:World),W.cell? ⟨lg,cu,ae⟩=J (.slice (J ⟨kj,dz,ae⟩) n cap)->0<=x->x<n->0<=y->y<n->W.cell? ⟨kj,dz+x.toNat*bM+o,ae⟩=J (.int .i64 bL)->W.cell? ⟨kj,dz+y.toNat*bM+o,ae⟩=J (.int .i64 b)->
   Calls P g #[.int .i64 x, .int .i64 y, .pointer (J ⟨lg,cu,ae⟩)] W λe w'=>e= .returned (.int .i64 (Aw.wrap (bL - b)))/\∃q pz,w'=grow (W.drewN q) pz)
  (c2:∀b∈eZ,0<=b/\b<4294967296) (h1:w.cell? ⟨lg,cu,ae⟩=J (.slice (J ⟨kj,dz,ae⟩) eZ.length cap)) (ai:∀(i:Nat) (b:Int),eZ[i]? =J b->w.cell? ⟨kj,dz+i*bM+o,ae⟩=J (.int .i64 b)) (tp:lg≠blk) (mX:kj≠blk) {zs:List (pW eZ.length)} (VD:0<zs.length) (cF:zs.length<4611686018427387904):
  zE P (ap.f 6) [.func (.func g) #[] #[.pointer (J ⟨lg,cu,ae⟩)]] zs.length (zs.map λx=>mu .i64 x.1) ((ou (λ(x y:pW eZ.length)=>eZ.getD x.1.toNat 0 - eZ.getD y.1.toNat 0) zs).map λx=>mu .i64 x.1) w blk:=by
 have hO:SWO (ltOf λ(x y:pW eZ.length)=>eZ.getD x.1.toNat 0 - eZ.getD y.1.toNat 0):=W1 _;have JQ:=BU _ hO zs;refine Wh (by grind) (by grind) λoff ams hblk hH=> ?_;refine (Any.slices_SortFunc_eq L (λx:pW eZ.length=>mu .i64 x.1) (λx=>rfl) _ hO g #[.pointer (J ⟨lg,cu,ae⟩)] blk off ams zs.toArray w sW (λn os Z8 _ x y=> ?_) (acx hH) hblk (by grind)).mono ?_
 ·have aap:eZ[x.1.toNat]? =J (eZ.getD x.1.toNat 0):=by have:=x.2;simp_all
  have aaq:eZ[y.1.toNat]? =J (eZ.getD y.1.toNat 0):=by have:=y.2;simp_all
  have bL:=c2 _ (mM aap);have b:=c2 _ (mM aaq);have:=kK x.1 y.1 _ _ lg cu kj dz eZ.length cap (sortWorld (λx:pW eZ.length=>mu .i64 x.1) w blk off n Z8 os) (Wr h1 tp) x.2.1 x.2.2 y.2.1 y.2.2 (Wr (ai _ _ aap) mX) (Wr (ai _ _ aaq) mX);rw[aG.wrap_i64,show (eZ.getD x.1.toNat 0 - eZ.getD y.1.toNat 0+9223372036854775808)%18446744073709551616 - 9223372036854775808=eZ.getD x.1.toNat 0 - eZ.getD y.1.toNat 0 by omega] at this;exact this
 ·rintro e w' ⟨rfl,n,os,rfl⟩;refine ⟨rfl,n,os, ?_⟩;show grow (putRow _ _ blk off _) os=_;rw[<-acj];rfl
def asv (L:SlLaysF.n6 P ap) (k:ap.f 6=f) (s:∀a w,(callFunc g a).run P w= .ok (.enter g a) w)
  (m:∀(x y bL b:Int) (lg cu kj dz n cap:Nat) (W:World),W.cell? ⟨lg,cu,ae⟩=J (.slice (J ⟨kj,dz,ae⟩) n cap)->0<=x->x<n->0<=y->y<n->W.cell? ⟨kj,dz+x.toNat*bM+o,ae⟩=J (.int .i64 bL)->W.cell? ⟨kj,dz+y.toNat*bM+o,ae⟩=J (.int .i64 b)->
   Calls P g #[.int .i64 x, .int .i64 y, .pointer (J ⟨lg,cu,ae⟩)] W λe z=>e= .returned (.int .i64 (Aw.wrap (bL - b)))/\∃q r,z=grow (W.drewN q) r)
  (h:o1 eZ xs=J b4) (l:w.cell? ⟨lg,cu,ae⟩=J (.slice (J ⟨kj,dz,ae⟩) eZ.length cap)) (j:∀(i:Nat) (b:Int),eZ[i]? =J b->w.cell? ⟨kj,dz+i*bM+o,ae⟩=J (.int .i64 b)) (t:lg≠blk) (p:kj≠blk) (A:0<xs.length):
  zE P f [.func (.func g) #[] #[.pointer (J ⟨lg,cu,ae⟩)]] xs.length (xs.map (mu .i64)) (b4.map (mu .i64)) w blk:=by
 subst k;unfold o1 at h;rw[if_neg (by intro e;simp_all)] at h;split at h
 ·rename_i d;cases h
  letI:Inhabited (pW eZ.length):=⟨⟨0,by omega⟩⟩
  have:=asu (zs:=xs.pmap Subtype.mk d.1) L s m d.2.1 l j t p (by grind) (by grind);simp_all [List.map_pmap]
 grind
end
section
variable {P:bI} {D:Nat->Type} {G:l6 D} {e ti:Nat}
def au1 (K:D e->Int) (aD:∀z x B,(G.T e).rd z x B->B=[.int .i64 (K x)]) (aV:∀z x,(G.T e).rd z x [.int .i64 (K x)]) (r:D ti->Int) (o:Nat) (hk:∀z x B,(G.T ti).rd z x B->B[o]? =J (.int .i64 (r x)))
  (qp:List Int->List (D e)->Option (List (D e))) (bf:∀{eZ C U},qp eZ C=J U->o1 eZ (C.map K)=J (U.map K)) {ap:Ren} (L:SlLaysF.n6 P ap) (f g:Nat) (bF:ap.f 6=f) (ok:lR P f=aa) (sW:∀t w,(callFunc g t).run P w= .ok (.enter g t) w)
  (kK:∀(x y bL b:Int) (lg cu X V n d:Nat) (W:World),W.cell? ⟨lg,cu,ae⟩=J (.slice (J ⟨X,V,ae⟩) n d)->0<=x->x<n->0<=y->y<n->W.cell? ⟨X,V+x.toNat*(G.T ti).bM+o,ae⟩=J (.int .i64 bL)->W.cell? ⟨X,V+y.toNat*(G.T ti).bM+o,ae⟩=J (.int .i64 b)->
   Calls P g #[.int .i64 x, .int .i64 y, .pointer (J ⟨lg,cu,ae⟩)] W λe w'=>e= .returned (.int .i64 (Aw.wrap (bL - b)))/\∃q pz,w'=grow (W.drewN q) pz):ns P G where
 f:=f
 e:=e
 u5:=ak
 acc:=λH=>match H with|[.fn A5 [(_,[.bh N _,_])]]=>fi A5 g&&fi N ti|_=>ak
 qp:=λH C=>match H with|[.fn _ [(_,[.bh N I,_])]]=>if h:N=ti then qp ((h▸I:List (D ti)).map r) C else ae|_=>ae
 run:=λz eV m k vs lW H C U v R h bx dE cG=>by
  split at R
  ·rename_i A5 t0 N I c;simp only[fx] at R;have h1:=kA R.1;have ai:=kA R.2;subst h1 ai;simp only[dif_pos] at h;have F:=bf h;have O:U.length=C.length:=by have:=(abZ F).length_eq;simpa using this
   match lW,dE with
   |[axv],⟨s4,_⟩=>
   refine WA (λx=>[.int .i64 (K x)]) aD aV (λx=>rfl) ok O (λp d H w h=> ?_) (λbR b aw1 N VH jj j w kG q dV cY eL bn=> ?_) cG
   ·subst bF
    match H,h with
    |[v],_=>exact AnyF.slices_SortFunc_none (P:=P) (ρ:=ap) {L with} p d v w
   ·match kG,eL with
    |[jf],⟨anx,_⟩=>
    obtain ⟨gs,rfl,wk⟩:=s4
    match gs,wk with
    |[axx],⟨s5,_⟩=>
    obtain ⟨js,iw,B,rfl,Y,oP⟩:=s5;obtain ⟨M,Z,rfl,Vw,Vx⟩:=anx;have bX:M=#[]:=by
     obtain ⟨l⟩:=M;cases l with
     |nil=>rfl
     |cons _ _=>exact Vw.elim
    subst bX;obtain ⟨Z⟩:=Z
    match Z,Vx with
    |[Z2],⟨anA,_⟩=>
    obtain ⟨ia,_,p6,rfl⟩:=anA
    match B,oP with
    |[d0,d1],⟨anF,_,_⟩=>
    have hh:0<(I.map r).length:=by
     unfold o1 at F;rw[if_neg (by
      intro e;have:(C.map K).length=0:=by rw[e];rfl
      simp at this;rw[this] at bR;simp at bR)] at F
     split at F
     ·rename_i A;exact A.2.2.2
     ·cases F
    have u3:m.load js (iw+0)=J d0:=KO bx (Y 0 d0 rfl);obtain ⟨bz,c1,c2⟩:=cY.load js ia _ d0 p6 u3;rcases anF with ⟨_,rfl⟩|⟨jR,S,c3,rfl,ao',_,mb⟩
    ·simp at hh
    have qc:z js≠ .dead:=(w5 (Y 0 _ rfl)).ne;obtain ⟨Q,_,Bb,fZ⟩:=c2;have s:∃d,bz= .slice (J ⟨Q.blk,Q.db+S,ae⟩) (I.map r).length d:=by
     have aR:I.length=(I.map r).length:=by simp
     rcases fZ with ⟨_,A⟩|⟨_,_,_,_,_,_,A⟩|⟨_,hV,_⟩|⟨_,hV,_⟩|⟨_,_,_,_,_,_,_,_,_,A⟩
     ·exact ⟨_,by rw[A,aR]⟩
     ·exact ⟨_,by rw[A,aR]⟩
     ·omega
     ·omega
     ·exact ⟨_,by rw[A,aR]⟩
    obtain ⟨d,rfl⟩:=s;have aox:(m.blk b).iO=aa:=by rw[jj];rfl
    have kM:∀{x:Nat},(z x).iD->(m.blk x).live=aa:=λ{x} s=>by have:=(bx x s.ne).1;rw[s.mem] at this;rw[this];cases BA:z x<;>first|rfl|(rw[BA] at s;exact s.elim)
    have ne:∀{x:Nat} {E:kl},j x=J E->(z x).iD->E.blk≠q.blk:=λ{x E} bp s he=>by have:=cY.inj b x q E bn bp aox (kM s) he.symm;subst this;exact s.ne VH
    have Bu:=asv (w:=w) (lg:=ia.blk) (cu:=ia.db+(iw+0)) (kj:=Q.blk) (dz:=Q.db+S) (blk:=q.blk) L bF sW kK F c1 (λi nZ az=> ?_) (ne p6 (w5 (Y 0 _ rfl))) (ne Bb ao') (by simpa using bR)
    ·rw[KC,KC];rw[ug] at Bu;exact Bu
    ·rw[sH] at az;obtain ⟨a,bl,rfl⟩:=vT.1 az;obtain ⟨cs,cL,c9⟩:=mb i a bl;obtain ⟨bz,fo,k4⟩:=cY.load jR Q _ _ Bb (KO bx (c9 o _ (hk z a cs cL)));rw[B0 rfl k4] at fo;rw[<-fo];congr 2;omega
  ·cases R
end
end
end
end Go.aF