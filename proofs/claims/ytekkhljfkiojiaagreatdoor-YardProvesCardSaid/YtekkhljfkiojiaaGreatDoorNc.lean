import Derived.Recover
import Derived.Shelf.SlSortCmp.NoneTotal
import Derived.Shelf.SlicesG.Cmp
import Derived.Shelf.Sort.Plain
import Derived.Shelf.Slices.In.SortNone
import Derived.Shelf.SlSortCmp.Whole1
import Derived.Test.YtekkhljfkiojiaaGreatDoorNb
set_option linter.defProp false
set_option linter.unusedSimpArgs false
set_option linter.unusedVariables false
set_option linter.unusedSectionVars false
open Array renaming replicate->nj
open Bool renaming and_eq_true->fx,and_eq_true_iff->tY,and_self->vK,noConfusion->Yy,not_eq_true'->Aq,or_eq_true->Ar,false->ak,true->aa
open Classical renaming choose->YA
open Go renaming IntKind->aG,Operand->bS,Program->bI,TypeId->bV,Value->af
open Go.Act renaming put->qB
open Go.IntKind renaming i64->Aw
open Go.Lib renaming bitLen->Ty
open Go.Region renaming wanted->qK
open Go.Sort renaming ahead->TL
open Go.Value renaming int->mu
open Go.World renaming cell?->rG
open List renaming all_cons->ml,all_eq_true->iA,eq_nil_of_length_eq_zero->yl,ext_getElem?->rv,flatMap_cons->II,getD_eq_getElem?_getD->YV,getElem?_append->AB,getElem?_append_left->kS,getElem?_append_right->kT,getElem?_cons_succ->qH,getElem?_eq_getElem->mm,getElem?_eq_none->Tz,getElem?_eq_some_iff->fq,getElem?_map->sH,getElem?_set->ll,length_append->sI,length_cons->ry,length_map->ug,map_congr_left->YW,map_cons->rA,mem_append->kU,mem_cons->ha,mem_cons_of_mem->kn,mem_cons_self->oG,mem_map->l2,mem_of_getElem?->mM,range->mN
open Nat renaming add_mul->ko,add_zero->pS,beq->fi,ble->iJ,blt->mn,eq_of_beq_eq_true->kA,le_of_ble_eq_true->pk,le_refl->e4,le_succ->mo,le_trans->jd,lt_of_lt_of_le->hS,zero_add->lH
open Option renaming bind->ab,getD_some->IV,map_eq_some_iff->vT,map_some->vU,some->kB,none->ae,some->J
section
namespace Go.aF
section
variable {P:bI} {D:Nat->Type} {X:e3 P D} {ap:Type} {z z':Nat->bW} {e m m':Mem} {k:Option Nat} {vs:List af} {fr:Nat->af} {E:List (Nat×bc D)} {O:List (ba D)} {o:Oper} {r:ap}
variable {x y:bS} {t u:bV} {K:bc D->List (ba D)->Option ap}
def gG (m a:Mem) (q:Option Nat):Prop:=m.next<=a.next/\∀b,b<m.next->q≠J b->a.blk b=m.blk b
def oI (b:List af) (a:List Nat) (q:Option Nat):Prop:=q=ae\/∃i,i∈a/\∃v,b[i]? =J v/\q=dQ v
def cH.mono {c:bS->af} {K d:Tag->af->Mem->Prop} (h:cH P c o m K) (a:∀t v b,K t v b->d t v b):cH P c o m d:=by
 rcases h with ⟨v,h,g⟩|⟨v,I,h,g⟩|⟨v,h,g⟩|⟨Y,v,h,g⟩|⟨n,v,b,h,g⟩
 ·exact .inl ⟨v,h,a _ _ _ g⟩
 ·exact .inr (.inl ⟨v,I,h,a _ _ _ g⟩)
 ·exact .inr (.inr (.inl ⟨v,h,a _ _ _ g⟩))
 ·exact .inr (.inr (.inr (.inl ⟨Y,v,h,a _ _ _ g⟩)))
 ·exact .inr (.inr (.inr (.inr ⟨n,v,b,h,a _ _ _ g⟩)))
def iV (X:e3 P D):Prop:=∀(f:Nat) (b:List (bc D)) (O:List (ba D)) {g:Type} (K:bc D->List (ba D)->Option g) (r:g) {z:Nat->bW} {e m:Mem} {k:Option Nat} {c:List af} (a:List af),
 b9 X.G O z e m k c->bP (rel X.G z c) b a->X.C f b O K=J r->h2 P f a.toArray m λv d=>dH X O z e k c K r v d/\(X.F f b O=aa->d=m)/\(X.W f=ak->∃q,gG m d q/\oI c (q1 b) q)
def bP.caps {caps:List (Nat×List (cv D))} {a:List af} (h:bP (λc g=>lU X.G z vs c.2 0 g) caps a):bP (rel X.G z vs) (caps.map λp=>bc.hd p.1 p.2 0) a:=by
 induction caps generalizing a with
 |nil=>cases a with
  |nil=>trivial
  |cons _ _=>exact h.elim
 |cons c caps b=>cases a with
  |nil=>exact h.elim
  |cons g a=>exact ⟨h.1,b h.2⟩
def acf {aK:Type} {T:cM aK} {aW:aK->List af} (aD:∀z x ds,T.rd z x ds->ds=aW x) {L:List af}:∀{xs:List aK} {o:Nat},(∀(i:Nat) (x:aK),xs[i]? =J x->∃cs,T.rd z x cs/\ql L (o+i*T.bM) cs)->(∀x∈xs,(aW x).length=T.bM)->
  ∀(i:Nat) (v:af),(xs.flatMap aW)[i]? =J v->L[o+i]? =J v
 |[],o,_,_,i,v,h=>by grind
 |x::xs,o,h,aR,i,v,az=>by
  obtain ⟨cs,h1,ai⟩:=h 0 x rfl;have:=aD _ _ _ h1;subst this;have Vj:=aR x oG;rw[II,AB] at az;split at az
  ·have:=ai i v az
   grind
  ·rename_i hA;have:=acf aD (xs:=xs) (o:=o+T.bM) (L:=L) (λj y bn=>by
    obtain ⟨cs,g1,g2⟩:=h (j+1) y (by grind)
    grind) (λy aZ=>aR y (kn _ aZ)) _ v az
   grind
def adJ {c:Type} {b:c->List af} {n:Nat}:∀{a:List c},(∀x∈a,(b x).length=n)->∀(i j:Nat) (x:c) (v:af),a[i]? =J x->(b x)[j]? =J v->(a.flatMap b)[i*n+j]? =J v
 |[],_,i,j,x,v,h,_=>by grind
 |y::a,d,0,j,x,v,h,e=>by
  grind
 |y::a,d,i+1,j,x,v,h,e=>by have g:=d y oG;rw[II,ko,Nat.one_mul,kT (by omega),show i*n+n+j - (b y).length=i*n+j by omega];exact adJ (λx f=>d x (kn _ f)) i j x v (by grind) e
def WI {b:Type} {c:b->List af} {n:Nat}:∀{a:List b},(∀x∈a,(c x).length=n)->(a.flatMap c).length=a.length*n
 |[],_=>by simp
 |x::a,h=>by rw[II,sI,h x oG,WI λy d=>h y (kn _ d),ry,ko];omega
def KK {f:Nat} {a:List (Nat×List (cv D))} {b:List (bc D)} {c:ns P X.G}:∀{l:List (ns P X.G)},xk X l f a b=J c->c.f=f/\a=[]/\c.acc b.tail=aa
 |[],h=>by cases h
 |s::l,h=>by
  unfold xk at h;by_cases d:(fi s.f f&&(a.isEmpty&&s.acc b.tail))=aa
  ·simp_all
  ·rw[if_neg d] at h;exact KK h
theorem acG {f:Nat} {F:List (bc D)} {n:ns P X.G} {d:List af} {H:List (Nat×List (cv D))} (bF:xk X X.S f H F=J n) (g:b9 X.G O z e m k vs) (dE:bP (rel X.G z vs) F d) (h:XD X n F O K=J r):
  h2 P f d.toArray m λv I=>dH X O z e k vs K r v I/\∃q,gG m I q/\oI vs (zC F) q:=by
 obtain ⟨rfl,_,yU⟩:=KK bF
 match F,d,dE with
 |[],_,_=>cases h
 |s::gV,ec::U,⟨M,ai⟩=>
  unfold XD at h;split at h
  ·rename_i i l bf;cases bf;split at h
   ·rename_i t xs w Q;split at h
    ·rename_i he;subst he;obtain ⟨y,aZ,h⟩:=bind_some h;have L:dU (X.G.T n.e) z e m k xs ec:=g.obj i _ ec Q M.1;have kI:∀{y:List (D n.e)} {I:Mem} {u:af},dU (X.G.T n.e) z e I k y u->dQ u=da u:=λhu=>hi (by obtain ⟨a,c,cp⟩:=hu.bT.len;grind);obtain ⟨Z,I,ay,n4,W,UW,wA⟩:=n.run z e m k vs U gV xs y ec yU aZ g.aS.bZ ai L;refine ay.mono ?_;rintro u N ⟨rfl,rfl⟩;have k2:∃q,gl m N q/\dL z e N k/\(q=ae\/da ec=q):=by
      rcases n4 with rfl|⟨b,Y,x,rfl⟩
      ·exact ⟨ae,⟨e4 _,g.aS.dead,λ_ _ _=>rfl⟩,g.aS, .inl rfl⟩
      ·have o:=L.bm b x;exact ⟨J b,zm g.aS.dead (L.lt b x),g.aS.put _ o.1 (L.lt b x) o.2, .inr x⟩
     obtain ⟨q,B,fb,o⟩:=k2;have V:∃q,gG m N q/\oI vs (zC (.c (.own i)::gV)) q:=⟨q,⟨B.next,B.blk⟩,by
      rcases o with o|o
      ·exact .inl o
      ·cases q with
       |none=>exact .inl rfl
       |some b=>exact .inr ⟨i,by simp[zC],_,M.1,by grind⟩⟩
     refine ⟨?_,V⟩;have C:gl m N (dQ ec):=by
      rcases o with rfl|o
      ·exact ⟨B.next,B.dead,λb x _=>B.blk b x (λe=>by grind)⟩
      grind
     by_cases E:n.u5=aa
     ·rw[if_pos E] at h⊢;have axO:dQ Z=dQ ec:=by grind
      have fP:=λj qj w hq A R hw=>g.fD j i qj _ w _ hq A Q R rfl hw M.1;exact ⟨z,vs++[Z], .c (.own O.length),O.set i .dead++[.bh n.e y ak ak],(Inv.set O i (.inl rfl)).trans (Inv.push _ _),dT.refl z,j0,
       (g.kill i).push (q:=dQ ec) (o':= .bh n.e y ak ak) C fb (λj p w A hw R=>by
        rw[ll] at A;split at A
        ·split at A
         ·cases A;cases R
         grind
        grind) W (λp bb US=>by grind),oi g (by obtain ⟨a,c,cp⟩:=W.bT.len;exact ⟨a,c,cp⟩),h⟩
     ·rw[if_neg E] at h⊢;have:=wA (by grind);subst this;exact ⟨z,vs, .sq [],_,Inv.set O i (.inr rfl),dT.refl z,λ_ _ h=>h,g.pF (o':= .bh n.e y ak aa) Q M.1 rfl C fb W,⟨[],rfl,trivial⟩,h⟩
    grind
   grind
  grind
 |_::_,[],h=>exact h.elim
def ac':∀{c:List Nat} {a:List af},bP (sQ vs) c a->bP (rel X.G z vs) (c.map λi=>bc.box i 0) a
 |[],[],_=>trivial
 |[],_::_,h=>h.elim
 |_::_,[],h=>h.elim
 |_::_,_::_,⟨⟨e,b,h⟩,d⟩=>⟨⟨b,by grind,h⟩,ac' d⟩
def arf (S:iV X) {c:Call} (l:o.op= .call c) (n:b9 X.G O z e m k vs) (g:∀x,rel X.G z vs (dp E x) (bk fr x)) (h:sa X c E O K=J r):cH P (bk fr) o m λ_ v m'=>dH X O z e k vs K r v m':=by
 obtain ⟨Y,i,F⟩:=c;cases Y with
 |invoke r m=>cases h
 |value f=>
  simp only[sa] at h;split at h
  ·rename_i N d I;have w:=g f;rw[I] at w;obtain ⟨q,D,B⟩:=w;split at h
   ·rename_i ke T;have U:d=[]:=(KK T).2.1;subst U;have wk:q=[]:=by cases q with
     |nil=>rfl
     |cons _ _=>exact B.elim
    subst wk;refine cH.call (B2 (args:=(i.toList.map (bk fr)).toArray) (caps:=#[]) l D (by grind) rfl) ?_;have:=(acG T n (w3 g) h).mono λ_ _ h=>h.1
    grind
   refine cH.call (B2 (args:=(i.toList.map (bk fr)).toArray) (caps:=q.toArray) l D (by grind) rfl) ?_;have:=(S N _ O K r (i.toList.map (bk fr)++q) n ((w3 g).append B.caps) h).mono λ_ _ h=>h.1
   grind
  ·rename_i N is I;have w:=g f;rw[I] at w;obtain ⟨q,D,B⟩:=w;refine cH.call (B2 (args:=(i.toList.map (bk fr)).toArray) (caps:=q.toArray) l D (by grind) rfl) ?_;have:=(S N _ O K r (i.toList.map (bk fr)++q) n ((w3 g).append (ac' B)) h).mono λ_ _ h=>h.1
   grind
  grind
 |builtin b=>
  cases b with
  |len=>
   simp only[sa] at h;split at h
   ·rename_i x t A R;have j:i=#[x]:=by grind
    have C:F=#[t]:=by grind
    subst j C;exact arN (ts:=#[t]) l n (g x) h
   grind
  |append=>
   simp only[sa] at h;split at h
   ·rename_i x y t u A R;have j:i=#[x,y]:=by grind
    have C:F=#[t,u]:=by grind
    grind [aqz,are,ard,arG]
   grind
  |cap=>
   simp only[sa] at h;split at h
   ·rename_i x t A R;have j:i=#[x]:=by grind
    have C:F=#[t]:=by grind
    subst j C;split at h
    ·rename_i Z p hu;have Q:=g x;rw[p] at Q;exact cH.pure (.Jj x t Z l hu Q) (dH.here (dR:= .c (.int .i64 0)) n rfl h)
    grind
   grind
  |max=>
   simp only[sa] at h;split at h
   ·rename_i x y A;have j:i=#[x,y]:=by grind
    subst j;have p:=g x;have s:=g y;split at h
    ·rename_i W a V b L H;rw[L] at p;rw[H] at s;split at h
     ·rename_i M;subst M;exact j1 n h (auP l p s) rfl
     grind
    grind
   grind
  |min=>
   simp only[sa] at h;split at h
   ·rename_i x y A;have j:i=#[x,y]:=by grind
    subst j;have p:=g x;have s:=g y;split at h
    ·rename_i W a V b L H;rw[L] at p;rw[H] at s;split at h
     ·rename_i M;subst M;exact j1 n h (auQ l p s) rfl
     grind
    grind
   grind
  |_=>cases h
def arz {s:bc D} {v:af} {p:YR D} (d:b9 X.G O z e m k vs) (h:XY O s=J p) (a:rel X.G z vs s v):nn (X.G.M p.u p.bG p.bA) z p.es v\/jD (X.G.M p.u p.bG p.bA) z e m k p.es v:=by
 unfold XY at h;split at h
 ·cases h;exact .inl a
 ·split at h
  ·rename_i u g f j bZ i c;cases h;have b:=d.obj _ _ v c a.1;cases bZ with
   |true=>exact .inl b
   |false=>exact .inr b
  grind
 grind
def arp {r:ap} {v:af} {f:Mem} (h:dH X O z e k vs (V3 K) r v f):dH X O z e k vs K r v f:=by
 obtain ⟨o,s,u,n,p,i,g,c,d,a⟩:=h;refine ⟨o,s, ?_⟩;unfold V3 at a;split at a
 ·rename_i j;split at a
  ·rename_i x t bZ w q;have m:=c.obj _ _ _ q d.1;have l:∃b,v= .pointer (J ⟨b,0,ae⟩):=by cases bZ<;>exact ⟨_,m.choose_spec.choose_spec.1⟩
   obtain ⟨b,rfl⟩:=l;exact ⟨.box j 0,n,p,i,g,c,⟨b,d.1,rfl⟩,a⟩
  grind
 grind
def Ln (cW:iV X) {T:Op} (B:o.op=T) (q:b9 X.G O z e m k vs) (A:∀x,rel X.G z vs (dp E x) (bk fr x)) (h:iR X T E O K=J r):cH P (bk fr) o m λ_ v m'=>dH X O z e k vs K r v m':=by
 cases T with
 |move x=>exact j1 q h (auR B rfl) (A x)
 |assign x=>exact j1 q h (asF B rfl) (A x)
 |nilCheck x=>
  have C:=A x;simp only[iR] at h;split at h
  ·rename_i i off F;have M:=C;rw[F] at M;obtain ⟨b,_,I⟩:=M;exact j1 q h (by rw[I];exact .nilCheck x _ B I) C
  ·rename_i i F;have M:=C;rw[F] at M;obtain ⟨b,l,_,I⟩:=M;exact j1 q h (by rw[I];exact .nilCheck x _ B I) C
  ·rename_i i bX dx off F;have M:=C;rw[F] at M;obtain ⟨b,f0,l,c,_,I⟩:=M;exact j1 q h (by rw[I];exact .nilCheck x _ B I) C
  ·rename_i t cs off F;have M:=C;rw[F] at M;obtain ⟨b,iw,ds,I,_⟩:=M;exact j1 q h (by rw[I];exact .nilCheck x _ B I) C
  grind
 |extract x i=>
  have C:=A x;simp only[iR] at h;split at h
  ·rename_i l F;rw[F] at C;obtain ⟨ds,I,S⟩:=C;split at h
   ·rename_i c D;obtain ⟨w,Q,R⟩:=S.get i _ D;exact j1 q h (adm B I Q) R
   ·rename_i p D;obtain ⟨w,Q,R⟩:=S.get i _ D;exact j1 q h (adm B I Q) R
   grind
  grind
 |pick c a b=>
  have D:=A c;simp only[iR] at h;split at h
  ·rename_i F;rw[F] at D;exact j1 q h (aeH (t:=aa) B D (if_pos rfl)) (A a)
  ·rename_i F;rw[F] at D;exact j1 q h (aeH (t:=ak) B D (if_neg (by simp))) (A b)
  grind
 |binOp T t x y u=>
  simp only[iR] at h;have C:=A x;have L:=A y;split at h
  ·rename_i t1 c1 t2 c2 N W;rw[N] at C;rw[W] at L;obtain ⟨c,v,k1,Z,R⟩:=ats B C L h;exact j1 q k1 Z R
  ·obtain ⟨c,v,k1,Z,R⟩:=asr B q C L h;exact j1 q k1 Z R
 |unOp T t x=>
  have C:=A x;cases T with
  |not=>
   simp only[iR] at h;split at h
   ·rename_i b F;rw[F] at C;exact j1 q h (apX B C) rfl
   grind
  |neg=>
   simp only[iR] at h;split at h
   ·rename_i kk a F;rw[F] at C;exact j1 q h (apV B C) rfl
   grind
  |_=>grind [iR]
 |convert s t x=>exact arh B q (A x) h
 |indexAddr t x y=>
  cases x with
  |global g=>exact arL B q (A y) h
  |_=>exact arM B q (A _) (A y) h
 |field t x n=>exact aqC B q (A x) h
 |fieldAddr t x n=>exact arJ B q (A x) h
 |load t x=>
  simp only[iR] at h;split at h
  ·unfold aea at h;refine (acF B q (A x) h).mono λ_ v m' bB=> ?_;obtain ⟨dv,jK,dR,cu,bR,N,W,U,br,cK⟩:=bB;dsimp only at cK;split at cK
   ·rename_i j;split at cK
    ·rename_i c dz Y;obtain ⟨z2,ec,a2,a3,a4⟩:=adL U Y br.1;exact ⟨z2,jK, .c c,dz,bR.trans ec,N.trans a2,W,a3,a4,cK⟩
    grind
   grind
  ·split at h
   ·grind [aqD]
   ·exact (acF B q (A x) h).mono λ_ _ _ h=>arp h
 |store t x y=>exact aqG B q (A x) (A y) h
 |alloc t=>exact aqy B q h
 |box t x=>
  simp only[iR] at h;split at h
  ·rename_i i cs az D;split at h
   ·rename_i S;exact (arH B q (A x) az D S h).mono λ_ _ _ h=>aro h
   grind
  grind
 |makeSlice t x y=>
  have C:=A x;simp only[iR] at h;split at h
  ·rename_i ht kk n H F;rw[F] at C;split at h
   ·exact aqF B H q C h
   ·split at h
    ·rename_i ti iE y2;exact arm B H q C y2 h
    grind
  grind
 |buildSlice t l cQ=>
  simp only[iR] at h;split at h
  ·grind [arP]
  ·split at h
   ·rename_i ht H;split at h
    ·rename_i ti iE;exact aqB B H q A h
    grind
   grind
 |build t cQ=>
  simp only[iR] at h;split at h
  ·rename_i bY ti H iE;split at h
   ·rename_i Z;split at h
    ·rename_i cs D;exact aqf B H q A Z D h
    grind
   grind
  ·rename_i n Jq ti H iE;split at h
   ·rename_i kk hk;split at h
    ·rename_i cs D;exact aqA B H hk q A D h
    grind
   grind
  grind
 |slice t x cf az h8=>
  cases h8 with
  |none=>exact ari B q A (A x) h
  |some h8=>
   cases cf with
   |some _=>grind [iR]
   |none=>
    cases az with
    |none=>grind [iR]
    |some y=>exact arj B q A h
 |index t x y=>
  have C:=A x;have L:=A y;simp only[iR] at h;split at h
  ·rename_i s kk n H N W;rw[N] at C;rw[W] at L;obtain ⟨c,D,h⟩:=bind_some h;exact as6 B H C L D (dH.here (dR:= .c (.int .u8 (UInt8.toNat c:Int))) q rfl h)
  grind [ark]
 |makeFunc fn first cap=>
  cases fn with
  |func f=>
   simp only[iR] at h;split at h
   ·split at h
    ·rename_i is Y D;exact arK B Y q A D h
    grind
   ·split at h
    ·rename_i caps cu Y D;exact asC B Y q A D h
    grind
  |_=>grind [iR]
 |makeMap t rs=>
  cases rs with
  |none=>
   simp only[iR] at h;split at h
   ·rename_i bG bA H;exact arO B H q h
   grind
  |some _=>grind [iR]
 |lookup t x y ok=>
  have C:=A x;have L:=A y;simp only[iR] at h;split at h
  ·rename_i u bG bA es S;have hm:=arz q S C;split at h
   ·rename_i cL v1 c9 v2 H hu;split at h
    ·rename_i eB;obtain ⟨rfl,rfl,rfl,rfl⟩:=eB;split at h
     ·rename_i eP V;split at h
      ·rename_i a bl;exact arl B H hu q hm L bl h
      grind
     grind
    grind
   grind
  grind
 |mapUpdate t x y w=>
  have C:=A x;have L:=A y;have Q:=A w;simp only[iR] at h;split at h
  ·rename_i i d N U;rw[N] at C;rw[U] at Q;split at h
   ·rename_i u bG bA es dX hO;split at h
    ·rename_i cL v1 c9 v2 H hu;split at h
     ·rename_i eB;obtain ⟨rfl,rfl,rfl,rfl⟩:=eB;split at h
      ·rename_i eP V;split at h
       ·rename_i a b bl aw;exact adk (.inl B) H hu q hO C.1 L Q bl aw h
       grind
      grind
     grind
    grind
   grind
  grind
 |insert t x y w=>
  have C:=A x;have L:=A y;have Q:=A w;simp only[iR] at h;split at h
  ·rename_i i d N U;rw[N] at C;rw[U] at Q;split at h
   ·rename_i u bG bA es dX hO;split at h
    ·rename_i cL v1 c9 v2 H hu;split at h
     ·rename_i eB;obtain ⟨rfl,rfl,rfl,rfl⟩:=eB;split at h
      ·rename_i eP V;split at h
       ·rename_i a b bl aw;exact adk (.inr B) H hu q hO C.1 L Q bl aw h
       grind
      grind
     grind
    grind
   grind
  grind
 |call c=>exact arf cW B q A h
 |_=>grind [iR]
end
end Go.aF
end
section
namespace Go.aF
section
variable {P:bI} {D:Nat->Type} {X:e3 P D} {ap:Type} {z z':Nat->bW} {e m m':Mem} {k:Option Nat} {vs vs':List af} {fr:Nat->af} {E:List (Nat×bc D)} {O cr:List (ba D)} {o:Oper} {r:ap}
theorem gG.refl (m:Mem):gG m m ae:=⟨e4 _,λ_ _ _=>rfl⟩
def gG.push (m:Mem) (Y:bW):gG m (m.push Y) ae:=⟨mo _,λb a _=>if_neg (by omega)⟩
def gG.put (m:Mem) (c:Nat) (Y:bW):gG m (m.put c Y) (J c):=⟨e4 _,λb d a=>if_neg (λh=>a (by rw[h]))⟩
def gG.any (h:gG m m' ae) (q:Option Nat):gG m m' q:=⟨h.1,λb a _=>h.2 b a (by simp)⟩
def cH.Ke {a:bS->af} {K c:Tag->af->Mem->Prop} (h:cH P a o m K)
  (d:∀v,dD P a o v->(∃t,K t v m)->c .pure v m) (f:∀v,fH P a o m v->K (.read λm=>fH P a o m v) v m->c (.read λm=>fH P a o m v) v m)
  (e:∀Y v,jC P a o m.next Y v->K .new v (m.push Y)->c .new v (m.push Y)) (i:∀n v b,hR P (jn P n) a o m v b->K .fX v b->c .fX v b):cH P a o m c:=by
 rcases h with ⟨v,h,g⟩|⟨v,I,h,g⟩|⟨v,h,g⟩|⟨Y,v,h,g⟩|⟨n,v,b,h,g⟩
 ·exact .inl ⟨v,h,d v h ⟨_,g⟩⟩
 ·exact .inl ⟨v,h,d v h ⟨_,g⟩⟩
 ·exact .inr (.inr (.inl ⟨v,h,f v h g⟩))
 ·exact .inr (.inr (.inr (.inl ⟨Y,v,h,e Y v h g⟩)))
 ·exact .inr (.inr (.inr (.inr ⟨n,v,b,h,i n v b h g⟩)))
def ash {C:FuncId->Array af->Mem->af->Mem->Prop} {v:af} (I:∀x,rel X.G z vs (dp E x) (bk fr x)) (h:hR P C (bk fr) o m v m') {O:List Nat} (r:sj X E o.op=J O)
  (S:∀x Q R,o.op≠ .call {callee:= .value x,args:=Q,argTypes:=R}):∃q,gG m m' q/\oI vs O q:=by
 cases h with
 |store t x y b A i L e h s az hm S g aR=>
  simp only[sj,h] at r;have d:=I x;split at r
  ·rename_i j p g;cases r;rw[g] at d;obtain ⟨V,D,B⟩:=d;rw[s] at B;cases B;exact ⟨_,gG.put m b _, .inr ⟨j,by simp,_,D,rfl⟩⟩
  ·rename_i j u dx p g;cases r;rw[g] at d;obtain ⟨V,f0,l,c,D,B⟩:=d;rw[s] at B;cases B;exact ⟨_,gG.put m b _, .inr ⟨j,by simp,_,D,rfl⟩⟩
  grind
 |call f H v m' h cW=>
  obtain ⟨x,Q,R,first,U,h,_⟩:=h
  grind
 |vZ x y t u e i a l c h _ _ _ _ _ _=>exact ⟨ae,gG.refl _, .inl rfl⟩
 |sP x y t u e i z a l c n ew new h _ _ _ _ _ _ _ _ _ _ _ _ _ _=>exact ⟨ae,gG.push _ _, .inl rfl⟩
 |yy x y t u e i b A l c k n L new h _ _ s _ _ W N _ Y _=>
  simp only[sj,h] at r;have d:=I x;split at r
  ·rename_i g;rw[g] at d;have d:bk fr x= .slice ae 0 0:=d
   grind
  ·rename_i j g;cases r;rw[g] at d;exact ⟨_,gG.put m b _, .inr ⟨j,by simp,_,d.1,by rw[s];rfl⟩⟩
  ·rename_i j _ _ _ g;cases r;rw[g] at d;obtain ⟨w,D,B⟩:=d;exact ⟨_,gG.put m b _, .inr ⟨j,by simp,_,D.1,by rw[<-B.blk,s];rfl⟩⟩
  ·rename_i g;cases r;rw[g] at d;obtain ⟨_,_,a,M⟩:=d
   grind
  grind
 |vY x y t u e i b A l c n L new h _ _ s _ W N _ Y _=>
  simp only[sj,h] at r;have d:=I x;split at r
  ·rename_i g;rw[g] at d;have d:bk fr x= .slice ae 0 0:=d
   grind
  ·rename_i j g;cases r;rw[g] at d;exact ⟨_,gG.put m b _, .inr ⟨j,by simp,_,d.1,by rw[s];rfl⟩⟩
  ·rename_i j _ _ _ g;cases r;rw[g] at d;obtain ⟨w,D,B⟩:=d;exact ⟨_,gG.put m b _, .inr ⟨j,by simp,_,D.1,by rw[<-B.blk,s];rfl⟩⟩
  ·rename_i g;cases r;rw[g] at d;obtain ⟨_,_,a,M⟩:=d;rw[s] at M;cases M;have bR:n=0:=by omega
   have Z:new=[]:=yl (by grind);subst Z;refine ⟨ae,⟨e4 _,λc _ _=> ?_⟩, .inl rfl⟩
   grind [Mem.put,eY]
  grind
 |append x y t u e i z b A l n L new h _ _ _ _ _ _ s _ _ _ _ _ _=>
  simp only[sj,h] at r;have d:=I x;have K:gG m ((m.put b .dead).push (.own ((L.drop A).take (l*i.size)++new) e)) (J b):=by have:=gG.put m b .dead;exact ⟨mo _,λc K T=>by rw[show ((m.put b .dead).push _).blk c=(m.put b .dead).blk c from if_neg (by show c≠m.next;omega)];exact this.2 c K T⟩
  split at r
  ·rename_i g;rw[g] at d;have d:bk fr x= .slice ae 0 0:=d
   grind
  ·rename_i j g;cases r;rw[g] at d;exact ⟨_,K, .inr ⟨j,by simp,_,d.1,by rw[s];rfl⟩⟩
  ·rename_i j _ _ _ g;cases r;rw[g] at d;obtain ⟨w,D,B⟩:=d;exact ⟨_,K, .inr ⟨j,by simp,_,D.1,by rw[<-B.blk,s];rfl⟩⟩
  ·rename_i g;cases r;rw[g] at d;obtain ⟨_,mS,a,M⟩:=d
   grind
  grind
 |clear x t e i z b A l c L h _ _ _ _ _ _ _ _ _=>grind [sj]
 |copy x y t u e i b A l c L cs h _ _ _ _ _ _ _=>grind [sj]
 |mapUpdate hZ x jW j3 u bG bA b L eo vc F mJ ho h _ _ s _ _ _ _ _ _ _ _ _ _ _ _ _ _ _=>
  have d:=I x;have r:(match dp E x with| .c (.own j)=>J [j]|_=>ae)=J O:=by rcases h with h|h<;>(rw[h] at r;exact r)
  split at r
  ·rename_i j g;cases r;rw[g] at d;exact ⟨_,gG.put m b _, .inr ⟨j,by simp,_,d.1,by rw[s];rfl⟩⟩
  grind
theorem ab3 {a:List (Nat×List (cv D))}:∀{l:List (bc D)},q1 (l++a.map λp=>bc.hd p.1 p.2 0)=q1 l
 |[]=>by
  induction a with
  |nil=>rfl
  |cons c a b=>exact b
 |s::l=>by cases s<;>simp only[List.cons_append,q1,ab3 (l:=l)]
def ate (L:iV X) {K:bc D->List (ba D)->Option ap} (H:b9 X.G O z e m k vs) (t:∀x,rel X.G z vs (dp E x) (bk fr x)) (qQ:lT o.op=aa) {w:List Nat} (a:sj X E o.op=J w) (h:iR X o.op E O K=J r):
  cH P (bk fr) o m λ_ v g=>dH X O z e k vs K r v g/\(tA X E O o.op=aa->g=m)/\∃q,gG m g q/\oI vs w q:=by
 have s:(∀x d l,o.op≠ .call {callee:= .value x,args:=d,argTypes:=l})->∀{p:Prop},tA X E O o.op=aa->p:=λi p C=>by
  unfold tA at C;split at C
  ·rename_i c ay;split at C
   ·rename_i f B;obtain ⟨ce,d,w⟩:=c
    grind
   grind
  grind
 have U:(∀x d l,o.op≠ .call {callee:= .value x,args:=d,argTypes:=l})->cH P (bk fr) o m λ_ v g=>dH X O z e k vs K r v g/\(tA X E O o.op=aa->g=m)/\∃q,gG m g q/\oI vs w q:=λi=>
  (Ln L rfl H t h).Ke (λv _ ⟨_,j⟩=>⟨j,λ_=>rfl,ae,gG.refl _, .inl rfl⟩) (λv _ j=>⟨j,λ_=>rfl,ae,gG.refl _, .inl rfl⟩) (λY v _ j=>⟨j,s i,ae,gG.push _ _, .inl rfl⟩) λn v g V j=>⟨j,s i,ash t V a i⟩
 by_cases i:∀x d l,o.op≠ .call {callee:= .value x,args:=d,argTypes:=l}
 ·grind
 ·simp only[Classical.not_forall,ne_eq,Classical.not_not] at i;obtain ⟨f,d,l,y⟩:=i;rw[y] at h a;simp only[sj] at a;have h:sa X {callee:= .value f,args:=d,argTypes:=l} E O K=J r:=h;simp only[sa] at h;split at h
  ·rename_i Q b B;rw[B] at a;simp only at a;have M:=t f;rw[B] at M;obtain ⟨u,S,I⟩:=M;split at h
   ·rename_i ke R;rw[R] at a;cases a;have T:b=[]:=(KK R).2.1;subst T;have Z:u=[]:=by cases u with
     |nil=>rfl
     |cons _ _=>exact I.elim
    subst Z;refine cH.call (B2 (args:=(d.toList.map (bk fr)).toArray) (caps:=#[]) y S (by grind) rfl) ?_
    grind [tA,acG,w3]
   rename_i A;rw[A] at a;simp only at a;split at a
   ·grind
   rename_i N;have N:X.W Q=ak:=by grind
   cases a;refine cH.call (B2 (args:=(d.toList.map (bk fr)).toArray) (caps:=u.toArray) y S (by grind) rfl) ?_;have:=(L Q _ O K r (d.toList.map (bk fr)++u) H ((w3 t).append I.caps) h).mono λv g F=>(⟨F.1,F.2.1,F.2.2 N⟩:_/\_/\_)
   grind [ab3,tA]
  ·grind
  grind
def WB {C:FuncId->Array af->Mem->af->Mem->Prop} (d:∀f a m v m',C f a m v m'->m.next<=m'.next) {b:bS->af} {v:af} (h:hR P C b o m v m'):m.next<=m'.next:=by
 cases h with
 |call f a v m' h c=>grind
 |sP=>exact mo _
 |append=>exact mo _
 |_=>exact e4 _
def aq' {C:FuncId->Array af->Mem->af->Mem->Prop} (c:∀f a m v m',C f a m v m'->m.next<=m'.next) {b:bS->af} {v:af} (h:ln P C b o m v m'):m.next<=m'.next:=by
 cases h with
 |new h=>exact mo _
 |fX h=>exact WB c h
 |_=>grind
def WW {C:FuncId->Array af->Mem->af->Mem->Prop} (c:∀f b m v a,C f b m v a->m.next<=a.next) {d:List Oper}:∀{l:List Oper} {g e:Nat->af} {m a:Mem},k6 P C d l g m e a->m.next<=a.next
 |[],_,_,_,_,⟨_,h⟩=>by grind
 |o::l,g,e,m,a,h=>by
  unfold k6 at h;split at h
  ·obtain ⟨v,k,j,i⟩:=h;exact jd (aq' c j) (WW c i)
  ·exact WW c h
def zp {C:FuncId->Array af->Mem->af->Mem->Prop} (a:∀f c m v b,C f c m v b->m.next<=b.next) {d:List Oper} {B:Array Nat}:∀{l:List Oper} {i:Nat} {A:Acc} {g e:Nat->af} {m b:Mem},hW P C d B i l A g m e b->m.next<=b.next
 |[],_,_,_,_,_,_,⟨_,h⟩=>by grind
 |o::l,i,A,g,e,m,b,h=>by
  unfold hW at h;split at h
  ·rcases h with ⟨v,_,h⟩|⟨v,_,_,h⟩|⟨Y,v,_,h⟩|⟨v,k,j,_,_,h⟩
   ·exact zp a h
   ·exact zp a h
   ·exact jd (mo _) (zp a h)
   ·exact jd (WB a j) (zp a h)
  ·exact zp a h
def aqZ {C:FuncId->Array af->Mem->af->Mem->Prop} (q:∀f i m v g,C f i m v g->m.next<=g.next):∀(n:Nat) {c:Code} {k j:Nat->af} {m g:Mem} {e:fG},lS P C n c k m e j g->m.next<=g.next:=by
 intro n;induction n with
 |zero=>intro c k j m g e h;exact h.elim
 |succ n u=>
  intro c k j m g e h;cases c with
  |skip=>obtain ⟨_,rfl,rfl⟩:=h;grind
  |label l=>obtain ⟨_,rfl,rfl⟩:=h;grind
  |exit r=>obtain ⟨_,rfl,rfl⟩:=h;grind
  |ret=>obtain ⟨_,rfl,rfl⟩:=h;grind
  |region r B d=>
   cases d with
   |false=>exact WW q h.2
   |true=>exact zp q h.2
  |seq a b=>
   rcases h with ⟨p,z,A,o,w⟩|h
   rotate_left
   ·exact h.2.next
   grind
  |cond c a b=>obtain ⟨t,_,o⟩:=h;grind
  |block r c=>obtain ⟨p,o,_⟩:=h;grind
  |scope c=>exact u h
  |loop c=>
   obtain ⟨p,z,A,o,w⟩:=h
   grind
  |rangeFunc f D x y=>exact h.elim
  |goto l=>exact h.elim
  |refuse s=>exact h.elim
def ab6:∀(n:Nat) (f:FuncId) (a:Array af) (m:Mem) (v:af) (b:Mem),jn P n f a m v b->m.next<=b.next
 |0,_,_,_,_,_,h=>h.elim
 |n+1,f,a,m,v,b,h=>by
  rcases h with ⟨_,h⟩|⟨fn,c,e,g,j,k,_,_,_,_,h,_,_,_,_,d⟩
  ·cases h<;>first|grind|grind|grind
  ·have i:=aqZ (ab6 n) n h;rcases d with rfl|⟨rfl,_⟩
   ·grind
   ·exact e4 _
def AM (m:Mem) (I:Mem->Prop) (ob:Option Nat):Prop:=∀a,(∀b,ob=J b->a.blk b=m.blk b)->I a
def ac5 {b a:Nat} {v:af} (h:m.load b a=J v) (c:m'.blk b=m.blk b):m'.load b a=J v:=by
 grind [Mem.load]
theorem KY {b:Nat} (c:m'.blk b=m.blk b):∀(n a:Nat),kd m' b a n=kd m b a n
 |0,_=>rfl
 |n+1,a=>by
  have:∀o,m'.load b o=m.load b o:=λo=>by grind [Mem.load]
  simp only[kd,this,KY c n]
def uv (z:Nat->bW) (a:List af) (ob:Option Nat):l4->Prop| .py=>False| .lost=>False| .bZ=>∀b,ob=J b->(z b).iD| .ob j=>∀b,ob=J b->∃u,a[j]? =J u/\dQ u=J b
def vW (z:Nat->bW) (a:List af) (b:Nat):l4->Prop| .py=>False| .lost=>False| .bZ=>(z b).iD| .ob j=>∃u,a[j]? =J u/\dQ u=J b
def vW.at {b:Nat} {s:l4} (h:vW z vs b s):uv z vs (J b) s:=by
 cases s with
 |py=>exact h
 |lost=>exact h
 |bZ=>intro c a;cases a;exact h
 |ob j=>intro c a;cases a;exact h
def aue {s:l4} {v:af} (aN:b9 X.G O z e m k vs) (bp:∀x,rel X.G z vs (dp E x) (bk fr x)) (bf:q9 E o.op=J s) (h:fH P (bk fr) o m v):
  ∃ob,AM m (λm=>fH P (bk fr) o m v) ob/\uv z vs ob s:=by
 have amR:∀{t:Nat} {c:cv D} {cs:List (cv D)} {off b VX:Nat},rel X.G z vs (.hd t (c::cs) off) (.pointer (J ⟨b,VX,ae⟩))->(z b).iD:=by
  rintro t c cs off b VX ⟨dJ,o',ds,h1,ai,aT⟩;cases h1;cases ds with
  |nil=>exact aT.elim
  |cons d ds=>exact w5 (ai 0 d rfl)
 have ptr:∀{x:bS} {b off:Nat},bk fr x= .pointer (J ⟨b,off,ae⟩)->(match dp E x with| .wb _ _=>J l4.bZ| .hd _ (_::_) _=>J l4.bZ| .box j _=>J (.ob j)| .el j _ _ _=>J (.ob j)|_=>ae)=J s->vW z vs b s:=by
  intro x b off an bf;have aV:=bp x;split at bf
  ·rename_i h1;rw[h1,an] at aV;obtain ⟨_,_,g2⟩:=aV
   grind
  ·rename_i h1;cases bf;rw[h1,an] at aV;exact amR aV
  ·rename_i h1;cases bf;rw[h1,an] at aV;obtain ⟨dJ,g1,g2⟩:=aV;cases g2;exact ⟨_,g1,rfl⟩
  ·rename_i h1;cases bf;rw[h1,an] at aV;obtain ⟨dJ,f0,l,c,g1,g2⟩:=aV;cases g2;exact ⟨_,g1,rfl⟩
  grind
 have bh:∀{t:Nat} {xs:List (D t)} {b off l c:Nat},fA (X.G.T t) z xs (.slice (J ⟨b,off,ae⟩) l c)->(z b).iD:=by
  rintro t xs b off l c (⟨h1,_⟩|⟨dJ,o',c3,h1,ai,_⟩)
  ·grind
  grind
 cases h with
 |load t x b off d v h an aJ bg aD=>simp only[q9,h] at bf;exact ⟨J b,λm' hm=> .load t x b off d v h an aJ bg (ac5 aD (hm b rfl)),(ptr an bf).at⟩
 |wc t x g n jx h an bB aJ bs=>
  have aV:=bp x;simp only[q9,h] at bf;have wj:s= .bZ:=by
   split at bf
   ·grind
   ·grind
   ·rename_i g1;rw[g1,an] at aV;obtain ⟨_,_,g2⟩:=aV
    grind
   ·rename_i g1;rw[g1,an] at aV;obtain ⟨_,_,_,_,_,g2⟩:=aV
    grind
   grind
  subst wj;exact ⟨ae,λm' _=> .wc t x g n jx h an bB aJ bs,λb aw=>by grind⟩
 |wI t x b off d i cs h an aJ bg az aD=>simp only[q9,h] at bf;exact ⟨J b,λm' hm=> .wI t x b off d i cs h an aJ bg az (by grind [KY]),(ptr an bf).at⟩
 |slice t x cf az cz i L b off l n dG h aJ fm an hm eW eN h1 ai aT=>
  simp only[q9,h] at bf;refine ⟨J b,λm' n4=> .slice t x cf az cz i L b off l n dG h aJ fm an (by grind) eW eN h1 ai aT,vW.at ?_⟩;have aV:=bp x;split at bf
  ·rename_i g;rw[g,an] at aV;cases aV
  ·rename_i g;cases bf;rw[g,an] at aV;exact bh aV
  ·rename_i g;cases bf;rw[g,an] at aV;exact ⟨_,aV.1,rfl⟩
  grind
 |vx t x cf az cz i L b off l c k n dG h aJ fm an hk hm eW eN h1 ai aT=>
  simp only[q9,h] at bf;refine ⟨J b,λm' n4=> .vx t x cf az cz i L b off l c k n dG h aJ fm an hk (by grind) eW eN h1 ai aT,vW.at ?_⟩;have aV:=bp x;split at bf
  ·rename_i g;rw[g,an] at aV;cases aV
  ·rename_i g;cases bf;rw[g,an] at aV;exact bh aV
  ·rename_i g;cases bf;rw[g,an] at aV;exact ⟨_,aV.1,rfl⟩
  grind
 |str jx t x cz b off l c cs h oa he aJ an aD=>
  simp only[q9,h] at bf;refine ⟨J b,λm' n4=> .str jx t x cz b off l c cs h oa he aJ an (by grind [KY]),vW.at ?_⟩;have aV:=bp x;split at bf
  ·rename_i g;cases bf;rw[g,an] at aV;exact bh aV
  ·rename_i g;cases bf;rw[g,an] at aV;exact ⟨_,aV.1,rfl⟩
  ·rename_i g;rw[g,an] at aV;cases aV
  ·rename_i g;rw[g,an] at aV;cases aV
  grind
 |zQ jx t x cz l c h oa he aJ an=>
  simp only[q9,h] at bf;refine ⟨ae,λm' n4=> .zQ jx t x cz l c h oa he aJ an, ?_⟩;have aV:=bp x;split at bf
  ·cases bf;intro b aw;grind
  ·cases bf;intro b aw;grind
  ·rename_i g;rw[g,an] at aV;cases aV
  ·rename_i g;rw[g,an] at aV;cases aV
  grind
 |lookup hZ x dx ok u bG bA b L F i z' v0 t ho h jk hu an nC tf mj bF hk bs az bx dw aR=>
  simp only[q9,h] at bf;rcases an with ⟨an,hm,qN⟩|⟨an,qN⟩
  ·refine ⟨J b,λm' n4=> .lookup hZ x dx ok u bG bA b L F i z' v0 t ho h jk hu (.inl ⟨an,by grind,qN⟩) nC tf mj bF hk bs az bx dw aR,vW.at ?_⟩;have aV:=bp x;split at bf
   ·rename_i g;cases bf;rw[g,an] at aV;rcases aV with ⟨h1,_⟩|⟨r,h1,ai⟩
    ·grind
    ·cases h1;show (z _).iD;rw[ai];exact True.intro
   ·rename_i g;cases bf;rw[g,an] at aV;exact ⟨_,aV.1,rfl⟩
   grind
  ·refine ⟨ae,λm' n4=> .lookup hZ x dx ok u bG bA b L F i z' v0 t ho h jk hu (.inr ⟨an,qN⟩) nC tf mj bF hk bs az bx dw aR, ?_⟩;split at bf
   ·cases bf;intro b aw;grind
   ·cases bf;intro b aw;grind
   grind
def agz (z:Nat->bW) (m:Mem) (a:List af) (I:Mem->Prop) (s:l4):Prop:=s= .lost\/∃ob,AM m I ob/\(∀b,ob=J b->b<m.next)/\uv z a ob s
structure iI (z:Nat->bW) (m:Mem) (vs:List af) (A:Acc) (L:gk):Prop where
 rd:∀x∈A.reads,∃y∈L.rd,y.1=x.1/\agz z m vs x.2 y.2
 j7:∀x∈A.iC,∃y∈L.j7,y.1=x.1/\(y.2.1=aa->m=x.2)/\∀j∈y.2.2,∃v,vs[j]? =J v/\∀b,dQ v=J b->b<m.next/\m.blk b=x.2.blk b
 jZ:∀x∈A.news,∃y∈L.jZ,y.1=x.1/\x.2<m.next/\∃v,vs[y.2]? =J v/\dQ v=J x.2
def AM.step {I:Mem->Prop} {ob q:Option Nat} (h:AM m I ob) (c:∀b,ob=J b->b<m.next) (d:gG m m' q) (e:∀b,ob=J b->q≠J b):AM m' I ob:=λg f=>h g λb a=>by
 rw[f b a,d.2 b (c b a) (e b a)]
def uv.mono {ob:Option Nat} {s:l4} (h:uv z vs ob s) (c:fl z z') (d:∀(i:Nat) (u:af),vs[i]? =J u->vs'[i]? =J u):uv z' vs' ob s:=by
 cases s with
 |py=>exact h
 |lost=>exact h
 |bZ=>intro b a;rw[c b (h b a)];exact h b a
 |ob j=>intro b a;obtain ⟨u,e,f⟩:=h b a;grind
def iI.step {A:Acc} {L:gk} {q:Option Nat} (h:iI z m vs A L) (F:fl z z') (p:∀(i:Nat) (u:af),vs[i]? =J u->vs'[i]? =J u) (g:gG m m' q)
  (L':gk) (B:∀y∈L.rd,∃a∈L'.rd,a.1=y.1/\(a.2= .lost\/a.2=y.2/\∀ob,uv z vs ob y.2->∀b,ob=J b->q≠J b))
  (I:∀y∈L.j7,∃a∈L'.j7,a.1=y.1/\(a.2.1=aa->y.2.1=aa/\m'=m)/\∀j∈a.2.2,j∈y.2.2/\∀v b,vs[j]? =J v->dQ v=J b->q≠J b) (C:∀y∈L.jZ,y∈L'.jZ):iI z' m' vs' A L' where
 rd:=λx f=>by
  obtain ⟨y,e,s,d⟩:=h.rd x f;obtain ⟨a,t,G,c⟩:=B y e;refine ⟨a,t,by grind, ?_⟩;rcases c with c|⟨c,r⟩
  ·exact .inl c
  ·rcases d with d|⟨ob,o,n,k⟩
   ·exact .inl (by grind)
   ·exact .inr ⟨ob,o.step n g (r ob k),λb l=>hS (n b l) g.1,by rw[c];exact k.mono F p⟩
 j7:=λx f=>by obtain ⟨y,e,s,M,d⟩:=h.j7 x f;obtain ⟨a,t,G,N,c⟩:=I y e;refine ⟨a,t,by grind,λK=>by grind,λj D=> ?_⟩;obtain ⟨r,H⟩:=c j D;obtain ⟨v,o,n⟩:=d j r;refine ⟨v,p _ _ o,λb l=> ?_⟩;obtain ⟨k,O⟩:=n b l;exact ⟨hS k g.1,by rw[g.2 b k (H v b o l)];grind⟩
 jZ:=λx f=>by obtain ⟨y,e,s,d,v,w,E⟩:=h.jZ x f;exact ⟨y,C y e,s,hS d g.1,v,p _ _ w,E⟩
def iI.quiet {A:Acc} {L:gk} (h:iI z m vs A L) (d:fl z z') (b:∀(i:Nat) (u:af),vs[i]? =J u->vs'[i]? =J u) (e:m'=m):iI z' m' vs' A L:=
 h.step (q:=ae) d b (by grind [gG.refl]) L (λy a=>⟨y,a,rfl, .inr ⟨rfl,λ_ _ _ _=>by simp⟩⟩) (λy a=>⟨y,a,rfl,λh=>⟨h,e⟩,λj c=>⟨c,λ_ _ _ _=>by simp⟩⟩) λy a=>a
theorem adP {j:Nat} (p:b9 X.G O z e m k vs) (h:Lc O j=aa):∃v,vs[j]? =J v/\∀b,dQ v=J b->b<m.next/\(z b≠ .dead\/∃o,O[j]? =J o/\o.live=aa):=by
 unfold Lc at h;have E:∀{o:ba D},O[j]? =J o->o≠ .dead->(∀t w,o≠ .box t [] aa w)->∃v,vs[j]? =J v/\∀b,dQ v=J b->b<m.next/\(z b≠ .dead\/∃o,O[j]? =J o/\o.live=aa):=by
  intro o n H K;obtain ⟨v,u,i⟩:=p.at n;refine ⟨v,u,λb f=> ?_⟩;cases a:o.live with
  |true=>exact ⟨(i.lt a b f).1, .inr ⟨o,n,a⟩⟩
  |false=>
   have q:z b≠ .dead:=by
    cases o with
    |dead=>grind
    |bh t F bZ w=>
     cases bZ with
     |false=>cases a
     |true=>
      rcases (i:fA (X.G.T t) z F v) with ⟨rfl,_⟩|⟨B,L,I,rfl,g,_⟩
      ·cases f
      ·cases f;exact g.ne
    |box t l bZ w=>
     cases bZ with
     |false=>cases a
     |true=>
      obtain ⟨B,s,rfl,g,x⟩:=i;cases f;cases l with
      |nil=>grind
      |cons c l=>
       cases s with
       |nil=>exact x.elim
       |cons d s=>
        have:=g 0 d rfl
        grind [nH]
    |recv t l w=>cases a
    |arr _ _ _ _ _=>cases a
    |nest _ _ _ _ _ _=>cases a
    |map t A y C bZ w=>
     cases bZ with
     |false=>cases a
     |true=>
      rcases (i:nn (X.G.M t A y) z C v) with ⟨rfl,_⟩|⟨r,rfl,g⟩
      ·cases f
      ·cases f
       grind
   refine ⟨?_, .inl q⟩;exact (p.aS.bZ b q).2
 split at h
 ·grind
 ·grind
 ·grind
 grind
theorem asl {l:List Nat} {j:Nat}:l.any (fi j)=aa↔j∈l:=by
 simp_all
def adz {j:Nat} (h:tB O j=aa):∃o,O[j]? =J o/\o.live=aa:=by
 grind [tB]
theorem KH {c:List Nat} {q:Option Nat} (a:b9 X.G O z e m k vs) (u:c.all (tB O)=aa) (A:oI vs c q) {j:Nat} (h:vo O c j=aa) {v:af} {b:Nat} (d:vs[j]? =J v) (g:dQ v=J b):q≠J b:=by
 simp only[vo,fx,Aq] at h;rcases A with rfl|⟨i,x,w,l,rfl⟩
 ·simp
 ·intro s;have C:i≠j:=by
   grind [asl]
  obtain ⟨o,f,n⟩:=adz (iA.1 u i x);have E:=((a.obj i o w f l).lt n b s).2.1;obtain ⟨F,r,B⟩:=adP a h.1;rw[d] at r;cases r;rcases (B b g).2 with D|⟨p,y,t⟩
  ·grind
  ·exact a.fD i j o p w v C f y n t l d b s g
def ar0 {a:List Nat} {q:Option Nat} (d:b9 X.G O z e m k vs) (f:a.all (tB O)=aa) (h:oI vs a q) {b:Nat} (j:z b≠ .dead):q≠J b:=by
 rcases h with rfl|⟨i,g,w,l,rfl⟩
 ·simp
 ·intro p;obtain ⟨o,c,n⟩:=adz (iA.1 f i g);exact j ((d.obj i o w c l).lt n b p).2.1
theorem acK {c:List Nat} {q:Option Nat} (d:b9 X.G O z e m k vs) (f:c.all (tB O)=aa) (i:oI vs c q) {s:l4} (h:G5 O c s=aa) {ob:Option Nat} (a:uv z vs ob s):∀b,ob=J b->q≠J b:=by
 intro b g;cases s with
 |py=>exact a.elim
 |lost=>exact a.elim
 |bZ=>exact ar0 d f i (a b g).ne
 |ob j=>obtain ⟨u,l,n⟩:=a b g;exact KH d f i h l n
def ach:∀{l:List (ba D)} {i j:Nat},j∈vf O i l->∃n o,j=i+n/\l[n]? =J o/\o.live=aa
 |[],i,j,h=>by grind [vf]
 |o::l,i,j,h=>by
  simp only[vf] at h;have a:j∈vf O (i+1) l->∃n p,j=i+n/\(o::l)[n]? =J p/\p.live=aa:=λh=>by obtain ⟨n,p,e,c,b⟩:=ach h;exact ⟨n+1,p,by omega,c,b⟩
  split at h
  ·rename_i d;rcases ha.1 h with rfl|h
   ·grind
   grind
  grind
def iI.fX {A:Acc} {L:gk} {q:Option Nat} {B:Array Nat} {i:Nat} {ts:List Nat} {ra:Bool} (h:iI z m vs A L) (r:b9 X.G O z e m k vs) (U:fl z z') (F:∀(i:Nat) (u:af),vs[i]? =J u->vs'[i]? =J u) (l:gG m m' q) (D:oI vs ts q) (yW:ra=aa->m'=m)
  (N:XF B i O L ts=aa):u7 B i A m .fX m'/\iI z' m' vs' (qL A i m .fX) (A0 i O ts ra L):=by
 simp only[XF,fx,iA,Ar] at N;obtain ⟨d,Q,P⟩:=N;have d:ts.all (tB O)=aa:=iA.2 d;refine ⟨⟨λx c C=> ?_,λx c C=> ?_⟩, ?_⟩
 ·obtain ⟨y,a,E,f⟩:=h.rd x c;have:=Q y a;rw[E,C] at this;have p:G5 O ts y.2=aa:=by grind
  rcases f with f|⟨ob,W,V,Y⟩
  ·rw[f] at p;cases p
  ·exact W m' λb g=>l.2 b (V b g) (acK r d D p Y b g)
 ·obtain ⟨y,a,E,f,v,R,T⟩:=h.jZ x c;have:=P y a;rw[E,C] at this;have p:vo O ts y.2=aa:=by grind
  exact l.2 _ f (KH r d D p R T)
 ·have s:=h.step (L':=A0 i O ts ra L) U F l (λy a=> ?_) (λy a=> ?_) λy a=>a
  ·refine ⟨s.rd,λx c=> ?_,s.jZ⟩;rcases ha.1 c with rfl|c
   ·refine ⟨(i,aa&&ra,(vf O 0 O).filter (vo O ts)),by simp[A0],rfl,λS=>yW (by grind),λj H=> ?_⟩;obtain ⟨w,t⟩:=List.mem_filter.1 H;obtain ⟨n,o,K,Z,g3⟩:=ach w;rw[lH] at K;subst K;obtain ⟨v,M,g5⟩:=r.at Z;refine ⟨v,F _ _ M,λb g=> ?_⟩;have I:=(g5.lt g3 b g).1;exact ⟨hS I l.1,l.2 b I (KH r d D t M g)⟩
   ·exact s.j7 x c
  ·refine ⟨if G5 O ts y.2=aa then y else (y.1, .lost),l2.2 ⟨y,a,rfl⟩,by grind, ?_⟩
   grind [acK]
  ·refine ⟨(y.1,y.2.1&&ra,y.2.2.filter (vo O ts)),l2.2 ⟨y,kn _ a,rfl⟩,rfl,λS=>by grind,λj H=> ?_⟩
   grind [KH]
def iI.A1 {A:Acc} {L:gk} {B:Array Nat} {i:Nat} (h:iI z m vs A L) (f:∀(i:Nat) (u:af),vs[i]? =J u->vs'[i]? =J u) (l:m.next<=m'.next)
  (p:Xo B i L=aa):u7 B i A m .fX m'/\iI z' m' vs' (qL A i m .fX) (XG i L):=by
 simp only[Xo,fx,iA] at p;refine ⟨⟨λx a n=> ?_,λx a n=> ?_⟩,⟨λx a=> ?_,λx a=> ?_,λx a=> ?_⟩⟩
 ·obtain ⟨y,b,c,_⟩:=h.rd x a
  grind
 ·obtain ⟨y,b,c,_⟩:=h.jZ x a
  grind
 ·obtain ⟨y,b,c,_⟩:=h.rd x a;exact ⟨(y.1, .lost),l2.2 ⟨y,b,rfl⟩,c, .inl rfl⟩
 ·rcases ha.1 a with rfl|a
  ·exact ⟨(i,ak,[]),oG,rfl,λe=>Yy e,λj d=>absurd d (by simp)⟩
  ·obtain ⟨y,b,c,_⟩:=h.j7 x a;exact ⟨(y.1,ak,[]),kn _ (l2.2 ⟨y,b,rfl⟩),c,λe=>Yy e,λj d=>absurd d (by simp)⟩
 ·obtain ⟨y,b,c,k,v,g,o⟩:=h.jZ x a;exact ⟨y,b,c,hS k l,v,f _ _ g,o⟩
def iI.afq {A:Acc} {L:gk} (h:iI z m vs A L) (i:Nat) (s:l4) (n:Option Nat):iI z m vs A (pD i s n L) where
 rd:=λx b=>by
  obtain ⟨y,c,a,d⟩:=h.rd x b;refine ⟨y, ?_,a,d⟩;unfold pD
  grind
 j7:=λx b=>by
  obtain ⟨y,c,a,d,e⟩:=h.j7 x b;cases n with
  |none=>exact ⟨y,c,a,d,e⟩
  |some j=>exact ⟨(y.1,ak,y.2.2),l2.2 ⟨y,c,rfl⟩,a,(by simp),e⟩
 jZ:=λx b=>by
  obtain ⟨y,c,a⟩:=h.jZ x b;refine ⟨y, ?_,a⟩;unfold pD
  grind
structure gC (fK:Nat) (z0 z:Nat->bW) (fr:Nat->af) (E:List (Nat×bc D)) (m:Mem) (A:Acc) (L:gk):Prop where
 le:fl z0 z
 n:fK<=m.next
 lt:∀b,(z0 b).iD->b<fK
 lK:∀x∈A.iC,∀b,(z0 b).iD->m.blk b=x.2.blk b
 ew:∀d,(L.pg.any (fi d))=ak->y4 (eI E d)=aa->∀b,dQ (fr d)=J b->(z0 b).iD
variable {z0:Nat->bW}
def gC.at {c:Nat} {A:Acc} {L:gk} (h:gC c z0 z fr E m A L) {x:bS} (a:tr E L x=aa):∀b,dQ (bk fr x)=J b->(z0 b).iD:=by
 unfold tr at a;split at a
 ·rename_i d;simp only[fx,Aq] at a;exact h.ew d a.1 a.2
 grind
def gC.read {X:Nat} {A:Acc} {L:gk} {B:Array Nat} {i:Nat} {v:af} (h:gC X z0 z fr E m A L) (f:abf E L o.op=aa) (T:fH P (bk fr) o m v):∀x∈A.iC,gD B i x.1=ak->fH P (bk fr) o x.2 v:=by
 intro x U bl;have V:=h.lK x U;cases T with
 |load t q b a d v r e j D C=>rw[r] at f;have:=h.at f b (by rw[e];rfl);exact .load t q b a d v r e j D (ac5 C (V b this).symm)
 |wc t q g n O r e W j Q=>exact .wc t q g n O r e W j Q
 |wI t q b a d i R r e j D s C=>rw[r] at f;have:=h.at f b (by rw[e];rfl);exact .wI t q b a d i R r e j D s (by grind [KY])
 |slice t q G s w i y b a l n r p j J e Z I H K M N=>rw[p] at f;have:=h.at f b (by rw[e];rfl);exact .slice t q G s w i y b a l n r p j J e (by grind) I H K M N
 |vx t q G s w i y b a l c k n r p j J e S Z I H K M N=>rw[p] at f;have:=h.at f b (by rw[e];rfl);exact .vx t q G s w i y b a l c k n r p j J e S (by grind) I H K M N
 |str O t q w b a l c R p oa Y j e C=>rw[p] at f;cases f
 |zQ O t q w l c p oa Y j e=>rw[p] at f;cases f
 |lookup hZ q dx ok u bG bA b y F i z' v0 t ho p jk hu e nC tf mj bF S Q s bx dw hB=>rw[p] at f;cases f
def gC.jP {a:Nat} {A:Acc} {L:gk} (h:gC a z0 z fr E m A L) (b:fl z z'):gC a z0 z' fr E m A L:=⟨h.le.trans b,h.n,h.lt,h.lK,h.ew⟩
def arq {L:gk} {v:af} {Z:Nat} {A:Acc} (h:gC Z z0 z fr E m A L) (p:rK E L o.op=aa) (X:dD P (bk fr) o v):∀b,dQ v=J b->(z0 b).iD:=by
 have lK:∀{w:af},flat w=aa->∀b,dQ w=J b->(z0 b).iD:=by
  intro w K b B;cases w with
  |pointer a=>cases a with
   |none=>cases B
   |some a=>cases K
  |slice a l c=>cases a with
   |none=>cases B
   |some a=>cases K
  |map r=>cases r with
   |none=>cases B
   |some r=>cases K
  |_=>cases B
 cases X with
 |flat v R s W aV=>grind
 |move x j=>
  rcases j with j|j
  ·rw[j] at p;exact h.at p
  ·rw[j] at p;exact h.at p
 |nilCheck x a j s=>rw[j] at p;intro b B;exact h.at p b (by grind)
 |fieldAddr t x i Q f k b q j H bF hk R s=>rw[j] at p;intro c D;exact h.at p c (by rw[s];exact D)
 |indexAddr t x y e i b q l c k n j H C s N O T=>rw[j] at p;intro c D;exact h.at p c (by rw[s];exact D)
 |JC t x y bX i l g kk n I H C R s N O T aR=>intro b B;cases B
 |J4 t x y e i b q l k n j H C s N O T=>rw[j] at p;intro c D;exact h.at p c (by rw[s];exact D)
 |pick c a b t j D=>rw[j] at p;cases p
 |extract x i us v j s W=>rw[j] at p;cases p
 |field t x i Q f d G v j _ _ _ _ _=>rw[j] at p;cases p
 |J6 t x y e d i l k n G j=>rw[j] at p;cases p
 |J5 t x y e d i l k n G v j=>rw[j] at p;cases p
 |build t Y Q i z G j _ _ _ _ _ _=>rw[j] at p;cases p
 |Jg t Y n e i k z G j _ _ _ _ _ _=>rw[j] at p;cases p
 |slice t x S C e i b q l c n I j _ _ _ _ _ _ _ _ _=>rw[j] at p;cases p
 |nc t x S C e i j _ _ _ _ _=>rw[j] at p;cases p
 |slice3 t x U C e i b q l c I k' V j _ _ _ _ _ _ _=>rw[j] at p;cases p
 |P5 t x S C U e i b q l c n I k' Kb J9 V j _ _ _ _ _ _ _ _ _=>rw[j] at p;cases p
 |P4 t x U C e i V j _ _ _ _ _=>rw[j] at p;cases p
 |len x t e a l c j _ _=>rw[j] at p;cases p
 |Jj x t e j _ _=>rw[j] at p;cases p
 |A2 M x y t u e a l c j _ _ _=>rw[j] at p;cases M<;>cases p
 |func fn first F j _=>rw[j] at p;cases p
def gC.put {j:Nat} {A:Acc} {L:gk} {v:af} {i:bc D} (h:gC j z0 z fr E m A L) (p:rK E L o.op=aa->∀b,dQ v=J b->(z0 b).iD):gC j z0 z (set fr o.dst v) (na E o.dst i) m A (sx E o L):=by
 cases r:o.dst with
 |none=>
  have e:sx E o L=L:=by grind [sx]
  rw[e];exact ⟨h.le,h.n,h.lt,h.lK,h.ew⟩
 |some d=>
  refine ⟨h.le,h.n,h.lt,h.lK,λc q g b a=> ?_⟩;by_cases f:c=d
  ·subst f;simp only[set,if_true] at a;by_cases l:rK E L o.op=aa
   ·grind
   simp_all [sx]
  ·simp only[set,if_neg f] at a;have k:eI (na E (J d) i) c=eI E c:=by
    grind [na,eI,kA]
   rw[k] at g;refine h.ew c ?_ g b a
   grind [sx,kA]
def gC.log {b:Nat} {A c:Acc} {L a:gk} (h:gC b z0 z fr E m A L) (e:c.iC=A.iC) (d:a.pg=L.pg):gC b z0 z fr E m c a:=⟨h.le,h.n,h.lt,by rw[e];exact h.lK,by rw[d];exact h.ew⟩
theorem gC.grow {d:Nat} {A:Acc} {L:gk} (h:gC d z0 z fr E m A L) (c:gG m m' ae):gC d z0 z fr E m' A L:=⟨h.le,jd h.n c.1,h.lt,λx e b a=>by
 rw[c.2 b (hS (h.lt b a) h.n) (by simp)];exact h.lK x e b a,h.ew⟩
def gC.fX {f i:Nat} {A:Acc} {L:gk} {q:Option Nat} {ts:List Nat} {ra:Bool} (h:gC f z0 z fr E m A L) (e:gG m m' q) (g:∀b,(z0 b).iD->q≠J b):gC f z0 z fr E m' (qL A i m .fX) (A0 i O ts ra L):=by
 have d:∀b,(z0 b).iD->m'.blk b=m.blk b:=λb a=>e.2 b (hS (h.lt b a) h.n) (λj=>g b a j);refine ⟨h.le,jd h.n e.1,h.lt,λx c b a=> ?_,h.ew⟩;rcases ha.1 c with rfl|c
 ·grind
 ·rw[d b a];exact h.lK x c b a
def gC.A1 {j i:Nat} {A:Acc} {L:gk} {p:Option Nat} (h:gC j z0 z fr E m A L) (o:m.next<=m'.next) (g:fl z z') (q:dL z e m k) (r:dL z' e m' p):gC j z0 z' fr E m' (qL A i m .fX) (XG i L):=by
 have d:∀b,(z0 b).iD->m'.blk b=m.blk b:=λb a=>by have l:=h.le b a;have f:=g b (by grind);rw[(q.bZ b (by rw[l];exact a.ne)).1,(r.bZ b (by rw[f,l];exact a.ne)).1,f]
 refine ⟨h.le.trans g,jd h.n o,h.lt,λx c b a=> ?_,h.ew⟩;rcases ha.1 c with rfl|c
 ·grind
 ·rw[d b a];exact h.lK x c b a
def asa {d:List Nat} {q:Option Nat} (g:b9 X.G O z e m k vs) (h:d.all (tB O)=aa) (c:oI vs d q) (n:fl z0 z):∀b,(z0 b).iD->q≠J b:=by
 intro b a r;rcases c with c|⟨i,j,v,f,o⟩
 ·grind
 ·have:=iA.1 h i j;unfold tB at this;split at this
  ·rename_i p l;have:=((g.obj i p v l f).lt this b (by grind)).2.1;rw[n b a] at this;rw[this] at a;exact a.elim
  grind
def gC.start {E:List (Nat×bc D)} (aN:b9 X.G O z e m k vs) (bp:∀d,rel X.G z vs (eI E d) (fr d)):gC m.next z z fr E m ⟨[],[],[]⟩ ⟨[],[],[],[],[]⟩:=by
 refine ⟨fl.refl z,e4 _,λb aw=>(aN.aS.bZ b aw.ne).2,by simp,λd _ bF b aw=> ?_⟩;have aV:=bp d;unfold y4 at bF;split at bF
 ·rename_i bX xs bf;rw[bf] at aV;rcases (aV:fA (X.G.T bX) z xs (fr d)) with ⟨h1,_⟩|⟨dJ,o',c3,h1,ai,_⟩
  ·rw[h1] at aw;cases aw
  ·rw[h1] at aw;cases aw
   grind
 ·rename_i t c cs off bf;rw[bf] at aV;obtain ⟨b,o',ds,h1,ai,aT⟩:=aV;rw[h1] at aw;cases aw;cases ds with
  |nil=>exact aT.elim
  |cons d ds=>
   have br:=ai 0 d rfl
   grind [w5]
 grind
def w9 {A:Acc} {L:gk} {E:List (Nat×bc D)} (h:iI z m vs A L):iI z m vs A (sx E o L):=by
 unfold sx;split
 ·grind
 ·split<;>exact ⟨h.rd,h.j7,h.jZ⟩
def iI.read {A:Acc} {L:gk} {B:Array Nat} {i:Nat} {s:l4} {v:af} {n:Option Nat} (h:iI z m vs A L) (aN:b9 X.G O z e m k vs) (bp:∀x,rel X.G z vs (dp E x) (bk fr x)) (bx:fl z z') (aD:∀(i:Nat) (u:af),vs[i]? =J u->vs'[i]? =J u)
  {fK:Nat} (bf:q9 E o.op=J s) (hk:(zO B i O L s||Lm B i E L s o.op)=aa) (aV:fH P (bk fr) o m v) (bs:gC (D:=D) fK z0 z fr E m A L):
  u7 B i A m (.read λm=>fH P (bk fr) o m v) m/\iI z' m vs' (qL A i m (.read λm=>fH P (bk fr) o m v)) (pD i s n L):=by
 obtain ⟨ob,h1,ai⟩:=aue aN bp bf aV;rw[Ar] at hk;have lt:∀b,ob=J b->b<m.next:=by
  intro b aw;cases s with
  |py=>exact ai.elim
  |lost=>exact ai.elim
  |bZ=>have bx:=ai b aw;exact (aN.aS.bZ b bx.ne).2
  |ob j=>
   have hk:zO B i O L (.ob j)=aa:=hk.resolve_right (by simp[Lm,aaj]);simp only[zO,fx] at hk;obtain ⟨u,g1,g2⟩:=ai b aw
   grind [adP]
 refine ⟨λx an bl=> ?_, ?_⟩
 ·rcases hk with hk|hk
  case inr=>
   simp only[Lm,fx] at hk;exact bs.read (B:=B) hk.2 aV x an bl
  obtain ⟨y,aZ,cL,lu,c9⟩:=h.j7 x an;refine h1 x.2 λb aw=> ?_;cases s with
  |py=>exact ai.elim
  |lost=>exact ai.elim
  |bZ=>
   grind [zO]
  |ob j=>
   simp only[zO,fx,iA,Ar] at hk;have:=hk.2 y aZ;rw[cL,bl] at this;have bn:y.2.1=aa\/j∈y.2.2:=by
    rcases this with h|h|h
    ·grind
    ·grind
    simp_all
   rcases bn with bn|bn
   ·grind
   obtain ⟨cc,g1,g2⟩:=c9 j bn;obtain ⟨u,g3,g4⟩:=ai b aw
   grind
 ·have aS:=((h.quiet (fl.refl z) (λ_ _ h=>h) rfl).afq i s n).quiet (m':=m) bx aD rfl;refine ⟨λx an=> ?_,aS.j7,aS.jZ⟩;rcases ha.1 an with rfl|an
  ·refine ⟨(i,s), ?_,rfl, .inr ⟨ob,h1,lt,ai.mono bx aD⟩⟩;unfold pD;cases s<;>first|exact ai.elim|grind
  ·exact aS.rd x an
def ato {Y:bW} {v:af} {f:bc D} {n:Option Nat} {N:Nat} (h:jC P (bk fr) o N Y v) (a:rel X.G z vs f v) (d:XZ f=J n):∃j,n=J j/\∃u,vs[j]? =J u/\dQ u=J N:=by
 have c:dQ v=J N:=by cases h<;>rfl
 unfold XZ at d;split at d
 ·cases d;exact ⟨_,rfl,v,a.1,c⟩
 ·cases d;obtain ⟨b,e,rfl⟩:=a;exact ⟨_,rfl,_,e,c⟩
 ·cases d;obtain ⟨b,l,e,rfl⟩:=a;exact ⟨_,rfl,_,e,c⟩
 ·have a:v= .int _ _:=a;rw[a] at c;cases c
 ·have a:v=aF.str _:=a;rw[a] at c;cases c
 grind
def iI.new {A:Acc} {L:gk} {i:Nat} {s:l4} {j:Nat} {Y:bW} (h:iI z m vs A L) (f:fl z z') (e:∀(i:Nat) (u:af),vs[i]? =J u->vs'[i]? =J u) (d:∃u,vs'[j]? =J u/\dQ u=J m.next):
  iI z' (m.push Y) vs' (qL A i m .new) (pD i s (J j) L):=by
 have b:=h.step (m':=m.push Y) (q:=ae) f e (gG.push m Y) (pD i s (J j) L) (λy a=>⟨y,by unfold pD;grind,rfl, .inr ⟨rfl,λ_ _ _ _=>by simp⟩⟩)
  (λy a=>⟨(y.1,ak,y.2.2),l2.2 ⟨y,a,rfl⟩,rfl,by simp,λj d=>⟨d,λ_ _ _ _=>by simp⟩⟩) λy a=>kn _ a
 refine ⟨b.rd,b.j7,λx c=> ?_⟩;rcases ha.1 c with rfl|c
 ·obtain ⟨u,g,k⟩:=d;exact ⟨(i,j),by simp[pD],rfl,Nat.lt_succ_self _,u,g,k⟩
 ·exact b.jZ x c
end
end Go.aF
end
section
namespace Go.aF
section
variable {P:bI} {D:Nat->Type} {X:e3 P D} {ap:Type} {z z':Nat->bW} {e m m':Mem} {k:Option Nat} {vs:List af} {fr:Nat->af} {E:List (Nat×bc D)} {O:List (ba D)} {o:Oper} {r:ap}
def fj (X:e3 P D) (z:Nat->bW) (b:List af) (E:List (Nat×bc D)) (a:Nat->af):Prop:=∀d,rel X.G z b (eI E d) (a d)
def fj.mono (h:fj X z vs E fr) {a:List af} (c:fl z z') (b:∀(i:Nat) (u:af),vs[i]? =J u->a[i]? =J u):fj X z' a E fr:=λd=>rel.mono (h d) c b
theorem fj.cons (h:fj X z vs E fr) {d:Nat} {s:bc D} (a:rel X.G z vs s (fr d)):fj X z vs ((d,s)::E) fr:=λi=>by
 simp only[eI];split
 ·simp_all
 ·exact h i
def fj.put (h:fj X z vs E fr) {d:Option Nat} {s:bc D} {v:af} (b:rel X.G z vs s v):fj X z vs (na E d s) (set fr d v):=by
 cases d with
 |none=>exact h
 |some d=>
  intro i;simp only[na,eI,set];split
  ·simp_all
  ·rename_i a;rw[if_neg]
   ·exact h i
   ·intro c;simp_all
def je (X:e3 P D) (O:List (ba D)) (z:Nat->bW) (e:Mem) (k:Option Nat) (h:List af) (K:List (Nat×bc D)->List (ba D)->Option ap) (r:ap) (f:Nat->af) (g:Mem):Prop:=∃c a d b,Inv O b/\dT e.next z c/\(∀(i:Nat) (u:af),h[i]? =J u->a[i]? =J u)/\b9 X.G b c e g k a/\fj X c a d f/\K d b=J r
theorem je.from {K:List (Nat×bc D)->List (ba D)->Option ap} {b:Nat->af} {d:Nat->bW} {f:List af} {c:List (ba D)} (m:Inv O c) (p:dT e.next z d) (g:∀(i:Nat) (u:af),vs[i]? =J u->f[i]? =J u) (h:je X c d e k f K r b m'):je X O z e k vs K r b m':=by
 obtain ⟨x,a,t,s,n,v,l,j,o,q⟩:=h;exact ⟨x,a,t,s,m.trans n,p.trans v,λi u w=>l i u (g i u w),j,o,q⟩
def je.here {K:List (Nat×bc D)->List (ba D)->Option ap} (a:b9 X.G O z e m k vs) (b:fj X z vs E fr) (c:K E O=J r):je X O z e k vs K r fr m:=⟨z,vs,E,O,Inv.refl O,dT.refl z,λ_ _ h=>h,a,b,c⟩
def acJ {d:Nat} {K:List (Nat×bc D)->Option ap} (e:fj X z vs E fr) (h:vn E d K=J r):∃f,fj X z vs f fr/\K f=J r:=by
 unfold vn at h;have a:=e d;split at h
 ·rename_i b g;rw[g] at a;cases b with
  |true=>rw[if_pos rfl] at h;exact ⟨_,e.cons (s:= .c (.bool aa)) a,h⟩
  |false=>rw[if_neg (by simp)] at h;exact ⟨_,e.cons (s:= .c (.bool ak)) a,h⟩
 ·grind
 grind
def atd (p:iV X) {K:List (Nat×bc D)->List (ba D)->Option ap} (g:b9 X.G O z e m k vs) (a:fj X z vs E fr) (h:BI X o E O K=J r):cH P (bk fr) o m λ_ v b=>je X O z e k vs K r (set fr o.dst v) b:=by
 have x:∀{E:List (Nat×bc D)},fj X z vs E fr->iR X o.op E O (λv O=>K (na E o.dst v) O)=J r->cH P (bk fr) o m λ_ v b=>je X O z e k vs K r (set fr o.dst v) b:=by intro E a h;refine cH.mono (Ln p rfl g (WN a) h) ?_;rintro t v b ⟨s,c,w,q,j,f,d,i,l,n⟩;exact ⟨s,c,_,q,j,f,d,i,(a.mono f.le d).put l,n⟩
 unfold BI at h;split at h
 ·obtain ⟨u,y,h⟩:=acJ a h
  grind
 grind
def B9 (u:iV X) {a:List Oper} {K:List (Nat×bc D)->List (ba D)->Option ap}:∀{l:List Oper} {E:List (Nat×bc D)} {O:List (ba D)} {z:Nat->bW} {f:List af} {m:Mem} {c:Nat->af},b9 X.G O z e m k f->fj X z f E c->tM X a l E O K=J r->ea P a l (je X O z e k f K r) c m
 |[],E,O,z,f,m,c,i,n,h=>ea.nil (je.here i n h)
 |o::l,E,O,z,f,m,c,i,n,h=>by
  unfold tM at h;have p:∀{E:List (Nat×bc D)},fj X z f E c->(BI X o E O λE O=>tM X a l E O K)=J r->cH P (bk c) o m λ_ v C=>ea P a l (je X O z e k f K r) (set c o.dst v) C:=by intro E n h;refine cH.mono (atd u i n h) ?_;rintro t v C ⟨V,R,S,T,L,Q,H,F,M,N⟩;exact ea.mono (B9 u F M N) λ_ _ I=>I.from L Q H
  split at h
  ·grind [ea.Ue,wanted]
  ·rename_i j q B;split at h
   ·grind
   ·rename_i d A;obtain ⟨U,w,h⟩:=acJ n h;have g:=w d;split at h
    ·rename_i b y;rw[y] at g;split at h
     ·rename_i x;exact ea.Ud B A g x (p w h)
     ·rename_i x;exact ea.P3 B A g (by cases b<;>cases q<;>simp at x⊢) (B9 u i (w.put (s:= .undef) rfl) h)
    ·rename_i y;rw[y] at g;exact ea.X6 B A g (B9 u i (w.put (s:= .undef) rfl) h)
    grind
variable {z0:Nat->bW}
def acq {d:Nat} {K:List (Nat×bc D)->Option ap} (g:fj X z vs E fr) (h:vn E d K=J r):∃e,fj X z vs e fr/\(∀c,eI e c=eI E c\/y4 (eI e c)=ak)/\K e=J r:=by
 have f:=g d;have a:∀{b:Bool} (c:Nat),eI ((d, .c (.bool b))::E) c=eI E c\/y4 (eI ((d, .c (.bool b))::E) c)=ak:=by
  intro b c;simp only[eI];split
  ·exact .inr rfl
  grind
 unfold vn at h;split at h
 ·rename_i b j;rw[j] at f;have f:fr d= .bool b:=f;split at h
  ·rename_i i;exact ⟨_,g.cons (by grind),a,h⟩
  ·rename_i i;exact ⟨_,g.cons (by grind),a,h⟩
 ·grind
 grind
def gC.split {f:Nat} {A:Acc} {L:gk} {b:List (Nat×bc D)} (h:gC f z0 z fr E m A L) (a:∀c,eI b c=eI E c\/y4 (eI b c)=ak):gC f z0 z fr b m A L:=⟨h.le,h.n,h.lt,h.lK,λd g e=>by
 rcases a d with a|a
 ·rw[a] at e;exact h.ew d g e
 grind⟩
def gC.skip {g:Nat} {A:Acc} {L:gk} {a:Option Nat} (h:gC g z0 z fr E m A L):gC g z0 z (set fr a undef) (na E a .undef) m A L:=by
 cases a with
 |none=>exact h
 |some d=>
  refine ⟨h.le,h.n,h.lt,h.lK,λc i e b f=> ?_⟩;simp only[na,eI] at e;split at e
  ·cases e
  ·rename_i j;have:c≠d:=by rintro rfl;simp_all
   simp only[set,if_neg this] at f;exact h.ew c i e b f
def ad' (cW:iV X) {B:Array Nat} {ops l:List Oper} {i:Nat} {A:Acc} {L:gk} {fK:Nat} {Q:(Nat->af)->Mem->Prop} {K:gk->List (Nat×bc D)->List (ba D)->Option ap} (aN:b9 X.G O z e m k vs) (bp:fj X z vs E fr) (dE:iI z m vs A L) (bs:gC fK z0 z fr E m A L) (h:Km X B i o L E O K=J r)
  (hk:∀{z':Nat->bW} {vs':List af} {m':Mem} {iH:Acc} {L':gk} {E':List (Nat×bc D)} {cr:List (ba D)} {v:af},Inv O cr->dT e.next z z'->(∀(i:Nat) (u:af),vs[i]? =J u->vs'[i]? =J u)->b9 X.G cr z' e m' k vs'->fj X z' vs' E' (set fr o.dst v)->iI z' m' vs' iH L'->gC fK z0 z' (set fr o.dst v) E' m' iH L'->K L' E' cr=J r->hQ P ops B (i+1) l iH Q (set fr o.dst v) m'):
  cH P (bk fr) o m λt v m1=>u7 B i A m t m1/\hQ P ops B (i+1) l (qL A i m t) Q (set fr o.dst v) m1:=by
 have cY:=WN bp;unfold Km at h;split at h
 ·rename_i qQ;split at h
  ·rename_i ts aJ;obtain ⟨my,h⟩:=gz h;have sR:∀{v:af},fH P (bk fr) o m v->False:=λaV=>by
    have:=Ks aV;revert this qQ;cases o.op<;>simp[lT,looks]
   have Ub:∀{Y:bW} {v:af},jC P (bk fr) o m.next Y v->False:=λaV=>by have:=BK aV;revert this qQ;cases o.op<;>simp[lT,sg]
   have r5:rK E L o.op=aa->False:=λbg=>by revert bg qQ;cases o.op<;>simp[lT,rK]
   refine (ate cW aN cY qQ aJ h).Ke (λv _ cp=> ?_) (λv aV _=>(sR aV).elim) (λY v aV _=>(Ub aV).elim) λn v m' he cp=> ?_
   ·obtain ⟨_,⟨z',vs',dR,cr,bR,h1,ai,aT,br,cK⟩,yW,q,ay,bm⟩:=cp;obtain ⟨g1,g2⟩:=dE.fX (B:=B) (ra:=tA X E O o.op) aN h1.le ai (gG.any (gG.refl m) ae) (.inl rfl) (λ_=>rfl) my;have e2:=(bs.fX (O:=O) (ts:=ts) (q:=ae) (i:=i) (ra:=tA X E O o.op) (gG.refl m) (λb _=>by simp)).jP h1.le;exact ⟨trivial,hk bR h1 ai aT ((bp.mono h1.le ai).put br) (w9 ⟨g2.rd,λx an=>g2.j7 x (kn _ an),g2.jZ⟩) (gC.put ⟨e2.le,e2.n,e2.lt,λx an=>e2.lK x (kn _ an),e2.ew⟩ λbg=>(r5 bg).elim) cK⟩
   ·obtain ⟨⟨z',vs',dR,cr,bR,h1,ai,aT,br,cK⟩,yW,q,ay,bm⟩:=cp;obtain ⟨g1,g2⟩:=dE.fX (B:=B) aN h1.le ai ay bm yW my;exact ⟨g1,hk bR h1 ai aT ((bp.mono h1.le ai).put br) (w9 g2) (gC.put ((bs.fX ay (asa aN (tY.1 my).1 bm bs.le)).jP h1.le) λbg=>(r5 bg).elim) cK⟩
  ·obtain ⟨my,h⟩:=gz h;have sR:∀{v:af},fH P (bk fr) o m v->False:=λaV=>by
    have:=Ks aV;revert this qQ;cases o.op<;>simp[lT,looks]
   have Ub:∀{Y:bW} {v:af},jC P (bk fr) o m.next Y v->False:=λaV=>by have:=BK aV;revert this qQ;cases o.op<;>simp[lT,sg]
   have r5:rK E L o.op=aa->False:=λbg=>by revert bg qQ;cases o.op<;>simp[lT,rK]
   refine (Ln cW rfl aN cY h).Ke (λv _ cp=> ?_) (λv aV _=>(sR aV).elim) (λY v aV _=>(Ub aV).elim) λn v m' he cp=> ?_
   ·obtain ⟨_,z',vs',dR,cr,bR,h1,ai,aT,br,cK⟩:=cp;obtain ⟨g1,g2⟩:=dE.A1 (z':=z') (m':=m) ai (e4 _) my;have e2:=bs.A1 (i:=i) (e4 _) h1.le aN.aS aT.aS;exact ⟨trivial,hk bR h1 ai aT ((bp.mono h1.le ai).put br) (w9 ⟨g2.rd,λx an=>g2.j7 x (kn _ an),g2.jZ⟩) (gC.put ⟨e2.le,e2.n,e2.lt,λx an=>e2.lK x (kn _ an),e2.ew⟩ λbg=>(r5 bg).elim) cK⟩
   ·obtain ⟨z',vs',dR,cr,bR,h1,ai,aT,br,cK⟩:=cp;have bB:=WB (ab6 n) he;obtain ⟨g1,g2⟩:=dE.A1 (z':=z') ai bB my;exact ⟨g1,hk bR h1 ai aT ((bp.mono h1.le ai).put br) (w9 g2) (gC.put (bs.A1 bB h1.le aN.aS aT.aS) λbg=>(r5 bg).elim) cK⟩
 ·rename_i qQ;split at h
  ·rename_i s bf;obtain ⟨my,h⟩:=gz h;refine (Ln cW rfl aN cY h).Ke (λv bb cp=> ?_) (λv aV cp=> ?_) (λY v aV cp=> ?_) λn v m' he _=>absurd (Wt he) qQ
   ·obtain ⟨_,z',vs',dR,cr,bR,h1,ai,aT,br,cK⟩:=cp;dsimp only at cK;split at cK
    ·rename_i n bB;exact ⟨trivial,hk bR h1 ai aT ((bp.mono h1.le ai).put br) (w9 ((dE.quiet h1.le ai rfl).afq i s n)) (gC.put (L:=pD i s n L) ((bs.jP h1.le).log rfl rfl) λbg=>arq bs bg bb) cK⟩
    grind
   ·obtain ⟨z',vs',dR,cr,bR,h1,ai,aT,br,cK⟩:=cp;dsimp only at cK;split at cK
    ·rename_i n bB;obtain ⟨g1,g2⟩:=dE.read (n:=n) (B:=B) (i:=i) aN cY h1.le ai bf my aV bs;exact ⟨g1,hk bR h1 ai aT ((bp.mono h1.le ai).put br) (w9 g2) (gC.put (L:=pD i s n L) ((bs.jP h1.le).log rfl rfl) λbg=>(by
      have:=Ks aV;revert this bg;cases o.op<;>simp[rK,looks])) cK⟩
    grind
   ·obtain ⟨z',vs',dR,cr,bR,h1,ai,aT,br,cK⟩:=cp;dsimp only at cK;split at cK
    ·rename_i n bB;rw[abH,if_pos (BK aV)] at bB;obtain ⟨j,rfl,bn⟩:=ato aV br bB;exact ⟨trivial,hk bR h1 ai aT ((bp.mono h1.le ai).put br) (w9 (dE.new (i:=i) (s:=s) (Y:=Y) h1.le ai bn)) (gC.put (L:=pD i s (J j) L) (((bs.grow (gG.push m Y)).jP h1.le).log rfl rfl) λbg=>(by
      have:=BK aV;revert this bg;cases o.op<;>simp[rK,sg])) cK⟩
    grind
  grind
def atq (w:iV X) {B:Array Nat} {b l:List Oper} {i:Nat} {A:Acc} {L:gk} {y:Nat} {Q:(Nat->af)->Mem->Prop} {K:gk->List (Nat×bc D)->List (ba D)->Option ap} (p:b9 X.G O z e m k vs) (q:fj X z vs E fr) (x:iI z m vs A L) (s:gC y z0 z fr E m A L) (h:BH X B i o L E O K=J r)
  (C:∀{c:Nat->bW} {a:List af} {f:Mem} {n:Acc} {g:gk} {d:List (Nat×bc D)} {j:List (ba D)} {v:af},Inv O j->dT e.next z c->(∀(i:Nat) (u:af),vs[i]? =J u->a[i]? =J u)->b9 X.G j c e f k a->fj X c a d (set fr o.dst v)->iI c f a n g->gC y z0 c (set fr o.dst v) d f n g->K g d j=J r->hQ P b B (i+1) l n Q (set fr o.dst v) f):
  cH P (bk fr) o m λt v F=>u7 B i A m t F/\hQ P b B (i+1) l (qL A i m t) Q (set fr o.dst v) F:=by
 unfold BH at h;split at h
 ·rename_i R I;obtain ⟨d,N,M,h⟩:=acq q h;have H:=s.split M;exact ad' w p N x H h C
 ·exact ad' w p q x s h C
def hQ.mono {a l:List Oper} {B:Array Nat} {i:Nat} {A:Acc} {K b:(Nat->af)->Mem->Prop} (h:hQ P a B i l A K fr m) (f:∀fr m,K fr m->b fr m):hQ P a B i l A b fr m:=
 let ⟨n,d,g,e,c⟩:=h;⟨n,d,g,e,f _ _ c⟩
def K0 (x:iV X) {B:Array Nat} {c:List Oper} {N:Nat} {K:List (Nat×bc D)->List (ba D)->Option ap}:∀{l:List Oper} {i:Nat} {A:Acc} {L:gk} {E:List (Nat×bc D)} {O:List (ba D)} {z:Nat->bW} {f:List af} {m:Mem} {a:Nat->af},b9 X.G O z e m k f->fj X z f E a->iI z m f A L->gC N z0 z a E m A L->vu X B c i l L E O K=J r->hQ P c B i l A (je X O z e k f K r) a m
 |[],i,A,L,E,O,z,f,m,a,n,p,y,R,h=>hQ.done λcb W=>by rw[W];exact je.here n p h
 |o::l,i,A,L,E,O,z,f,m,a,n,p,y,R,h=>by
  unfold vu at h;have u:∀{E:List (Nat×bc D)},fj X z f E a->gC N z0 z a E m A L->(BH X B i o L E O λL E O=>vu X B c (i+1) l L E O K)=J r->cH P (bk a) o m λt v Q=>u7 B i A m t Q/\hQ P c B (i+1) l (qL A i m t) (je X O z e k f K r) (set a o.dst v) Q:=by intro E p q h;refine atq x n p y q h ?_;intro z' vs' m' iH L' E' cr v Y h1 U T Z cK jH fJ;exact hQ.mono (K0 x T Z cK jH fJ) λ_ _ V=>V.from Y h1 U
  split at h
  ·grind [hQ.cons,wanted]
  ·rename_i j w q;split at h
   ·grind
   ·rename_i d I;obtain ⟨ia,C,S,h⟩:=acq p h;have M:=R.split S;have g:=C d;split at h
    ·rename_i b H;rw[H] at g;split at h
     ·rename_i F;exact hQ.Ud q I g F (u C M h)
     ·rename_i F;exact hQ.P3 q I g (by cases b<;>cases w<;>simp at F⊢) (K0 x n (C.put (s:= .undef) rfl) y M.skip h)
    ·rename_i H;rw[H] at g;exact hQ.X6 q I g (K0 x n (C.put (s:= .undef) rfl) y M.skip h)
    grind
def iI.start:iI z m vs ⟨[],[],[]⟩ ⟨[],[],[],[],[]⟩:=⟨by simp,by simp,by simp⟩
def qJ (X:e3 P D) (B:Code) (u:mP D):Prop:=∀{b:Type} (E:List (Nat×bc D)) (O:List (ba D)) (K:fG->List (Nat×bc D)->List (ba D)->Option b) (r:b) {z:Nat->bW} {e m:Mem} {k:Option Nat} {a:List af} {c:Nat->af},
 u.fits E O=aa->b9 X.G O z e m k a->fj X z a E c->u.run E O K=J r->W P (sub B u.path) (λx=>je X O z e k a (K x) r) c m
theorem WZ:∀(c:Code) (p q:List Nat),sub (sub c p) q=sub c (p++q):=by
 intro c p;induction p generalizing c with
 |nil=>intro q;cases c<;>rfl
 |cons i p d=>
  intro q;cases c with
  |seq a b=>cases i with
   |zero=>exact d a q
   |succ i=>exact d b q
  |cond x a b=>cases i with
   |zero=>exact d a q
   |succ i=>exact d b q
  |block n c=>cases i with
   |zero=>exact d c q
   |succ i=>exact d c q
  |scope c=>cases i with
   |zero=>exact d c q
   |succ i=>exact d c q
  |loop c=>cases i with
   |zero=>exact d c q
   |succ i=>exact d c q
  |_=>rcases q with _|⟨_|j,q⟩<;>cases i<;>rfl
def zo {B c:Code} {p:List Nat} {i:Nat} (h:sub B p.reverse=c):sub B (i::p).reverse=sub c [i]:=by grind [WZ]
def sc (c:Code):sub c []=c:=by cases c<;>rfl
theorem aev:∀{p q:List Nat},Jr p q=aa->p=q
 |[],[],_=>rfl
 |a::p,b::q,h=>by simp only[Jr,fx] at h;rw[kA h.1,aev h.2]
 |[],_::_,h=>by cases h
 |_::_,[],h=>by cases h
def aqt {a:List (mP D)} {p:List Nat} {u:mP D} (h:sf a p E O=J u):u∈a/\u.path=p/\u.fits E O=aa:=by
 induction a with
 |nil=>cases h
 |cons w a b=>
  grind [sf,aev]
def adf:∀{n:Nat} {O a:List (ba D)} {z:Nat->bW} {m:Mem} {b:List af},b9 X.G O z e m k b->LK n O=J a->∃d,Inv O a/\dT e.next z d/\b9 X.G a d e m k b
 |0,O,a,z,m,b,c,h=>by cases h;grind [Inv.refl,dT.refl]
 |n+1,O,a,z,m,b,c,h=>by
  simp only[LK] at h;split at h
  ·rename_i s j;obtain ⟨r,l,g,i⟩:=adf c j;split at h
   ·split at h
    ·grind
    ·obtain ⟨q,p,o,f⟩:=BZ i h;exact ⟨q,l.trans p,g.trans o,f⟩
   grind
  grind
def je.fill {K:List (Nat×bc D)->List (ba D)->Option ap} {r:ap} {f:List af} {d:Mem} {c:Nat->af} (h:je X O z e k f (vq K) r c d):je X O z e k f K r c d:=by
 obtain ⟨w,t,s,v,m,q,j,i,n,a⟩:=h;unfold vq at a;split at a
 ·rename_i o l;obtain ⟨u,p,b,g⟩:=adf i l;exact ⟨u,t,s,o,m.trans p,q.trans b,j,g,n.mono b.le λ_ _ h=>h,a⟩
 grind
def Lh (cW:iV X) {B:Code} {us:List (mP D)} {L:Nat} (te:∀u∈us,L<u.path.length->qJ X B u):
  ∀(c:Code) (f:Bool) (p:List Nat) (E:List (Nat×bc D)) (O:List (ba D)) (K:fG->List (Nat×bc D)->List (ba D)->Option ap) (r:ap) {z:Nat->bW} {s:List af} {m:Mem} {w:Nat->af},
   sub B p.reverse=c->L<=p.length->(f=ak->L<p.length)->b9 X.G O z e m k s->fj X z s E w->j8 X us calm f p c E O K=J r->W P c (λx=>je X O z e k s (K x) r) w m:=by
 intro c;have o:∀{c:Code} {f:Bool} {p:List Nat} {E:List (Nat×bc D)} {O:List (ba D)} {K:fG->List (Nat×bc D)->List (ba D)->Option ap} {r:ap} {z:Nat->bW} {s:List af} {m:Mem} {w:Nat->af} {u:mP D},
   sub B p.reverse=c->(f=ak->L<p.length)->b9 X.G O z e m k s->fj X z s E w->(if f=aa then ae else sf us p.reverse E O)=J u->u.run E O K=J r->W P c (λx=>je X O z e k s (K x) r) w m:=by
  intro c f p E O K r z s m w u q v n g y h;cases f with
  |true=>grind
  |false=>
   obtain ⟨C,F,A⟩:=aqt y;have:=te u C (by grind) E O K r A n g h
   grind
 induction c with
 |seq a b Z VJ=>
  intro f p E O K r z s m w q I v n g h;simp only[j8] at h;split at h
  ·rename_i u y;exact o q v n g y h
  ·refine W.seq ((Z ak (0::p) E O _ r (by rw[zo q];exact sc a) (by grind) (λ_=>by grind) n g h).mono ?_);rintro x fY m1 ⟨T,U,S,R,M,C,F,A,N,V⟩;cases x with
   |normal=>have V:=(if_pos rfl).symm.trans V;exact (VJ ak (1::p) S R K r (by rw[zo q];exact sc b) (by grind) (λ_=>by grind) A N V).mono λ_ _ _ H=>H.from M C F
   |exit i=>exact ⟨T,U,S,R,M,C,F,A,N,(if_neg (by simp)).symm.trans V⟩
   |ret=>exact ⟨T,U,S,R,M,C,F,A,N,(if_neg (by simp)).symm.trans V⟩
 |cond x a b Z VJ=>
  intro f p E O K r z s m w q I v n g h;simp only[j8] at h;split at h
  ·rename_i u y;exact o q v n g y h
  ·split at h
   ·rename_i t bf;have an:=WN g x;rw[bf] at an;cases t with
    |true=>rw[if_pos rfl] at h;exact W.amu an rfl (Z ak (0::p) E O K r (by rw[zo q];exact sc a) (by grind) (λ_=>by grind) n g h)
    |false=>rw[if_neg (by simp)] at h;exact W.Z0 an rfl (VJ ak (1::p) E O K r (by rw[zo q];exact sc b) (by grind) (λ_=>by grind) n g h)
   grind
 |scope c Y=>
  intro f p E O K r z s m w q I v n g h;simp only[j8] at h;split at h
  ·rename_i u y;exact o q v n g y h
  ·exact W.scope (Y ak (0::p) E O K r (by rw[zo q];exact sc c) (by grind) (λ_=>by grind) n g h)
 |block i c Y=>
  intro f p E O K r z s m w q I v n g h;simp only[j8] at h;split at h
  ·rename_i u y;exact o q v n g y h
  ·refine W.block ((Y ak (0::p) E O _ r (by rw[zo q];exact sc c) (by grind) (λ_=>by grind) n g h).mono ?_);rintro x fY m1 H;obtain ⟨T,U,S,R,M,C,F,A,N,V⟩:=H;cases x with
   |normal=>exact ⟨T,U,S,R,M,C,F,A,N,by grind⟩
   |exit j=>
    by_cases hq:j=i
    ·subst hq;exact pZ.rS ⟨T,U,S,R,M,C,F,A,N,by grind⟩
    ·exact pZ.qZ (by grind) ⟨T,U,S,R,M,C,F,A,N,by grind⟩
   |ret=>exact ⟨T,U,S,R,M,C,F,A,N,by grind⟩
 |region id ops d=>
  intro f p E O K r z s m w q I v n g h;simp only[j8] at h;split at h
  ·rename_i u y;exact o q v n g y h
  ·cases d with
   |true=>
    rw[if_pos rfl] at h;split at h
    ·rename_i ay;exact (W.calm (Q:=λx=>je X O z e k s (vq (K x)) r) ay (B9 cW n g h)).mono λ_ _ _ H=>H.fill
    ·exact (W.draw (Q:=λx=>je X O z e k s (vq (K x)) r) (K0 cW n g iI.start (gC.start n g) h)).mono λ_ _ _ H=>H.fill
   |false=>rw[if_neg (by simp)] at h;exact (W.region (Q:=λx=>je X O z e k s (vq (K x)) r) (B9 cW n g h)).mono λ_ _ _ H=>H.fill
 |loop c Y=>
  intro f p E O K r z s m w q I v n g h;simp only[j8] at h;split at h
  ·rename_i u y;exact o q v n g y h
  grind
 |skip=>intro f p E O K r z s m w q I v n g h;exact W.skip (je.here n g h)
 |label l=>intro f p E O K r z s m w q I v n g h;exact W.label (je.here n g h)
 |exit i=>intro f p E O K r z s m w q I v n g h;exact W.exit (je.here n g h)
 |ret=>intro f p E O K r z s m w q I v n g h;exact W.ret (je.here n g h)
 |_=>grind [j8]
end
end Go.aF
end
section
namespace Go.aF
inductive gR where
 |int (k:aG)|bool|str
 |bh (e:Nat)|mp (t bG bA:Nat)
 |agg (t:Nat)|hd (t:Nat)
 |fn (f:Nat) (ts:List Nat)
 |cut (j e:Nat)
inductive cw where
 |bh (e:Nat)|box (t:Nat)|recv (t:Nat)|arr (e t n:Nat)|map (t bG bA:Nat)
 |bL (t:Nat) (l:List (Nat×Nat))
 |uI (t f:Nat) (is:List Nat)
 |ne (e t:Nat)
inductive dt where
 |v (d:Nat) (c:gR)
 |o (d:Nat) (c:cw)
 |u (j:Nat) (c:cw)
noncomputable section
section
variable {P:bI} {D:Nat->Type}
def wF (D:Nat->Type):List Nat->Type|[]=>Unit|t::a=>D t×wF D a
def gR.ty (D:Nat->Type):gR->Type| .int _=>Int| .bool=>Bool| .str=>List UInt8| .bh e=>List (D e)| .mp _ b a=>List (D b×D a)| .agg t=>D t| .hd t=>D t| .fn _ c=>wF D c| .cut _ _=>Nat×Nat
def cw.ty (D:Nat->Type):cw->Type| .bh e=>List (D e)| .box t=>D t| .recv t=>D t| .arr e _ _=>List (D e)| .map _ b a=>List (D b×D a)| .bL t _=>D t| .uI _ _ _=>Unit| .ne _ t=>List (List (D t))
def dt.ty (D:Nat->Type):dt->Type| .v _ c=>c.ty D| .o _ c=>c.ty D| .u _ c=>c.ty D
def ft (D:Nat->Type):List dt->Type|[]=>Unit|i::a=>i.ty D×ft D a
variable (X:e3 P D)
def jl (t:Nat) (x:D t):List (cv D):=match X.I t with|some a=>a.kM x|none=>[]
def mA (t:Nat) (a:List (cv D)):Option (D t):=match X.I t with|some b=>b.qk a|none=>ae
def tD:(a:List Nat)->wF D a->List (Nat×List (cv D))|[],_=>[]|t::a,x=>(t,jl X t x.1)::tD a x.2
def xa:(c:List Nat)->List (Nat×List (cv D))->Option (wF D c)
 |[],[]=>J ()
 |t::c,p::l=>if p.1=t then (match mA X t p.2,xa c l with|some a,J b=>J (a,b)|_,_=>ae) else ae
 |_,_=>ae
def gR.mk:(c:gR)->c.ty D->bc D| .int k,n=> .c (.int k n)| .bool,b=> .c (.bool b)| .str,s=> .c (.str s)| .bh e,i=> .c (.bh e i)| .mp t d a,g=> .c (.mp t d a g)| .agg t,x=> .agg t (jl X t x)| .hd t,x=> .hd t (jl X t x) 0| .fn f h,x=> .fn f (tD X h x)| .cut j e,x=> .cut j e x.1 x.2
def gR.get:(c:gR)->bc D->Option (c.ty D)| .int k, .c (.int q n)=>if q=k then J n else ae| .bool, .c (.bool b)=>J b| .str, .c (.str s)=>J s| .bh e, .c .gE=>J []| .mp t m j, .c .oY=>J []| .bh e, .c (.bh g w)=>if h:g=e then J (h▸w) else ae| .mp t m j, .c (.mp a u r p)=>if h:u=m/\r=j then (if a=t then J (h.1▸h.2▸p) else ae) else ae| .agg t, .agg a d=>if a=t then mA X t d else ae| .hd t, .hd a d i=>if a=t/\i=0 then mA X t d else ae| .fn f v, .fn ma l=>if ma=f then xa X v l else ae| .cut _ e, .cut _ g o n=>if g=e then J (o,n) else ae|_,_=>ae
def nw:List (Nat×Nat)->Nat->Option Nat|[],_=>ae|p::l,i=>if fi p.1 i=aa then J p.2 else nw l i
def qi (a:Nat->Nat) (l:List (Nat×Nat)):Nat->List (cv D)->List (cv D)
 |_,[]=>[]
 |i,c::b=>(match nw l i with|some n=> .own (a n)|none=>c)::qi a l (i+1) b
def nQ (t:Nat):List (cv D):=match X.I t with|some a=>a.rk|none=>[]
def u6 (a:List (cv D)) (l:List (Nat×Nat)):Nat->List (cv D)->List (cv D)
 |_,[]=>[]
 |i,c::b=>(match nw l i with|some _=>a.getD i .gE|none=>c)::u6 a l (i+1) b
def cw.gO (b:Nat->Nat):(c:cw)->c.ty D->Bool->ba D| .bh e,a,w=> .bh e a ak w| .box t,x,w=> .box t (jl X t x) ak w| .recv t,x,w=> .recv t (jl X t x) w| .arr e t n,a,w=> .arr e t n a w| .map t g d,i,w=> .map t g d i ak w| .bL t l,x,w=> .box t (qi b l 0 (jl X t x)) ak w| .uI t f j,_,w=> .box t [.fn f (j.map b)] ak w| .ne e t,h,w=> .nest e t ((X.N e t).map vO.up) h ae w
def cw.mk (c:cw) (x:c.ty D) (w:Bool):ba D:=cw.gO X (λn=>n) c x w
def cw.hs:cw->List Nat| .bL _ l=>l.map Prod.snd| .uI _ _ a=>a|_=>[]
def oZ (a:Option Nat) (i:Nat):Bool:=match a with|some j=>fi j i|none=>ak
def Lv (a:List Nat) (b:List (cv D)):List (Nat×Nat)->Bool
 |[]=>aa
 |p::l=>(match b[p.1]? with|some (.own i)=>oZ (a[p.2]?) i|_=>ak)&&Lv a b l
def Ji (a:List Nat):List Nat->List Nat->Bool|[],[]=>aa|n::l,i::k=>oZ (a[n]?) i&&Ji a l k|_,_=>ak
def cw.get (g:List Nat):(c:cw)->ba D->Option (c.ty D)| .bh e, .bh cz d ak _=>if h:cz=e then J (h▸d) else ae| .box t, .box a b ak _=>if a=t then mA X t b else ae| .recv t, .recv a b _=>if a=t then mA X t b else ae| .arr e t n, .arr cz a s d _=>if h:cz=e then (if a=t/\s=n then J (h▸d) else ae) else ae| .map t j i, .map a q p m ak _=>if h:q=j/\p=i then (if a=t then J (h.1▸h.2▸m) else ae) else ae| .bL t l, .box a b ak _=>if a=t/\Lv g b l=aa then mA X t (u6 (nQ X t) l 0 b) else ae| .uI t f o, .box a [.fn r u] ak _=>if a=t/\r=f/\Ji g o u=aa then J () else ae| .ne e t, .nest cz a _ k ae _=>if h:a=t then (if cz=e then J (h▸k) else ae) else ae|_,_=>ae
def ba.clean:ba D->Bool| .box _ a _ _=>a.all zM| .recv _ a _=>a.all zM| .nest _ _ _ _ _ _=>ak|_=>aa
def UI (O:List (ba D)):bc D->Option (bc D×List (ba D))
 | .c c=>(match sY O c with|some (f,a)=>J (.c f,a)|none=>ae)
 | .agg t h=>(match uJ O h with|some (b,a)=>J (.agg t b,a)|none=>ae)
 | .cut i e g n=>(match v8 O i with|some (.bh d j,a)=>if d=e then J (.c (.bh d ((j.take n).drop g)),a) else ae|_=>ae)
 |s=>J (s,O)
def LM:bc D->Option Nat| .c (.own i)=>J i| .box i _=>J i| .arr i=>J i| .el i _ _ _=>J i|_=>ae
def xB (l:List (Nat×Nat)):Nat->List (cv D)->Bool
 |_,[]=>ak
 |i,c::a=>(match c with| .own _=>(match nw l i with|none=>aa|_=>ak)|_=>ak)||xB l (i+1) a
def Jw (l:List (Nat×Nat)):Nat->List (cv D)->List (ba D)->Option (List (cv D)×List (ba D))
 |_,[],O=>J ([],O)
 |i,c::e,O=>
  match (match nw l i with|some _=>J (c,O)|none=>sY O c) with
  |some (b,d)=>(match Jw l (i+1) e d with|some (a,f)=>J (b::a,f)|none=>ae)
  |none=>ae
def uK (l:List (Nat×Nat)) (O:List (ba D)) (i:Nat):Option (List (ba D)):=
 match O[i]? with
 |some (.box t b ak _)=>if xB l 0 b=aa then (match Jw l 0 b O with|some (a,c)=>J (c.set i (.box t a ak aa))|none=>ae) else J O
 |_=>J O
def UJ (c:gR) (O:List (ba D)) (s:bc D):Option (bc D×List (ba D)):=
 match c,s with
 | .cut _ _,s=>J (s,O)
 | .hd _, .box i a=>
  (match uK [] O i with
  |some b=>(match vp b (.box i a) with|some (p,d)=>J (.hd p.1 p.2 0,d)|none=>ae)
  |none=>ae)
 |_,s=>UI O s
def rL (E:List (Nat×bc D)):List dt->List (ba D)->Option (List (bc D)×List (ba D))
 |[],O=>J ([],O)
 | .v d c::a,O=>
  match UJ c O (eI E d) with
  |some (s,b)=>(match rL E a b with|some (l,e)=>J (s::l,e)|none=>ae)
  |none=>ae
 |_::a,O=>match rL E a O with|some (l,b)=>J (.un::l,b)|none=>ae
def rF:Nat:=2000000
def ZD:Nat:=100000000
def ZE:Nat:=200000000
def Co:List (cv D)->List Nat|[]=>[]| .own i::a=>i::Co a| .fn _ b::a=>b++Co a|_::a=>Co a
def ae8 (O:List (ba D)) (i:Nat):List Nat:=match O[i]? with|some (.box _ a _ _)=>Co a|some (.recv _ a _)=>Co a|_=>[]
def Xs (O:List (ba D)):Nat->List Nat->List Nat->List Nat|0,_,s=>s|_+1,[],s=>s|n+1,i::l,s=>if s.any (fi i)=aa then Xs O n l s else Xs O n (ae8 O i++l) (s++[i])
def ae3:List (Nat×bc D)->List Nat
 |[]=>[]
 |p::E=>(match LM p.2 with|some i=>[i]|none=>[])++ae3 E
def ae2 (E:List (Nat×bc D)) (O:List (ba D)):Nat->Nat->Option Nat
 |0,_=>ae
 |n+1,m=>if fi (m%64) 0=aa then LM (eI E (m / 64)) else (match ae2 E O n (m / 64) with|some i=>(ae8 O i)[m%64 - 1]? |none=>ae)
def T4 (E:List (Nat×bc D)) (O:List (ba D)) (d:Nat):Option Nat:=
 if iJ 1000000000 d=aa then LM (eI E d) else
 if iJ ZE d=aa then ae2 E O 8 (d - ZE) else
 if mn d rF=aa then LM (eI E d)
 else if iJ ZD d=aa then J (d - ZD)
 else match eI E ((d - rF) / 1000) with
  | .box i 0=>(match O[i]? with|some (.box _ a _ _)=>(match a[(d - rF)%1000]? with|some (.own n)=>J n|_=>ae)|_=>ae)
  |_=>ae
def I9 (E:List (Nat×bc D)) (O:List (ba D)):List dt->Option (List Nat)
 |[]=>J []
 | .o d _::a=>(match T4 E O d,I9 E O a with|some i,J l=>J (i::l)|_,_=>ae)
 |_::a=>I9 E O a
def pt (E:List (Nat×bc D)):List dt->List (ba D)->Option (List (ba D))
 |[],O=>J O
 | .o d (.box _)::a,O=>(match T4 E O d with|some i=>(match uK [] O i with|some b=>pt E a b|none=>ae)|none=>ae)
 | .o d (.bL _ l)::a,O=>(match T4 E O d with|some i=>(match uK l O i with|some b=>pt E a b|none=>ae)|none=>ae)
 | .u j (.box _)::a,O=>(match uK [] O j with|some b=>pt E a b|none=>ae)
 | .u j (.bL _ l)::a,O=>(match uK l O j with|some b=>pt E a b|none=>ae)
 |_::a,O=>pt E a O
def Z4 (a:List Nat):gR->bc D->Bool| .cut j _, .cut i _ _ _=>oZ (a[j]?) i|_,_=>aa
def iG (b:List Nat) (O:List (ba D)):(a:List dt)->List (bc D)->List Nat->Option (ft D a)
 |[],_,[]=>J ()
 | .v d c::a,s::l,e=>if Z4 b c s=aa then (match gR.get X c s,iG b O a l e with|some x,J y=>J (x,y)|_,_=>ae) else ae
 | .o d c::a,_::l,i::e=>
  match O[i]? with
  |some o=>(match cw.get X b c o,iG b O a l e with|some x,J y=>J (x,y)|_,_=>ae)
  |none=>ae
 | .u j c::a,_::l,e=>
  match O[j]? with
  |some o=>(match cw.get X b c o,iG b O a l e with|some x,J y=>J (x,y)|_,_=>ae)
  |none=>ae
 |_,_,_=>ae
def eU:(a:List dt)->ft D a->List (ba D)|[],_=>[]| .o _ c::a,x=>cw.mk X c x.1 ak::eU a x.2| .v _ _::a,x=>eU a x.2| .u _ _::a,x=>eU a x.2
def hc:(a:List dt)->ft D a->List (Nat×bc D)|[],_=>[]| .v d c::a,x=>(d,gR.mk X c x.1)::hc a x.2| .o _ _::a,x=>hc a x.2| .u _ _::a,x=>hc a x.2
def wa (a:List Nat):bc D->bc D->Bool| .c (.own j), .c (.own i)=>oZ (a[j]?) i| .box j o, .box i p=>oZ (a[j]?) i&&fi o p| .arr j, .arr i=>oZ (a[j]?) i| .c .gE, .c .gE=>aa| .c .za, .c .za=>aa| .c .oY, .c .oY=>aa| .undef, .undef=>aa| .un,_=>aa| .c (.int k n), .c (.int h l)=>decide (k=h)&&(n==l)| .c (.bool b), .c (.bool g)=>b==g| .fn f [], .fn e []=>fi f e| .hd t [.own j] o, .hd d [.own i] p=>oZ (a[j]?) i&&(fi t d&&fi o p)| .fn f [(t,[.own j])], .fn e [(d,[.own i])]=>oZ (a[j]?) i&&(fi t d&&fi f e)|_,_=>ak
def pE (a:Nat->Nat):bc D->bc D| .c (.own j)=> .c (.own (a j))| .box j o=> .box (a j) o| .arr j=> .arr (a j)| .hd t [.own j] o=> .hd t [.own (a j)] o| .fn f [(t,[.own j])]=> .fn f [(t,[.own (a j)])]|s=>s
def tE:List Nat->Bool|[]=>aa|i::l=> !(l.any λj=>fi j i)&&tE l
def Ci (l:List (Nat×Nat)):Nat->List (cv D)->Bool
 |_,[]=>aa
 |i,c::a=>(match nw l i with|some _=>aa|none=>zM c)&&Ci l (i+1) a
def cw.uF:cw->ba D->Bool| .bL _ l, .box _ a _ _=>Ci l 0 a|_,o=>o.clean
def zF (c:cw) (O:List (ba D)) (i:Nat):Bool:=match O[i]? with|some o=>o.nd|| !(c.uF o)|none=>aa
def mY (d:List Nat):(a:List dt)->ft D a->List Nat->List (ba D)->List (ba D)| .o _ c::a,x,i::b,O=>mY d a x.2 b (O.set i (cw.gO X (λn=>d.getD n 0) c x.1 (zF c O i)))| .v _ _::a,x,b,O=>mY d a x.2 b O| .u _ _::a,x,b,O=>mY d a x.2 b O|_,_,_,O=>O
def Lu (b:List dt) (e:List (Nat×bc D)) (E:List (Nat×bc D)) (O:List (ba D)):Option (ft D b×List Nat×List (ba D)):=match rL E b O,I9 E O b with|some (d,c),J a=>if tE a&&e.all λp=>wa a p.2 (eI E p.1) then match iG X a c b d a with|some x=>J (x,a,mY X a b x a c)|none=>ae else ae|_,_=>ae
def sl (a:List dt) (b:List (Nat×bc D)) (E:List (Nat×bc D)) (O:List (ba D)):Option (ft D a×List Nat×List (ba D)):=match pt E a O with|some c=>Lu X a b E c|none=>ae
end
section
variable {P:bI} {D:Nat->Type} {X:e3 P D} {z z':Nat->bW} {e m m':Mem} {k:Option Nat} {vs vs':List af} {fr:Nat->af} {E:List (Nat×bc D)} {O cr:List (ba D)}
def tC {t:Nat} {x:D t} {a:List af} (h:bP (ed X.G z vs) (jl X t x) a):bP (ed X.G z vs') (jl X t x) a:=by
 unfold jl at h⊢;split at h
 ·rename_i b _;exact b.rc z vs' x a (b.r6 z vs _ x a (b.V1 x) h)
 ·exact bP.mono (λ_ _ h=>h) (by cases a with|nil=>trivial|cons _ _=>exact h.elim)
def vl {t:Nat} {x:D t} {c:List (cv D)} {a:List af} (b:mA X t c=J x) (h:bP (ed X.G z vs) c a):bP (ed X.G z vs') (jl X t x) a:=by
 unfold mA at b;unfold jl;split at b
 ·rename_i d e;exact d.rc z vs' x a (d.r6 z vs c x a b h)
 grind
def LA {t:Nat} {x:D t} {a:List (cv D)} (b:mA X t a=J x) (h:a.all zM=aa):a=jl X t x:=by
 unfold mA at b;unfold jl;split at b
 ·rename_i c d;exact (c.Ko a x b).eq h
 grind
def auW {t:Nat} {x:D t} {b:List (cv D)} (a:mA X t b=J x):pR b (jl X t x):=by
 unfold mA at a;unfold jl;split at a
 ·rename_i c d;exact c.Ko b x a
 grind
def acC:∀{a:List Nat} {x:wF D a} {d:List af},bP (λc g=>lU X.G z vs c.2 0 g) (tD X a x) d->bP (λc g=>lU X.G z vs' c.2 0 g) (tD X a x) d
 |[],_,[],_=>trivial
 |[],_,_::_,h=>h.elim
 |t::a,x,[],h=>h.elim
 |t::a,x,g::d,⟨⟨b,o,j,k,f,e⟩,i⟩=>⟨⟨b,o,j,k,f,tC e⟩,acC i⟩
def acw:∀{d:List Nat} {l:List (Nat×List (cv D))} {x:wF D d} {e:List af},xa X d l=J x->bP (λc g=>lU X.G z vs c.2 0 g) l e->bP (λc g=>lU X.G z vs' c.2 0 g) (tD X d x) e
 |[],[],_,[],_,_=>trivial
 |[],[],_,_::_,_,h=>h.elim
 |[],_::_,_,_,h,_=>by cases h
 |_::_,[],_,_,h,_=>by cases h
 |t::d,p::l,x,[],_,h=>h.elim
 |t::d,p::l,x,g::e,h,⟨⟨b,o,n,q,i,f⟩,m⟩=>by
  simp only[xa] at h;split at h
  ·split at h
   ·rename_i a r k j;cases h;exact ⟨⟨b,o,n,q,i,vl k f⟩,acw j m⟩
   grind
  grind
def gR.y9:gR->Bool| .cut _ _=>ak|_=>aa
theorem gR.VP {c:gR} {x:c.ty D} {v:af} (k:c.y9=aa) (h:rel X.G z vs (gR.mk X c x) v):rel X.G z vs' (gR.mk X c x) v:=by
 cases c with
 |cut j e=>cases k
 |agg t=>obtain ⟨g,d,a⟩:=h;exact ⟨g,d,tC a⟩
 |hd t=>obtain ⟨b,o,g,d,a,i⟩:=h;exact ⟨b,o,g,d,a,tC i⟩
 |fn f m=>obtain ⟨l,d,a⟩:=h;exact ⟨l,d,acC a⟩
 |_=>exact h
def ad1 {a:Option Nat} {i:Nat} (h:oZ a i=aa):a=J i:=by
 unfold oZ at h
 grind [kA]
def gR.A7 {k:List Nat} {c:gR} {x:c.ty D} {s:bc D} {v:af} (q:∀(j i:Nat) (u:af),k[j]? =J i->vs[i]? =J u->vs'[j]? =J u) (n:Z4 k c s=aa) (a:gR.get X c s=J x) (h:rel X.G z vs s v):rel X.G z vs' (gR.mk X c x) v:=by
 unfold gR.get at a;split at a
 ·split at a
  ·rename_i d;cases a;subst d;exact h
  grind
 ·cases a;exact h
 ·cases a;exact h
 ·cases a;exact .inl ⟨h,rfl⟩
 ·cases a;exact .inl ⟨h,rfl⟩
 ·split at a
  ·rename_i d;cases a;subst d;exact h
  grind
 ·split at a
  ·rename_i d;split at a
   ·rename_i l;obtain ⟨f,e⟩:=d;subst f e l;cases a;exact h
   grind
  grind
 ·obtain ⟨_,a⟩:=gz a;obtain ⟨g,f,e⟩:=h;exact ⟨g,f,vl a e⟩
 ·obtain ⟨d,a⟩:=gz a;obtain ⟨b,o,g,f,e,m⟩:=h;exact ⟨b,o,g,by grind,e,vl a m⟩
 ·obtain ⟨d,a⟩:=gz a;subst d;obtain ⟨p,f,e⟩:=h;exact ⟨p,f,acw a e⟩
 ·obtain ⟨d,a⟩:=gz a;subst d;cases a;obtain ⟨w,f,e⟩:=h;exact ⟨w,⟨q _ _ _ (ad1 n) f.1,f.2⟩,e⟩
 grind
theorem cw.tn {a:Nat->Nat} {c:cw} {x:c.ty D} {w:Bool}:(cw.gO X a c x w).live=aa:=by cases c<;>rfl
theorem cw.Kc {a:Nat->Nat} {c:cw} {x:c.ty D} {w:Bool}:(cw.gO X a c x w).nd=w:=by cases c<;>first|rfl|simp[cw.gO,ba.nd]
theorem cw.u4 {c:cw} {x:c.ty D} {w:Bool}:(cw.mk X c x w).live=aa:=cw.tn
theorem lx {c d:Type} {R:c->d->Prop}:∀{l:List c} {k:List d},bP R l k↔l.length=k.length/\∀(i:Nat) (a:c) (b:d),l[i]? =J a->k[i]? =J b->R a b
 |[],[]=>by simp[bP]
 |[],_::_=>by simp[bP]
 |_::_,[]=>by simp[bP]
 |a::l,b::k=>by
  simp only[bP,lx (l:=l) (k:=k),ry];constructor
  ·grind
  ·rintro ⟨h,e⟩;exact ⟨e 0 a b rfl rfl,by omega,λi x y g f=>e (i+1) x y (by grind) (by grind)⟩
theorem B5 {b:Nat->Nat} {l:List (Nat×Nat)}:∀{cs:List (cv D)} {a i:Nat},(qi b l a cs)[i]? =(cs[i]?).map λc=>match nw l (a+i) with|some n=> .own (b n)|none=>c
 |[],a,i=>by rfl
 |c::cs,a,0=>by rfl
 |c::cs,a,i+1=>by simp only[qi,qH];rw[B5 (cs:=cs),show a+1+i=a+(i+1) by omega]
theorem ac7 {b:List (cv D)} {l:List (Nat×Nat)}:∀{cs:List (cv D)} {a i:Nat},(u6 b l a cs)[i]? =(cs[i]?).map λc=>match nw l (a+i) with|some _=>b.getD (a+i) .gE|none=>c
 |[],a,i=>by rfl
 |c::cs,a,0=>by rfl
 |c::cs,a,i+1=>by simp only[u6,qH];rw[ac7 (cs:=cs),show a+1+i=a+(i+1) by omega]
theorem Wy {b:Nat->Nat} {l:List (Nat×Nat)}:∀{cs:List (cv D)} {a:Nat},(qi b l a cs).length=cs.length
 |[],_=>rfl
 |c::cs,a=>by simp[qi,Wy (cs:=cs)]
def XE {t:Nat} (i:Nat):∃v,∀(z:Nat->bW) (a:List af),ed X.G z a ((nQ X t).getD i .gE) v:=by
 unfold nQ;cases f:X.I t with
 |none=>exact ⟨.slice ae 0 0,λz a=>rfl⟩
 |some d=>
  simp only;cases b:d.rk[i]? with
  |none=>exact ⟨.slice ae 0 0,λz a=>by rw[YV,b];rfl⟩
  |some c=>obtain ⟨v,e,_⟩:=(d.qX (λ_=> .dead) []).get i c b;refine ⟨v,λz a=> ?_⟩;rw[YV,b];exact (lx.1 (d.qX z a)).2 i c v b e
theorem adj {b:List (cv D)} {l:List (Nat×Nat)}:∀{cs:List (cv D)} {a:Nat},(u6 b l a cs).length=cs.length
 |[],_=>rfl
 |c::cs,a=>by simp[u6,adj (cs:=cs)]
def B1:∀{l:List (Nat×Nat)} {i n:Nat},nw l i=J n->(i,n)∈l
 |[],_,_,h=>by cases h
 |p::l,i,n,h=>by
  simp only[nw] at h;split at h
  ·grind [kA]
  ·exact kn _ (B1 h)
theorem KP {b:List Nat} {c:List (cv D)}:∀{l:List (Nat×Nat)},Lv b c l=aa->∀p∈l,∃i,c[p.1]? =J (.own i)/\b[p.2]? =J i
 |[],_,_,h=>by grind
 |q::l,h,p,a=>by
  simp only[Lv,fx] at h;rcases ha.1 a with rfl|a
  ·grind [oZ,kA]
  ·exact KP h.2 p a
theorem as9 {t:Nat} {x:D t}:(jl X t x).all qf=aa:=by
 unfold jl;split
 ·rename_i a _;exact a.VN x
 rfl
theorem aqH {c:cv D} {v:af} (a:qf c=aa) (h:ed X.G z vs c v) (d:∀f b,c≠ .fn f b):ed X.G z vs' c v:=by
 cases c<;>first|exact h|cases a|grind
theorem aq6 {c:cv D} {v:af} (d:qf c=aa) (h:ed X.G z vs c v):ed X.G z vs' c v:=by
 cases c with
 |fn f g=>
  cases g with
  |nil=>obtain ⟨a,e,b⟩:=h;exact ⟨a,e,by cases a with|nil=>trivial|cons _ _=>exact b.elim⟩
  |cons _ _=>cases d
 |_=>grind [aqH]
def XH (i:Nat):ba D->Prop| .box _ a _ _=> .own i∈a\/∃f b, .fn f b∈a/\i∈b|_=>False
def Lb {a:List Nat}:∀{l k:List Nat},Ji a l k=aa->bP (λn i=>a[n]? =J i) l k
 |[],[],_=>trivial
 |n::l,i::k,h=>by simp only[Ji,fx] at h;exact ⟨ad1 h.1,Lb h.2⟩
 |[],_::_,h=>by cases h
 |_::_,[],h=>by cases h
def adR {d f:Nat->Nat}:∀{a:List Nat} {b:List af},(∀n∈a,∀u,vs[d n]? =J u->vs'[f n]? =J u)->bP (sQ vs) (a.map d) b->bP (sQ vs') (a.map f) b
 |[],[],_,_=>trivial
 |[],_::_,_,h=>h.elim
 |_::_,[],_,h=>h.elim
 |n::a,g::b,c,⟨e,i⟩=>⟨⟨c n oG g e.1,e.2⟩,adR (λm j=>c m (kn _ j)) i⟩
def adS {e:List Nat} {f:Nat->Nat} (d:∀n i u,e[n]? =J i->vs[i]? =J u->vs'[f n]? =J u):∀{b c:List Nat} {a:List af},bP (λn i=>e[n]? =J i) b c->bP (sQ vs) c a->bP (sQ vs') (b.map f) a
 |[],[],[],_,_=>trivial
 |_::_,[],_,h,_=>h.elim
 |[],_::_,_,h,_=>h.elim
 |[],[],_::_,_,h=>h.elim
 |_::_,_::_,[],_,h=>h.elim
 |n::b,j::c,g::a,⟨o,l⟩,⟨k,m⟩=>⟨⟨d n j g o k.1,k.2⟩,adS d l m⟩
def cw.abB {A F:Nat->Nat} {c:cw} {x:c.ty D} {v:af} {w:Bool} (O:Bool) (h:hf X.G z e m k vs (cw.gO X A c x w) v) (B:∀n∈c.hs,XH (A n) (cw.gO X A c x w)->∀u,vs[A n]? =J u->vs'[F n]? =J u):hf X.G z e m k vs' (cw.gO X F c x O) v:=by
 cases c with
 |box t=>obtain ⟨b,g,q,j,s,o⟩:=h;exact ⟨b,g,q,j,s,tC o⟩
 |recv t=>obtain ⟨b,g,q,j,o⟩:=h;exact ⟨b,g,q,j,tC o⟩
 |bL t l=>
  obtain ⟨b,g,q,j,s,o⟩:=h;refine ⟨b,g,q,j,s,lx.2 ⟨?_,λi a d r I=> ?_⟩⟩
  ·grind [lx,Wy]
  ·rw[B5] at r;obtain ⟨Q,H,r⟩:=vT.1 r;have y:=(lx.1 o).2 i _ d (by rw[B5,H];rfl) I;rw[lH] at r y;cases E:nw l i with
   |none=>
    grind [aq6,as9]
   |some n=>rw[E] at r y;subst r;exact ⟨B n (l2.2 ⟨_,B1 E,rfl⟩) (.inl (mM (i:=i) (by grind [B5]))) d y.1,y.2⟩
 |uI t f S=>
  obtain ⟨b,g,q,j,s,o⟩:=h;refine ⟨b,g,q,j,s, ?_⟩
  match g,o with
  |[d],⟨⟨M,K,L⟩,_⟩=>exact ⟨⟨M,K,adR (λn C=>B n C (.inr ⟨f,_,oG,l2.2 ⟨n,C,rfl⟩⟩)) L⟩,trivial⟩
 |ne e t=>obtain ⟨N,P,h⟩:=h;exact ⟨N,P,h.bT,h.len,h.oU,λp R=>by grind⟩
 |_=>exact h
def cw.y8 {a nR:Nat->Nat} {c:cw} {x:c.ty D} {v:af} {w:Bool} (b:Bool) (h:hf X.G z e m k vs (cw.gO X a c x w) v) (d:∀n∈c.hs,∀u,vs[a n]? =J u->vs'[nR n]? =J u):hf X.G z e m k vs' (cw.gO X nR c x b) v:=cw.abB b h λn f _=>d n f
def auf {e t:Nat}:ZB X.G e t ((X.N e t).map vO.up):=by
 intro f b;cases c:X.N e t with
 |none=>grind
 |some a=>rw[c] at b;cases b;exact ⟨a.cN,a.tid,a.aV⟩
theorem cw.A7 {L:List Nat} {N:Nat->Nat} {c:cw} {x:c.ty D} {o:ba D} {v:af} (f:cw.get X L c o=J x) (h:hf X.G z e m k vs o v) (F:∀n i u,L[n]? =J i->vs[i]? =J u->vs'[N n]? =J u) (w:Bool):hf X.G z e m k vs' (cw.gO X N c x w) v:=by
 unfold cw.get at f;split at f
 ·split at f
  ·rename_i g;cases f;subst g;exact h
  grind
 ·obtain ⟨g,f⟩:=gz f;subst g;obtain ⟨b,q,r,j,A,s⟩:=h;exact ⟨b,q,r,j,A,vl f s⟩
 ·obtain ⟨g,f⟩:=gz f;subst g;obtain ⟨b,q,r,j,s⟩:=h;exact ⟨b,q,r,j,vl f s⟩
 ·split at f
  ·rename_i g;split at f
   ·rename_i B;obtain ⟨r,j⟩:=B;subst g r j;cases f;exact h
   grind
  grind
 ·split at f
  ·rename_i g;split at f
   ·rename_i B;obtain ⟨r,j⟩:=g;subst r j B;cases f;exact h
   grind
  grind
 ·rename_i t l O S ez;obtain ⟨g,f⟩:=gz f;obtain ⟨rfl,Q⟩:=g;obtain ⟨b,q,r,j,A,s⟩:=h;have P:=(lx.1 s).1;have I:bP (ed X.G z vs) (u6 (nQ X O) l 0 S) ((mN q.length).map λi=>match nw l i with|some _=>YA (XE (X:=X) (t:=O) i)|none=>q.getD i undef):=by
   grind [lx,adj,ac7]
  have I:=vl (vs':=vs') f I;refine ⟨b,q,r,j,A,lx.2 ⟨by grind [Wy,lx],λi a d y M=> ?_⟩⟩;rw[B5] at y;obtain ⟨W,Z,y⟩:=vT.1 y;rw[lH] at y;have Y:i<q.length:=(fq.1 M).1;cases K:nw l i with
  |none=>
   grind [lx]
  |some n=>rw[K] at y;subst y;obtain ⟨U,C,E⟩:=KP Q _ (B1 K);have H:=(lx.1 s).2 i _ d C M;exact ⟨F n U d E H.1,H.2⟩
 ·obtain ⟨⟨rfl,rfl,R⟩,f⟩:=gz f;obtain ⟨b,q,r,j,A,s⟩:=h;refine ⟨b,q,r,j,A, ?_⟩
  match q,s with
  |[d],⟨⟨T,C,E⟩,_⟩=>exact ⟨⟨T,C,adS F (Lb R) E⟩,trivial⟩
 ·split at f
  ·rename_i g;subst g;obtain ⟨g,f⟩:=gz f;subst g;cases f;obtain ⟨_,V,h⟩:=h;exact ⟨auf,V,h.bT,h.len,h.oU,λp bb=>by grind⟩
  grind
 grind
theorem cw.amY {e:List Nat} {c:cw} {x:c.ty D} {o:ba D} (g:cw.get X e c o=J x):∀n∈c.hs,∃i,e[n]? =J i:=by
 intro n d;unfold cw.get at g;split at g
 ·grind [cw.hs]
 ·grind [cw.hs]
 ·grind [cw.hs]
 ·grind [cw.hs]
 ·grind [cw.hs]
 ·obtain ⟨⟨_,q⟩,_⟩:=gz g;obtain ⟨p,r,rfl⟩:=l2.1 d
  grind [KP]
 ·rename_i t f v s w y u;obtain ⟨⟨_,_,m⟩,_⟩:=gz g;have:∀{l k:List Nat},bP (λn i=>e[n]? =J i) l k->∀n∈l,∃i,e[n]? =J i:=by
   intro l;induction l with
   |nil=>grind
   |cons a l j=>
    intro k h n d;cases k with
    |nil=>exact h.elim
    |cons b k=>
     rcases ha.1 d with rfl|d
     ·exact ⟨b,h.1⟩
     ·exact j h.2 n d
  exact this (Lb m) n d
 ·grind [cw.hs]
 grind
theorem cw.UL {b:List Nat} {c:cw} {x:c.ty D} {o:ba D} (a:cw.get X b c o=J x):o.live=aa:=by
 unfold cw.get at a;split at a<;>first|rfl|grind
def acH {e:Nat->Nat} {k:List (cv D)} {l:List (Nat×Nat)}:∀{cs ds:List (cv D)} {i:Nat},pR (u6 k l i cs) ds->Ci l i cs=aa->(∀j n,nw l (i+j)=J n->cs[j]? =ae\/cs[j]? =J (.own (e n)))->qi e l i ds=cs
 |[],[],_,_,_,_=>rfl
 |[],_::_,_,h,_,_=>h.elim
 |_::_,[],_,h,_,_=>h.elim
 |c::cs,d::ds,i,h,b,a=>by
  simp only[Ci,fx] at b;have f:=acH (cs:=cs) (ds:=ds) (i:=i+1) h.2 b.2 λj n o=>by have:=a (j+1) n (by grind);simpa using this
  simp only[qi,f];have g:=a 0;rw[pS] at g;cases m:nw l i with
  |some n=>
   grind
  |none=>
   have p:=h.1
   grind
theorem cw.amX {g:List Nat} {c:cw} {x:c.ty D} {o:ba D} (d:cw.get X g c o=J x) (h:c.uF o=aa):o=cw.gO X (λn=>g.getD n 0) c x o.nd:=by
 unfold cw.get at d;split at d
 ·split at d
  ·rename_i e;cases d;subst e;rfl
  grind
 ·obtain ⟨e,d⟩:=gz d;subst e;simp only[cw.gO,ba.nd];rw[<-LA d h]
 ·obtain ⟨e,d⟩:=gz d;subst e;simp only[cw.gO,ba.nd];rw[<-LA d h]
 ·split at d
  ·rename_i e;split at d
   ·rename_i m;obtain ⟨q,p⟩:=m;subst e q p;cases d;rfl
   grind
  grind
 ·split at d
  ·rename_i e;split at d
   ·rename_i m;obtain ⟨q,p⟩:=e;subst q p m;cases d;rfl
   grind
  grind
 ·rename_i t l w v y;obtain ⟨⟨rfl,s⟩,d⟩:=gz d;simp only[cw.gO,ba.nd];rw[acH (auW d) (h:Ci l 0 v=aa) λj n z=> .inr ?_];obtain ⟨i,A,B⟩:=KP s (j,n) (B1 (by grind))
  grind
 ·rename_i t f C w E F y;obtain ⟨⟨rfl,rfl,u⟩,d⟩:=gz d;have:∀{l k:List Nat},bP (λn i=>g[n]? =J i) l k->l.map (λn=>g.getD n 0)=k:=by
   intro l;induction l with
   |nil=>intro k e;cases k with
    |nil=>rfl
    |cons _ _=>exact e.elim
   |cons a l r=>
    intro k e;cases k with
    |nil=>exact e.elim
    |cons b k=>rw[rA,r e.2,YV,e.1];rfl
  simp only[cw.gO,ba.nd];rw[this (Lb u)]
 ·split at d
  ·rename_i e;subst e;obtain ⟨e,d⟩:=gz d;subst e;cases h
  grind
 grind
end
end
end Go.aF
end
section
namespace Go.aF
section
variable {P:bI} {D:Nat->Type} {X:e3 P D} {z z':Nat->bW} {e m m':Mem} {k:Option Nat} {vs vs':List af} {fr:Nat->af} {E:List (Nat×bc D)} {O cr:List (ba D)}
def b9.G3 (h:b9 X.G O z e m k vs) (len:vs'.length=cr.length) (a:Nat->Nat)
  (f:∀(i:Nat) (o:ba D),cr[i]? =J o->o.live=aa->∃p v,O[a i]? =J p/\p.live=aa/\vs[a i]? =J v/\vs'[i]? =J v/\hf X.G z e m k vs' o v)
  (I:∀(i:Nat) (o:ba D) (v:af),cr[i]? =J o->o.live=ak->vs'[i]? =J v->hf X.G z e m k vs' o v)
  (c:∀(i j:Nat) (o p:ba D),cr[i]? =J o->cr[j]? =J p->o.live=aa->p.live=aa->a i=a j->i=j):b9 X.G cr z e m k vs' where
 aS:=h.aS
 len:=len
 obj:=λi o v b d=>by
  grind
 fD:=λi j o p v w C b l n g d E=>by obtain ⟨H,K,y,A,B,q,_⟩:=f i o b n;obtain ⟨F,L,t,s,x,r,_⟩:=f j p l g;rw[d] at q;cases q;rw[E] at r;cases r;exact h.fD (a i) (a j) H F v w (λu=>C (c i j o p b l n g u)) y t A s B x
def hf.frozen {o:ba D} {v:af} (a:o.live=ak) (h:hf X.G z e m k vs o v) (c:fl z z') (d:∀(i:Nat) (u:af),vs[i]? =J u->vs'[i]? =J u):hf X.G z' e m' k vs' o v:=by
 cases o with
 |dead=>trivial
 |bh t s bZ _=>cases bZ with
  |true=>exact fA.mono c h
  |false=>cases a
 |box t q bZ _=>cases bZ with
  |true=>obtain ⟨b,j,l,g,f⟩:=h;exact ⟨b,j,l,Kp c g,pb.mono f c d⟩
  |false=>cases a
 |map t p n r bZ _=>cases bZ with
  |true=>exact nn.mono h c
  |false=>cases a
 |_=>cases a
def Cm (h:∀p∈E,rel X.G z vs p.2 (fr p.1)):fj X z vs E fr:=by
 induction E with
 |nil=>intro d;trivial
 |cons p E a=>exact (a λq b=>h q (kn _ b)).cons (h p oG)
def asY {s q:bc D} {v:af} (f:b9 X.G O z e m k vs) (h:UI O s=J (q,cr)) (d:rel X.G z vs s v):∃a,Inv O cr/\dT e.next z a/\b9 X.G cr a e m k vs/\rel X.G a vs q v:=by
 unfold UI at h;split at h
 ·split at h
  ·rename_i c A p b;cases h;exact zw f b d
  grind
 ·split at h
  ·rename_i t B r p b;cases h;obtain ⟨u,o,g⟩:=d;obtain ⟨a,i,j,l,n⟩:=K1 f b g;exact ⟨a,i,j,l,u,o,n⟩
  grind
 ·split at h
  ·rename_i y C p b;split at h
   ·rename_i x;subst x;cases h;obtain ⟨w,o,g⟩:=d;obtain ⟨a,i,j,l,n⟩:=zw (c:= .own _) f b o;exact ⟨a,i,j,l,g.avG n⟩
   grind
  grind
 grind [Inv.refl,dT.refl]
theorem arZ {i j t:Nat} {c:cv D} {a:List (cv D)} {bZ w:Bool} (h:v8 O j=J (c,cr)) (b:O[i]? =J (.box t a bZ w)):cr[i]? =J (.box t a bZ w):=by
 unfold v8 at h;split at h
 ·grind
 ·grind
 ·grind
 grind
theorem arY {i t:Nat} {c b:cv D} {a:List (cv D)} {bZ w:Bool} (h:sY O c=J (b,cr)) (d:O[i]? =J (.box t a bZ w)):cr[i]? =J (.box t a bZ w):=by
 unfold sY at h
 grind [arZ]
def adK {l:List (Nat×Nat)}:∀{o a:List (cv D)} {n:Nat} {O b:List (ba D)} {q:List af} {z:Nat->bW},b9 X.G O z e m k vs->Jw l n o O=J (a,b)->bP (ed X.G z vs) o q->
  ∃s,Inv O b/\dT e.next z s/\b9 X.G b s e m k vs/\bP (ed X.G s vs) a q/\∀(i t:Nat) (g:List (cv D)) (bZ w:Bool),O[i]? =J (.box t g bZ w)->b[i]? =J (.box t g bZ w)
 |[],a,n,O,b,[],z,u,h,_=>by cases h;grind [Inv.refl,dT.refl]
 |c::o,a,n,O,b,d::q,z,u,h,⟨L,C⟩=>by
  unfold Jw at h;split at h
  ·rename_i F p v;split at h
   ·rename_i E R M;cases h;have j:∃f,Inv O p/\dT e.next z f/\b9 X.G p f e m k vs/\ed X.G f vs F d/\∀(i t:Nat) (g:List (cv D)) (bZ w:Bool),O[i]? =J (.box t g bZ w)->p[i]? =J (.box t g bZ w):=by
     split at v
     ·grind [Inv.refl,dT.refl]
     ·obtain ⟨f,y,r,A,B⟩:=zw u v L
      grind [arY]
    obtain ⟨f,y,r,A,B,K⟩:=j;obtain ⟨Q,P,x,H,I,N⟩:=adK A M (pb.mono C r.le λ_ _ h=>h);exact ⟨Q,y.trans P,r.trans x,H,⟨ed.mono B x.le λ_ _ h=>h,I⟩,λ_ _ _ _ _ h=>N _ _ _ _ _ (K _ _ _ _ _ h)⟩
   grind
  grind
 |[],_,_,_,_,_::_,_,_,_,h=>h.elim
 |_::_,_,_,_,_,[],_,_,_,h=>h.elim
def adN {l:List (Nat×Nat)} {i:Nat} (j:b9 X.G O z e m k vs) (h:uK l O i=J cr):∃r,Inv O cr/\dT e.next z r/\b9 X.G cr r e m k vs:=by
 unfold uK at h;split at h
 ·rename_i t I w g;split at h
  ·split at h
   ·rename_i A B x;cases h;obtain ⟨v,f,b,n,q,u,s,y⟩:=j.at g;obtain ⟨o,C,D,c,E,F⟩:=adK j x y;have a:=F _ _ _ _ _ g;obtain ⟨K,N,p,d,L,M⟩:=c.obj i _ v a f;have H:jQ o e m k b n t:=by
     rw[q] at p;cases p;exact ⟨u.blk,d.lt,d.dead,d.fresh⟩
    refine ⟨o,C.trans (Inv.set B i (.inr rfl)),D,c.pF (m':=m) a f rfl ⟨e4 _,c.aS.dead,λ_ _ _=>rfl⟩ c.aS ⟨b,n,q,H,s,E⟩⟩
   grind
  grind [Inv.refl,dT.refl]
 grind [Inv.refl,dT.refl]
def zv:∀{aQ:List dt} {O a:List (ba D)} {z:Nat->bW},b9 X.G O z e m k vs->pt E aQ O=J a->∃f,Inv O a/\dT e.next z f/\b9 X.G a f e m k vs
 |[],O,a,z,b,h=>by cases h;grind [Inv.refl,dT.refl]
 |it::aQ,O,a,z,b,h=>by
  have B:∀{l:List (Nat×Nat)} {i:Nat},(match uK l O i with|some a=>pt E aQ a|none=>ae)=J a->∃f,Inv O a/\dT e.next z f/\b9 X.G a f e m k vs:=by
   intro l i h;split at h
   ·rename_i y g;obtain ⟨A,q,r,s⟩:=adN b g;obtain ⟨x,w,p,n⟩:=zv s h;exact ⟨x,q.trans w,r.trans p,n⟩
   grind
  cases it with
  |v d c=>exact zv (aQ:=aQ) b h
  |o d c=>
   cases c with
   |box t=>
    grind [pt]
   |bL t l=>
    grind [pt]
   |_=>exact zv (aQ:=aQ) b h
  |u j c=>
   cases c with
   |box t=>grind [pt]
   |bL t l=>grind [pt]
   |_=>exact zv (aQ:=aQ) b h
def yd (X:e3 P D) (z:Nat->bW) (c:List af) (b:Nat->af):List dt->List (bc D)->Prop|[],[]=>True| .v d _::a,s::l=>rel X.G z c s (b d)/\yd X z c b a l| .o _ _::a,_::l=>yd X z c b a l| .u _ _::a,_::l=>yd X z c b a l|_,_=>False
def asZ {c:gR} {s g:bc D} {v:af} (d:b9 X.G O z e m k vs) (h:UJ c O s=J (g,cr)) (b:rel X.G z vs s v):∃a,Inv O cr/\dT e.next z a/\b9 X.G cr a e m k vs/\rel X.G a vs g v:=by
 unfold UJ at h;split at h
 ·grind [Inv.refl,dT.refl]
 ·rename_i t i x;split at h
  ·rename_i A j;split at h
   ·rename_i p C l;cases h;obtain ⟨B,r,f,u⟩:=adN d j;obtain ⟨y,w,o,n,q⟩:=KJ u (rel.mono b f.le λ_ _ h=>h) l;exact ⟨y,r.trans w,f.trans o,n,q⟩
   grind
  grind
 ·exact asY d h b
def w2:∀{aQ:List dt} {O f:List (ba D)} {l:List (bc D)} {z:Nat->bW},b9 X.G O z e m k vs->fj X z vs E fr->rL E aQ O=J (l,f)->∃i,Inv O f/\dT e.next z i/\b9 X.G f i e m k vs/\yd X i vs fr aQ l
 |[],O,f,l,z,a,b,h=>by cases h;exact ⟨z,Inv.refl _,dT.refl z,a,trivial⟩
 | .v d c::aQ,O,f,l,z,a,b,h=>by
  simp only[rL] at h;split at h
  ·rename_i s F r;split at h
   ·rename_i p n g;cases h;obtain ⟨H,x,q,y,A⟩:=asZ a r (b d);obtain ⟨C,B,j,t,w⟩:=w2 y (b.mono q.le λ_ _ h=>h) g;exact ⟨C,x.trans B,q.trans j,t,rel.mono A j.le λ_ _ h=>h,w⟩
   grind
  grind
 | .o d c::aQ,O,f,l,z,a,b,h=>by
  simp only[rL] at h;split at h
  ·rename_i p n g;cases h;exact w2 (aQ:=aQ) a b g
  grind
 | .u d c::aQ,O,f,l,z,a,b,h=>by
  simp only[rL] at h;split at h
  ·rename_i p n g;cases h;exact w2 (aQ:=aQ) a b g
  grind
structure yh (D:Nat->Type) where
 c:cw
 x:c.ty D
def cos:(a:List dt)->ft D a->List (yh D)|[],_=>[]| .o _ c::a,x=>⟨c,x.1⟩::cos a x.2| .v _ _::a,x=>cos a x.2| .u _ _::a,x=>cos a x.2
theorem mD:∀{aQ:List dt} {x:ft D aQ},eU X aQ x=(cos aQ x).map λq=>cw.mk X q.c q.x ak
 |[],_=>rfl
 | .o d c::aQ,x=>by show cw.mk X c x.1 ak::eU X aQ x.2=cw.mk X c x.1 ak::(cos aQ x.2).map _;rw[mD]
 | .v d c::aQ,x=>mD (aQ:=aQ)
 | .u d c::aQ,x=>mD (aQ:=aQ)
def yq (X:e3 P D) (a:List Nat) (O:List (ba D)):List Nat->List (yh D)->Prop:=bP λi q=>∃o,O[i]? =J o/\cw.get X a q.c o=J q.x
theorem zN {r:List Nat} (n:∀(j i:Nat) (u:af),r[j]? =J i->vs[i]? =J u->vs'[j]? =J u):∀{e:List dt} {l:List (bc D)} {m:List Nat} {x:ft D e},iG X r O e l m=J x->yd X z vs fr e l->∀p∈hc X e x,rel X.G z vs' p.2 (fr p.1)
 |[],_,_,_,_,_=>by simp[hc]
 | .v d c::e,[],_,_,_,h=>h.elim
 | .o d c::e,[],_,_,_,h=>h.elim
 | .u d c::e,[],_,_,_,h=>h.elim
 | .v d c::e,s::l,m,x,h,g=>by
  simp only[iG] at h;obtain ⟨t,h⟩:=gz h;split at h
  ·rename_i a b q k;cases h;intro p f;simp only[hc,ha] at f;rcases f with rfl|f
   ·exact gR.A7 n t q g.1
   ·exact zN n k g.2 p f
  grind
 | .o d c::e,s::l,[],x,h,g=>by cases h
 | .o d c::e,s::l,i::m,x,h,g=>by
  simp only[iG] at h;split at h
  ·split at h
   ·rename_i a b q k;cases h;intro p f;exact zN n k g p f
   grind
  grind
 | .u d c::e,s::l,m,x,h,g=>by
  simp only[iG] at h;split at h
  ·split at h
   ·rename_i a b q k;cases h;intro p f;exact zN n k g p f
   grind
  grind
def CG {j:List Nat}:∀{e:List dt} {l:List (bc D)} {f:List Nat} {x:ft D e},iG X j O e l f=J x->yq X j O f (cos e x)
 |[],[],[],_,_=>trivial
 |[],_::_,[],_,_=>trivial
 |[],_,_::_,_,h=>by grind [iG]
 | .v d c::e,[],_,_,h=>by grind [iG]
 | .o d c::e,[],_,_,h=>by grind [iG]
 | .u d c::e,[],_,_,h=>by grind [iG]
 | .v d c::e,s::l,f,x,h=>by
  simp only[iG] at h;obtain ⟨_,h⟩:=gz h;split at h
  ·rename_i a b k g;cases h;show yq X j O f (cos e b);exact CG g
  grind
 | .o d c::e,s::l,[],x,h=>by cases h
 | .o d c::e,s::l,i::f,x,h=>by
  simp only[iG] at h;split at h
  ·rename_i o m;split at h
   ·rename_i a b k g;cases h;exact ⟨⟨o,m,k⟩,CG g⟩
   grind
  grind
 | .u d c::e,s::l,f,x,h=>by
  simp only[iG] at h;split at h
  ·split at h
   ·rename_i a b k g;cases h;show yq X j O f (cos e b);exact CG g
   grind
  grind
def ab' {i:Nat} {l:List Nat} (h:tE (i::l)=aa):i∉l/\tE l=aa:=by
 simp only[tE,fx,Aq,List.any_eq_false] at h;refine ⟨λa=> ?_,h.2⟩;exact h.1 i a (by simp)
theorem We:∀{l:List Nat},tE l=aa->∀(a b i:Nat),l[a]? =J i->l[b]? =J i->a=b
 |[],_,a,b,i,h,_=>by grind
 |x::l,h,a,b,i,d,c=>by
  obtain ⟨f,e⟩:=ab' h;cases a with
  |zero=>
   grind
  |succ a=>
   cases b with
   |zero=>
    grind
   |succ b=>simp at d c;rw[We e a b i d c]
def Y3 (X:e3 P D) (a:List Nat) (O:List (ba D)):List Nat->List (yh D)->Prop:=bP λi q=>∃w,O[i]? =J (cw.gO X (λn=>a.getD n 0) q.c q.x w)
def atl {f:List Nat} (b:b9 X.G O z e m k vs) {i:Nat} {o:ba D} {c:cw} {x:c.ty D} (d:O[i]? =J o) (s:cw.get X f c o=J x) (w:Bool):b9 X.G (O.set i (cw.gO X (λn=>f.getD n 0) c x w)) z e m k vs:=by
 obtain ⟨v,q,t⟩:=b.at d;have r:=(fq.1 d).1;refine b.G3 (by rw[List.length_set];exact b.len) id (λj p a l=> ?_) (λj p u a l g=> ?_) (λi j _ _ _ _ _ _ h=>h)
 ·rw[ll] at a;split at a
  ·grind [cw.UL,cw.A7]
  ·obtain ⟨u,g,y⟩:=b.at a
   grind
 ·rw[ll] at a;split at a
  ·grind [cw.tn]
  ·exact b.obj j p u a g
def aez {b:List Nat} {i:Nat} {p:ba D}:∀{a:List Nat} {C:List (yh D)},yq X b O a C->i∉a->yq X b (O.set i p) a C
 |[],[],_,_=>trivial
 |j::a,q::C,⟨⟨o,f,d⟩,c⟩,e=>by
  refine ⟨⟨o, ?_,d⟩,aez c λh=>e (kn _ h)⟩
  grind
 |[],_::_,h,_=>h.elim
 |_::_,[],h,_=>h.elim
theorem ar5 {b:Type} {l:List b} {i:Nat} {a:b} (h:l[i]? =J a):l.set i a=l:=by
 apply rv
 grind
def Ll {f:List Nat}:∀{aQ:List dt} {x:ft D aQ} {bO:List Nat} {O:List (ba D)},b9 X.G O z e m k vs->yq X f O bO (cos aQ x)->tE bO=aa->
  Inv O (mY X f aQ x bO O)/\b9 X.G (mY X f aQ x bO O) z e m k vs/\Y3 X f (mY X f aQ x bO O) bO (cos aQ x)/\∀i,i∉bO->(mY X f aQ x bO O)[i]? =O[i]?
 |[],x,[],O,a,_,_=>⟨Inv.refl _,a,trivial,λ_ _=>rfl⟩
 |[],x,_::_,O,a,h,_=>h.elim
 | .v d c::aQ,x,bO,O,a,h,b=>by
  have:=Ll (aQ:=aQ) (x:=x.2) (bO:=bO) a h b
  grind [mY,cos]
 | .u d c::aQ,x,bO,O,a,h,b=>by
  have:=Ll (aQ:=aQ) (x:=x.2) (bO:=bO) a h b
  grind [mY,cos]
 | .o d c::aQ,x,[],O,a,h,b=>h.elim
 | .o d c::aQ,x,i::bO,O,a,⟨⟨o,g,n⟩,l⟩,b=>by
  obtain ⟨w,t⟩:=ab' b;have s:=atl a g n (zF c O i);obtain ⟨p,q,r,B⟩:=Ll (aQ:=aQ) (x:=x.2) (bO:=bO) s (aez l w) t;have y:=(fq.1 g).1;refine ⟨Inv.trans ?_ p,q,⟨⟨zF c O i, ?_⟩,r⟩,λj A=> ?_⟩
  ·grind [zF,Inv.set,cw.Kc,cw.amX,ar5,Inv.refl]
  ·grind [mY]
  grind [mY]
theorem zx {a:Option Nat} {i:Nat} (h:oZ a i=aa):a=J i:=by
 unfold oZ at h
 grind [kA]
def Wz {i j a:Nat} {v:af} (f:∀u,vs[i]? =J u->vs'[j]? =J u) (h:lU X.G z vs [.own i] a v):lU X.G z vs' [.own j] a v:=by
 obtain ⟨b,o,e,l,k,g⟩:=h;refine ⟨b,o,e,l,k, ?_⟩
 match e,g with
 |[d],⟨c,_⟩=>exact ⟨⟨f _ c.1,c.2⟩,trivial⟩
def ada {i j t d:Nat} {a:List af} (b:∀u,vs[i]? =J u->vs'[j]? =J u) (h:bP (λc g=>lU X.G z vs c.2 0 g) [(t,[.own i])] a):bP (λc g=>lU X.G z vs' c.2 0 g) [(d,[.own j])] a:=by
 match a,h with
 |[g],⟨e,_⟩=>exact ⟨Wz b e,trivial⟩
def Xi {k:List Nat} {s n:bc D} {v:af} (m:Nat->Nat) (h:wa k s n=aa) (a:rel X.G z vs n v) (e:∀(j i:Nat) (u:af),k[j]? =J i->vs[i]? =J u->vs'[m j]? =J u):rel X.G z vs' (pE m s) v:=by
 unfold wa at h;split at h
 ·exact ⟨e _ _ _ (zx h) a.1,a.2⟩
 ·simp only[fx] at h;obtain ⟨b,c,d⟩:=a;have:=kA h.2;subst this;exact ⟨b,e _ _ _ (zx h.1) c,d⟩
 ·obtain ⟨b,l,c,d⟩:=a;exact ⟨b,l,e _ _ _ (zx h) c,d⟩
 ·exact a
 ·exact a
 ·exact a
 ·exact a
 ·trivial
 ·simp only[fx,decide_eq_true_eq,beq_iff_eq] at h;obtain ⟨rfl,rfl⟩:=h;exact a
 ·have:=eq_of_beq h;subst this;exact a
 ·have:=kA h;subst this;obtain ⟨f,c,d⟩:=a;refine ⟨f,c, ?_⟩;cases f with
  |nil=>trivial
  |cons _ _=>exact d.elim
 ·simp only[fx] at h;obtain ⟨c,d,g⟩:=h;have:=kA g;subst this;exact Wz (e _ _ · (zx c)) a
 ·simp only[fx] at h;obtain ⟨c,d,g⟩:=h;have:=kA g;subst this;obtain ⟨f,o,p⟩:=a;exact ⟨f,o,ada (e _ _ · (zx c)) p⟩
 grind
theorem Lp (s:bc D):pE id s=s:=by
 unfold pE
 grind
structure YC (X:e3 P D) (aQ:List dt) (fg:List (Nat×bc D)) (x:ft D aQ) (bO:List Nat) (dz:List (ba D)) (z:Nat->bW) (e m:Mem) (k:Option Nat) (vs dB:List af) (fr:Nat->af):Prop where
 abC:b9 X.G dz z e m k vs
 abD:b9 X.G (eU X aQ x) z e m k dB
 afm:fj X z dB (hc X aQ x++fg) fr
 r5:tE bO=aa
 wQ:Y3 X bO dz bO (cos aQ x)
 len:dB.length=bO.length
 ep:∀(j i:Nat),bO[j]? =J i->∃u,dB[j]? =J u/\vs[i]? =J u
 gt:∀q∈cos aQ x,∀n∈q.c.hs,∃i,bO[n]? =J i
def atr {b:List dt} {M:List (Nat×bc D)} {x:ft D b} {a:List Nat} {C:List (ba D)} (T:b9 X.G O z e m k vs) (K:fj X z vs E fr) (h:Lu X b M E O=J (x,a,C)):
  ∃R dB,Inv O C/\dT e.next z R/\YC X b M x a C R e m k vs dB fr:=by
 unfold Lu at h;split at h
 ·rename_i cX cu Z bF bl;split at h
  ·rename_i r;simp only[fx] at r;split at h
   ·rename_i jL W;cases h;obtain ⟨L,g0,N,g2,g3⟩:=w2 T K bF;have H:=CG W;obtain ⟨tp,t,l,Y⟩:=Ll g2 H r.1;have Q:∀(j i:Nat),a[j]? =J i->∃u,(a.map λi=>vs.getD i undef)[j]? =J u/\vs[i]? =J u:=by
     intro j i d;obtain ⟨q,_,w,F⟩:=l.get j i d;obtain ⟨v,aD,_⟩:=t.at F
     grind
    have P:(eU X b x).length=a.length:=by rw[mD,ug];exact l.length.symm
    have y:∀(j:Nat) (f:ba D),(eU X b x)[j]? =J f->∃i q,q∈cos b x/\f=cw.mk X q.c q.x ak/\a[j]? =J i/\∃w,(mY X a b x a cu)[i]? =J (cw.gO X (λn=>a.getD n 0) q.c q.x w):=by
     intro j f d;have cF:=(fq.1 d).1;have g:a[j]? =J (a[j]'(by omega)):=mm (by omega);obtain ⟨q,fo,w,k4⟩:=l.get j _ g
     grind [mD]
    have rU:∀q∈cos b x,∀n∈q.c.hs,∃i,a[n]? =J i:=by
     intro q I;obtain ⟨j,d,he⟩:=List.mem_iff_getElem.1 I;have V:(cos b x)[j]? =J q:=by grind
     have g:a[j]? =J (a[j]'(by rw[H.length];grind)):=mm _;obtain ⟨ka,cL,o,_,c9⟩:=H.get j _ g
     grind [cw.amY]
    refine ⟨L,a.map λi=>vs.getD i undef,g0.trans tp,N,t, ?_, ?_,r.1,l,by simp,Q,rU⟩
    ·refine t.G3 (by grind) (λj=>a.getD j 0) (λj f d U=> ?_) (λj f u d U hu=> ?_) (λi j o p az d _ _ hq=> ?_)
     ·obtain ⟨i,q,I,rfl,g,w,F⟩:=y j f d;obtain ⟨u,A,B⟩:=Q j i g;have bg:a.getD j 0=i:=by grind
      refine ⟨_,u,by rw[bg];omega,cw.tn,by grind,A, ?_⟩;have:=t.obj i _ u F B;refine cw.y8 ak this λn bB xz oS=> ?_
      grind
     ·grind [cw.u4]
     grind [We]
    ·refine Cm λp s=> ?_;rcases kU.1 s with s|s
     ·grind [zN]
     ·have S:=iA.1 r.2 p s;have:=Xi (X:=X) (z:=L) (vs:=vs) (vs':=a.map λi=>vs.getD i undef) id S ((K.mono N.le λ_ _ h=>h) p.1) λj i u d hu=>by
       grind
      grind [Lp]
   grind
  grind
 grind
def ae4 {a:List dt} {d:List (Nat×bc D)} {x:ft D a} {c:List Nat} {b:List (ba D)} (i:b9 X.G O z e m k vs) (l:fj X z vs E fr) (h:sl X a d E O=J (x,c,b)):
  ∃g dB,Inv O b/\dT e.next z g/\YC X a d x c b g e m k vs dB fr:=by
 unfold sl at h;split at h
 ·rename_i u j;obtain ⟨t,p,f,q⟩:=zv i j;obtain ⟨s,dB,r,o,n⟩:=atr q (l.mono f.le λ_ _ h=>h) h;exact ⟨s,dB,p.trans r,f.trans o,n⟩
 grind
def ae0 (E:List (Nat×bc D)) (O:List (ba D)) (q a:Nat):Option (Nat×Nat×List (cv D)×Bool):=
 match eI E q with
 | .box i 0=>(match O[i]? with|some (.box t b ak w)=>(match b[a]? with|some .gE=>J (i,t,b,w)|_=>ae)|_=>ae)
 |_=>ae
def jJ:List dt->List (Nat×bc D)->List (ba D)->List (Nat×bc D)×List (ba D)
 | .o d (.bh t)::a,E,O=>
  if mn d rF=aa then (match eI E d with| .c .gE=>jJ a ((d, .c (.own O.length))::E) (O++[.bh t [] ak ak])|_=>jJ a E O)
  else (match ae0 E O ((d - rF) / 1000) ((d - rF)%1000) with|some (i,u,b,_)=>jJ a E (O.set i (.box u (b.set ((d - rF)%1000) (.own O.length)) ak aa)++[.bh t [] ak ak])|none=>jJ a E O)
 | .o d (.ne e t)::a,E,O=>if mn d rF=aa then (match eI E d with| .c .gE=>jJ a ((d, .c (.own O.length))::E) (O++[.nest e t ae [] ae ak])|_=>jJ a E O) else jJ a E O
 |_::a,E,O=>jJ a E O
 |[],E,O=>(E,O)
def mf:∀{aQ:List dt} {E:List (Nat×bc D)} {O:List (ba D)} {n:List af},b9 X.G O z e m k n->fj X z n E fr->∃r,Inv O (jJ aQ E O).2/\(∀(i:Nat) (u:af),n[i]? =J u->r[i]? =J u)/\b9 X.G (jJ aQ E O).2 z e m k r/\fj X z r (jJ aQ E O).1 fr
 |[],E,O,n,g,l=>⟨n,Inv.refl _,λ_ _ h=>h,g,l⟩
 | .v _ _::aQ,E,O,n,g,l=>mf (aQ:=aQ) g l
 | .u _ _::aQ,E,O,n,g,l=>mf (aQ:=aQ) g l
 | .o _ (.box _)::aQ,E,O,n,g,l=>mf (aQ:=aQ) g l
 | .o _ (.recv _)::aQ,E,O,n,g,l=>mf (aQ:=aQ) g l
 | .o _ (.arr _ _ _)::aQ,E,O,n,g,l=>mf (aQ:=aQ) g l
 | .o _ (.map _ _ _)::aQ,E,O,n,g,l=>mf (aQ:=aQ) g l
 | .o _ (.bL _ _)::aQ,E,O,n,g,l=>mf (aQ:=aQ) g l
 | .o _ (.uI _ _ _)::aQ,E,O,n,g,l=>mf (aQ:=aQ) g l
 | .o d (.ne Z t)::aQ,E,O,n,g,l=>by
  have I:b9 X.G (O++[.nest Z t ae [] ae ak]) z e m k (n++[.slice ae 0 0]):=by refine g.push (q:=ae) ⟨e4 _,g.aS.dead,λ_ _ _=>rfl⟩ g.aS (λ_ _ _ _ _ _=>e6.qg) ?_ λ_ _ _=>e6.qg;exact ⟨λf bF=>(by grind),[],⟨⟨.inl ⟨rfl,rfl⟩,λb x=>(by cases x)⟩,rfl,λj w xs h=>(by grind),λp bb=>(by grind)⟩⟩
  unfold jJ;split
  ·split
   ·rename_i M;have s:=l d;rw[M] at s;have s:fr d= .slice ae 0 0:=s;obtain ⟨r,A,B,C,F⟩:=mf (aQ:=aQ) (E:=(d, .c (.own O.length))::E) I ((l.mono (fl.refl z) j0).cons ⟨by rw[s,<-g.len];simp,by rw[s];rfl,by rw[s];rfl⟩);exact ⟨r,(Inv.push O _).trans A,λi u H=>B i u (j0 i u H),C,F⟩
   ·exact mf (aQ:=aQ) g l
  ·exact mf (aQ:=aQ) g l
 | .o d (.bh t)::aQ,E,O,n,g,l=>by
  have I:∀{O:List (ba D)},b9 X.G O z e m k n->b9 X.G (O++[.bh t [] ak ak]) z e m k (n++[.slice ae 0 0]):=λ{O} g=>by refine g.push (q:=ae) ⟨e4 _,g.aS.dead,λ_ _ _=>rfl⟩ g.aS (λ_ _ _ _ _ _=>e6.qg) ?_ λ_ _ _=>e6.qg;exact (⟨.inl ⟨rfl,rfl⟩,λb x=>by cases x⟩:dU (X.G.T t) z e m k [] (.slice ae 0 0))
  unfold jJ;split
  ·split
   ·rename_i M;have s:=l d;rw[M] at s;have s:fr d= .slice ae 0 0:=s;obtain ⟨r,A,B,C,F⟩:=mf (aQ:=aQ) (E:=(d, .c (.own O.length))::E) (I g) ((l.mono (fl.refl z) j0).cons ⟨by rw[s,<-g.len];simp,by rw[s];rfl,by rw[s];rfl⟩);exact ⟨r,(Inv.push O _).trans A,λi u H=>B i u (j0 i u H),C,F⟩
   ·exact mf (aQ:=aQ) g l
  ·generalize (d - rF) / 1000=q;generalize (d - rF)%1000=off;split
   ·rename_i i u y w bB;have x:O[i]? =J (.box u y ak w)/\y[off]? =J .gE:=by
     grind [ae0]
    obtain ⟨v,R,b,Y,h1,U,S,W⟩:=g.at x.1;have N:=I g;have az:=(fq.1 x.1).1;have Q:O.set i (.box u (y.set off (.own O.length)) ak aa)++[(.bh t [] ak ak:ba D)]=(O++[(.bh t [] ak ak:ba D)]).set i (.box u (y.set off (.own O.length)) ak aa):=by
     grind
    have P:b9 X.G (O.set i (.box u (y.set off (.own O.length)) ak aa)++[.bh t [] ak ak]) z e m k (n++[.slice ae 0 0]):=by
     rw[Q];refine N.pF (m':=m) (v:=v) (o:= .box u y ak w) (by grind) (j0 _ _ R) rfl ⟨e4 _,g.aS.dead,λ_ _ _=>rfl⟩ g.aS ?_;refine ⟨b,Y,h1,U,S,lx.2 ⟨by grind [lx],λj a d K s=> ?_⟩⟩;rw[ll] at K;split at K
     ·rename_i V;split at K
      ·cases K;subst V;have L:d= .slice ae 0 0:=(lx.1 W).2 off _ d x.2 s;exact ⟨by rw[L,<-g.len];simp,by rw[L];rfl,by rw[L];rfl⟩
      grind
     grind [ed.mono,lx,fl.refl]
    obtain ⟨r,A,B,C,F⟩:=mf (aQ:=aQ) (E:=E) P (l.mono (fl.refl z) j0);exact ⟨r,((Inv.set O i (.inr rfl)).trans (Inv.push _ _)).trans A,λi u H=>B i u (j0 i u H),C,F⟩
   ·exact mf (aQ:=aQ) g l
end
end Go.aF
end
section
namespace Go.aF
structure lF (D:Nat->Type) where
 ex:fG
 outs:List dt
 fg:List (Nat×bc D)
noncomputable section
section
variable {P:bI} {D:Nat->Type}
def mz (D:Nat->Type):List dt->Type|[]=>Unit|[i]=>i.ty D|i::j::a=>i.ty D×mz D (j::a)
def Mn:(a:List dt)->ft D a->mz D a|[],_=>()|[_],x=>x.1|_::j::b,x=>(x.1,Mn (j::b) x.2)
def gn:(a:List dt)->mz D a->ft D a|[],_=>()|[_],y=>(y,())|_::j::b,y=>(y.1,gn (j::b) y.2)
def so:List (lF D)->Type|[]=>Empty|[x]=>mz D x.outs|x::y::a=>mz D x.outs⊕so (y::a)
def Jb {c:Type}:(f:List (lF D))->so f->((x:lF D)->mz D x.outs->c)->c
 |[],e,_=>nomatch (e:Empty)
 |[x],y,k=>k x y
 |x::y::d,r,k=>match (r:mz D x.outs⊕so (y::d)) with| .inl a=>k x a| .inr b=>Jb (y::d) b k
variable (X:e3 P D)
def aeI (n:Nat):ba D->Bool
 | .box _ a _ _=>a.all λc=>match c with| .own i=>mn i n| .fn _ b=>b.all λi=>mn i n|_=>aa
 |_=>aa
def Cs (n:Nat) (O:List (ba D)):Nat->List Nat->Bool
 |_,[]=>aa
 |j,k::a=>(if k=1 then (match O[j]? with|some o=>o.live&& !o.nd&&aeI n o|none=>ak) else aa)&&Cs n O (j+1) a
def X3 (n:Nat) (c:List Nat) (x:lF D) (E:List (Nat×bc D)) (O:List (ba D)):Option (mz D x.outs):=match rL E x.outs O,I9 E O x.outs with|some (d,b),J a=>if tE a&&(a.all λi=>iJ n i||fi (c.getD i 0) 0)&&Cs n b 0 c&&x.fg.all λp=>wa (mN n++a) p.2 (eI E p.1) then match iG X (mN n++a) b x.outs d a with|some y=>J (Mn x.outs y)|none=>ae else ae|_,_=>ae
def xv (n:Nat) (b:List Nat) (x:lF D) (E:List (Nat×bc D)) (O:List (ba D)):Option (mz D x.outs):=match pt (jJ x.outs E O).1 x.outs (jJ x.outs E O).2 with|some a=>X3 X n b x (jJ x.outs E O).1 a|none=>ae
def sk (n:Nat) (c:List Nat):(d:List (lF D))->fG->List (Nat×bc D)->List (ba D)->Option (so d)
 |[],_,_,_=>ae
 |[x],e,E,O=>if e=x.ex then xv X n c x E O else ae
 |x::y::f,e,E,O=>if e=x.ex then (match xv X n c x E O with|some a=>J (Sum.inl a)|none=>ae) else (match sk n c (y::f) e E O with|some b=>J (Sum.inr b)|none=>ae)
def kc (b:Nat->Nat):(a:List dt)->ft D a->Nat->ba D| .u i c::a,x,j=>if fi i j=aa then cw.gO X b c x.1 aa else kc b a x.2 j| .v _ _::a,x,j=>kc b a x.2 j| .o _ _::a,x,j=>kc b a x.2 j|[],_,_=> .dead
def wE (n:Nat):Nat:=n
def o0 (a:List dt) (y:ft D a):Nat->List Nat->List (ba D)->List (ba D)|i,k::b,o::O=>(if k=1 then o else if k=2 then kc X wE a y i else .dead)::o0 a y (i+1) b O|i,[],o::O=> .dead::o0 a y (i+1) [] O|_,_,[]=>[]
def ly (b:List Nat) (c:List (ba D)) (a:List dt) (y:ft D a):List (ba D):=o0 X a y 0 b c++eU X a y
end
section
variable {P:bI} {D:Nat->Type} {X:e3 P D} {z z':Nat->bW} {e m m':Mem} {k:Option Nat} {vs vs':List af} {fr:Nat->af} {E:List (Nat×bc D)} {O cr:List (ba D)}
def ae1:∀{aQ:List dt} (x:ft D aQ),gn aQ (Mn aQ x)=x
 |[],_=>rfl
 |[_],_=>rfl
 |_::j::a,x=>by show (x.1,gn (j::a) (Mn (j::a) x.2))=x;rw[ae1 (aQ:=j::a) x.2];rfl
def KG {n:Nat} {i:List Nat} {g:fG}:∀{d:List (lF D)} {c:so d},sk X n i d g E O=J c->∃x y,x∈d/\g=x.ex/\xv X n i x E O=J y/\∀{j:Type} (K:(x:lF D)->mz D x.outs->j),Jb d c K=K x y
 |[],_,h=>by cases h
 |[x],c,h=>by obtain ⟨f,e⟩:=gz h;exact ⟨x,c,oG,f,e,λ_=>rfl⟩
 |x::y::s,c,h=>by
  simp only[sk] at h;split at h
  ·rename_i l;split at h
   ·rename_i a o;cases h;exact ⟨x,a,oG,l,o,λ_=>rfl⟩
   grind
  ·split at h
   ·rename_i b m;cases h;obtain ⟨q,r,f,e,k,p⟩:=KG m;exact ⟨q,r,kn _ f,e,k,λK=>p K⟩
   grind
def KV {m:List Nat} {n:Nat}:∀{aQ:List dt} {l:List (bc D)} {g:List Nat} {x:ft D aQ} {j:Nat},iG X m O aQ l g=J x->(∀e,kc X e aQ x j= .dead)\/∃c y o,O[j]? =J o/\cw.get X m c o=J y/\∀e,kc X e aQ x j=cw.gO X e c y aa
 |[],_,_,_,_,_=> .inl λ_=>rfl
 | .v d c::aQ,[],_,_,_,h=>by grind [iG]
 | .o d c::aQ,[],_,_,_,h=>by grind [iG]
 | .u d c::aQ,[],_,_,_,h=>by grind [iG]
 | .v d c::aQ,s::l,g,x,j,h=>by
  simp only[iG] at h;obtain ⟨_,h⟩:=gz h;split at h
  ·rename_i a b k f;cases h;exact KV (n:=n) (aQ:=aQ) f
  grind
 | .o d c::aQ,s::l,[],x,j,h=>by cases h
 | .o d c::aQ,s::l,i::g,x,j,h=>by
  simp only[iG] at h;split at h
  ·split at h
   ·rename_i a b k f;cases h;exact KV (n:=n) (aQ:=aQ) f
   grind
  grind
 | .u d c::aQ,s::l,g,x,j,h=>by
  simp only[iG] at h;split at h
  ·rename_i o p;split at h
   ·rename_i a b k f;cases h;by_cases r:fi d j=aa
    ·have:=kA r;subst this;refine .inr ⟨c,a,o,p,k,λe=> ?_⟩;show (if fi d d=aa then cw.gO X e c a aa else _)=_
     grind
    ·have q:∀e,kc X e (.u d c::aQ) (a,b) j=kc X e aQ b j:=λe=>by
      show (if fi d j=aa then cw.gO X e c a aa else _)=_
      grind
     simp only[q];exact KV (n:=n) (aQ:=aQ) (j:=j) f
   grind
  grind
def dt.hs:dt->List Nat| .v _ _=>[]| .o _ c=>c.hs| .u _ c=>c.hs
def dt.y9:dt->Bool| .v _ c=>c.y9|_=>aa
def tx:∀{aQ:List dt} {x:ft D aQ} {j:Nat},(∀a,kc X a aQ x j= .dead)\/∃d c y,dt.u d c∈aQ/\∀a,kc X a aQ x j=cw.gO X a c y aa
 |[],_,_=> .inl λ_=>rfl
 | .v d c::aQ,x,j=>by
  rcases tx (aQ:=aQ) (x:=x.2) (j:=j) with h|⟨d,c,y,e,b⟩
  ·exact .inl h
  ·exact .inr ⟨d,c,y,kn _ e,b⟩
 | .o d c::aQ,x,j=>by
  rcases tx (aQ:=aQ) (x:=x.2) (j:=j) with h|⟨d,c,y,e,b⟩
  ·exact .inl h
  ·exact .inr ⟨d,c,y,kn _ e,b⟩
 | .u d c::aQ,x,j=>by
  by_cases f:fi d j=aa
  ·exact .inr ⟨d,c,x.1,oG,λa=>if_pos f⟩
  ·have g:∀a,kc X a (.u d c::aQ) x j=kc X a aQ x.2 j:=λa=>if_neg f;simp only[g];rcases tx (aQ:=aQ) (x:=x.2) (j:=j) with h|⟨d,c,y,e,b⟩
   ·grind
   ·exact .inr ⟨d,c,y,kn _ e,b⟩
def xc:∀{aQ:List dt} {x:ft D aQ} {o:ba D},o∈eU X aQ x->∃d c y,dt.o d c∈aQ/\o=cw.mk X c y ak
 |[],_,_,h=>by grind [eU]
 | .v d c::aQ,x,o,h=>let ⟨d,c,y,b,a⟩:=xc (aQ:=aQ) (x:=x.2) h;⟨d,c,y,kn _ b,a⟩
 | .u d c::aQ,x,o,h=>let ⟨d,c,y,b,a⟩:=xc (aQ:=aQ) (x:=x.2) h;⟨d,c,y,kn _ b,a⟩
 | .o d c::aQ,x,o,h=>by
  simp only[eU,ha] at h;rcases h with rfl|h
  ·exact ⟨d,c,x.1,oG,rfl⟩
  ·obtain ⟨d,c,y,b,a⟩:=xc (aQ:=aQ) (x:=x.2) h
   grind
theorem zB:∀{aQ:List dt} {x:ft D aQ} {p:Nat×bc D},p∈hc X aQ x->∃d c y,dt.v d c∈aQ/\p.2=gR.mk X c y
 |[],_,_,h=>by grind [hc]
 | .o d c::aQ,x,o,h=>by
  obtain ⟨f,b,y,e,a⟩:=zB (aQ:=aQ) (x:=x.2) h
  grind
 | .u d c::aQ,x,o,h=>by
  obtain ⟨f,b,y,e,a⟩:=zB (aQ:=aQ) (x:=x.2) h
  grind
 | .v d c::aQ,x,o,h=>by
  simp only[hc,ha] at h;rcases h with rfl|h
  ·exact ⟨d,c,x.1,oG,rfl⟩
  ·obtain ⟨f,b,y,e,a⟩:=zB (aQ:=aQ) (x:=x.2) h
   grind
theorem q5 {a:List dt} {y:ft D a}:∀{i:Nat} {b:List Nat} {O:List (ba D)},(o0 X a y i b O).length=O.length
 |i,[],[]=>rfl
 |i,_::_,[]=>rfl
 |i,k::b,o::O=>by simp[o0,q5]
 |i,[],o::O=>by simp[o0,q5]
theorem xd {outs:List dt} {y:ft D outs}:∀{i:Nat} {ks:List Nat} {O:List (ba D)} {j:Nat} {o:ba D},O[j]? =J o->(o0 X outs y i ks O)[j]? =J (if ks.getD j 0=1 then o else if ks.getD j 0=2 then kc X wE outs y (i+j) else .dead)
 |i,ks,[],j,o,h=>by grind
 |i,k::ks,p::O,0,o,h=>by grind [o0]
 |i,k::ks,p::O,j+1,o,h=>by
  simp only[qH] at h;have:=xd (outs:=outs) (y:=y) (i:=i+1) (ks:=ks) h
  grind [o0]
 |i,[],p::O,0,o,h=>by rfl
 |i,[],p::O,j+1,o,h=>by
  simp only[qH] at h;have:=xd (outs:=outs) (y:=y) (i:=i+1) (ks:=[]) h
  grind [o0]
theorem aru {n:Nat} {o:ba D} (h:aeI n o=aa):∀i,XH i o->i<n:=by
 intro i a;cases o with
 |box t b bZ w=>
  rcases a with a|⟨f,d,a,c⟩
  ·have:=iA.1 h _ a;simp_all
  ·have:=iA.1 h _ a;simp_all
 |_=>exact a.elim
def ac3 {n:Nat}:∀{a:List Nat} {i j:Nat},Cs n O i a=aa->a.getD j 0=1->∃o,O[i+j]? =J o/\o.live=aa/\o.nd=ak/\∀i,XH i o->i<n
 |[],i,j,_,h=>by grind
 |k::a,i,0,b,h=>by
  grind [Cs,aru]
 |k::a,i,j+1,b,h=>by
  simp only[Cs,fx] at b;simp only[List.getD_cons_succ] at h;obtain ⟨o,d,c⟩:=ac3 b.2 h
  grind
def arn {d:List dt} {g:List Nat} {x:ft D d} {f:lF D} {y:mz D f.outs} {dB:List af} (az:Inv (eU X d x) O) (aD:∀(i:Nat) (u:af),dB[i]? =J u->vs[i]? =J u) (hV:dB.length=(eU X d x).length)
  (aN:b9 X.G O z e m k vs) (bp:fj X z vs E fr) (h:X3 X dB.length g f E O=J y):
  ∃Z ep,dT e.next z Z/\b9 X.G (ly X g (eU X d x) f.outs (gn _ y)) Z e m k (dB++ep)/\∀p∈hc X f.outs (gn _ y)++f.fg,rel X.G Z (dB++ep) p.2 (fr p.1):=by
 unfold X3 at h;split at h
 ·rename_i cX cu b bF bl;split at h
  ·rename_i ay;simp only[fx] at ay;obtain ⟨⟨⟨c1,c2⟩,yA⟩,ZP⟩:=ay;split at h
   ·rename_i B aw;cases h;rw[ae1];obtain ⟨dv,g0,g1,L,g3⟩:=w2 aN bp bF;have W:=CG aw;have kL:=az.trans g0;have S:∀(j i:Nat),b[j]? =J i->∃u,(b.map λi=>vs.getD i undef)[j]? =J u/\vs[i]? =J u:=by
     intro j i t;obtain ⟨q,_,o,a,_⟩:=W.get j i t;obtain ⟨v,aD,_⟩:=L.at a
     grind
    have hlen:(eU X f.outs B).length=b.length:=by rw[mD,ug];exact W.length.symm
    have P:∀(j:Nat) (o:ba D),(ly X g (eU X d x) f.outs B)[j]? =J o->
      (j<dB.length/\∃M,(eU X d x)[j]? =J M/\o=(if g.getD j 0=1 then M else if g.getD j 0=2 then kc X wE f.outs B j else .dead))\/
      (dB.length<=j/\(eU X f.outs B)[j - dB.length]? =J o):=by
     grind [ly,q5,xd]
    have R:∀(j:Nat) (u:af),j<dB.length->vs[j]? =J u->(dB++b.map λi=>vs.getD i undef)[j]? =J u:=by
     grind
    have rU:∀(n i:Nat) (u:af),(mN dB.length++b)[n]? =J i->vs[i]? =J u->(dB++b.map λi=>vs.getD i undef)[n]? =J u:=by
     grind
    refine ⟨dv,b.map λi=>vs.getD i undef,g1, ?_, ?_⟩
    ·refine L.G3 ?_ (λj=>if j<dB.length then j else b.getD (j - dB.length) 0) (λj o t I=> ?_) (λj o u t I U=> ?_) (λi j o p fm t aaS aaT hq=> ?_)
     ·grind [ly,q5]
     ·rcases P j o t with ⟨A,M,Q,a⟩|⟨hA,a⟩
      ·simp only[if_pos A];by_cases H:g.getD j 0=1
       ·rw[if_pos H] at a;subst a;obtain ⟨p,l,r,Y,V0⟩:=ac3 yA H;rw[lH] at l;have:=kL.ew j p (by omega) l r Y;rw[Q] at this;cases this;obtain ⟨v,s,N⟩:=L.at l;obtain ⟨_,c,w,_,rfl⟩:=xc (mM Q);exact ⟨_,v,l,r,s,R j v A s,cw.abB ak N λn _ a u U=>R n u (V0 n a) U⟩
       ·rw[if_neg H] at a;by_cases K:g.getD j 0=2
        ·rw[if_pos K] at a;rcases KV (n:=0) (j:=j) aw with F|⟨c,w,p,l,r,Y⟩
         ·rw[a,F] at I;cases I
         ·obtain ⟨v,s,N⟩:=L.at l;refine ⟨p,v,l,cw.UL r,s,R j v A s, ?_⟩;rw[a,Y];exact cw.A7 r N rU aa
        ·rw[if_neg K] at a;rw[a] at I;cases I
      ·have bB:¬j<dB.length:=by omega
       simp only[if_neg bB];have A:=(fq.1 a).1;have T:b[j - dB.length]? =J (b[j - dB.length]'(by omega)):=mm (by omega);obtain ⟨q,fv,p,l,r⟩:=W.get _ _ T;rw[mD,sH,fv] at a;have a:=(kB.inj a).symm;subst a;obtain ⟨u,G7,Ya⟩:=S _ _ T;obtain ⟨v,s,N⟩:=L.at l;rw[Ya] at s;cases s;have F:b.getD (j - dB.length) 0=b[j - dB.length]'(by omega):=by grind
       refine ⟨p,u,by grind,cw.UL r,by grind, ?_, ?_⟩
       ·grind
       ·exact cw.A7 r N rU ak
     ·rcases P j o t with ⟨A,M,Q,a⟩|⟨hA,a⟩
      ·by_cases H:g.getD j 0=1
       ·rw[if_pos H] at a;subst a;obtain ⟨_,c,w,_,rfl⟩:=xc (mM Q)
        grind [cw.u4]
       ·rw[if_neg H] at a;by_cases K:g.getD j 0=2
        ·rw[if_pos K] at a;rcases tx (X:=X) (aQ:=f.outs) (x:=B) (j:=j) with F|⟨_,c,w,_,F⟩
         ·rw[a,F];trivial
         grind [cw.tn]
        ·rw[if_neg K] at a;rw[a];trivial
      ·obtain ⟨_,c,w,_,rfl⟩:=xc (mM a)
       grind [cw.u4]
     ·have dead:∀(i j:Nat) (o p:ba D),i<dB.length->dB.length<=j->(ly X g (eU X d x) f.outs B)[i]? =J o->(ly X g (eU X d x) f.outs B)[j]? =J p->o.live=aa->i=b.getD (j - dB.length) 0->False:=by
       intro i j o p Vb aaN a C eW hq;rcases P j p C with ⟨A,_⟩|⟨_,wv⟩
       ·omega
       ·have A:=(fq.1 wv).1;have T:b[j - dB.length]? =J (b[j - dB.length]'(by omega)):=mm (by omega);have F:b.getD (j - dB.length) 0=b[j - dB.length]'(by omega):=by grind
        have hm:i∈b:=by grind
        have:=iA.1 c2 i hm;simp only[Ar] at this;have nC:g.getD i 0=0:=by
         grind [pk,kA]
        rcases P i o a with ⟨_,M,_,V⟩|⟨hA,_⟩
        ·rw[nC] at V;simp at V;rw[V] at eW;cases eW
        grind
      by_cases h1:i<dB.length
      ·by_cases ai:j<dB.length
       ·grind
       grind
      ·by_cases ai:j<dB.length
       ·grind
       grind [We]
    ·intro p C;rcases kU.1 C with C|C
     ·grind [zN]
     ·have aJ:=iA.1 ZP p C;have:=Xi (X:=X) (z:=dv) (vs:=vs) (vs':=dB++b.map λi=>vs.getD i undef) id aJ ((bp.mono g1.le λ_ _ h=>h) p.1) λj i u t U=>by
       grind
      grind [Lp]
   grind
  grind
 grind
def B8 {ins:List dt} {ks:List Nat} {x:ft D ins} {ee:lF D} {y:mz D ee.outs} {dB:List af} (g:Inv (eU X ins x) O) (d:∀(i:Nat) (u:af),dB[i]? =J u->vs[i]? =J u) (w:dB.length=(eU X ins x).length)
  (f:b9 X.G O z e m k vs) (l:fj X z vs E fr) (h:xv X dB.length ks ee E O=J y):
  ∃b a,dT e.next z b/\b9 X.G (ly X ks (eU X ins x) ee.outs (gn _ y)) b e m k (dB++a)/\∀p∈hc X ee.outs (gn _ y)++ee.fg,rel X.G b (dB++a) p.2 (fr p.1):=by
 obtain ⟨F,r,s,t,v⟩:=mf (aQ:=ee.outs) f l;unfold xv at h;split at h
 ·rename_i K j;obtain ⟨I,B,c,n⟩:=zv t j;obtain ⟨H,a,C,q,o⟩:=arn ((g.trans r).trans B) (λi u A=>s i u (d i u A)) w n (v.mono c.le λ_ _ h=>h) h;exact ⟨H,a,c.trans C,q,o⟩
 grind
end
end
end Go.aF
end
section
namespace Go.aF
structure h4 (D:Nat->Type) where
 path:List Nat
 ins:List dt
 fg:List (Nat×bc D)
 ks:List Nat
 iM:List (lF D)
 keep:List Nat
noncomputable section
section
variable {P:bI} {D:Nat->Type}
def h4.F (p:h4 D):Type:=ft D p.ins->Option (so p.iM)
def gU:List dt->Nat|[]=>0| .o _ _::a=>gU a+1|_::a=>gU a
def tJ:bc D->Bool| .c (.own _)| .box _ _| .arr _| .c .gE| .c .za| .c .oY| .undef| .un| .c (.int _ _)| .c (.bool _)| .fn _ []| .hd _ [.own _] _| .fn _ [(_,[.own _])]=>aa|_=>ak
def GY:bc D->Option Nat| .c (.own j)| .box j _| .arr j| .hd _ [.own j] _| .fn _ [(_,[.own j])]=>J j|_=>ae
def Jy (n:Nat) (a:List Nat) (s:bc D):Bool:=tJ s&&match GY s with|some j=>iJ n j|| !Nat.beq (a.getD j 0) 0|none=>aa
def q8:List Nat->Nat->Option Nat
 |[],_=>ae
 |a::b,i=>if fi a i=aa then J 0 else (match q8 b i with|some j=>J (j+1)|none=>ae)
variable (X:e3 P D)
def sd (d:Nat->Nat) (c b:List Nat) (a:List dt) (y:ft D a):Nat->List (ba D)->List (ba D)
 |_,[]=>[]
 |i,o::O=>(match q8 c i with|some j=>(if b.getD j 0=1 then o else if b.getD j 0=2 then kc X d a y j else .dead)|none=>if o.live=aa then .dead else o)::sd d c b a y (i+1) O
def mkOr (b:Nat->Nat):(a:List dt)->ft D a->List (ba D)|[],_=>[]| .o _ c::a,x=>cw.gO X b c x.1 ak::mkOr b a x.2| .v _ _::a,x=>mkOr b a x.2| .u _ _::a,x=>mkOr b a x.2
def num (a:List Nat) (n N:Nat) (j:Nat):Nat:=if mn j n=aa then a.getD j 0 else N+(j - n)
def T1 (p:h4 D) (b:List Nat) (N:Nat) (a:lF D) (y:ft D a.outs) (E:List (Nat×bc D)):List (Nat×bc D):=hc X a.outs y++((a.fg.map λq=>(q.1,pE (num b (gU p.ins) N) q.2))++p.keep.map λd=>(d,eI E d))
def uE (p:h4 D) (a:List Nat) (b:List (ba D)) (c:lF D) (y:ft D c.outs):List (ba D):=sd X (num a (gU p.ins) b.length) a p.ks c.outs y 0 b++mkOr X (num a (gU p.ins) b.length) c.outs y
def h4.G2 (p:h4 D) (F:p.F) (E:List (Nat×bc D)) (O:List (ba D)) {b:Type} (K:fG->List (Nat×bc D)->List (ba D)->Option b):Option b:=match sl X p.ins p.fg E O with|some (x,c,d)=>ab (F x) λe=>Jb p.iM e λa y=>K a.ex (T1 X p c d.length a (gn _ y) E) (uE X p c d a (gn _ y))|none=>ae
def h4.run (p:h4 D) (F:p.F) (E:List (Nat×bc D)) (O:List (ba D)) {a:Type} (K:fG->List (Nat×bc D)->List (ba D)->Option a):Option a:=p.G2 X F (jJ p.ins E O).1 (jJ p.ins E O).2 K
def h4.zd (p:h4 D) (F:p.F):mP D where
 path:=p.path
 fits:=λE O=>(sl X p.ins p.fg (jJ p.ins E O).1 (jJ p.ins E O).2).isSome
 run:=λE O {_} K=>p.run X F E O K
def Kk (n:Nat) (a:List Nat) (r:Nat):Bool:=iJ n r|| !Nat.beq (a.getD r 0) 0
def zA (n:Nat) (a:List Nat):Nat->List dt->Bool|_,[]=>aa|j, .o _ c::b=>(!Nat.beq (a.getD j 0) 1||c.hs.all (Kk n a))&&zA n a (j+1) b|j,_::b=>zA n a j b
def h4.p0 (B:Code) (p:h4 D):Bool:=((p.iM.all λee=>ee.outs.all λi=>i.y9&&i.hs.all (Kk (gU p.ins) p.ks))&&zA (gU p.ins) p.ks 0 p.ins)&&(p.iM.all (λee=>ee.fg.all λq=>Jy (gU p.ins) p.ks q.2)&&p.keep.all λd=> !(q6 (sub B p.path)).contains d)
def y7:Nat->List Nat->List Nat->List (ba D)->Bool
 |_,[],_,_=>aa
 |j,k::b,a,O=>(if k=0 then aa else oZ (a[j]?) j&&(if k=1 then (match O[j]? with|some o=> !o.nd|none=>ak) else aa))&&y7 (j+1) b a O
def aeY (p:h4 D) (F:p.F) (a:fG) (E:List (Nat×bc D)) (O:List (ba D)):Option (so p.iM):=if a= .normal then match sl X p.ins p.fg (jJ p.ins E O).1 (jJ p.ins E O).2 with|some (x,b,c)=>if y7 0 p.ks b c=aa then F x else ae|none=>ae else sk X (gU p.ins) p.ks p.iM a E O
end
section
variable {P:bI} {D:Nat->Type} {X:e3 P D} {z z':Nat->bW} {e m m':Mem} {k:Option Nat} {vs vs':List af} {fr:Nat->af} {E:List (Nat×bc D)} {O cr:List (ba D)}
def aeE {n:Nat} {a:List Nat} {r:Nat} (h:Kk n a r=aa):n<=r\/a.getD r 0≠0:=by
 simp only[Kk,Ar,Aq] at h;rcases h with h|h
 ·simp_all
 ·refine .inr λb=> ?_;simp_all
theorem BJ {n:Nat} {ks:List Nat}:∀{aQ:List dt} {x:ft D aQ} {i j:Nat} {q:yh D},zA n ks i aQ=aa->(cos aQ x)[j]? =J q->ks.getD (i+j) 0=1->∀r∈q.c.hs,n<=r\/ks.getD r 0≠0
 |[],_,_,_,_,_,h,_=>by grind [cos]
 | .v d c::aQ,x,i,j,q,hk,h,h1=>BJ (aQ:=aQ) (x:=x.2) hk h h1
 | .u d c::aQ,x,i,j,q,hk,h,h1=>BJ (aQ:=aQ) (x:=x.2) hk h h1
 | .o d c::aQ,x,i,0,q,hk,h,h1=>by simp only[cos,List.getElem?_cons_zero] at h;cases h;simp only[zA,fx] at hk;intro r aV;have ai:=hk.1;rw[pS] at h1;rw[h1] at ai;exact aeE (iA.1 (by simp_all) r aV)
 | .o d c::aQ,x,i,j+1,q,hk,h,h1=>by simp only[cos,qH] at h;simp only[zA,fx] at hk;exact BJ (aQ:=aQ) (x:=x.2) hk.2 h (by grind)
def adl {cJ nR:Nat->Nat} {l:List (Nat×Nat)} (h:∀p∈l,cJ p.2=nR p.2):∀{cs:List (cv D)} {i:Nat},qi cJ l i cs=qi nR l i cs
 |[],_=>rfl
 |c::cs,i=>by
  simp only[qi,adl h (cs:=cs)];congr 1;cases bF:nw l i with
  |none=>rfl
  |some n=>simp only;rw[h _ (B1 bF)]
def ata {a b:Nat->Nat} {c:cw} {x:c.ty D} {w:Bool} (h:∀r∈c.hs,a r=b r):cw.gO X a c x w=cw.gO X b c x w:=by
 cases c with
 |bL t l=>simp only[cw.gO];rw[adl λp g=>h p.2 (l2.2 ⟨p,g,rfl⟩)]
 |uI t f d=>simp only[cw.gO];rw[show d.map a=d.map b from YW λn e=>h n e]
 |_=>rfl
theorem va {a:Nat->Nat}:∀{aQ:List dt} {x:ft D aQ},mkOr X a aQ x=(cos aQ x).map λq=>cw.gO X a q.c q.x ak
 |[],_=>rfl
 | .o d c::aQ,x=>by show cw.gO X a c x.1 ak::mkOr X a aQ x.2=cw.gO X a c x.1 ak::(cos aQ x.2).map _;rw[va]
 | .v d c::aQ,x=>va (aQ:=aQ)
 | .u d c::aQ,x=>va (aQ:=aQ)
theorem me:∀{aQ:List dt} {x:ft D aQ},(eU X aQ x).length=gU aQ
 |[],_=>rfl
 | .v _ _::aQ,x=>me (aQ:=aQ)
 | .u _ _::aQ,x=>me (aQ:=aQ)
 | .o _ _::aQ,x=>by show ((eU X aQ x.2).length+1)=gU aQ+1;rw[me]
def XI (X:e3 P D) (p:h4 D) (x:ft D p.ins) (g:so p.iM) (z:Nat->bW) (e:Mem) (k:Option Nat) (dB:List af) (h:fG) (f:Nat->af) (i:Mem):Prop:=
 ∃b c a y,a∈p.iM/\h=a.ex/\(∀{d:Type} (K:(x:lF D)->mz D x.outs->d),Jb p.iM g K=K a y)/\dT e.next z b/\
  b9 X.G (ly X p.ks (eU X p.ins x) a.outs (gn _ y)) b e i k (dB++c)/\∀q∈hc X a.outs (gn _ y)++a.fg,rel X.G b (dB++c) q.2 (f q.1)
def sB (d:fG->fG) (X:e3 P D) (B:Code) (p:h4 D) (F:p.F):Prop:=∀(x:ft D p.ins) (a:so p.iM) {z:Nat->bW} {e m:Mem} {k:Option Nat} {dB:List af} {b:Nat->af},
 F x=J a->b9 X.G (eU X p.ins x) z e m k dB->fj X z dB (hc X p.ins x++p.fg) b->W P (sub B p.path) (λc=>XI X p x a z e k dB (d c)) b m
def qF (X:e3 P D) (B:Code) (p:h4 D) (F:p.F):Prop:=∀(x:ft D p.ins) (a:so p.iM) {z:Nat->bW} {e m:Mem} {k:Option Nat} {dB:List af} {b:Nat->af},
 F x=J a->b9 X.G (eU X p.ins x) z e m k dB->fj X z dB (hc X p.ins x++p.fg) b->W P (sub B p.path) (XI X p x a z e k dB) b m
def sB.of {c:fG->fG} (r:iV X) {B:Code} {us:List (mP D)} {p:h4 D} {F:p.F} (J:∀u∈us,p.path.length<u.path.length->qJ X B u)
  (s:∀x,j8 X us calm aa p.path.reverse (sub B p.path) (hc X p.ins x++p.fg) (eU X p.ins x) (λb=>sk X (gU p.ins) p.ks p.iM (c b))=F x):sB c X B p F:=by
 intro x v z e m k dB P t a j;have h:=s x;rw[t] at h;have g:dB.length=gU p.ins:=by rw[a.len,me]
 refine (Lh r (L:=p.path.length) J (sub B p.path) aa p.path.reverse _ _ _ v (by grind) (by simp) (by simp) a j h).mono ?_;rintro b O T ⟨N,S,R,M,i,I,f,d,l,o⟩;obtain ⟨w,y,E,G,Q,H⟩:=KG o;obtain ⟨K,A,q,n,C⟩:=B8 (ks:=p.ks) (x:=x) i f a.len d l (by rw[g];omega);exact ⟨K,A,w,y,E,G,H,I.trans q,n,C⟩
def qF.of (o:iV X) {B:Code} {us:List (mP D)} {p:h4 D} {F:p.F} (H:∀u∈us,p.path.length<u.path.length->qJ X B u)
  (q:∀x,j8 X us calm aa p.path.reverse (sub B p.path) (hc X p.ins x++p.fg) (eU X p.ins x) (sk X (gU p.ins) p.ks p.iM)=F x):qF X B p F:=by
 intro x s z e m k dB O r a g;have h:=q x;rw[r] at h;have d:dB.length=gU p.ins:=by rw[a.len,me]
 refine (Lh o (L:=p.path.length) H (sub B p.path) aa p.path.reverse _ _ _ s (by grind) (by simp) (by simp) a g h).mono ?_;rintro M N S ⟨K,R,Q,J,f,G,c,b,i,l⟩;obtain ⟨t,y,A,C,P,E⟩:=KG l;obtain ⟨I,v,n,j,w⟩:=B8 (ks:=p.ks) (x:=x) f c a.len b i (by rw[d];omega);exact ⟨I,v,t,y,A,C,E,G.trans n,j,w⟩
theorem XU {s:bc D} {v:af} {cJ:Nat->Nat} (h:tJ s=aa) (a:rel X.G z vs s v) (e:∀(j:Nat) (u:af),GY s=J j->vs[j]? =J u->vs'[cJ j]? =J u):rel X.G z vs' (pE cJ s) v:=by
 unfold tJ at h;split at h
 ·exact ⟨e _ _ rfl a.1,a.2⟩
 ·obtain ⟨b,d,c⟩:=a;exact ⟨b,e _ _ rfl d,c⟩
 ·obtain ⟨b,l,d,c⟩:=a;exact ⟨b,l,e _ _ rfl d,c⟩
 ·exact a
 ·exact a
 ·exact a
 ·exact a
 ·exact a
 ·exact a
 ·exact a
 ·obtain ⟨f,d,c⟩:=a;refine ⟨f,d, ?_⟩;cases f with
  |nil=>trivial
  |cons _ _=>exact c.elim
 ·exact Wz (λu=>e _ u rfl) a
 ·obtain ⟨f,d,c⟩:=a;exact ⟨f,d,ada (λu=>e _ u rfl) c⟩
 grind
theorem adO {n:Nat} {b:List Nat} {s:bc D} (h:Jy n b s=aa):tJ s=aa/\∀j,GY s=J j->n<=j\/b.getD j 0≠0:=by
 simp only[Jy,fx] at h;refine ⟨h.1,λj c=> ?_⟩;have a:=h.2;rw[c] at a;simp only[Ar,Aq] at a;rcases a with a|a
 ·simp_all
 ·refine .inr λd=> ?_;simp_all
def K7:∀{b:List Nat} {i j:Nat} {a:List Nat},y7 i b a O=aa->b.getD j 0≠0->a[i+j]? =J (i+j)/\(b.getD j 0=1->∃o,O[i+j]? =J o/\o.nd=ak)
 |[],i,j,a,_,h=>by grind
 |k::b,i,0,a,c,h=>by
  grind [y7,zx]
 |k::b,i,j+1,a,c,h=>by
  simp only[y7,fx] at c;simp only[List.getD_cons_succ] at h⊢;have:=K7 c.2 h
  grind
def auU {a:List dt} {y:ft D a} {b:List Nat} {A B:List (ba D)} (c:A.length=B.length) (h:∀j,b.getD j 0=1->A[j]? =B[j]?):o0 X a y 0 b A=o0 X a y 0 b B:=by
 apply rv
 grind [xd,q5]
def qF.loop (cW:iV X) {B c:Code} {us:List (mP D)} {p:h4 D} {F:Nat->p.F} (mS:sub B p.path= .loop c) (hk:p.p0 B=aa) (te:∀u∈us,p.path.length+1<u.path.length->qJ X B u) (bR:∀x,F 0 x=ae)
  (eB:∀n x,j8 X us calm aa (0::p.path.reverse) c (hc X p.ins x++p.fg) (eU X p.ins x) (aeY X p (F n))=F (n+1) x):∀n,qF X B p (F n):=by
 intro n;induction n with
 |zero=>intro x eX z e m k dB fr eF;grind
 |succ n a1=>
  intro x eX z e m k dB fr eF aN bp;have h:=eB n x;rw[eF] at h;rw[mS];have bB:dB.length=gU p.ins:=by rw[aN.len,me]
  refine W.apr ((Lh cW (L:=p.path.length+1) te c aa (0::p.path.reverse) _ _ _ eX (by rw[List.reverse_cons,List.reverse_reverse,<-WZ,mS];exact sc c) (by simp) (by simp) aN bp h).mono ?_);rintro ex fY m1 ⟨dv,jK,ia,cu,bR,h1,ai,aT,br,cK⟩;have other:sk X (gU p.ins) p.ks p.iM ex ia cu=J eX->XI X p x eX z e k dB ex fY m1:=by intro cK;obtain ⟨ee,y,g1,g2,g3,g4⟩:=KG cK;obtain ⟨z2,ep,cL,c9,fo⟩:=B8 (ks:=p.ks) (x:=x) bR ai aN.len aT br (by rw[bB];omega);exact ⟨z2,ep,ee,y,g1,g2,g4,h1.trans cL,c9,fo⟩
  cases ex with
  |exit i=>exact other cK
  |ret=>exact other cK
  |normal=>
   show W P (.loop c) _ fY m1;have cK:(match sl X p.ins p.fg (jJ p.ins ia cu).1 (jJ p.ins ia cu).2 with
    |some (x,bO,dz)=>if y7 0 p.ks bO dz=aa then F n x else ae
    |none=>ae)=J eX:=cK
   split at cK
   ·rename_i jL bO dz aV;obtain ⟨Vi,p7⟩:=gz cK;obtain ⟨awu,dX,ix,pH,G8⟩:=mf (aQ:=p.ins) aT br;obtain ⟨z2,Yf,i1,i2,k0⟩:=ae4 pH G8 aV;have i1:=dX.trans i1;have ai:∀(i:Nat) (u:af),dB[i]? =J u->awu[i]? =J u:=λi u hu=>ix i u (ai i u hu);have aaJ:=a1 jL eX p7 k0.abD k0.afm;rw[mS] at aaJ;refine aaJ.mono ?_;rintro ex ic m2 ⟨z3,ep,ee,y,g1,g2,g3,g4,g5,g6⟩;have same:∀j,p.ks.getD j 0≠0->∀u,Yf[j]? =J u->dB[j]? =J u:=by
     intro j bn u hu;obtain ⟨s1,_⟩:=K7 Vi bn;rw[lH] at s1;obtain ⟨xz,t1,t2⟩:=k0.ep _ _ s1;rw[hu] at t1;cases t1;have cF:j<dB.length:=by have:=(fq.1 hu).1;rw[k0.len,k0.wQ.length,<-ug (f:=λq=>cw.mk X q.c q.x ak),<-mD,me] at this;omega
     grind
    have lM:Yf.length=dB.length:=by rw[k0.len,k0.wQ.length,<-ug (f:=λq=>cw.mk X q.c q.x ak),<-mD,me,bB]
    have X5:∀(j:Nat) (u:af),gU p.ins<=j\/p.ks.getD j 0≠0->(Yf++ep)[j]? =J u->(dB++ep)[j]? =J u:=by
     grind
    have nB:=hk;simp only[h4.p0,fx] at nB;have aaQ:=nB.1.1;have anZ:=nB.1.2;have ayj:o0 X ee.outs (gn _ y) 0 p.ks (eU X p.ins jL)=o0 X ee.outs (gn _ y) 0 p.ks (eU X p.ins x):=by
     refine auU (by grind [me]) λj bn=> ?_;obtain ⟨s1,s2⟩:=K7 Vi (show p.ks.getD j 0≠0 by grind);obtain ⟨o,iw,iQ⟩:=s2 bn;rw[lH] at s1 iw;obtain ⟨q,fv,w,fQ⟩:=k0.wQ.get j j s1;rw[iw] at fQ;have fQ:=kB.inj fQ;subst fQ;rw[cw.Kc] at iQ;subst iQ;have V5:(eU X p.ins jL)[j]? =J (cw.mk X q.c q.x ak):=by grind [mD]
     have aaO:j<(eU X p.ins x).length:=by grind [me]
     have ew:=(bR.trans i1).ew j _ aaO iw cw.tn cw.Kc;rw[V5,ew];refine congrArg J (ata λr aV=> ?_);obtain ⟨apd,aaL⟩:=k0.gt q (mM fv) r aV;have Bt:r<gU p.ins:=by
      have:=(fq.1 aaL).1;rw[k0.wQ.length,<-ug (f:=λq=>cw.mk X q.c q.x ak),<-mD,me] at this
      grind
     rcases BJ (i:=0) anZ fv (by grind) r aV with h|h
     ·omega
     ·obtain ⟨avD,_⟩:=K7 Vi h
      grind
    have anM:∀q∈ee.fg,Jy (gU p.ins) p.ks q.2=aa:=by
     grind
    have ta:∀i∈ee.outs,∀r∈i.hs,gU p.ins<=r\/p.ks.getD r 0≠0:=λi az r aV=>aeE (iA.1 (tY.1 (iA.1 (iA.1 aaQ ee g1) i az)).2 r aV);refine ⟨z3,ep,ee,y,g1,g2,g3,(h1.trans i2).trans g4, ?_,λq bm=> ?_⟩
    ·have wy:ly X p.ks (eU X p.ins jL) ee.outs (gn _ y)=ly X p.ks (eU X p.ins x) ee.outs (gn _ y):=by grind [ly]
     rw[wy] at g5;have key:∀(i:Nat) (o:ba D),(ly X p.ks (eU X p.ins x) ee.outs (gn _ y))[i]? =J o->o.live=aa->(gU p.ins<=i\/p.ks.getD i 0≠0):=by
      intro i o aM aR;by_cases cF:i<gU p.ins
      ·refine .inr λnC=> ?_;unfold ly at aM;rw[kS (by grind [q5,me])] at aM;have bf:(eU X p.ins x)[i]? =J ((eU X p.ins x)[i]'(by grind [me])):=mm _;rw[xd bf,nC] at aM;simp at aM;subst aM;cases aR
      grind
     have mk:∀(i:Nat) (o:ba D),(ly X p.ks (eU X p.ins x) ee.outs (gn _ y))[i]? =J o->o= .dead\/∃c a w,o=cw.mk X c a w/\∀r∈c.hs,gU p.ins<=r\/p.ks.getD r 0≠0:=by
      intro i o aM;unfold ly at aM;by_cases cF:i<gU p.ins
      ·rw[kS (by grind [q5,me])] at aM;have bf:(eU X p.ins x)[i]? =J ((eU X p.ins x)[i]'(by grind [me])):=mm _;rw[xd bf] at aM;have aM:=(kB.inj aM).symm;by_cases cL:p.ks.getD i 0=1
       ·grind [mD,BJ]
       ·rw[if_neg cL] at aM;by_cases c9:p.ks.getD i 0=2
        ·rw[if_pos c9] at aM;rcases tx (X:=X) (aQ:=ee.outs) (x:=gn _ y) (j:=0+i) with bg|⟨d,c,a,bg,he⟩
         ·grind
         ·exact .inr ⟨c,a,aa,by rw[aM,he];rfl,ta _ bg⟩
        grind
      ·rw[kT (by grind [q5,me])] at aM;obtain ⟨d,c,a,bg,cp⟩:=xc (mM aM);exact .inr ⟨c,a,ak,cp,ta _ bg⟩
     refine g5.G3 (by rw[<-g5.len];grind) id (λi o aM aR=> ?_) (λi o u aM aR hu=> ?_) (λi j _ _ _ _ _ _ h=>h)
     ·obtain ⟨v,v1,v2⟩:=g5.at aM;refine ⟨o,v,aM,aR,v1,X5 i v (key i o aM aR) v1, ?_⟩;rcases mk i o aM with rfl|⟨c,a,w,rfl,aV⟩
      ·trivial
      ·exact cw.y8 w v2 λr nG u hu=>X5 r u (aV r nG) hu
     ·rcases mk i o aM with rfl|⟨c,a,w,rfl,_⟩
      ·trivial
      grind [cw.u4]
    ·have aV:=g6 q bm;rcases kU.1 bm with bm|bm
     ·obtain ⟨d,c,a,bg,ay⟩:=zB bm;rw[ay] at aV⊢;exact gR.VP (tY.1 (iA.1 (iA.1 aaQ ee g1) _ bg)).1 aV
     ·obtain ⟨s1,s2⟩:=adO (anM q bm);have:=XU (X:=X) (cJ:=id) (vs':=dB++ep) s1 aV λj u bn hu=>X5 j u (s2 j bn) hu
      grind [Lp]
   grind
def zg:∀{b:List Nat} {i j:Nat},q8 b i=J j->b[j]? =J i
 |[],_,_,h=>by cases h
 |a::b,i,j,h=>by
  simp only[q8] at h;split at h
  ·grind [kA]
  ·split at h
   ·rename_i d c;cases h;rw[qH];exact zg c
   grind
theorem Ky {c:Nat->Nat} {b d:List Nat} {a:List dt} {y:ft D a}:∀{i:Nat} {O:List (ba D)},(sd X c b d a y i O).length=O.length
 |i,[]=>rfl
 |i,o::O=>by simp[sd,Ky]
theorem acN {cJ:Nat->Nat} {bO ks:List Nat} {outs:List dt} {y:ft D outs}:∀{i:Nat} {O:List (ba D)} {a:Nat} {o:ba D},O[a]? =J o->(sd X cJ bO ks outs y i O)[a]? =J (match q8 bO (i+a) with|some j=>(if ks.getD j 0=1 then o else if ks.getD j 0=2 then kc X cJ outs y j else .dead)|none=>if o.live=aa then .dead else o)
 |i,[],a,o,h=>by grind
 |i,p::O,0,o,h=>by grind [sd]
 |i,p::O,a+1,o,h=>by
  simp only[qH] at h;have:=acN (cJ:=cJ) (bO:=bO) (ks:=ks) (outs:=outs) (y:=y) (i:=i+1) h
  grind [sd]
def sB.Kn {rn:fG->fG} {B:Code} {p:h4 D} {F:p.F} (h:sB rn X B p F) (hk:p.p0 B=aa) {ap:Type} (E:List (Nat×bc D)) (O:List (ba D)) (K:fG->List (Nat×bc D)->List (ba D)->Option ap) (r:ap) {z:Nat->bW} {e m:Mem} {k:Option Nat} {L:List af} {fr:Nat->af}
  (aN:b9 X.G O z e m k L) (bp:fj X z L E fr) (M:p.G2 X F E O K=J r):W P (sub B p.path) (λx=>je X O z e k L (K (rn x)) r) fr m:=by
 unfold h4.G2 at M;split at M
 ·rename_i x g b az;obtain ⟨eX,eF,M⟩:=bind_some M;obtain ⟨dv,dB,i1,i2,C⟩:=ae4 aN bp az;simp only[h4.p0,fx] at hk;have bB:g.length=gU p.ins:=by rw[<-me (X:=X) (x:=x),mD,ug];exact C.wQ.length
  have wq:dB.length=gU p.ins:=by rw[C.len,bB]
  refine (h x eX eF C.abD C.afm).keep ?_;rintro ex fY m1 anY ⟨z2,S,n,y,g1,g2,g3,g4,V,g6⟩;rw[g3] at M;rw[g2];have qR:S.length=(eU X n.outs (gn _ y)).length:=by
   have:=V.len
   grind [ly,q5,me]
  have oM:L.length=b.length:=C.abC.len;have U:∀(i:Nat) (u:af),L[i]? =J u->(L++S)[i]? =J u:=j0;have rU:∀(j:Nat) (u:af),(dB++S)[j]? =J u->(L++S)[num g (gU p.ins) b.length j]? =J u:=by
   intro j u hu;unfold num;by_cases cF:j<gU p.ins
   ·have aw:mn j (gU p.ins)=aa:=by simp_all
    rw[if_pos aw];rw[kS (by omega)] at hu;have Q:g[j]? =J (g.getD j 0):=by grind
    obtain ⟨Z,t1,t2⟩:=C.ep _ _ Q
    grind
   grind [Nat.blt_eq]
  have iF:∀(i:Nat) (o:ba D),(uE X p g b n (gn _ y))[i]? =J o->
    (i<b.length/\∃N,b[i]? =J N/\o=(match q8 g i with|some j=>(if p.ks.getD j 0=1 then N else if p.ks.getD j 0=2 then kc X (num g (gU p.ins) b.length) n.outs (gn _ y) j else .dead)|none=>if N.live=aa then .dead else N))\/
    (b.length<=i/\(mkOr X (num g (gU p.ins) b.length) n.outs (gn _ y))[i - b.length]? =J o):=by
   grind [uE,Ky,acN]
  have wy:∀(j:Nat) (mZ:ba D),(eU X p.ins x)[j]? =J mZ->(ly X p.ks (eU X p.ins x) n.outs (gn _ y))[j]? =J (if p.ks.getD j 0=1 then mZ else if p.ks.getD j 0=2 then kc X wE n.outs (gn _ y) j else .dead):=by
   grind [ly,q5,xd]
  have aoA:∀(i:Nat) (o:ba D),(eU X n.outs (gn _ y))[i]? =J o->(ly X p.ks (eU X p.ins x) n.outs (gn _ y))[gU p.ins+i]? =J o:=by
   grind [ly,q5,me]
  have s9:∀(i:Nat) (o:ba D),(uE X p g b n (gn _ y))[i]? =J o->o.live=aa->
    (∃j,q8 g i=J j/\((p.ks.getD j 0=1/\b[i]? =J o)\/(p.ks.getD j 0≠1/\p.ks.getD j 0=2/\o=kc X (num g (gU p.ins) b.length) n.outs (gn _ y) j)))\/(b.length<=i/\(mkOr X (num g (gU p.ins) b.length) n.outs (gn _ y))[i - b.length]? =J o):=by
   intro i o H l;rcases iF i o H with ⟨cF,N,ai,f⟩|h
   ·left;cases A:q8 g i with
    |some j=>
     rw[A] at f;dsimp only at f;refine ⟨j,rfl, ?_⟩;by_cases R:p.ks.getD j 0=1
     ·grind
     ·rw[if_neg R] at f;by_cases T:p.ks.getD j 0=2
      ·grind
      ·rw[if_neg T] at f;rw[f] at l;cases l
    |none=>
     rw[A] at f;dsimp only at f;by_cases br:N.live=aa
     ·rw[if_pos br] at f;rw[f] at l;cases l
     grind
   grind
  refine ⟨z2,L++S,_,_,i1.trans ?_,i2.trans g4,U, ?_,Cm ?_,M⟩
  ·refine ⟨?_,λi o az H l aJ=> ?_⟩
   ·grind [uE,Ky]
   ·rcases s9 i o H l with ⟨j,_,h|⟨_,_,h⟩⟩|h
    ·grind
    ·rcases tx (X:=X) (aQ:=n.outs) (x:=gn _ y) (j:=j) with t|⟨_,c,a,_,t⟩
     ·rw[h,t] at l;cases l
     grind [cw.Kc]
    grind
  ·refine V.G3 ?_ (λi=>if i<b.length then (q8 g i).getD 0 else gU p.ins+(i - b.length)) (λi o H l=> ?_) (λi o u H l hu=> ?_) (λi j o q fm bn aaS aaT hq=> ?_)
   ·grind [uE,Ky,va,mD]
   ·rcases s9 i o H l with ⟨j,A,s⟩|⟨hA,s⟩
    ·have Q:=zg A;obtain ⟨q,V5,w,fQ⟩:=C.wQ.get j i Q;have fv:(eU X p.ins x)[j]? =J (cw.mk X q.c q.x ak):=by grind [mD]
     obtain ⟨u,t1,t2⟩:=C.ep _ _ Q;have cF:i<b.length:=(fq.1 fQ).1;simp only[if_pos cF,A,IV];have I:=wy j _ fv;have JZ:(dB++S)[j]? =J u:=j0 _ _ t1;rcases s with ⟨R,s⟩|⟨R,T,s⟩
     ·rw[if_pos R] at I;rw[fQ] at s;have s:=kB.inj s;subst s;have cG:=V.obj j _ u I JZ;refine ⟨_,u,I,cw.u4,JZ,U _ _ t2,cw.y8 w cG λr M Z oS=> ?_⟩;obtain ⟨apd,aaL⟩:=C.gt q (mM V5) r M
      grind [num,Nat.blt_eq]
     ·rw[if_neg R,if_pos T] at I;have cG:=V.obj j _ u I JZ;rcases tx (X:=X) (aQ:=n.outs) (x:=gn _ y) (j:=j) with t|⟨_,c,a,_,t⟩
      ·rw[s,t] at l;cases l
      ·rw[t] at cG;refine ⟨_,u,I,by grind [cw.tn],JZ,U _ _ t2, ?_⟩;rw[s,t];exact cw.y8 aa cG λr _ Z oS=>rU r Z oS
    ·have aoj:¬i<b.length:=by omega
     simp only[if_neg aoj];rw[va,sH] at s;obtain ⟨q,v,rfl⟩:=vT.1 s;have I:=aoA (i - b.length) (cw.mk X q.c q.x ak) (by grind [mD]);obtain ⟨u,G7,Ya⟩:=V.at I;refine ⟨_,u,I,cw.u4,G7, ?_, ?_⟩
     ·rw[kT (by omega),wq,show gU p.ins+(i - b.length) - gU p.ins=i - b.length by omega] at G7
      grind
     ·exact cw.y8 ak Ya λr _ Z oS=>rU r Z oS
   ·rcases iF i o H with ⟨cF,N,ai,f⟩|⟨_,h⟩
    ·cases A:q8 g i with
     |some j=>
      rw[A] at f;dsimp only at f;have Q:=zg A;obtain ⟨q,fv,w,fQ⟩:=C.wQ.get j i Q;rw[ai] at fQ;by_cases R:p.ks.getD j 0=1
      ·grind [cw.tn]
      ·rw[if_neg R] at f;by_cases T:p.ks.getD j 0=2
       ·rw[if_pos T] at f;rcases tx (X:=X) (aQ:=n.outs) (x:=gn _ y) (j:=j) with t|⟨_,c,a,_,t⟩
        ·rw[f,t];trivial
        grind [cw.tn]
       ·rw[if_neg T] at f;rw[f];trivial
     |none=>
      rw[A] at f;dsimp only at f;by_cases br:N.live=aa
      ·rw[if_pos br] at f;rw[f];trivial
      ·rw[if_neg br] at f;subst f;rw[kS (by omega)] at hu;exact (C.abC.obj i o u ai hu).frozen l g4.le U
    grind [va,cw.tn]
   ·have Y:∀(i:Nat) (o:ba D),(uE X p g b n (gn _ y))[i]? =J o->o.live=aa->(i<b.length/\∃j,q8 g i=J j/\j<gU p.ins)\/b.length<=i:=by
     intro i o H l;rcases s9 i o H l with ⟨j,A,_⟩|⟨hA,_⟩
     ·have Q:=zg A
      grind
     grind
    rcases Y i o fm aaS with ⟨ec,a2,a3,a4⟩|ec
    ·rcases Y j q bn aaT with ⟨js,jR,Jc,aw'⟩|js
     ·simp only[if_pos ec,if_pos js,a3,Jc,IV] at hq;subst hq;have s1:=zg a3;have s2:=zg Jc
      grind
     grind
    grind
  ·intro q v;unfold T1 at v;rcases kU.1 v with v|v
   ·obtain ⟨d,c,a,t,s⟩:=zB v;have:=g6 q (kU.2 (.inl v));rw[s] at this⊢;exact gR.VP (tY.1 (iA.1 (iA.1 hk.1.1 n g1) _ t)).1 this
   ·rcases kU.1 v with v|v
    ·obtain ⟨r7,aoG,rfl⟩:=l2.1 v
     grind [adO,XU]
    ·obtain ⟨d,t,rfl⟩:=l2.1 v;have hw:=iA.1 hk.2.2 d t;have:=anY d (by grind);show rel X.G z2 (L++S) (eI E d) (fY d);rw[this];exact rel.mono (bp d) (i2.le.trans g4.le) U
 grind
def qF.Kn {B:Code} {p:h4 D} {F:p.F} (h:qF X B p F) (i:p.p0 B=aa) {b:Type} (E:List (Nat×bc D)) (O:List (ba D)) (K:fG->List (Nat×bc D)->List (ba D)->Option b) (r:b) {z:Nat->bW} {e m:Mem} {k:Option Nat} {a:List af} {c:Nat->af}
  (d:b9 X.G O z e m k a) (g:fj X z a E c) (f:p.G2 X F E O K=J r):W P (sub B p.path) (λx=>je X O z e k a (K x) r) c m:=
 sB.Kn (rn:=id) h i E O K r d g f
def sB.zd {d:fG->fG} {B:Code} {p:h4 D} {F:p.F} (h:sB d X B p F) (s:p.p0 B=aa) {b:Type} (E:List (Nat×bc D)) (O:List (ba D)) (K:fG->List (Nat×bc D)->List (ba D)->Option b) (r:b) {z:Nat->bW} {e m:Mem} {k:Option Nat} {a:List af} {c:Nat->af}
  (f:b9 X.G O z e m k a) (j:fj X z a E c) (g:p.run X F E O K=J r):W P (sub B p.path) (λx=>je X O z e k a (K (d x)) r) c m:=by
 obtain ⟨t,l,n,o,q⟩:=mf (aQ:=p.ins) f j;exact (h.Kn s _ _ K r o q g).mono λ_ _ _ i=>i.from l (dT.refl z) n
def qF.zd {B:Code} {p:h4 D} {F:p.F} (h:qF X B p F) (l:p.p0 B=aa):qJ X B (p.zd X F):=by
 intro o E O K r z e m k s q _ a d b;obtain ⟨n,f,g,i,j⟩:=mf (aQ:=p.ins) a d;exact (h.Kn l _ _ K r i j b).mono λ_ _ _ c=>c.from f (dT.refl z) g
end
end
end Go.aF
end
section
namespace Go.aF
structure fS (D:Nat->Type) where
 f:Nat
 lQ:Nat
 ins:List dt
 fg:List (Nat×bc D)
 ij:Option (Nat×Nat)
 re:Nat
 outs:List dt
 fu:List (Nat×bc D)
 lV:List ResultVar
 flat:Bool
def pX:Nat:=1000000
def nL:Nat->List ResultVar->List Nat|_,[]=>[]|n, .tmp d::a=>d::nL (n+1) a|n, .cell _ _::a=>n::nL (n+1) a
def fS.eX {D:Nat->Type} (d:fS D):List Nat:=nL pX d.lV
noncomputable section
section
variable {P:bI} {D:Nat->Type}
def XX (P:bI) (t:Nat) (a:bc D) (O:List (ba D)):Option (bc D):=match a with| .box i b=>(match O[i]? with|some (.box _ c _ _)=>o7 (P:=P) t c b J|some (.recv _ c _)=>o7 (P:=P) t c b J|_=>ae)|_=>ae
def xx (P:bI) (E:List (Nat×bc D)) (O:List (ba D)):Nat->List ResultVar->Option (List (Nat×bc D))
 |_,[]=>J []
 |n, .tmp d::b=>if mn d pX=aa then xx P E O (n+1) b else ae
 |n, .cell a t::b=>match XX P t (eI E a) O,xx P E O (n+1) b with|some V,J l=>J ((n,V)::l)|_,_=>ae
def tL (D:Nat->Type):Option (Nat×Nat)->Type|none=>Unit|some p=>D p.2
def fS.F (d:fS D):Type:=tL D d.ij->ft D d.ins->Option (mz D d.outs)
variable (X:e3 P D)
def rb:(c:Option (Nat×Nat))->tL D c->List (ba D)|none,_=>[]|some p,x=>[.recv p.2 (jl X p.2 x) ak]
def xu:Option (Nat×Nat)->List (Nat×bc D)|none=>[]|some p=>[(p.1, .box 0 0)]
def sm (d:fS D):List Nat:=match d.ij with|none=>[]|some _=>[d.re]
def fS.ee (d:fS D):lF D:=⟨.ret,d.outs,d.fu⟩
@[irreducible] def fk:Nat:=1000000000
def tq (a:List (Nat×bc D)) (b i:Nat):Bool:=mn i 63&&(match eI a (b+1+i) with| .c (.own _)=>aa|_=>ak)
def x2 (a:List (Nat×bc D)) (d:List (cv D)) (b:Nat):Nat->List (cv D)->List (cv D)|_,[]=>[]|i,c::e=>(if tq a b i=aa then d.getD i .gE else c)::x2 a d b (i+1) e
def Ua (E:List (Nat×bc D)) (n:Nat):bc D:=
 if fi (n%64) 0=aa then .un else
 match eI E (n / 64) with
 | .agg _ a=>(match a[n%64 - 1]? with|some c=> .c c|none=> .un)
 |_=> .un
def yF (E:List (Nat×bc D)):List (Nat×bc D)->List (Nat×bc D)|[]=>[]|p::l=>if iJ fk p.1=aa then (p.1,Ua E (p.1 - fk))::yF E l else yF E l
def uH (b E:List (Nat×bc D)):List dt->Option (List (Nat×bc D))
 |[]=>J []
 | .v s c::a=>
  if iJ fk s=aa then
   if fi ((s - fk)%64) 0=aa then
    match eI E ((s - fk) / 64) with
    | .agg t d=>(match uH b E a with|some l=>J ((s, .agg t (x2 b (nQ X t) s 0 d))::l)|none=>ae)
    |_=>ae
   else ae
  else uH b E a
 | .o _ _::a=>uH b E a
 | .u _ _::a=>uH b E a
def wg:List dt->Bool|[]=>ak| .v s _::a=>iJ fk s||wg a|_::a=>wg a
def PY (d:fS D) (a:fG) (E:List (Nat×bc D)) (O:List (ba D)):Option (mz D d.outs):=
 if a= .normal\/a= .ret then ab (xx P E O pX d.lV) λl=>
  if wg d.outs=aa then
   if ((l++E).all (λp=>mn p.1 fk)&&d.eX.all λx=>mn x fk)=aa then
    ab (uH X d.fu (l++E) d.outs) λb=>xv X (sm d).length (sm d) d.ee (b++(yF (l++E) d.fu++(l++E))) O
   else ae
  else xv X (sm d).length (sm d) d.ee (l++E) O
 else ae
def XT (b:Bool) (s:bc D) (c:cv D):cv D:=match b,s with|true, .c (.own n)=> .own n|_,_=>c
def wS (E:List (Nat×bc D)) (b:Nat):Nat->List (cv D)->List (cv D)|_,[]=>[]|i,c::a=>XT (mn i 63) (eI E (b+1+i)) c::wS E b (i+1) a
def BB (a b:List (Nat×bc D)):List Nat->List (Nat×bc D)
 |[]=>[]
 |d::c=>match eI a (fk+64*d) with| .agg t e=>(d, .agg t (wS b (fk+64*d) 0 e))::BB a b c|_=>BB a b c
def IE (a:List dt) (f:List (Nat×bc D)) (c:Nat->af):Prop:=∀d t,dt.v (fk+64*d) (.agg t)∈a->∃e b:List af,c (fk+64*d)= .agg e.toArray/\c d= .agg b.toArray/\b.length=e.length/\
 ∀(i:Nat) (w:af),b[i]? =J w->if tq f (fk+64*d) i=aa then c (fk+64*d+1+i)=w else e[i]? =J w
def PX (a b:List (Nat×bc D)) (c:List Nat):List (Nat×bc D):=BB a b c++(a++b)
def mg:Nat->List (bc D)->List (Nat×bc D)|_,[]=>[]|i,s::l=>(i,s)::mg (i+1) l
def P7 (E:List (Nat×bc D)):List Nat->Option (List (cv D⊕(Nat×List (cv D))))|[]=>J []|d::b=>match eI E d,P7 E b with| .c c,J l=>J (.inl c::l)| .agg t a,J l=>J (.inr (t,a)::l)|_,_=>ae
def GZ (E:List (Nat×bc D)):List Nat->Option (bc D)
 |[d]=>J (eI E d)
 |ds=>match P7 E ds with|some l=>J (.sq l)|none=>ae
def Cp:cv D->Option af| .int k n=>J (.int k n)| .bool b=>J (.bool b)| .str s=>J (aF.str s)|_=>ae
def xl:List (cv D)->Option (List af)
 |[]=>J []
 |c::a=>match Cp c,xl a with|some v,J l=>J (v::l)|_,_=>ae
def tG:List (cv D⊕(Nat×List (cv D)))->Option (List af)
 |[]=>J []
 | .inl c::l=>(match Cp c,tG l with|some v,J a=>J (v::a)|_,_=>ae)
 | .inr p::l=>(match xl p.2,tG l with|some b,J a=>J (.agg b.toArray::a)|_,_=>ae)
def Cq:bc D->Option af
 | .c c=>Cp c
 | .agg _ a=>(match xl a with|some b=>J (.agg b.toArray)|none=>ae)
 | .sq l=>(match tG l with|some d=>J (.tuple d.toArray)|none=>ae)
 |_=>ae
def zP (t:Nat):Option (ba D)->Option (D t)|some (.box b a ak _)=>if b=t then mA X t a else ae|some (.recv b a _)=>if b=t then mA X t a else ae|_=>ae
def GW (t:Nat) (a:List (cv D)):ba D->ba D| .box _ _ _ _=> .box t a ak aa|_=> .recv t a aa
def sh:List dt->Bool|[]=>aa| .o _ (.recv _)::_=>ak| .o _ _::a=>sh a| .v _ c::a=>c.y9&&sh a| .u _ _::a=>sh a
def wL (i N j:Nat):Nat:=if fi j 0=aa then i else N+(j - 1)
def Ck (a:List dt) (f:List (Nat×bc D)) (d:List Nat) (flat:Bool) (g:Nat) (h:List (bc D)) (O b:List (ba D)) {e:Type} (K:bc D->List (ba D)->Option e):(l:Option (Nat×Nat))->(tL D l->Option (mz D a))->Option e
 |none,G=>
  ab (G ()) λy=>
   match GZ (PX (hc X a (gn _ y)) (f.map λq=>(q.1,pE (λj=>b.length+j) q.2)) d) d with
   |some c=>if flat=aa then (match Cq c with|some _=>K c O|none=>ae) else K c (b++mkOr X (λj=>b.length+j) a (gn _ y))
   |none=>ae
 |some p,G=>
  match eI (mg 0 h) p.1 with
  | .box i 0=>
   match b[i]? with
   |some o=>
    ab (zP X p.2 (J o)) λr=>
    ab (G r) λy=>
     match GZ (PX (hc X a (gn _ y)) (f.map λq=>(q.1,pE (wL i b.length) q.2)) d) d with
     |some c=>
      if g=2 then
       match kc X wE a (gn _ y) 0 with
       | .recv t k _=>if t=p.2 then K c (b.set i (GW p.2 k o)++mkOr X (wL i b.length) a (gn _ y)) else ae
       |_=>ae
      else if g=1 then (if o.clean=aa then K c (b++mkOr X (wL i b.length) a (gn _ y)) else K c (b.set i (GW p.2 (jl X p.2 r) o)++mkOr X (wL i b.length) a (gn _ y))) else ae
     |none=>ae
   |none=>ae
  |_=>ae
def fS.call (d:fS D) (F:d.F) (a:List (bc D)) (O:List (ba D)) {b:Type} (K:bc D->List (ba D)->Option b):Option b:=if fi a.length d.lQ then match rL (mg 0 a) d.ins O with|some (e,c)=>if d.fg.all λp=>wa [] p.2 (eI (mg 0 a) p.1) then match iG X [] c d.ins e [] with|some x=>Ck X d.outs d.fu d.eX d.flat d.re a O c K d.ij λr=>F r x|none=>ae else ae|none=>ae else ae
end
section
variable {P:bI} {D:Nat->Type} {X:e3 P D} {z dv z2:Nat->bW} {e m m1:Mem} {k q:Option Nat} {vs:List af} {fr:Nat->af} {E:List (Nat×bc D)} {O cr:List (ba D)}
def b9.call (h:b9 X.G O dv e m k vs) (bx:dT m.next dv z2) (s:gl m m1 q) (aS:dL z2 e m1 k) (aR:cr.length=O.length)
  (aM:∀(j:Nat) (o':ba D),cr[j]? =J o'->(O[j]? =J o'/\(o'.live=aa->∀v,vs[j]? =J v->e6 (dQ v) q))\/(∃o,O[j]? =J o/\o.live=aa/\∀v,vs[j]? =J v->hf X.G z2 e m1 k vs o' v)):b9 X.G cr z2 e m1 k vs where
 aS:=aS
 len:=by rw[aR];exact h.len
 obj:=λj o' v bn aD=>by
  rcases aM j o' bn with ⟨h1,ai⟩|⟨o,h1,ai,aT⟩
  ·have cG:=h.obj j o' v h1 aD;cases dE:o'.live with
   |false=>exact cG.frozen dE bx.le λ_ _ h=>h
   |true=>exact (cG.same s (λ_=>ai dE v aD) λ_ _ h=>h).jP bx.le (λ_ b aw=>bx.low b (cG.lt dE b aw).1) λ_ b j L t aw=>bx.low b (h.aS.bZ b (by grind)).2
  grind
 fD:=λa b o p v w jV bl aw hr lO aD hw=>by
  have key:∀(j:Nat) (o':ba D),cr[j]? =J o'->o'.live=aa->∃o,O[j]? =J o/\o.live=aa:=by
   grind
  obtain ⟨iw,g1,g2⟩:=key a o bl hr;obtain ⟨iQ,g3,g4⟩:=key b p aw lO;exact h.fD a b iw iQ v w jV g1 g3 g2 g4 aD hw
def b9.al6 {N:List (ba D)} {a:List af} {r:Nat} (h:b9 X.G O z e m k vs) (B:a.length=N.length)
  (K:∀(j:Nat) (o:ba D) (v:af),O[j]? =J o->vs[j]? =J v->o.live=aa->∀b,dQ v=J b->b<r)
  (H:∀(j:Nat) (o:ba D) (v:af),N[j]? =J o->a[j]? =J v->hf X.G z e m k (vs++a) o v/\∀b,dQ v=J b->r<=b)
  (I:∀(i j:Nat) (o p:ba D) (v w:af),i≠j->N[i]? =J o->N[j]? =J p->a[i]? =J v->a[j]? =J w->e6 (dQ v) (dQ w)):b9 X.G (O++N) z e m k (vs++a):=by
 have s:∀(j:Nat) (o:ba D) (v:af),(O++N)[j]? =J o->(vs++a)[j]? =J v->(j<O.length/\O[j]? =J o/\vs[j]? =J v)\/(O.length<=j/\N[j - O.length]? =J o/\a[j - O.length]? =J v):=by
  intro j o v d c;by_cases C:j<O.length
  ·rw[kS C] at d;rw[kS (by rw[h.len];grind)] at c
   grind
  ·rw[kT (by omega)] at d;rw[kT (by rw[h.len];omega),h.len] at c
   grind
 refine ⟨h.aS,by rw[sI,sI,h.len,B],λj o v d c=> ?_,λi j o p v w E d t A y c u=> ?_⟩
 ·rcases s j o v d c with ⟨_,g,f⟩|⟨_,g,f⟩
  ·exact (h.obj j o v g f).same (m':=m) (q:=ae) ⟨e4 _,h.aS.dead,λ_ _ _=>rfl⟩ (λ_=>e6.qg) j0
  grind
 ·have x:∀(i j:Nat) (o p:ba D) (v w:af),O[i]? =J o->vs[i]? =J v->o.live=aa->N[j]? =J p->a[j]? =J w->e6 (dQ v) (dQ w):=by
   intro i j o p v w d c A t u b F L
   grind
  rcases s i o v d c with ⟨_,g,f⟩|⟨_,g,f⟩
  ·rcases s j p w t u with ⟨_,l,n⟩|⟨_,l,n⟩
   ·exact h.fD i j o p v w E g l A y f n
   grind
  ·rcases s j p w t u with ⟨_,l,n⟩|⟨_,l,n⟩
   ·exact (x j _ p o w v l n y g f).symm
   grind
def KR:∀{aQ:List dt} {x:ft D aQ} {q:yh D},sh aQ=aa->q∈cos aQ x->∀t,q.c≠ .recv t
 |[],_,_,_,h=>by grind [cos]
 | .v d c::aQ,x,o,a,h=>KR (aQ:=aQ) (x:=x.2) (tY.1 a).2 h
 | .u d c::aQ,x,o,a,h=>KR (aQ:=aQ) (x:=x.2) a h
 | .o d c::aQ,x,o,a,h=>by
  simp only[cos,ha] at h;have b:(∀t,c≠ .recv t)/\sh aQ=aa:=by
   cases c with
   |recv t=>cases a
   |_=>exact ⟨λt h=>(by grind),a⟩
  rcases h with rfl|h
  ·grind
  ·exact KR (aQ:=aQ) (x:=x.2) b.2 h
def born {c:cw} {x:c.ty D} {w:Bool} {v:af} {kk:Option Nat} {C:Nat->Nat} (o:∀t,c≠ .recv t) (i:e.next<=m.next) (h:hf X.G z m m1 kk vs (cw.gO X C c x w) v):hf X.G z e m1 k vs (cw.gO X C c x w) v/\∀b,dQ v=J b->m.next<=b:=by
 cases c with
 |recv t=>grind
 |bL t l=>obtain ⟨b,y,rfl,d,g,q⟩:=h;exact ⟨⟨b,y,rfl,⟨d.blk,d.lt,d.dead, .inl (jd i g)⟩,jd i g,q⟩,λc o=>by cases o;grind⟩
 |uI t f N=>obtain ⟨b,y,rfl,d,g,q⟩:=h;exact ⟨⟨b,y,rfl,⟨d.blk,d.lt,d.dead, .inl (jd i g)⟩,jd i g,q⟩,λc o=>by cases o;grind⟩
 |bh t=>have h:dU (X.G.T t) z m m1 kk x v:=h;refine ⟨(⟨h.bT,λb s=>jd i (h.fresh b s)⟩:dU (X.G.T t) z e m1 k x v), ?_⟩;rw[hi (by obtain ⟨a,c,rfl⟩:=h.bT.len;grind)];exact h.fresh
 |box t=>obtain ⟨b,y,rfl,d,g,q⟩:=h;exact ⟨⟨b,y,rfl,⟨d.blk,d.lt,d.dead, .inl (jd i g)⟩,jd i g,q⟩,λc o=>by cases o;grind⟩
 |arr t u n=>obtain ⟨⟨b,rfl⟩,h⟩:=h;exact ⟨⟨⟨b,rfl⟩,h.bT,λb s=>jd i (h.fresh b s)⟩,λc o=>h.fresh c o⟩
 |map t B A=>have h:jD (X.G.M t B A) z m m1 kk x v:=h;obtain ⟨r,rfl,d,g,q,E⟩:=h.bT;exact ⟨(⟨⟨r,rfl,d,g,q,jd i E⟩⟩:jD (X.G.M t B A) z e m1 k x _),λc o=>by cases o;grind⟩
 |ne L t=>obtain ⟨F,H,h⟩:=h;refine ⟨⟨F,H,⟨h.bT.bT,λb s=>jd i (h.bT.fresh b s)⟩,h.len,λj w I d g q=>(h.oU j w I d g q).Ja i,λp K=>by grind⟩, ?_⟩;rw[hi (by obtain ⟨a,c,rfl⟩:=h.bT.bT.len;grind)];exact h.bT.fresh
def W2:∀{i:List Nat} {l:List (cv D⊕(Nat×List (cv D)))},fj X z vs E fr->P7 E i=J l->bP (vt X.G z vs) l (i.map fr)/\∀x∈i.map fr,storable x=aa
 |[],l,e,h=>by cases h;exact ⟨trivial,by simp⟩
 |d::k,l,e,h=>by
  simp only[P7] at h;have a:=e d;split at h
  ·rename_i c m g f;cases h;rw[g] at a;obtain ⟨j,n⟩:=W2 e f;refine ⟨⟨a,j⟩,λx b=> ?_⟩;rcases ha.1 b with rfl|b
   ·exact (ed.afp a).1
   grind
  ·rename_i t o m g f;cases h;rw[g] at a;obtain ⟨j,n⟩:=W2 e f;refine ⟨⟨a,j⟩,λx b=> ?_⟩;rcases ha.1 b with rfl|b
   ·obtain ⟨k,a,_⟩:=a;rw[a];rfl
   grind
  grind
def Xf {a:List Nat} {c:bc D} (b:fj X z vs E fr) (h:GZ E a=J c):rel X.G z vs c (pack (a.map fr))/\((a.map fr).length=1\/∀x∈a.map fr,storable x=aa):=by
 unfold GZ at h;split at h
 ·cases h;exact ⟨b _, .inl rfl⟩
 ·rename_i g i;split at h
  ·rename_i l d;cases h;obtain ⟨e,f⟩:=W2 b d;refine ⟨?_, .inr f⟩;have:pack (a.map fr)= .tuple (a.map fr).toArray:=by
    simp_all [pack]
   rw[this];exact ⟨_,rfl,e⟩
  grind
def WE {c:cv D} {v w:af} (h:Cp c=J w) (a:ed X.G z vs c v):v=w/\dy w=aa:=by
 cases c<;>first|(cases h;done)|(cases h;exact ⟨a,rfl⟩)
def WG:∀{b:List (cv D)} {e a:List af},xl b=J a->bP (ed X.G z vs) b e->e=a/\a.all dy=aa
 |[],[],_,h,_=>by cases h;grind
 |c::b,d::e,a,h,⟨j,i⟩=>by
  simp only[xl] at h;split at h
  ·rename_i v l f g;cases h;obtain ⟨rfl,k⟩:=WE f j;obtain ⟨rfl,m⟩:=WG g i
   grind
  grind
 |[],_::_,_,_,h=>h.elim
 |_::_,[],_,_,h=>h.elim
def WH:∀{l:List (cv D⊕(Nat×List (cv D)))} {b a:List af},tG l=J a->bP (vt X.G z vs) l b->b=a/\a.all kz=aa
 |[],[],_,h,_=>by cases h;grind
 | .inl c::l,d::b,a,h,⟨j,i⟩=>by
  simp only[tG] at h;split at h
  ·rename_i v n f g;cases h;obtain ⟨rfl,e⟩:=WE f j;obtain ⟨rfl,k⟩:=WH g i;have:kz d=aa:=by cases d<;>first|exact e|cases e
   grind
  grind
 | .inr p::l,d::b,a,h,⟨⟨o,m,j⟩,i⟩=>by
  simp only[tG] at h;split at h
  ·rename_i v n f g;cases h;obtain ⟨rfl,e⟩:=WG f j;obtain ⟨rfl,k⟩:=WH g i;subst m;exact ⟨rfl,by simp only[ml,k,Bool.and_true];exact e⟩
  grind
 |[],_::_,_,_,h=>h.elim
 |_::_,[],_,_,h=>h.elim
def arX {s:bc D} {v w:af} (h:Cq s=J w) (a:rel X.G z vs s v):v=w/\aF.flat w=aa:=by
 unfold Cq at h;split at h
 ·obtain ⟨rfl,g⟩:=WE h a;refine ⟨rfl, ?_⟩;cases v<;>first|exact g|cases g
 ·split at h
  ·rename_i e c;cases h;obtain ⟨d,rfl,b⟩:=a;obtain ⟨rfl,g⟩:=WG c b;exact ⟨rfl,g⟩
  grind
 ·split at h
  ·rename_i f c;cases h;obtain ⟨d,rfl,b⟩:=a;obtain ⟨rfl,g⟩:=WH c b;exact ⟨rfl,g⟩
  grind
 grind
def PW:Option (Nat×Nat)->List dt|none=>[]|some p=>[.o p.1 (.recv p.2)]
def X2:(c:Option (Nat×Nat))->tL D c->ft D (PW c)|none,_=>()|some _,r=>(r,())
def auZ (c:Option (Nat×Nat)) (r:tL D c):eU X (PW c) (X2 c r)=rb X c r:=by cases c<;>rfl
def ati {c:Option (Nat×Nat)} {r:tL D c} {n:Nat}:(match c with|none=>[]|some _=>[n]).length=(rb X c r).length:=by cases c<;>rfl
def asL {d:fS D} {r:tL D d.ij}:(rb X d.ij r).length=(sm d).length:=by
 unfold sm;rw[<-ati (X:=X) (r:=r) (n:=d.re)]
def at2 (X:e3 P D) (d:fS D) (r:tL D d.ij) (y:mz D d.outs) (z:Nat->bW) (m:Mem) (kk:Option Nat) (dB:List af) (e:fG) (g:Nat->af) (f:Mem):Prop:=(e= .normal\/e= .ret)/\∃a,q2 P g f d.lV (d.eX.map a)/\∃b c,dT m.next z b/\b9 X.G (ly X (sm d) (rb X d.ij r) d.outs (gn _ y)) b m f kk (dB++c)/\(∀q∈hc X d.outs (gn _ y)++d.fu,rel X.G b (dB++c) q.2 (a q.1))/\IE d.outs d.fu a
def Au (X:e3 P D) (B:Code) (d:fS D) (F:d.F):Prop:=∀(r:tL D d.ij) (x:ft D d.ins) (y:mz D d.outs) {z:Nat->bW} {m:Mem} {kk:Option Nat} {dB:List af} {a:Nat->af},
 F r x=J y->b9 X.G (rb X d.ij r) z m m kk dB->fj X z dB (hc X d.ins x++(d.fg++xu d.ij)) a->W P B (at2 X d r y z m kk dB) a m
def arx {t:Nat} {a:bc D} {V:bc D} {v:af} (r:b9 X.G O z e m k vs) (M:rel X.G z vs a v) (h:XX P t a O=J V):∃b l w,v= .pointer (J ⟨b,l,ae⟩)/\rel X.G z vs V w/\∃d,P.underlying t=J d/\
  (if lI d=aa then ∃i f,P.info? t=J i/\kd m b l i.size=J f/\w= .agg f.toArray else m.load b l=J w):=by
 have p:∀{b n:Nat} {f:List (cv D)} {g:List af},(∀(j:Nat) (w:af),g[j]? =J w->m.load b (0+j)=J w)->bP (ed X.G z vs) f g->o7 (P:=P) t f n J=J V->∃w,rel X.G z vs V w/\∃d,P.underlying t=J d/\(if lI d=aa then ∃i f,P.info? t=J i/\kd m b n i.size=J f/\w= .agg f.toArray else m.load b n=J w):=by
  intro b n f g B o h;unfold o7 at h;split at h
  ·grind
  ·rename_i d C;split at h
   ·rename_i R;split at h
    ·grind
    ·rename_i i T;split at h
     ·rename_i I;cases h;have K:bP (ed X.G z vs) ((f.drop n).take i.size) ((g.drop n).take i.size):=bP.take _ (bP.drop _ o);have W:((g.drop n).take i.size).length=i.size:=by rw[<-K.length];grind
      refine ⟨.agg ((g.drop n).take i.size).toArray,⟨_,rfl,K⟩,d,C, ?_⟩
      grind [Cc]
     grind
   ·rename_i R;split at h
    ·rename_i c Q;cases h;obtain ⟨w,U,L⟩:=o.get n c Q;refine ⟨w,L,d,C, ?_⟩
     grind
    grind
 unfold XX at h;split at h
 ·rename_i i l;obtain ⟨b,y,S⟩:=M;split at h
  ·rename_i u f bZ N x;have E:=r.obj i _ _ x y;cases bZ with
   |true=>
    obtain ⟨F,g,q,B,o⟩:=E;cases q;obtain ⟨w,H,A⟩:=p (b:=b) (r.aS.tm B) o h
    grind
   |false=>
    obtain ⟨F,g,q,s,_,o⟩:=E;cases q;obtain ⟨w,H,A⟩:=p (b:=b) s.tm o h
    grind
  ·rename_i u f N x;obtain ⟨F,g,q,s,o⟩:=r.obj i _ _ x y;cases q;obtain ⟨w,H,A⟩:=p (b:=b) s.tm o h
   grind
  grind
 grind
def Xt:∀{c:List ResultVar} {n:Nat} {l:List (Nat×bc D)},xx P E O n c=J l->∀x∈nL n c,x<pX\/n<=x
 |[],n,l,_,x,b=>by grind [nL]
 | .tmp d::c,n,l,h,x,b=>by
  obtain ⟨f,e⟩:=gz h;simp only[nL,ha] at b;rcases b with rfl|b
  ·simp_all
  ·rcases Xt e x b with h|h
   ·grind
   grind
 | .cell a t::c,n,l,h,x,b=>by
  simp only[xx] at h;split at h
  ·rename_i V g _ e;simp only[nL,ha] at b;rcases b with rfl|b
   ·grind
   ·rcases Xt e x b with h|h
    ·grind
    grind
  grind
def Xu (q:b9 X.G O z e m k vs) (p:fj X z vs E fr):∀{f:List ResultVar} {n:Nat} {l:List (Nat×bc D)},pX<=n->xx P E O n f=J l->∃c,(∀d,d<n->c d=fr d)/\fj X z vs (l++E) c/\q2 P fr m f ((nL n f).map c)
 |[],n,l,_,h=>by cases h;exact ⟨fr,λ_ _=>rfl,p,trivial⟩
 | .tmp d::f,n,l,j,h=>by
  obtain ⟨y,g⟩:=gz h;have o:d<pX:=by simp_all
  obtain ⟨c,r,s,v⟩:=Xu q p (Nat.le_succ_of_le j) g;exact ⟨c,λd o=>r d (Nat.lt_succ_of_lt o),s,r d (Nat.lt_succ_of_lt (hS o j)),v⟩
 | .cell a t::f,n,l,j,h=>by
  simp only[xx] at h;split at h
  ·rename_i V C y g;cases h;obtain ⟨c,r,s,v⟩:=Xu q p (Nat.le_succ_of_le j) g;obtain ⟨b,u,w,B,I,K⟩:=arx q (p a) y;refine ⟨λi=>if i=n then w else c i,λd o=> ?_,λi=> ?_, ?_⟩
   ·grind
   ·show rel X.G z vs (eI ((n,V)::(C++E)) i) (if i=n then w else c i);simp only[eI];split
    ·simp_all
    ·rename_i F;rw[if_neg (by rintro rfl;simp_all)];exact s i
   ·have H:(nL (n+1) f).map (λi=>if i=n then w else c i)=(nL (n+1) f).map c:=by
     apply YW;intro x A;rw[if_neg];rintro rfl;rcases Xt g _ A with h|h<;>omega
    refine ⟨⟨b,u,B, ?_⟩, ?_⟩
    ·grind
    grind
  grind
def adx {d:List (Nat×bc D)} {e:List (cv D)} {b:Nat}:∀{cs:List (cv D)} {a i:Nat},(x2 d e b a cs)[i]? =(cs[i]?).map λc=>if tq d b (a+i)=aa then e.getD (a+i) .gE else c
 |[],a,i=>by rfl
 |c::cs,a,0=>by rfl
 |c::cs,a,i+1=>by simp only[x2,qH];rw[adx (cs:=cs),show a+1+i=a+(i+1) by omega]
theorem ady {d:List (Nat×bc D)} {e:List (cv D)} {b:Nat}:∀{cs:List (cv D)} {a:Nat},(x2 d e b a cs).length=cs.length
 |[],_=>rfl
 |c::cs,a=>by simp[x2,ady (cs:=cs)]
def fj.app {A:List (Nat×bc D)} (b:fj X z vs E fr) (h:∀p∈A,rel X.G z vs p.2 (fr p.1)):fj X z vs (A++E) fr:=by
 induction A with
 |nil=>grind
 |cons p A a=>grind [cons]
theorem W4 {n:Nat}:∀{E:List (Nat×bc D)},(E.all λp=>mn p.1 n)=aa->∀s,n<=s->eI E s= .un
 |[],_,s,_=>rfl
 |p::E,h,s,a=>by
  simp only[ml,fx] at h;have b:p.1<n:=by simp_all
  simp only[eI];rw[if_neg (by simp;omega)];exact W4 h.2 s a
def BY {f:List (Nat×bc D)}:∀{aQ:List dt} {l:List (Nat×bc D)},uH X f E aQ=J l->(∀p∈l,fk<=p.1/\(p.1 - fk)%64=0/\∃t a,eI E ((p.1 - fk) / 64)= .agg t a/\p.2= .agg t (x2 f (nQ X t) p.1 0 a))/\
  ∀s c,dt.v s c∈aQ->fk<=s->∃t a,eI E ((s - fk) / 64)= .agg t a
 |[],l,h=>by cases h;exact ⟨by simp,by simp⟩
 | .o _ _::aQ,l,h=>by
  obtain ⟨b,d⟩:=BY (aQ:=aQ) h
  grind
 | .u _ _::aQ,l,h=>by
  obtain ⟨b,d⟩:=BY (aQ:=aQ) h
  grind
 | .v PZ k::aQ,l,h=>by
  simp only[uH] at h;split at h
  ·rename_i e;obtain ⟨g,h⟩:=gz h;split at h
   ·rename_i t a m;split at h
    ·rename_i j i;cases h;obtain ⟨b,d⟩:=BY (aQ:=aQ) i
     grind [pk,kA]
    grind
   grind
  ·rename_i e;obtain ⟨b,d⟩:=BY (aQ:=aQ) h
   grind [Nat.ble_eq_true_of_le]
def WD:∀{l:List (Nat×bc D)},∀p∈yF E l,fk<=p.1/\p.2=Ua E (p.1 - fk)
 |[],p,h=>by cases h
 |q::l,p,h=>by
  simp only[yF] at h;split at h
  ·rename_i a;rcases ha.1 h with rfl|h
   ·simp_all
   ·exact WD p h
  ·exact WD p h
def att {q:List (Nat×bc D)} {j:List dt} {I:List (Nat×bc D)} (L:fj X z vs E fr) (oO:(E.all λp=>mn p.1 fk)=aa) (h:uH X q E j=J I):
  ∃k,(∀s,s<fk->k s=fr s)/\fj X z vs (I++(yF E q++E)) k/\IE j q k:=by
 obtain ⟨m1,m2⟩:=BY h
 let n:Nat->Nat:=λs=>match eI E s with| .agg t _=>t|_=>0
 let k:Nat->af:=λs=>if s<fk then fr s else match fr ((s - fk) / 64) with
  | .agg e=>if (s - fk)%64=0 then .agg ((mN e.toList.length).map λi=>if tq q s i=aa then YA (XE (X:=X) (t:=n ((s - fk) / 64)) i) else e.toList.getD i undef).toArray else e.toList.getD ((s - fk)%64 - 1) undef
  |v=>v
 have Q:∀s,s<fk->k s=fr s:=λs x=>if_pos x;have r:∀s t f,fk<=s->eI E ((s - fk) / 64)= .agg t f->∃e:List af,fr ((s - fk) / 64)= .agg e.toArray/\bP (ed X.G z vs) f e/\
   k s=if (s - fk)%64=0 then .agg ((mN e.length).map λi=>if tq q s i=aa then YA (XE (X:=X) (t:=t) i) else e.getD i undef).toArray else e.getD ((s - fk)%64 - 1) undef:=by
  intro s t f x g;have u:=L ((s - fk) / 64);rw[g] at u;obtain ⟨e,m,o⟩:=u;refine ⟨e,m,o, ?_⟩;show (if s<fk then _ else _)=_;rw[if_neg (by omega)];simp only[m,n,g]
 have B:fj X z vs E k:=λs=>by
  by_cases x:s<fk
  ·rw[Q s x];exact L s
  ·rw[W4 oO s (by omega)];trivial
 refine ⟨k,Q,(B.app λp F=> ?_).app λp F=> ?_,λd t hm=> ?_⟩
 ·obtain ⟨m,o⟩:=WD p F;rw[o];unfold Ua;split
  ·trivial
  ·rename_i U;split
   ·rename_i t f g;obtain ⟨e,_,A,l⟩:=r p.1 t f m g;split
    ·rename_i c T;obtain ⟨w,P,u⟩:=A.get _ c T;rw[l,if_neg (by simp_all)];have C:e.getD ((p.1 - fk)%64 - 1) undef=w:=by grind
     rw[C];exact u
    ·trivial
   ·trivial
 ·obtain ⟨m,o,t,f,g,W⟩:=m1 p F;obtain ⟨e,_,A,l⟩:=r p.1 t f m g;rw[W,l,if_pos o];have O:=(lx.1 A).1;refine ⟨_,rfl,lx.2 ⟨by grind [ady],λi a b y R=> ?_⟩⟩;rw[adx] at y;obtain ⟨a0,U,y⟩:=vT.1 y;rw[lH] at y;have K:i<e.length:=by grind
  rw[sH,List.getElem?_range K] at R
  grind [lx]
 ·obtain ⟨M,f,g⟩:=m2 _ _ hm (by omega);obtain ⟨e,N,A,l⟩:=r (fk+64*d) M f (by omega) g;have V:(fk+64*d - fk) / 64=d:=by omega
  have Y:(fk+64*d - fk)%64=0:=by omega
  rw[if_pos Y] at l;rw[V] at N g;have bg:d<fk:=by
   grind [W4]
  refine ⟨_,e,l,by grind,by simp,λi w P=> ?_⟩;have K:=(fq.1 P).1;split
  ·rename_i aM;have S:i<63:=by
    grind [tq,Nat.blt_eq]
   obtain ⟨nv,H,_,Z⟩:=r (fk+64*d+1+i) M f (by omega) (by rw[show (fk+64*d+1+i - fk) / 64=d by omega];grind);rw[show (fk+64*d+1+i - fk) / 64=d by omega,N] at H;have H:e=nv:=by
    grind
   subst H;rw[Z,if_neg (by omega),show (fk+64*d+1+i - fk)%64 - 1=i by omega]
   grind
  simp_all
def Au.of (Q:iV X) {B:Code} {us:List (mP D)} {d:fS D} {F:d.F} (Y:∀u∈us,0<u.path.length->qJ X B u)
  (R:∀r x,j8 X us calm aa [] B (hc X d.ins x++(d.fg++xu d.ij)) (rb X d.ij r) (PY X d)=F r x):Au X B d F:=by
 intro r x y z m kk dB fr S e O;have h:=R r x;rw[S] at h;refine (Lh Q (L:=0) Y B aa [] _ _ _ y (sc B) (by simp) (by simp) e O h).mono ?_;rintro ex fY m1 ⟨dv,jK,ia,cu,bR,E,A,j,P,o⟩;obtain ⟨k,o⟩:=gz o;obtain ⟨l,T,a⟩:=bind_some o;obtain ⟨G,fv,C,H⟩:=Xu j P (e4 _) T;have N:(sm d).length=dB.length:=by rw[e.len,asL]
 rw[N] at a;have f:=auZ (X:=X) d.ij r;by_cases g:wg d.outs=aa
 ·replace a:=(if_pos g).symm.trans a
  obtain ⟨I,a⟩:=gz a;simp only[fx] at I;obtain ⟨BE,n,a⟩:=bind_some a;obtain ⟨J,V,U,Z⟩:=att C I.1 n;obtain ⟨w,q,p,c,s⟩:=B8 (ks:=sm d) (ins:=PW d.ij) (x:=X2 d.ij r) (ee:=d.ee) (by grind) A (by rw[f];exact e.len) j U a;rw[f] at c;have W:d.eX.map G=d.eX.map J:=YW λx k=>(V x (by simp_all)).symm;exact ⟨k,J,W▸H,w,q,E.trans p,c,s,Z⟩
 replace a:=(if_neg g).symm.trans a
 obtain ⟨w,q,p,c,s⟩:=B8 (ks:=sm d) (ins:=PW d.ij) (x:=X2 d.ij r) (ee:=d.ee) (by grind) A (by rw[f];exact e.len) j C a;rw[f] at c;refine ⟨k,G,H,w,q,E.trans p,c,s,λK t hm=>absurd ?_ g⟩;have:∀{b:List dt},dt.v (fk+64*K) (.agg t)∈b->wg b=aa:=by
  intro b;induction b with
  |nil=>grind
  |cons i b M=>
   intro h;rcases ha.1 h with rfl|h
   ·simp[wg]
   ·have:=M h;cases i<;>simp[wg,this]
 grind
end
end
end Go.aF
end
section
namespace Go.aF
noncomputable section
section
variable {P:bI} {D:Nat->Type} {X:e3 P D} {z dv z2:Nat->bW} {e m m1:Mem} {k q:Option Nat} {vs:List af} {fr:Nat->af} {E:List (Nat×bc D)} {O cr:List (ba D)} {ap:Type} {r:ap}
def WC:∀{l:List (bc D)} {b:List af} {i:Nat},bP (rel X.G z vs) l b->(∀(j:Nat) (v:af),b[j]? =J v->fr (i+j)=v)->fj X z vs (mg i l) fr
 |[],[],i,_,_=>λd=>trivial
 |s::l,a::b,i,⟨g,c⟩,e=>by
  refine (WC (i:=i+1) c λj v f=> ?_).cons ?_
  ·rw[show i+1+j=i+(j+1) by omega];simp_all
  ·have:=e 0 a rfl
   grind
 |[],_::_,_,h,_=>h.elim
 |_::_,[],_,h,_=>h.elim
structure Il (P:bI) (X:e3 P D) (d:fS D) (F:d.F):Prop where
 ex:∃fn c,P.funcs[d.f]? =J fn/\qm P fn c/\lR P d.f=aa/\iJ d.lQ fn.ntmps=aa/\fn.results.toList=d.lV/\Au X c d F
 new:sh d.outs=aa
 ay9:(d.fg.all λp=>tJ p.2)=aa
 avH:(d.fu.all λp=>tJ p.2)=aa
 avI:(d.fg.all λp=>(GY p.2).isNone)=aa
def Wb {c:cv D} {w:af} (h:Cp c=J w):ed X.G z vs c w/\dy w=aa/\kz w=aa/\aF.flat w=aa:=by
 cases c<;>first|(cases h;done)|(cases h;exact ⟨rfl,rfl,rfl,rfl⟩)
def Wc:∀{b:List (cv D)} {a:List af},xl b=J a->bP (ed X.G z vs) b a/\a.all dy=aa
 |[],_,h=>by cases h;exact ⟨trivial,rfl⟩
 |c::b,a,h=>by
  simp only[xl] at h;split at h
  ·rename_i v l d e;cases h;obtain ⟨f,i,_⟩:=Wb (X:=X) (z:=z) (vs:=vs) d;obtain ⟨g,j⟩:=Wc e;exact ⟨⟨f,g⟩,by grind⟩
  grind
def Wd:∀{l:List (cv D⊕(Nat×List (cv D)))} {a:List af},tG l=J a->bP (vt X.G z vs) l a/\a.all kz=aa
 |[],_,h=>by cases h;exact ⟨trivial,rfl⟩
 | .inl c::l,a,h=>by
  simp only[tG] at h;split at h
  ·rename_i v j b d;cases h;obtain ⟨e,_,g,_⟩:=Wb (X:=X) (z:=z) (vs:=vs) b;obtain ⟨f,i⟩:=Wd d;exact ⟨⟨e,f⟩,by grind⟩
  grind
 | .inr p::l,a,h=>by
  simp only[tG] at h;split at h
  ·rename_i v j b d;cases h;obtain ⟨e,g⟩:=Wc (X:=X) (z:=z) (vs:=vs) b;obtain ⟨f,i⟩:=Wd d;exact ⟨⟨⟨v,rfl,e⟩,f⟩,by simp only[ml,i,Bool.and_true];exact g⟩
  grind
def aqu {s:bc D} {w:af} (h:Cq s=J w):rel X.G z vs s w/\aF.flat w=aa:=by
 unfold Cq at h;split at h
 ·obtain ⟨a,_,_,b⟩:=Wb (X:=X) (z:=z) (vs:=vs) h;exact ⟨a,b⟩
 ·split at h
  ·rename_i d c;cases h;obtain ⟨a,b⟩:=Wc (X:=X) (z:=z) (vs:=vs) c;exact ⟨⟨d,rfl,a⟩,b⟩
  grind
 ·split at h
  ·rename_i e c;cases h;obtain ⟨a,b⟩:=Wd (X:=X) (z:=z) (vs:=vs) c;exact ⟨⟨e,rfl,a⟩,b⟩
  grind
 grind
def Inv.app (O N:List (ba D)):Inv O (O++N):=⟨by simp,λi p a b _ _=>by grind⟩
def b9.nil (a:b9 X.G O z e m k vs):b9 X.G ([]:List (ba D)) z m m ae []:=⟨dL.start a.aS.bZ a.aS.dead,rfl,by simp,by simp⟩
def ad6 {kk:Option Nat} (h:dL dv e m k) (a:dL z2 m m1 kk) (g:∀b,kk=J b->e.next<=b\/k=J b):dL z2 e m1 k/\gl m m1 kk:=
 ⟨⟨a.bZ,a.dead,h.oL,jd h.next a.next,λb c d=>by
  rw[a.kept b (hS c h.next) (λf=>by grind)];exact h.kept b c d⟩,⟨a.next,a.dead,a.kept⟩⟩
def adv {a:List dt} {d:List (Nat×bc D)} {c e:List (bc D)} {i:List (ba D)} {x:ft D a} {dB:List af} (h:fj X z vs (mg 0 c) fr) (k:yd X z vs fr a e) (j:iG X [] i a e []=J x)
  (g:(d.all λp=>wa [] p.2 (eI (mg 0 c) p.1))=aa):∀p∈hc X a x++d,rel X.G z dB p.2 (fr p.1):=by
 intro p b;rcases kU.1 b with b|b
 ·grind [zN]
 ·have f:=iA.1 g p b;have:=Xi (X:=X) (vs':=dB) id f (h p.1) (by simp)
  grind [Lp]
def after {a:List dt} {y:ft D a} {pU:List (ba D)} {dB d:List af} {kk:Option Nat} {L z:List (ba D)} {f:Nat->Nat} (O:b9 X.G L dv e m k vs) (C:b9 X.G z z2 e m1 k vs) (r:b9 X.G (pU++eU X a y) z2 m m1 kk (dB++d)) (U:dB.length=pU.length) (F:sh a=aa)
  (I:∀(j:Nat) (o:ba D) (v:af),z[j]? =J o->vs[j]? =J v->o.live=aa->∀b,dQ v=J b->b<m.next) (l:∀(j:Nat) (u:af),(dB++d)[j]? =J u->(vs++d)[f j]? =J u):b9 X.G (z++mkOr X f a y) z2 e m1 k (vs++d):=by
 have R:(eU X a y).length=(mkOr X f a y).length:=by grind [mD,va]
 have S:d.length=(eU X a y).length:=by
  have:=r.len
  grind
 have A:∀(j:Nat) (o:ba D) (v:af),(mkOr X f a y)[j]? =J o->d[j]? =J v->∃q∈cos a y,o=cw.gO X f q.c q.x ak/\(pU++eU X a y)[pU.length+j]? =J (cw.mk X q.c q.x ak)/\(dB++d)[pU.length+j]? =J v:=by
  grind [va,mD]
 refine C.al6 (S.trans R) I (λj o v h g=> ?_) (λi j o p v w V h H g Q=> ?_)
 ·obtain ⟨q,B,rfl,s,t⟩:=A j o v h g;have K:=r.obj _ _ v s t;exact born (KR F B) O.aS.next (cw.y8 (nR:=f) (vs':=vs++d) ak K λn _ u P=>l n u P)
 ·obtain ⟨q,B,rfl,s,t⟩:=A i o v h g;obtain ⟨W,E,rfl,M,N⟩:=A j p w H Q;exact r.fD _ _ _ _ v w (by omega) s M cw.u4 cw.u4 t N
theorem KS:∀{aQ:List dt},sh aQ=aa->∀d c,dt.v d c∈aQ->c.y9=aa
 | .v d c::aQ,h,e,b,a=>by
  have h:=tY.1 h;rcases ha.1 a with f|a
  ·grind
  ·exact KS (aQ:=aQ) h.2 e b a
 | .u d c::aQ,h,e,b,a=>by
  rcases ha.1 a with f|a
  ·grind
  ·exact KS (aQ:=aQ) h e b a
 | .o d c::aQ,h,e,b,a=>by
  rcases ha.1 a with f|a
  ·grind
  ·refine KS (aQ:=aQ) ?_ e b a;cases c<;>first|exact h|cases h
def K9:∀{aQ:List dt} {x:ft D aQ} {p:Nat×bc D},p∈hc X aQ x->∃c y,dt.v p.1 c∈aQ/\p.2=gR.mk X c y
 |[],_,_,h=>by grind [hc]
 | .o d c::aQ,x,p,h=>by
  obtain ⟨b,y,e,a⟩:=K9 (aQ:=aQ) (x:=x.2) h
  grind
 | .u d c::aQ,x,p,h=>by
  obtain ⟨b,y,e,a⟩:=K9 (aQ:=aQ) (x:=x.2) h
  grind
 | .v d c::aQ,x,p,h=>by
  rcases ha.1 h with rfl|h
  ·grind
  ·obtain ⟨b,y,e,a⟩:=K9 (aQ:=aQ) (x:=x.2) h
   grind
def W5:∀{E:List (Nat×bc D)} {s:Nat} {v:bc D},eI E s=v->v≠ .un->(s,v)∈E
 |[],_,_,h,a=>absurd h.symm a
 |p::E,s,v,h,a=>by
  simp only[eI] at h;split at h
  ·grind [kA]
  ·exact kn _ (W5 h a)
def adA {a:Nat->Nat}:∀{l:List (Nat×bc D)} {s:Nat},eI (l.map λq=>(q.1,pE a q.2)) s=pE a (eI l s)
 |[],_=>rfl
 |p::l,s=>by
  simp only[rA,eI];split
  ·rfl
  ·exact adA
def adn {b:Nat}:∀{cs:List (cv D)} {a i:Nat},(wS E b a cs)[i]? =(cs[i]?).map (XT (mn (a+i) 63) (eI E (b+1+(a+i))))
 |[],a,i=>by rfl
 |c::cs,a,0=>by rfl
 |c::cs,a,i+1=>by simp only[wS,qH];rw[adn (cs:=cs),show a+1+i=a+(i+1) by omega]
theorem ado {b:Nat}:∀{cs:List (cv D)} {a:Nat},(wS E b a cs).length=cs.length
 |[],_=>rfl
 |c::cs,a=>by simp[wS,ado (cs:=cs)]
def WK {b c:List (Nat×bc D)}:∀{e:List Nat},∀p∈BB b c e,∃t a,eI b (fk+64*p.1)= .agg t a/\p.2= .agg t (wS c (fk+64*p.1) 0 a)
 |[],p,h=>by cases h
 |d::g,p,h=>by
  simp only[BB] at h;split at h
  ·rename_i t a f;rcases ha.1 h with rfl|h
   ·grind
   ·exact WK p h
  ·exact WK p h
def atA {b:List dt} {y:ft D b} {f:List (Nat×bc D)} {k:Nat->Nat} {K:List Nat} (h:∀q∈hc X b y++f.map λq=>(q.1,pE k q.2),rel X.G z vs q.2 (fr q.1)) (E:IE b f fr):fj X z vs (PX (hc X b y) (f.map λq=>(q.1,pE k q.2)) K) fr:=by
 refine (Cm h).app λp H=> ?_;obtain ⟨t,W,P,B⟩:=WK p H;have u:=W5 P (by simp);obtain ⟨c,a,N,O⟩:=K9 u;have C:c= .agg t:=by cases c<;>simp[gR.mk] at O;grind
 subst C;obtain ⟨T,J,o,I,Y,R⟩:=E _ _ N;obtain ⟨l,S,r⟩:=h _ (kU.2 (.inl u));rw[S] at o;have o:l=T:=by
  grind
 subst o;rw[B];have s:=(lx.1 r).1;refine ⟨J,I,lx.2 ⟨by grind [ado],λi x w d Q=> ?_⟩⟩;rw[adn] at d;obtain ⟨A,F,d⟩:=vT.1 d;rw[lH,adA] at d;have j:=R i w Q;cases g:tq f (fk+64*p.1) i with
 |true=>
  rw[if_pos g] at j;unfold tq at g;simp only[fx] at g;obtain ⟨M,L⟩:=g;split at L
  ·rename_i n e;rw[M,e] at d;have d:cv.own (k n)=x:=d;subst d;have v:=W5 e (by simp);have:=h (fk+64*p.1+1+i, .c (.own (k n))) (kU.2 (.inr (l2.2 ⟨_,v,rfl⟩)));rw[<-j];exact this
  grind
 |false=>
  rw[if_neg (by grind)] at j;have U:=(lx.1 r).2 i A w F j;unfold XT at d;split at d
  ·rename_i n V e;exfalso;have:eI f (fk+64*p.1+1+i)= .c (.own n)\/∃m,eI f (fk+64*p.1+1+i)= .c (.own m):=by
    generalize eI f (fk+64*p.1+1+i)=q at e;cases q with
    |c q=>cases q<;>first|exact .inr ⟨_,rfl⟩|cases e
    |_=>first|cases e|(unfold pE at e;grind)
   grind [tq]
  grind
def aeF {i:List Nat} {a:List dt} {y:ft D a} {c:List (Nat×bc D)} {dB e:List af} {d:Nat->Nat} (m:sh a=aa) (l:(c.all λp=>tJ p.2)=aa) (h:(∀q∈hc X a y++c,rel X.G z dB q.2 (fr q.1))/\IE a c fr) (k:∀(j:Nat) (u:af),dB[j]? =J u->e[d j]? =J u):
  fj X z e (PX (hc X a y) (c.map λq=>(q.1,pE d q.2)) i) fr:=by
 obtain ⟨h,g⟩:=h;refine atA (λq b=> ?_) g;rcases kU.1 b with b|b
 ·grind [zB,gR.VP,KS]
 ·obtain ⟨n,f,rfl⟩:=l2.1 b
  grind [XU]
def asJ {t b:Nat} {o:ba D} {x:D t} (g:zP X t (J o)=J x) (F:hf X.G z e m k vs o (.pointer (J ⟨b,0,ae⟩))):
  o.live=aa/\(e.next<=b\/k=J b)/\(∀h,hf X.G z m m (J b) h (.recv t (jl X t x) ak:ba D) (.pointer (J ⟨b,0,ae⟩)))/\
  (∀{p:Nat->bW} {l:Mem} {w:Bool} {a:D t} {E:List af},hf X.G p m l (J b) E (.recv t (jl X t a) w:ba D) (.pointer (J ⟨b,0,ae⟩))->hf X.G p e l k vs (GW t (jl X t a) o) (.pointer (J ⟨b,0,ae⟩))/\(o.clean=aa->a=x->hf X.G p e l k vs o (.pointer (J ⟨b,0,ae⟩)))):=by
 unfold zP at g;split at g
 ·rename_i I H w A;cases A;obtain ⟨q,g⟩:=gz g;subst q;obtain ⟨c,y,C,f,i,v⟩:=F;cases C;refine ⟨rfl, .inl i,λh=>⟨b,y,rfl,⟨f.blk,f.lt,f.dead, .inr rfl⟩,vl g v⟩, ?_⟩;intro p l w a E r;obtain ⟨c,n,B,d,j⟩:=r;cases B;refine ⟨⟨b,n,rfl,⟨d.blk,d.lt,d.dead, .inl i⟩,i,tC j⟩,λs u=> ?_⟩;subst u;rw[LA g s];exact ⟨b,n,rfl,⟨d.blk,d.lt,d.dead, .inl i⟩,i,tC j⟩
 ·rename_i I H w A;cases A;obtain ⟨q,g⟩:=gz g;subst q;obtain ⟨c,y,C,f,v⟩:=F;cases C;refine ⟨rfl,f.fresh,λh=>⟨b,y,rfl,⟨f.blk,f.lt,f.dead, .inr rfl⟩,vl g v⟩, ?_⟩;intro p l w a E r;obtain ⟨c,n,B,d,j⟩:=r;cases B;refine ⟨⟨b,n,rfl,⟨d.blk,d.lt,d.dead,f.fresh⟩,tC j⟩,λs u=> ?_⟩;subst u;rw[LA g s];exact ⟨b,n,rfl,⟨d.blk,d.lt,d.dead,f.fresh⟩,tC j⟩
 grind
def fS.quiet (d:fS D):Bool:=d.flat&&d.ij.isNone
def gL (X:e3 P D) (d:fS D) (F:d.F):Prop:=∀(c:List (bc D)) (O:List (ba D)) {h:Type} (K:bc D->List (ba D)->Option h) (r:h) {z:Nat->bW} {e m:Mem} {k:Option Nat} {b:List af} (a:List af),
 b9 X.G O z e m k b->bP (rel X.G z b) c a->d.call X F c O K=J r->h2 P d.f a.toArray m λv g=>dH X O z e k b K r v g/\(d.quiet=aa->g=m)/\∃q,gG m g q/\oI b (q1 c) q
def gl.ZV {q:Option Nat} (h:gl m m1 q):gG m m1 q:=⟨h.next,h.blk⟩
def ac8 {i a d:Nat}:∀{l:List (bc D)} {n:Nat},eI (mg n l) d= .box i a->i∈q1 l
 |[],n,h=>by cases h
 |s::l,n,h=>by
  simp only[mg,eI] at h;split at h
  ·subst h;exact oG
  ·have:=ac8 h;cases s<;>first|exact this|exact kn _ this
def Il.call {d:fS D} {F:d.F} (eF:Il P X d F):gL X d F:=by
 intro cX O ap K r z e m k vs args aN dE h;obtain ⟨fn,c,f1,f2,f3,f4,f5,mS⟩:=eF.ex;have nE:=eF.new;have aa7:=eF.avH;unfold fS.call at h;obtain ⟨hlen,h⟩:=gz h;have hlen:=kA hlen;split at h
 ·rename_i mv cu bF;obtain ⟨an,h⟩:=gz h;split at h
  ·rename_i x aw;have cN:args.toArray.size<=fn.ntmps:=by
    rw[List.size_toArray,<-dE.length,hlen];simp_all
   have bp:∀fr:Nat->af,(∀i v,args.toArray.toList[i]? =J v->fr i=v)->fj X z vs (mg 0 cX) fr:=λfr hU=>WC dE λj v bn=>by grind
   obtain ⟨f,lQ,ins,fg,ij,re,outs,fu,lV,flat⟩:=d;cases ij with
   |none=>
    obtain ⟨y,aZ,h⟩:=bind_some h;split at h
    ·rename_i dR By;have body:∀fr:Nat->af,(∀i v,args.toArray.toList[i]? =J v->fr i=v)->W P c (λex fY m1=>(ex= .normal\/ex= .ret)/\∃dv z2 ep,Inv O cu/\dT e.next z dv/\b9 X.G cu dv e m k vs/\dT m.next dv z2/\b9 X.G (eU X outs (gn outs y)) z2 m m1 ae ep/\∃ic,q2 P fY m1 lV ((nL pX lV).map ic)/\(rel X.G z2 (vs++ep) dR (pack ((nL pX lV).map ic))/\(((nL pX lV).map ic).length=1\/∀x∈(nL pX lV).map ic,storable x=aa))) fr m:=by
      intro fr hU;obtain ⟨dv,g0,g1,g2,g3⟩:=w2 aN (bp fr hU) bF;have Bt:=adv (dB:=[]) ((bp fr hU).mono g1.le λ_ _ h=>h) g3 aw an;refine (mS () x y (z:=dv) (m:=m) (kk:=ae) (dB:=[]) aZ g2.nil (Cm λp bb=>Bt p (by grind [xu]))).mono ?_;rintro ex fY m1 ⟨he,ic,fv,z2,ep,cL,c9,fo⟩;have c9:b9 X.G (eU X outs (gn outs y)) z2 m m1 ae ep:=c9;refine ⟨he,dv,z2,ep,g0,g1,g2,cL,c9,ic,fv,Xf (aeF (dB:=ep) nE aa7 fo λj u hu=> ?_) By⟩;show (vs++ep)[cu.length+j]? =J u;rw[kT (by rw[g2.len];omega),g2.len,show cu.length+j - cu.length=j by omega]
      grind
     split at h
     ·split at h
      ·rename_i w hw;obtain ⟨dX,ix⟩:=aqu (X:=X) (z:=z) (vs:=vs) hw;refine (h2.flat (z:=z) f1 f2 f3 cN ix λfr hU=>(body fr hU).mono ?_).mono ?_
       ·rintro ex fY m1 ⟨he,dv,z2,ep,_,_,_,_,c9,ic,fv,fo,k4⟩;exact ⟨he,z2,c9.aS,_,by grind,k4,(arX hw fo).1⟩
       ·rintro v m' ⟨rfl,rfl⟩;exact ⟨dH.here aN dX h,λ_=>rfl,ae,gG.refl _, .inl rfl⟩
      grind
     ·rename_i aoi;refine h2.any f1 f2 f3 cN λfr hU=>(body fr hU).mono ?_;rintro ex fY m1 ⟨he,dv,z2,ep,g0,g1,g2,cL,c9,ic,fv,fo,k4⟩;obtain ⟨s1,s2⟩:=ad6 (e:=e) (k:=k) g2.aS c9.aS (by simp);refine ⟨he,_,by grind,k4,⟨z2,vs++ep,dR,_,g0.trans (Inv.app _ _),g1.trans (cL.Ja aN.aS.next),j0, ?_,fo,h⟩,λbm=>absurd (by grind [fS.quiet]) aoi,ae,s2.ZV, .inl rfl⟩;have aT:=g2.call cL s2 s1 rfl λj o' bn=> .inl ⟨bn,λ_ v _=>e6.qg⟩;have aol:∀(j:Nat) (u:af),([]++ep)[j]? =J u->(vs++ep)[cu.length+j]? =J u:=λj u hu=>by
       rw[kT (by rw[g2.len];omega),g2.len,show cu.length+j - cu.length=j by omega]
       grind
      exact after (pU:=[]) (dB:=[]) g2 aT c9 rfl nE (λj o v aM aD aR b aw=>((g2.obj j o v aM aD).lt aR b aw).1) aol
    grind
   |some p=>
    unfold Ck at h;dsimp only at h;split at h
    ·rename_i i az;split at h
     ·rename_i o aM;obtain ⟨G0,aa4,h⟩:=bind_some h;obtain ⟨y,aZ,h⟩:=bind_some h;split at h
      ·rename_i dR By;refine h2.any f1 f2 f3 cN λfr hU=> ?_;obtain ⟨dv,g0,g1,g2,g3⟩:=w2 aN (bp fr hU) bF;have Bt:=λdB=>adv (dB:=dB) ((bp fr hU).mono g1.le λ_ _ h=>h) g3 aw an;have bb:=bp fr hU p.1;rw[az] at bb;obtain ⟨b,js,jR⟩:=bb;have cG:=g2.obj i o _ aM js;obtain ⟨oq,o9,ay5,ay6⟩:=asJ aa4 cG;have am':b9 X.G (rb X (J p) G0) dv m m (J b) [.pointer (J ⟨b,0,ae⟩)]:=by
        refine ⟨dL.start g2.aS.bZ g2.aS.dead,rfl,λj o' v bn aD=> ?_,λa dJ o' qj v w jV bl e5=> ?_⟩
        ·grind [rb]
        grind
       refine (mS G0 x y (z:=dv) (m:=m) (kk:=J b) (dB:=[.pointer (J ⟨b,0,ae⟩)]) aZ am' (Cm λq bm=> ?_)).mono ?_
       ·rcases kU.1 bm with bm|bm
        ·grind
        ·rcases kU.1 bm with bm|bm
         ·grind
         ·simp only[xu,ha,List.not_mem_nil,or_false] at bm;subst bm;exact ⟨b,rfl,jR⟩
       rintro ex fY m1 ⟨he,ic,fv,z2,ep,cL,c9,fo⟩;obtain ⟨s1,s2⟩:=ad6 (e:=e) (k:=k) g2.aS c9.aS (λc ay=>by grind);have ax1:i<cu.length:=(fq.1 aM).1;have rU:∀(j:Nat) (u:af),([af.pointer (J ⟨b,0,ae⟩)]++ep)[j]? =J u->(vs++ep)[wL i cu.length j]? =J u:=by
        intro j u hu;cases j with
        |zero=>
         simp at hu;subst hu;show (vs++ep)[i]? =_
         grind
        |succ j=>
         simp at hu;show (vs++ep)[cu.length+(j+1 - 1)]? =_;rw[kT (by rw[g2.len];omega),g2.len,show cu.length+(j+1 - 1) - cu.length=j by omega]
         grind
       have oR:=Xf (aeF nE aa7 fo rU) By;have c9:b9 X.G (([if re=1 then (.recv p.2 (jl X p.2 G0) ak:ba D) else if re=2 then kc X wE outs (gn outs y) 0 else .dead]:List (ba D))++eU X outs (gn outs y)) z2 m m1 (J b) ([.pointer (J ⟨b,0,ae⟩)]++ep):=c9;have cp:=c9.obj 0 _ (.pointer (J ⟨b,0,ae⟩)) rfl rfl;have apart:∀(j:Nat) (o':ba D),j≠i->cu[j]? =J o'->o'.live=aa->∀v,vs[j]? =J v->e6 (dQ v) (J b):=λj o' JO bn aR v aD=>g2.fD j i o' o v _ JO bn aM aR oq aD js;have apu:∀(j:Nat) (o':ba D) (v:af),cu[j]? =J o'->vs[j]? =J v->o'.live=aa->∀c,dQ v=J c->c<m.next:=λj o' v aM aD aR c ay=>((g2.obj j o' v aM aD).lt aR c ay).1;have fin:∀{sL:List (ba D)},Inv cu sL->b9 X.G sL z2 e m1 k vs->(∀(j:Nat) (o':ba D) (v:af),sL[j]? =J o'->vs[j]? =J v->o'.live=aa->∀c,dQ v=J c->c<m.next)->K dR (sL++mkOr X (wL i cu.length) outs (gn outs y))=J r->dH X O z e k vs K r (pack ((nL pX lV).map ic)) m1:=by intro sL anR aT cF k1;exact ⟨z2,vs++ep,dR,_,(g0.trans anR).trans (Inv.app _ _),g1.trans (cL.Ja aN.aS.next),j0,after g2 aT c9 rfl nE cF rU,oR.1,k1⟩
       have pF:∀{Ki:ba D},Ki.nd=aa->(∀v,vs[i]? =J v->hf X.G z2 e m1 k vs Ki v)->K dR (cu.set i Ki++mkOr X (wL i cu.length) outs (gn outs y))=J r->dH X O z e k vs K r (pack ((nL pX lV).map ic)) m1:=by
        intro Ki aJ aT k1;refine fin (Inv.set cu i (.inr aJ)) (g2.call cL s2 s1 (by simp) λj o' bn=> ?_) (λj o' v bn aD aR c ay=> ?_) k1
        ·grind
        grind
       refine ⟨he,_,by grind,oR.2, ?_,λbm=>absurd bm (by simp[fS.quiet]),J b,s2.ZV, .inr ⟨i,ac8 az,_,js,rfl⟩⟩;split at h
       ·rename_i Bn;rw[if_neg (by omega),if_pos Bn] at cp;split at h
        ·rename_i t cs w hu;obtain ⟨aJ,h⟩:=gz h;rcases tx (X:=X) (aQ:=outs) (x:=gn outs y) (j:=0) with bg|⟨_,c3,a',_,bg⟩
         ·grind
         ·cases c3 with
          |recv eu=>
           have bg:=bg wE;have Bi:=bg;rw[hu] at bg;simp only[cw.gO] at bg;cases bg;subst aJ;rw[Bi] at cp;refine pF ?_ (λv aD=> ?_) h
           ·unfold GW;split<;>rfl
           grind
          |_=>rw[bg] at hu;cases hu
        grind
       ·obtain ⟨Vd,h⟩:=gz h;rw[if_pos Vd] at cp;split at h
        ·rename_i kK;refine fin (Inv.refl cu) (g2.call cL s2 s1 rfl λj o' bn=> ?_) apu h
         grind
        ·refine pF ?_ (λv aD=> ?_) h
         ·unfold GW;split<;>rfl
         grind
      grind
     grind
    grind
  grind
 grind
structure mK (D:Nat->Type) where
 d:fS D
 F:d.F
def fS.fits (X:e3 P D) (d:fS D) (a:List (bc D)) (O:List (ba D)):Bool:=
 fi a.length d.lQ&&match rL (mg 0 a) d.ins O with
 |some (c,b)=>(d.fg.all λp=>wa [] p.2 (eI (mg 0 a) p.1))&&(iG X [] b d.ins c []).isSome
 |none=>ak
def K2 (X:e3 P D):List (mK D)->Nat->List (bc D)->List (ba D)->{b:Type}->(bc D->List (ba D)->Option b)->Option b|[],_,_,_,_,_=>ae|x::l,f,a,O,_,K=>if (fi x.d.f f&&x.d.fits X a O)=aa then x.d.call X x.F a O K else K2 X l f a O K
def Lk (X:e3 P D):List (mK D)->Nat->List (bc D)->List (ba D)->Bool|[],_,_,_=>ak|x::l,f,a,O=>if (fi x.d.f f&&x.d.fits X a O)=aa then x.d.quiet else Lk X l f a O
structure j6 (D:Nat->Type) where
 F:(f:Nat)->List (bc D)->List (ba D)->Bool
 hg:bS->Option bS->Option bS->Nat
 C:(f:Nat)->List (bc D)->List (ba D)->{ap:Type}->(bc D->List (ba D)->Option ap)->Option ap
 W:(f:Nat)->Bool
def e3.gm (X:e3 P D) (q:j6 D):e3 P D:={X with C:=q.C,F:=q.F,hg:=q.hg,W:=q.W}
def e3.with (X:e3 P D) (l:List (mK D)):e3 P D:=X.gm ⟨Lk X l,X.hg,K2 X l,X.W⟩
def e3.l9 (X:e3 P D) (f:bS->Option bS->Option bS->Nat):e3 P D:=X.gm ⟨X.F,f,X.C,X.W⟩
theorem ar4 (l:j6 D) (t:Nat):nQ (X.gm l) t=nQ X t:=by
 cases a:X.I t with
 |none=>
  have b:(X.gm l).I t=ae:=a
  grind [nQ]
 |some c=>have b:(X.gm l).I t=J c:=a;simp_all [nQ]
def w6 (l:j6 D) (t:Nat) (x:D t):jl (X.gm l) t x=jl X t x:=by
 cases a:X.I t with
 |none=>
  have b:(X.gm l).I t=ae:=a
  grind [jl]
 |some c=>have b:(X.gm l).I t=J c:=a;simp_all [jl]
theorem vb (l:j6 D) (t:Nat) (a:List (cv D)):mA (X.gm l) t a=mA X t a:=by
 cases b:X.I t with
 |none=>
  have c:(X.gm l).I t=ae:=b
  grind [mA]
 |some d=>have c:(X.gm l).I t=J d:=b;simp_all [mA]
def ab9 (l:j6 D):∀(a:List Nat) (x:wF D a),tD (X.gm l) a x=tD X a x
 |[],_=>rfl
 |t::a,x=>by show (t,jl (X.gm l) t x.1)::tD (X.gm l) a x.2=(t,jl X t x.1)::tD X a x.2;rw[ab9 l a x.2,w6 l t x.1]
theorem ab8 (l:j6 D):∀(a:List Nat) (x:List (Nat×List (cv D))),xa (X.gm l) a x=xa X a x
 |[],[]=>rfl
 |[],_::_=>rfl
 |_::_,[]=>rfl
 |t::a,p::x=>by simp only[xa,ab8 l a x,vb]
theorem gR.VQ (l:j6 D) (c:gR) (x:c.ty D):gR.mk (X.gm l) c x=gR.mk X c x:=by
 cases c with
 |fn f b=>exact congrArg (bc.fn f) (ab9 l b x)
 |agg t=>exact congrArg (bc.agg t) (w6 l t x)
 |hd t=>exact congrArg (λa=>bc.hd t a 0) (w6 l t x)
 |_=>rfl
def gR.JB (l:j6 D) (c:gR) (s:bc D):gR.get (X.gm l) c s=gR.get X c s:=by
 unfold gR.get;split
 ·rfl
 ·rfl
 ·rfl
 ·rfl
 ·rfl
 ·rfl
 ·rfl
 ·grind [vb]
 ·grind [vb]
 ·grind [ab8]
 ·rfl
 rfl
theorem cw.Kd (l:j6 D) (b:Nat->Nat) (c:cw) (x:c.ty D) (w:Bool):cw.gO (X.gm l) b c x w=cw.gO X b c x w:=by
 cases c with
 |box t=>exact congrArg (λa=>ba.box t a ak w) (w6 l t x)
 |recv t=>exact congrArg (λa=>ba.recv t a w) (w6 l t x)
 |bL t p=>exact congrArg (λa=>ba.box t (qi b p 0 a) ak w) (w6 l t x)
 |_=>rfl
theorem cw.VQ (l:j6 D) (c:cw) (x:c.ty D) (w:Bool):cw.mk (X.gm l) c x w=cw.mk X c x w:=cw.Kd l _ c x w
def cw.JB (l:j6 D) (a:List Nat) (c:cw) (o:ba D):cw.get (X.gm l) a c o=cw.get X a c o:=by
 unfold cw.get;split
 ·rfl
 ·grind [vb]
 ·grind [vb]
 ·rfl
 ·rfl
 ·grind [ar4,vb]
 ·rfl
 ·rfl
 rfl
def aq3 (l:j6 D) (t:Nat) (o:Option (ba D)):zP (X.gm l) t o=zP X t o:=by
 unfold zP;split
 ·rw[vb]
 ·rw[vb]
 rfl
theorem B6 (l:j6 D) {f:List Nat}:∀(a:List dt) (b:List (bc D)) (e:List Nat),iG (X.gm l) f O a b e=iG X f O a b e
 |[],_,[]=>rfl
 |[],_,_::_=>by rfl
 | .v _ _::_,[],_=>by rfl
 | .o _ _::_,[],_=>by rfl
 | .u _ _::_,[],_=>by rfl
 | .v d c::a,s::b,e=>by simp only[iG,gR.JB,B6 l a b e]
 | .o d c::a,s::b,[]=>rfl
 | .o d c::a,s::b,i::e=>by simp only[iG,cw.JB,B6 l a b e]
 | .u d c::a,s::b,e=>by simp only[iG,cw.JB,B6 l a b e]
def WQ (l:j6 D):∀(a:List dt) (x:ft D a),eU (X.gm l) a x=eU X a x
 |[],_=>rfl
 | .v d c::a,x=>WQ l a x.2
 | .u d c::a,x=>WQ l a x.2
 | .o d c::a,x=>by
  show cw.mk (X.gm l) c x.1 ak::eU (X.gm l) a x.2=cw.mk X c x.1 ak::eU X a x.2;rw[WQ l a x.2]
  grind [cw.VQ]
def zr (l:j6 D) {b:Nat->Nat}:∀(a:List dt) (x:ft D a),mkOr (X.gm l) b a x=mkOr X b a x
 |[],_=>rfl
 | .v d c::a,x=>zr l a x.2
 | .u d c::a,x=>zr l a x.2
 | .o d c::a,x=>by
  show cw.gO (X.gm l) b c x.1 ak::mkOr (X.gm l) b a x.2=cw.gO X b c x.1 ak::mkOr X b a x.2;rw[zr l a x.2]
  grind [cw.Kd]
def zk (l:j6 D):∀(a:List dt) (x:ft D a),hc (X.gm l) a x=hc X a x
 |[],_=>rfl
 | .v d c::a,x=>by
  show (d,gR.mk (X.gm l) c x.1)::hc (X.gm l) a x.2=(d,gR.mk X c x.1)::hc X a x.2;rw[zk l a x.2]
  grind [gR.VQ]
 | .u d c::a,x=>zk l a x.2
 | .o d c::a,x=>zk l a x.2
def BQ (l:j6 D) {b:Nat->Nat}:∀(a:List dt) (x:ft D a) (j:Nat),kc (X.gm l) b a x j=kc X b a x j
 |[],_,_=>rfl
 | .v d c::a,x,j=>BQ l a x.2 j
 | .u d c::a,x,j=>by
  show (if fi d j=aa then cw.gO (X.gm l) b c x.1 aa else kc (X.gm l) b a x.2 j)=(if fi d j=aa then cw.gO X b c x.1 aa else kc X b a x.2 j);rw[BQ l a x.2 j]
  grind [cw.Kd]
 | .o d c::a,x,j=>BQ l a x.2 j
def acR (l:j6 D) (d:fS D) (F:d.F) (a:List (bc D)) (O:List (ba D)) {c:Type} (K:bc D->List (ba D)->Option c):d.call (X.gm l) F a O K=d.call X F a O K:=by
 obtain ⟨f,k,g,i,e,m,b,j,h,flat⟩:=d;unfold fS.call;dsimp only;simp only[B6];cases e with
 |none=>simp_all [Ck,zk,zr]
 |some p=>simp only[Ck,zk,zr,BQ,aq3,w6]
def iV.l9 {f:bS->Option bS->Option bS->Nat} (h:iV X):iV (X.l9 f):=h
def gL.l9 {f:bS->Option bS->Option bS->Nat} {d:fS D} {F:d.F} (h:gL (X.l9 f) d F):gL X d F:=by
 intro g O j K r z e m k l a c i b;rw[<-acR ⟨X.F,f,X.C,X.W⟩] at b;exact h g O K r a c i b
def gL.or {d:fS D} {F j g:d.F} (C:d.ij=ae) (I:∀r x y,F r x=J y->j r x=J y\/g r x=J y) (w:gL X d j) (s:gL X d g):gL X d F:=by
 intro c O G K r z e m k S b l o a;have i:d.call X j c O K=J r\/d.call X g c O K=J r:=by
  obtain ⟨f,N,B,L,A,R,q,M,P,flat⟩:=d;unfold fS.call at a⊢;obtain ⟨n,a⟩:=gz a;rw[if_pos n,if_pos n];split at a
  ·rename_i Q H v;obtain ⟨t,a⟩:=gz a;simp only[v,if_pos t];split at a
   ·rename_i x u;simp only[u];cases A with
    |none=>
     unfold Ck at a⊢;obtain ⟨y,E,a⟩:=bind_some a
     grind
    |some p=>grind
   grind
  grind
 rcases i with h|h
 ·exact w c O K r b l o h
 ·exact s c O K r b l o h
def acg {f:Nat} {g:List (bc D)} {K:bc D->List (ba D)->Option ap} {a:List af} (j:b9 X.G O z e m k vs) (n:bP (rel X.G z vs) g a):∀{l:List (mK D)},(∀x∈l,gL X x.d x.F)->K2 X l f g O K=J r->h2 P f a.toArray m λv i=>dH X O z e k vs K r v i/\(Lk X l f g O=aa->i=m)/\∃q,gG m i q/\oI vs (q1 g) q
 |[],_,b=>by cases b
 |x::l,h,b=>by
  unfold K2 at b;unfold Lk;split at b
  ·rename_i c;rw[if_pos c];simp only[fx] at c;have:=kA c.1;subst this;exact h x oG g O K r a j n b
  ·rename_i c;rw[if_neg c];exact acg j n (λy o=>h y (kn _ o)) b
def iV.of {l:List (mK D)} (h:∀x∈l,gL X x.d x.F):iV (X.with l):=by
 intro f n O j K r z e m k p b c i g;exact (acg (X:=X) c i h g).mono λv o a=>⟨a.1,a.2.1,λ_=>a.2.2⟩
def aqT {l:List (mK D)} {x:mK D} (h:gL X x.d x.F) (a:∀y∈l,gL X y.d y.F):∀y∈x::l,gL X y.d y.F:=by
 grind
end
end
end Go.aF
end
section
namespace Go.aF
inductive LT:Type 1 where
 |int (k:aG)|bool|str
 |bh (aK:Type) (T:cM aK)
 |mp (aK cg:Type) (M:ph aK cg)
 |fn
def LT.ty:LT->Type| .int _=>Int| .bool=>Bool| .str=>List UInt8| .bh aK _=>List aK| .mp aK a _=>List (aK×a)| .fn=>Option Nat
def aah:Option Nat->af|none=> .nilFunc|some n=> .func (.func n) #[] #[]
def LT.rd (z:Nat->bW):(l:LT)->l.ty->af->Prop| .int k,n,v=>v= .int k n| .bool,b,v=>v= .bool b| .str,s,v=>v=aF.str s| .bh _ T,c,v=>fA T z c v| .mp _ _ M,a,v=>nn M z a v| .fn,o,v=>v=aah o
def h6:List LT->Type|[]=>Unit|l::a=>l.ty×h6 a
def pa (z:Nat->bW):(a:List LT)->h6 a->List af->Prop|[],_,[]=>True|l::a,x,v::b=>l.rd z x.1 v/\pa z a x.2 b|_,_,_=>False
def ad2 {z:Nat->bW}:∀{a:List LT} {x:h6 a} {b:List af},pa z a x b->b.length=a.length
 |[],_,[],_=>rfl
 |l::a,x,v::c,h=>by simp[ad2 h.2]
 |[],_,_::_,h=>h.elim
 |_::_,_,[],h=>h.elim
def adp {z e:Nat->bW} (b:fl z e):∀{a:List LT} {x:h6 a} {d:List af},pa z a x d->pa e a x d
 |[],_,[],_=>trivial
 |l::a,x,v::i,h=>⟨by
  have c:=h.1;cases l with
  |bh f T=>exact fA.mono b c
  |mp f g M=>exact nn.mono c b
  |_=>exact c,adp b h.2⟩
 |[],_,_::_,h=>h.elim
 |_::_,_,[],h=>h.elim
def ad3 {z:Nat->bW}:∀{e:List LT} {x:h6 e} {f:List af},pa z e x f->∀c∈f,storable c=aa/\c.cells=#[c]
 |[],_,[],_,c,b=>by grind
 |l::e,x,v::j,h,c,b=>by
  rcases ha.1 b with rfl|b
  ·have d:=h.1;cases l with
   |bh g T=>obtain ⟨a,c,rfl⟩:=fA.len d;exact ⟨rfl,rfl⟩
   |mp g i M=>rcases d with ⟨rfl,_⟩|⟨r,rfl,_⟩<;>exact ⟨rfl,rfl⟩
   |fn=>obtain ⟨x,y⟩:=x;cases x<;>(obtain rfl:=d;exact ⟨rfl,rfl⟩)
   |_=>obtain rfl:=d;exact ⟨rfl,rfl⟩
  ·exact ad3 h.2 c b
 |[],_,_::_,h,_,_=>h.elim
 |_::_,_,[],h,_,_=>h.elim
def fB (t:bV) (a:List LT) {b:Type} (e:b->h6 a):cM b where
 bM:=a.length
 tid:=t
 rd:=λz x d=>pa z a (e x) d
 len:=λ_ _ _ h=>ad2 h
 mono:=λ_ _ c _ _ h=>adp c h
 one:=λ_ _ _ h=>ad3 h
noncomputable section
inductive hJ where
 |int (k:aG)|bool|str
 |bh (e:Nat)
 |mp (t bG bA:Nat)
 |fn
section
variable {P:bI} {D:Nat->Type} (G:l6 D)
def Ju:Option Nat->cv D|none=> .wJ|some n=> .fn n []
def hJ.lt:hJ->LT| .int k=> .int k| .bool=> .bool| .str=> .str| .bh e=> .bh (D e) (G.T e)| .mp t b a=> .mp (D b) (D a) (G.M t b a)| .fn=> .fn
def gJ:List hJ->List LT|[]=>[]|c::a=>c.lt G::gJ a
def jX:(a:List hJ)->h6 (gJ G a)->List (cv D)|[],_=>[]| .int k::a,x=> .int k x.1::jX a x.2| .bool::a,x=> .bool x.1::jX a x.2| .str::a,x=> .str x.1::jX a x.2| .bh e::a,x=> .bh e x.1::jX a x.2| .mp t c b::a,x=> .mp t c b x.1::jX a x.2| .fn::a,x=>Ju x.1::jX a x.2
def jm:(a:List hJ)->List (cv D)->Option (h6 (gJ G a))
 |[],[]=>J ()
 | .int k::a, .int k' n::c=>if k'=k then (match jm a c with|some y=>J (n,y)|none=>ae) else ae
 | .bool::a, .bool b::c=>(match jm a c with|some y=>J (b,y)|none=>ae)
 | .str::a, .str s::c=>(match jm a c with|some y=>J (s,y)|none=>ae)
 | .bh e::a, .bh cz l::c=>if h:cz=e then (match jm a c with|some y=>J ((h▸l:List (D e)),y)|none=>ae) else ae
 | .bh e::a, .gE::c=>(match jm a c with|some y=>J (([]:List (D e)),y)|none=>ae)
 | .mp t f d::a, .mp eu j i g::c=>if h:j=f/\i=d then (if eu=t then (match jm a c with|some y=>J ((h.1▸h.2▸g:List (D f×D d)),y)|none=>ae) else ae) else ae
 | .mp t f d::a, .oY::c=>(match jm a c with|some y=>J (([]:List (D f×D d)),y)|none=>ae)
 | .fn::a, .wJ::c=>(match jm a c with|some y=>J ((ae:Option Nat),y)|none=>ae)
 | .fn::a, .fn n []::c=>(match jm a c with|some y=>J ((J n:Option Nat),y)|none=>ae)
 |_,_=>ae
variable {G}
def atu {z:Nat->bW} {a:List af} {o:Option Nat} {v:af} (h:v=aah o):ed G z a (Ju o) v:=by
 cases o with
 |none=>exact h
 |some n=>exact ⟨[],h,trivial⟩
def xb {z:Nat->bW} {c:List af}:∀{a:List hJ} {x:h6 (gJ G a)} {b:List af},pa z (gJ G a) x b->bP (ed G z c) (jX G a x) b
 |[],_,[],_=>trivial
 | .int k::a,x,v::w,h=>⟨h.1,xb h.2⟩
 | .bool::a,x,v::w,h=>⟨h.1,xb h.2⟩
 | .str::a,x,v::w,h=>⟨h.1,xb h.2⟩
 | .bh e::a,x,v::w,h=>⟨h.1,xb h.2⟩
 | .mp t f d::a,x,v::w,h=>⟨h.1,xb h.2⟩
 | .fn::a,x,v::w,h=>⟨atu h.1,xb h.2⟩
 | .mp _ _ _::_,_,[],h=>h.elim
 | .fn::_,_,[],h=>h.elim
 |[],_,_::_,h=>h.elim
 | .int _::_,_,[],h=>h.elim
 | .bool::_,_,[],h=>h.elim
 | .str::_,_,[],h=>h.elim
 | .bh _::_,_,[],h=>h.elim
def vk:∀{a:List hJ} (x:h6 (gJ G a)),jm G a (jX G a x)=J x
 |[],_=>rfl
 | .int k::a,x=>by show (if k=k then (match jm G a (jX G a x.2) with|some y=>J (x.1,y)|none=>ae) else ae)=_;rw[vk x.2,if_pos rfl];rfl
 | .bool::a,x=>by show (match jm G a (jX G a x.2) with|some y=>J (x.1,y)|none=>ae)=_;rw[vk x.2];rfl
 | .str::a,x=>by show (match jm G a (jX G a x.2) with|some y=>J (x.1,y)|none=>ae)=_;rw[vk x.2];rfl
 | .bh e::a,x=>by show (if h:e=e then (match jm G a (jX G a x.2) with|some y=>J ((h▸x.1:List (D e)),y)|none=>ae) else ae)=_;rw[vk x.2,dif_pos rfl];rfl
 | .mp t c b::a,x=>by show (if h:c=c/\b=b then (if t=t then (match jm G a (jX G a x.2) with|some y=>J ((h.1▸h.2▸x.1:List (D c×D b)),y)|none=>ae) else ae) else ae)=_;rw[vk x.2,dif_pos ⟨rfl,rfl⟩,if_pos rfl];rfl
 | .fn::a,(ae,y)=>by show (match jm G a (jX G a y) with|some y=>J ((ae:Option Nat),y)|none=>ae)=_;rw[vk y];rfl
 | .fn::a,(J n,y)=>by show (match jm G a (jX G a y) with|some y=>J ((J n:Option Nat),y)|none=>ae)=_;rw[vk y];rfl
def ath {z:Nat->bW} {M:List af}:∀{e:List hJ} {g:List (cv D)} {x:h6 (gJ G e)} {p:List af},jm G e g=J x->bP (ed G z M) g p->pa z (gJ G e) x p:=by
 intro e;induction e with
 |nil=>
  intro g x p h s;cases g with
  |nil=>cases p with
   |nil=>trivial
   |cons _ _=>exact s.elim
  |cons c g=>cases h
 |cons l e i=>
  intro g x p h s;cases g with
  |nil=>cases l<;>cases h
  |cons c g=>
   cases p with
   |nil=>exact s.elim
   |cons d p=>
    obtain ⟨m,j⟩:=s;have a:∀{A:Type} {f:h6 (gJ G e)->A} {o:Option (h6 (gJ G e))} {r:A},(match o with|some y=>J (f y)|none=>ae)=J r->∃y,o=J y/\r=f y:=by
     grind
    cases l with
    |int k=>
     cases c with
     |int O n=>obtain ⟨q,h⟩:=gz (aK:=h6 (gJ G (.int k::e))) h;subst q;obtain ⟨y,b,rfl⟩:=a h;exact ⟨m,i b j⟩
     |_=>cases h
    |bool=>
     cases c with
     |bool n=>obtain ⟨y,b,rfl⟩:=a h;exact ⟨m,i b j⟩
     |_=>cases h
    |str=>
     cases c with
     |str n=>obtain ⟨y,b,rfl⟩:=a h;exact ⟨m,i b j⟩
     |_=>cases h
    |bh t=>
     cases c with
     |bh u N=>
      by_cases q:u=t
      ·subst q;have h:(if h:u=u then (match jm G e g with|some y=>J ((h▸N:List (D u)),y)|none=>ae) else ae)=J x:=h;rw[dif_pos rfl] at h;obtain ⟨y,b,rfl⟩:=a h;exact ⟨m,i b j⟩
      grind [jm]
     |gE=>obtain ⟨y,b,rfl⟩:=a h;exact ⟨.inl ⟨m,rfl⟩,i b j⟩
     |_=>cases h
    |mp t C B=>
     cases c with
     |mp F w v E=>
      by_cases q:w=C/\v=B
      ·obtain ⟨rfl,rfl⟩:=q;have h:(if h:w=w/\v=v then (if F=t then (match jm G e g with|some y=>J ((h.1▸h.2▸E:List (D w×D v)),y)|none=>ae) else ae) else ae)=J x:=h;rw[dif_pos ⟨rfl,rfl⟩] at h;obtain ⟨q,h⟩:=gz h;subst q;obtain ⟨y,b,rfl⟩:=a h;exact ⟨m,i b j⟩
      grind [jm]
     |oY=>obtain ⟨y,b,rfl⟩:=a h;exact ⟨.inl ⟨m,rfl⟩,i b j⟩
     |_=>cases h
    |fn=>
     cases c with
     |wJ=>obtain ⟨y,b,rfl⟩:=a h;exact ⟨m,i b j⟩
     |fn n L=>
      cases L with
      |nil=>
       obtain ⟨y,b,rfl⟩:=a h;obtain ⟨K,H,I⟩:=m;cases K with
       |nil=>exact ⟨H,i b j⟩
       |cons _ _=>exact I.elim
      |cons _ _=>cases h
     |_=>cases h
def auV:∀{d:List hJ} {e:List (cv D)} {x:h6 (gJ G d)},jm G d e=J x->pR e (jX G d x):=by
 intro d;induction d with
 |nil=>
  intro e x h;cases e with
  |nil=>trivial
  |cons c e=>cases h
 |cons l d g=>
  intro e x h;cases e with
  |nil=>cases l<;>cases h
  |cons c e=>
   have a:∀{q:Type} {f:h6 (gJ G d)->q} {o:Option (h6 (gJ G d))} {r:q},(match o with|some y=>J (f y)|none=>ae)=J r->∃y,o=J y/\r=f y:=by
    grind
   cases l with
   |int k=>
    cases c with
    |int B n=>obtain ⟨i,h⟩:=gz (aK:=h6 (gJ G (.int k::d))) h;subst i;obtain ⟨y,b,rfl⟩:=a h;exact ⟨λ_=>rfl,g b⟩
    |_=>cases h
   |bool=>
    cases c with
    |bool n=>obtain ⟨y,b,rfl⟩:=a h;exact ⟨λ_=>rfl,g b⟩
    |_=>cases h
   |str=>
    cases c with
    |str n=>obtain ⟨y,b,rfl⟩:=a h;exact ⟨λ_=>rfl,g b⟩
    |_=>cases h
   |bh t=>
    cases c with
    |bh j A=>
     by_cases i:j=t
     ·subst i;have h:(if h:j=j then (match jm G d e with|some y=>J ((h▸A:List (D j)),y)|none=>ae) else ae)=J x:=h;rw[dif_pos rfl] at h;obtain ⟨y,b,rfl⟩:=a h;exact ⟨λ_=>rfl,g b⟩
     grind [jm]
    |gE=>obtain ⟨y,b,rfl⟩:=a h;exact ⟨λh=>(by cases h),g b⟩
    |_=>cases h
   |mp t u s=>
    cases c with
    |mp w p m v=>
     by_cases i:p=u/\m=s
     ·obtain ⟨rfl,rfl⟩:=i;have h:(if h:p=p/\m=m then (if w=t then (match jm G d e with|some y=>J ((h.1▸h.2▸v:List (D p×D m)),y)|none=>ae) else ae) else ae)=J x:=h;rw[dif_pos ⟨rfl,rfl⟩] at h;obtain ⟨i,h⟩:=gz h;subst i;obtain ⟨y,b,rfl⟩:=a h;exact ⟨λ_=>rfl,g b⟩
     grind [jm]
    |oY=>obtain ⟨y,b,rfl⟩:=a h;exact ⟨λh=>(by cases h),g b⟩
    |_=>cases h
   |fn=>
    cases c with
    |wJ=>obtain ⟨y,b,rfl⟩:=a h;exact ⟨λ_=>rfl,g b⟩
    |fn n z=>
     cases z with
     |nil=>obtain ⟨y,b,rfl⟩:=a h;exact ⟨λ_=>rfl,g b⟩
     |cons _ _=>cases h
    |_=>cases h
def X9:∀{a:List hJ},(gJ G a).length=a.length
 |[]=>rfl
 |l::a=>by simp[gJ,X9]
def pM:List hJ->List (cv D)|[]=>[]| .int k::a=> .int k 0::pM a| .bool::a=> .bool ak::pM a| .str::a=> .str []::pM a| .bh _::a=> .gE::pM a| .mp _ _ _::a=> .oY::pM a| .fn::a=> .wJ::pM a
def oD:List hJ->List af|[]=>[]| .int k::a=> .int k 0::oD a| .bool::a=> .bool ak::oD a| .str::a=> .string ⟨#[]⟩::oD a| .bh _::a=> .slice ae 0 0::oD a| .mp _ _ _::a=> .map ae::oD a| .fn::a=> .nilFunc::oD a
def xe {z:Nat->bW} {b:List af}:∀{a:List hJ},bP (ed G z b) (pM a:List (cv D)) (oD a)
 |[]=>trivial
 | .int k::a=>⟨rfl,xe⟩
 | .bool::a=>⟨rfl,xe⟩
 | .str::a=>⟨rfl,xe⟩
 | .bh _::a=>⟨rfl,xe⟩
 | .mp _ _ _::a=>⟨rfl,xe⟩
 | .fn::a=>⟨rfl,xe⟩
def vg:∀{a:List hJ} {x:h6 (gJ G a)},(jX G a x).all qf=aa
 |[],_=>rfl
 | .int k::a,x=>by simp only[jX,ml,vg,qf,vK]
 | .bool::a,x=>by simp only[jX,ml,vg,qf,vK]
 | .str::a,x=>by simp only[jX,ml,vg,qf,vK]
 | .bh _::a,x=>by simp only[jX,ml,vg,qf,vK]
 | .mp _ _ _::a,x=>by simp only[jX,ml,vg,qf,vK]
 | .fn::a,(ae,y)=>by simp only[jX,Ju,ml,vg,qf,vK]
 | .fn::a,(J n,y)=>by simp only[jX,Ju,ml,vg,qf,List.isEmpty,vK]
def tR:(a:List hJ)->h6 (gJ G a)|[]=>()| .int _::a=>((0:Int),tR a)| .bool::a=>(ak,tR a)| .str::a=>(([]:List UInt8),tR a)| .bh e::a=>(([]:List (D e)),tR a)| .mp _ c b::a=>(([]:List (D c×D b)),tR a)| .fn::a=>((ae:Option Nat),tR a)
def xw {z:Nat->bW}:∀(a:List hJ),pa z (gJ G a) (tR (G:=G) a) (oD a)
 |[]=>trivial
 | .int _::a=>⟨rfl,xw a⟩
 | .bool::a=>⟨rfl,xw a⟩
 | .str::a=>⟨rfl,xw a⟩
 | .bh _::a=>⟨.inl ⟨rfl,rfl⟩,xw a⟩
 | .mp _ _ _::a=>⟨.inl ⟨rfl,rfl⟩,xw a⟩
 | .fn::a=>⟨rfl,xw a⟩
def WY:∀(a:List hJ),(oD a).all dy=aa/\(oD a).length=a.length
 |[]=>⟨rfl,rfl⟩
 |c::a=>by have:=WY a;cases c<;>exact ⟨by simp only[oD,ml,this.1];rfl,by grind [oD]⟩
def awe {t:Nat} (ls:List hJ) (to:D t->h6 (gJ G ls)) (of:h6 (gJ G ls)->D t) (h1:∀x,of (to x)=x) (ai:∀y,to (of y)=y) (i:TypeInfo)
  (jU:G.T t=fB t (gJ G ls) to) (az:P.info? t=J i) (cN:i.size=ls.length) (hh:(ls.length==0)=ak) (hp:iJ i.bytes 32768=aa) (bx:i.zero=J (i.zero.getD undef)) (hL:(i.zero.getD undef).cells.toList=oD ls):dP P G t where
 rk:=pM ls
 qX:=λz vs=>by rw[hL];exact xe
 VN:=λx=>vg
 kM:=λx=>jX G ls (to x)
 qk:=λcs=>match jm G ls cs with|some y=>J (of y)|none=>ae
 x0:=of (tR ls)
 i:=i
 c0:=i.zero.getD undef
 tid:=by rw[jU];rfl
 az:=az
 cN:=by rw[jU,cN];exact X9.symm
 hh:=by rw[jU];show ((gJ G ls).length==0)=ak;rw[X9];exact hh
 hp:=hp
 bx:=bx
 dw:=by rw[hL];exact (WY ls).1
 et:=by rw[<-Array.length_toList,hL,(WY ls).2,cN]
 GX:=λz=>by rw[jU,hL];show pa z (gJ G ls) (to (of (tR ls))) (oD ls);rw[ai];exact xw ls
 rc:=λz vs x cs h=>by rw[jU] at h;exact xb h
 r6:=λz vs cs x ds h aV=>by
  rw[jU];split at h
  ·rename_i y aZ;cases h;show pa z (gJ G ls) (to (of y)) ds;rw[ai];exact ath aZ aV
  ·cases h
 V1:=λx=>by show (match jm G ls (jX G ls (to x)) with|some y=>J (of y)|none=>ae)=J x;rw[vk];exact congrArg J (h1 x)
 Ko:=λcs x h=>by
  split at h
  ·rename_i y aZ;cases h;rw[ai];exact auV aZ
  ·cases h
def ara (u:UInt8):gW (u.toNat:Int)=J u:=by
 unfold gW;have:=u.toNat_lt;rw[if_pos (by omega)];simp
def awf {t:Nat} (to:D t->UInt8) (of:UInt8->D t) (abL:Option UInt8->Option (D t)) (Vr:∀o,abL o=o.map of) (h1:∀x,of (to x)=x) (ai:∀y,to (of y)=y) (i:TypeInfo) (aoU:(G.T t).tid=t) (td:(G.T t).bM=1) (e0:∀z x cs,(G.T t).rd z x cs↔cs=[.int .u8 (to x).toNat])
  (az:P.info? t=J i) (cN:i.size=1) (hp:iJ i.bytes 32768=aa) (bx:i.zero=J (.int .u8 0)):dP P G t where
 rk:=[.int .u8 0]
 qX:=λz vs=>⟨rfl,trivial⟩
 VN:=λx=>rfl
 kM:=λx=>[.int .u8 (to x).toNat]
 qk:=λcs=>match cs with|[.int .u8 n]=>abL (gW n)|_=>ae
 x0:=of 0
 i:=i
 c0:= .int .u8 0
 tid:=aoU
 az:=az
 cN:=by rw[td,cN]
 hh:=by rw[td];rfl
 hp:=hp
 bx:=bx
 dw:=rfl
 et:=by rw[cN];rfl
 GX:=λz=>(e0 z _ _).2 (by rw[ai];rfl)
 rc:=λz vs x cs h=>by rw[(e0 z x cs).1 h];exact ⟨rfl,trivial⟩
 r6:=λz vs cs x ds h aV=>by
  split at h
  ·rename_i n;cases ds with
   |nil=>exact aV.elim
   |cons d ds=>
    cases ds with
    |cons _ _=>exact aV.2.elim
    |nil=>
     rw[Vr] at h;cases hu:gW n with
     |none=>rw[hu] at h;cases h
     |some u=>rw[hu] at h;cases h;have:d= .int .u8 n:=aV.1;rw[this,acM hu];exact (e0 z _ _).2 (by rw[ai])
  ·cases h
 V1:=λx=>by simp only[ara,Vr,vU,h1]
 Ko:=λcs x h=>by
  split at h
  ·rename_i n;rw[Vr] at h;cases hu:gW n with
   |none=>rw[hu] at h;cases h
   |some u=>rw[hu] at h;cases h;rw[ai,acM hu];exact pR.refl _
  ·cases h
def hC:(a:List hJ)->h6 (gJ G a)->List af|[],_=>[]| .int k::a,x=> .int k x.1::hC a x.2| .bool::a,x=> .bool x.1::hC a x.2| .str::a,x=>aF.str x.1::hC a x.2| .bh _::a,x=>undef::hC a x.2| .mp _ _ _::a,x=>undef::hC a x.2| .fn::a,x=>undef::hC a x.2
def nK (P:bI):List Field->Nat->List hJ->Bool
 |[],_,[]=>aa
 | f :: bY, i, .int _ :: ls => (f.offset == i && f.name != "_") && ((match P.underlying f.type with | J (.int _) => aa | _ => ak) && nK P bY (i + 1) ls)
 | f :: bY, i, .bool :: ls => (f.offset == i && f.name != "_") && ((match P.underlying f.type with | J .bool => aa | _ => ak) && nK P bY (i + 1) ls)
 | f :: bY, i, .str :: ls => (f.offset == i && f.name != "_") && ((match P.underlying f.type with | J .string => aa | _ => ak) && nK P bY (i + 1) ls)
 |_,_,_=>ak
def Kx:∀{d:List Field} {i:Nat} {a:List hJ} {x y:h6 (gJ G a)},nK P d i a=aa->sN P d i (hC a x) (hC a y)
 |[],_,[],_,_,_=>trivial
 |f::d,i, .int k::a,x,y,h=>by
  simp only[nK,fx,beq_iff_eq,bne_iff_ne] at h;obtain ⟨⟨g,c⟩,b,e⟩:=h;refine ⟨g,c, .inl ?_,Kx e⟩;split at b
  ·exact ⟨k,_,_,_,‹_›,rfl,rfl⟩
  grind
 |f::d,i, .bool::a,x,y,h=>by
  simp only[nK,fx,beq_iff_eq,bne_iff_ne] at h;obtain ⟨⟨g,c⟩,b,e⟩:=h;refine ⟨g,c, .inr (.inl ?_),Kx e⟩;split at b
  ·exact ⟨_,_,‹_›,rfl,rfl⟩
  grind
 |f::d,i, .str::a,x,y,h=>by
  simp only[nK,fx,beq_iff_eq,bne_iff_ne] at h;obtain ⟨⟨g,c⟩,b,e⟩:=h;refine ⟨g,c, .inr (.inr ?_),Kx e⟩;split at b
  ·exact ⟨_,_,‹_›,rfl,rfl⟩
  grind
 |_::_,_, .bh _::_,_,_,h=>by cases h
 |_::_,_, .mp _ _ _::_,_,_,h=>by cases h
 |_::_,_, .fn::_,_,_,h=>by cases h
 |[],_,_::_,_,_,h=>by cases h
 |_::_,_,[],_,_,h=>by cases h
def K8:∀{b:List Field} {i:Nat} {a:List hJ} {x y:h6 (gJ G a)},nK P b i a=aa->hC a x=hC a y->x=y
 |_,_,[],_,_,_,_=>rfl
 |f::b,i, .int k::a,x,y,h,e=>by simp only[nK,fx] at h;simp only[hC,List.cons.injEq] at e;exact Prod.ext (mu.inj e.1).2 (K8 h.2.2 e.2)
 |f::b,i, .bool::a,x,y,h,e=>by simp only[nK,fx] at h;simp only[hC,List.cons.injEq] at e;exact Prod.ext (af.bool.inj e.1) (K8 h.2.2 e.2)
 |f::b,i, .str::a,x,y,h,e=>by simp only[nK,fx] at h;simp only[hC,List.cons.injEq] at e;exact Prod.ext (ad7 e.1) (K8 h.2.2 e.2)
 |_::_,_, .bh _::_,_,_,h,_=>by cases h
 |[],_, .bh _::_,_,_,h,_=>by cases h
 |[],_, .int _::_,_,_,h,_=>by cases h
 |[],_, .bool::_,_,_,h,_=>by cases h
 |[],_, .str::_,_,_,h,_=>by cases h
 |_::_,_, .mp _ _ _::_,_,_,h,_=>by cases h
 |_::_,_, .fn::_,_,_,h,_=>by cases h
 |[],_, .mp _ _ _::_,_,_,h,_=>by cases h
 |[],_, .fn::_,_,_,h,_=>by cases h
def Ld {z:Nat->bW}:∀{g:List Field} {i:Nat} {a:List hJ} {x:h6 (gJ G a)} {b:List af},nK P g i a=aa->pa z (gJ G a) x b->b=hC a x
 |_,_,[],_,[],_,_=>rfl
 |_,_,[],_,_::_,_,h=>h.elim
 |f::g,i, .int k::a,x,d::b,h,e=>by simp only[nK,fx] at h;have c:d= .int k x.1:=e.1;rw[hC,c,<-Ld h.2.2 e.2]
 |f::g,i, .bool::a,x,d::b,h,e=>by simp only[nK,fx] at h;have c:d= .bool x.1:=e.1;rw[hC,c,<-Ld h.2.2 e.2]
 |f::g,i, .str::a,x,d::b,h,e=>by simp only[nK,fx] at h;have c:d=aF.str x.1:=e.1;rw[hC,c,<-Ld h.2.2 e.2]
 |_::_,_, .bh _::_,_,_,h,_=>by cases h
 |_::_,_, .mp _ _ _::_,_,_,h,_=>by cases h
 |_::_,_, .fn::_,_,_,h,_=>by cases h
 |[],_,_::_,_,_,h,_=>by cases h
 |_::_,_, .int _::_,_,[],_,h=>h.elim
 |_::_,_, .bool::_,_,[],_,h=>h.elim
 |_::_,_, .str::_,_,[],_,h=>h.elim
def Xh {t:Nat} (ls:List hJ) (to:D t->h6 (gJ G ls)) (of:h6 (gJ G ls)->D t) (h1:∀x,of (to x)=x) (bY:Array Field) (eq:D t->D t->Bool) (jU:G.T t=fB t (gJ G ls) to) (he:∀x y,eq x y=aa↔x=y)
  (aJ:P.underlying t=J (.struct bY)) (bb:P.stoodInHeld t=ak) (bs:P.eqGuardType P.depth t=ak) (bf:nK P bY.toList 0 ls=aa):AI P G t where
 bY:=bY
 eq:=eq
 aW:=λx=>hC ls (to x)
 aJ:=aJ
 bb:=bb
 bs:=bs
 bf:=λx y=>Kx bf
 aD:=λz x ds h=>by rw[jU] at h;exact Ld bf h
 he:=λx y=>by
  rw[he];constructor
  ·rintro rfl;rfl
  ·intro h;have:=K8 bf h;rw[<-h1 x,<-h1 y,this]
def VK {a:Type} (k:aG) (d:Int->a):bc D->Option a:=λs=>match s with| .c (.int b n)=>if b=k then J (d n) else ae|_=>ae
def VL {a:Type} (b:List UInt8->a):bc D->Option a:=λs=>match s with| .c (.str n)=>J (b n)|_=>ae
def Ye {a:Type} (k:aG) (b:Int->a):cv D->Option a:=λs=>match s with| .int k' n=>if k'=k then J (b n) else ae|_=>ae
def Yd {a:Type} (b:Bool->a):cv D->Option a:=λs=>match s with| .bool n=>J (b n)|_=>ae
def atE {z:Nat->bW} {f:List af} {b:Type} {k:aG} {c:Int->b} {s:bc D} {a:b} {v:af} (h:VK k c s=J a) (d:rel G z f s v):∃n,a=c n/\v= .int k n:=by
 unfold VK at h;split at h
 ·split at h
  ·rename_i e;cases h;subst e;exact ⟨_,rfl,d⟩
  grind
 grind
def atF {z:Nat->bW} {e:List af} {b:Type} {c:List UInt8->b} {s:bc D} {a:b} {v:af} (h:VL c s=J a) (d:rel G z e s v):∃n,a=c n/\v=aF.str n:=by
 unfold VL at h;split at h
 ·cases h;exact ⟨_,rfl,d⟩
 grind
def atW {z:Nat->bW} {f:List af} {b:Type} {k:aG} {c:Int->b} {s:cv D} {a:b} {v:af} (h:Ye k c s=J a) (d:ed G z f s v):∃n,a=c n/\v= .int k n:=by
 unfold Ye at h;split at h
 ·split at h
  ·rename_i e;cases h;subst e;exact ⟨_,rfl,d⟩
  grind
 grind
def atV {z:Nat->bW} {e:List af} {b:Type} {c:Bool->b} {s:cv D} {a:b} {v:af} (h:Yd c s=J a) (d:ed G z e s v):∃n,a=c n/\v= .bool n:=by
 unfold Yd at h;split at h
 ·cases h;exact ⟨_,rfl,d⟩
 grind
structure Ax (P:bI) (G:l6 D) (bG:Nat) where
 dec:DecidableEq (D bG)
 K:nX P bG (G.eo bG)
 qY:bc D->Option (D bG)
 wo:∀z vs s a v,qY s=J a->rel G z vs s v->v=ey (ek P bG) (G.eo bG a)
structure AP (P:bI) (G:l6 D) (bA:Nat) where
 V:oK P bA (G.eo bA)
 tN:cv D->Option (D bA)
 pG:D bA->cv D
 z0:D bA
 i:TypeInfo
 az:P.info? bA=J i
 u0:ek P bA=ak
 bx:i.zero=J (ey ak (G.eo bA z0))
 y0:∀z vs c a v,tN c=J a->ed G z vs c v->v=ey ak (G.eo bA a)
 th:∀z vs a,ed G z vs (pG a) (ey ak (G.eo bA a))
def abz {d c:Nat} (a:Ax P G d) (b:AP P G c):IP P G d c where
 dec:=a.dec
 K:=a.K
 V:=b.V
 qY:=a.qY
 tN:=b.tN
 pG:=b.pG
 z0:=b.z0
 i:=b.i
 az:=b.az
 bx:=by rw[b.u0];exact b.bx
 wo:=a.wo
 y0:=by rw[b.u0];exact b.y0
 th:=by rw[b.u0];exact b.th
 u0:=b.u0
def apj {bG:Nat} (k:aG) (of:Int->D bG) (dec:DecidableEq (D bG)) (i:TypeInfo) (h:P.underlying bG=J (.int k)) (K:nX P bG (G.eo bG)) (hk:∀n,G.eo bG (of n)=[.int k n]):Ax P G bG where
 dec:=dec
 K:=K
 qY:=VK k of
 wo:=λz vs s a v h1 ai=>by obtain ⟨n,rfl,rfl⟩:=atE h1 ai;rw[hk,si h rfl];rfl
def apk {bG:Nat} (of:List UInt8->D bG) (dec:DecidableEq (D bG)) (h:P.underlying bG=J .string) (K:nX P bG (G.eo bG)) (hk:∀n,G.eo bG (of n)=[aF.str n]):Ax P G bG where
 dec:=dec
 K:=K
 qY:=VL of
 wo:=λz vs s a v h1 ai=>by obtain ⟨n,rfl,rfl⟩:=atF h1 ai;rw[hk,si h rfl];rfl
def aws {bA:Nat} (k:aG) (of:Int->D bA) (to:D bA->Int) (h1:∀x,of (to x)=x) (i:TypeInfo) (h:P.underlying bA=J (.int k)) (az:P.info? bA=J i) (V:oK P bA (G.eo bA)) (hk:∀n,G.eo bA (of n)=[.int k n]) (bx:i.zero=J (.int k 0)):AP P G bA where
 V:=V
 tN:=Ye k of
 pG:=λx=> .int k (to x)
 z0:=of 0
 i:=i
 az:=az
 u0:=si h rfl
 bx:=by rw[hk];exact bx
 y0:=λz vs c a v g1 g2=>by obtain ⟨n,rfl,rfl⟩:=atW g1 g2;rw[hk];rfl
 th:=λz vs a=>by have:=hk (to a);rw[h1] at this;rw[this];rfl
def awr {bA:Nat} (of:Bool->D bA) (to:D bA->Bool) (h1:∀x,of (to x)=x) (i:TypeInfo) (h:P.underlying bA=J .bool) (az:P.info? bA=J i) (V:oK P bA (G.eo bA)) (hk:∀n,G.eo bA (of n)=[.bool n]) (bx:i.zero=J (.bool ak)):AP P G bA where
 V:=V
 tN:=Yd of
 pG:=λx=> .bool (to x)
 z0:=of ak
 i:=i
 az:=az
 u0:=si h rfl
 bx:=by rw[hk];exact bx
 y0:=λz vs c a v g1 g2=>by obtain ⟨n,rfl,rfl⟩:=atV g1 g2;rw[hk];rfl
 th:=λz vs a=>by have:=hk (to a);rw[h1] at this;rw[this];rfl
def asI {X:e3 P D} {B:Code} {u:mP D} {a:List (mP D)} (h:qJ X B u) (b:∀v∈a,qJ X B v):∀v∈u::a,qJ X B v:=by
 grind
def atg {X:e3 P D} {B:Code}:∀v∈([]:List (mP D)),qJ X B v:=by simp
def gL.law {X:e3 P D} {d:fS D} {F:d.F} (p:gL X d F) {m:Mem} {z:Nat->bW} (n:lk z m) (l:∀b,m.next<=b->m.blk b= .dead) {g:List (bc D)} {a:List af} (o:bP (rel X.G z []) g a)
  (h:d.call X F g [] (λe _=>J e)=J (.c (.bool aa))):h2 P d.f a.toArray m λv _=>v= .bool aa:=by
 have j:b9 X.G ([]:List (ba D)) z m m ae []:=⟨dL.start n l,rfl,by simp,by simp⟩
 refine (p g [] (λe _=>J e) _ a j o h).mono λv t i=> ?_;obtain ⟨⟨u,r,e,s,_,_,_,_,k,q⟩,_⟩:=i;cases q;exact k
end
end
end Go.aF
end
section
namespace Go.aF
noncomputable section
section
variable {P:bI} {D:Nat->Type} {X:e3 P D} {ap:Type} {z z':Nat->bW} {e m m':Mem} {k:Option Nat} {vs vs':List af} {fr:Nat->af} {E:List (Nat×bc D)} {O cr:List (ba D)}
theorem KT (l:j6 D) {d:List Nat}:∀(a:List dt) (x:ft D a) (b:List Nat) (O:List (ba D)),mY (X.gm l) d a x b O=mY X d a x b O
 |[],_,_,_=>rfl
 | .o _ c::a,x,[],O=>rfl
 | .o _ c::a,x,i::b,O=>by
  show mY (X.gm l) d a x.2 b (O.set i (cw.gO (X.gm l) (λn=>d.getD n 0) c x.1 (zF c O i)))=mY X d a x.2 b (O.set i (cw.gO X (λn=>d.getD n 0) c x.1 (zF c O i)));rw[KT l a x.2 b]
  grind [cw.Kd]
 | .v _ _::a,x,b,O=>KT l a x.2 b O
 | .u _ _::a,x,b,O=>KT l a x.2 b O
def acv (l:j6 D) {c:Nat->Nat} {b d:List Nat} {a:List dt} {y:ft D a}:∀(O:List (ba D)) (i:Nat),sd (X.gm l) c b d a y i O=sd X c b d a y i O
 |[],i=>rfl
 |o::O,i=>by simp only[sd,BQ,acv l O (i+1)]
def aq4 (l:j6 D) (a:List dt) (b:List (Nat×bc D)) (E:List (Nat×bc D)) (O:List (ba D)):sl (X.gm l) a b E O=sl X a b E O:=by
 grind [sl,Lu,B6,KT]
def adr (l:j6 D) (p:h4 D) (F:p.F) (E:List (Nat×bc D)) (O:List (ba D)) {a:Type} (K:fG->List (Nat×bc D)->List (ba D)->Option a):p.run (X.gm l) F E O K=p.run X F E O K:=by
 simp_all [T1,zk,uE,acv,zr,h4.run,h4.G2,aq4]
def zb:fG->fG| .normal=> .ret|ex=>ex
def arE {a:fG} (h:zb a= .ret):a= .normal\/a= .ret:=by
 cases a<;>first|grind|exact .inr rfl|cases h
structure e7 (D:Nat->Type) where
 f:Nat
 lQ:Nat
 ins:List dt
 fg:List (Nat×bc D)
 ks:List Nat
 outs:List dt
 fu:List (Nat×bc D)
 eX:List Nat
 bZ:Bool:=ak
def Jv (a:List Nat) (i:Nat) (O:List (ba D)):List (ba D):=match O[i]? with|some (.box t b ak w)=>if (!(a.any (fi i))&&b.all avq)=aa then O.set i (.box t b aa w) else O|_=>O
def LL (a:List Nat):Nat->List (ba D)->List (ba D)|0,O=>O|n+1,O=>Jv a n (LL a n O)
def asX {keep:List Nat} {i:Nat} (d:b9 X.G O z e m k vs):∃c,Inv O (Jv keep i O)/\dT e.next z c/\b9 X.G (Jv keep i O) c e m k vs:=by
 unfold Jv;split
 ·rename_i t f w j;split
  ·rename_i l;simp only[fx] at l;obtain ⟨v,h,n⟩:=d.at j;have a:=n;obtain ⟨b,r,rfl,_⟩:=a;have o:vp O (.box i 0)=J ((t,f),O.set i (.box t f aa w)):=by
    grind [vp]
   obtain ⟨c,q,u,p,_⟩:=KJ (X:=X) d (s:= .box i 0) (g:= .pointer (J ⟨b,0,ae⟩)) ⟨b,h,rfl⟩ o
   grind
  grind [Inv.refl,dT.refl]
 grind [Inv.refl,dT.refl]
theorem adi {a:List Nat} (b:b9 X.G O z e m k vs):∀n:Nat,∃c,Inv O (LL a n O)/\dT e.next z c/\b9 X.G (LL a n O) c e m k vs
 |0=>⟨z,Inv.refl _,dT.refl z,b⟩
 |n+1=>by obtain ⟨p,f,l,d⟩:=adi b n;obtain ⟨o,g,h,j⟩:=asX (keep:=a) (i:=n) d;exact ⟨o,f.trans g,l.trans h,j⟩
def e7.pre (d:e7 D) (a:List (bc D)) (O:List (ba D)):List (ba D):=if d.bZ=aa then LL (Xs O 100 (ae3 (mg 0 a)) []) O.length O else O
def e7.ap3 {d:e7 D} {cX:List (bc D)} (b:b9 X.G O z e m k vs):∃a,Inv O (d.pre cX O)/\dT e.next z a/\b9 X.G (d.pre cX O) a e m k vs:=by
 grind [e7.pre,adi,Inv.refl,dT.refl]
def e7.gA (d:e7 D):h4 D:={path:=[],ins:=d.ins,fg:=d.fg,ks:=d.ks,iM:=[⟨.ret,d.outs,d.fu⟩],keep:=[]}
def avd:fG->Bool| .ret=>aa|_=>ak
variable (X) in
def e7.call (d:e7 D) (F:d.gA.F) (a:List (bc D)) (O:List (ba D)) {b:Type} (K:bc D->List (ba D)->Option b):Option b:=
 if fi a.length d.lQ=aa then d.gA.run X F (mg 0 a) (d.pre a O) λe E O=>if avd e=aa then (match GZ E d.eX with|some c=>K c O|none=>ae) else ae
 else ae
variable (X) in
def e7.fits (d:e7 D) (a:List (bc D)) (O:List (ba D)):Bool:=fi a.length d.lQ&&(sl X d.ins d.fg (jJ d.ins (mg 0 a) O).1 (jJ d.ins (mg 0 a) O).2).isSome
structure Tw (P:bI) (X:e3 P D) (d:e7 D) (F:d.gA.F):Prop where
 ex:∃fn c,P.funcs[d.f]? =J fn/\qm P fn c/\lR P d.f=aa/\iJ d.lQ fn.ntmps=aa/\fn.results.toList=d.eX.map .tmp/\d.gA.p0 c=aa/\sB zb X c d.gA F
def fR (X:e3 P D) (d:e7 D) (F:d.gA.F):Prop:=∀(g:List (bc D)) (O:List (ba D)) {c:Type} (K:bc D->List (ba D)->Option c) (r:c) {z:Nat->bW} {e m:Mem} {k:Option Nat} {b:List af} (a:List af),
 b9 X.G O z e m k b->bP (rel X.G z b) g a->d.call X F g O K=J r->h2 P d.f a.toArray m λv h=>dH X O z e k b K r v h
def ad5 {m:Mem}:∀(l:List Nat),q2 P fr m (l.map .tmp) (l.map fr)
 |[]=>trivial
 |_::l=>⟨rfl,ad5 l⟩
def Tw.call {d:e7 D} {F:d.gA.F} (M:Tw P X d F):fR X d F:=by
 intro g O ap K r z e m k vs b t o h;obtain ⟨fn,c,N,Q,R,S,T,U,mS⟩:=M.ex;unfold e7.call at h;obtain ⟨a,h⟩:=gz h;have a:=kA a;have H:b.toArray.size<=fn.ntmps:=by rw[List.size_toArray,<-o.length,a];exact pk S
 refine h2.any N Q R H λV Y=> ?_;have B:fj X z vs (mg 0 g) V:=WC o λj v A=>by rw[lH];exact Y j v (by simpa using A)
 obtain ⟨x,u9,q,Z⟩:=e7.ap3 (d:=d) (cX:=g) t;have n:=mS.zd U (mg 0 g) (d.pre g O) _ r Z (B.mono q.le λ_ _ h=>h) h;rw[show sub c d.gA.path=c from sc c] at n;refine n.mono ?_;rintro p fY m1 ⟨L,jK,ia,I,y,W,w,u,C,f⟩;obtain ⟨i,f⟩:=gz f;have l:zb p= .ret:=by revert i;cases zb p<;>intro i<;>first|rfl|cases i
 split at f
 ·rename_i J s;obtain ⟨G,E⟩:=Xf C s;exact ⟨arE l,_,by rw[T];exact ad5 d.eX,E,L,jK,J,I,u9.trans y,q.trans W,w,u,G,f⟩
 ·cases f
def fR.base {q:j6 D} {d:e7 D} {F:d.gA.F} (h:fR (X.gm q) d F):fR X d F:=by
 intro c O i K r z e m k j a f g b;have b:d.call (X.gm q) F c O K=J r:=by unfold e7.call at b⊢;rw[adr];exact b
 exact h c O K r a f g b
structure GE (D:Nat->Type) where
 d:e7 D
 F:d.gA.F
def e7.Z1 (d:e7 D) (a:List (bc D)) (O:List (ba D)):Bool:=fi ((jJ d.ins (mg 0 a) O).2.filter ba.live).length (gU d.ins)
variable (X) in
def ZL (l:List (GE D)) (d:e7 D) (f:Nat) (a:List (bc D)) (O:List (ba D)):Bool:=d.fits X a O&&(d.Z1 a O|| !(l.any λy=>fi y.d.f f&&(y.d.Z1 a O&&y.d.fits X a O)))
variable (X) in
def JD:List (GE D)->Nat->List (bc D)->List (ba D)->{b:Type}->(bc D->List (ba D)->Option b)->Option b|[],f,a,O,_,K=>X.C f a O K|x::l,f,a,O,_,K=>if (fi x.d.f f&&ZL X l x.d f a O)=aa then x.d.call X x.F a O K else JD l f a O K
variable (X) in
def JE:List (GE D)->Nat->List (bc D)->List (ba D)->Bool|[],f,a,O=>X.F f a O|x::l,f,a,O=>if (fi x.d.f f&&ZL X l x.d f a O)=aa then ak else JE l f a O
variable (X) in
def A8:List (GE D)->Nat->Bool|[],f=>X.W f|x::l,f=>fi x.d.f f||A8 l f
def e3.gen (X:e3 P D) (l:List (GE D)):e3 P D:=X.gm ⟨JE X l,X.hg,JD X l,A8 X l⟩
def aey (s:iV X) {f:Nat} {i:List (bc D)} {K:bc D->List (ba D)->Option ap} {r:ap} {a:List af} (o:b9 X.G O z e m k vs) (p:bP (rel X.G z vs) i a):∀{l:List (GE D)},(∀x∈l,fR X x.d x.F)->JD X l f i O K=J r->
  h2 P f a.toArray m λv n=>dH X O z e k vs K r v n/\(JE X l f i O=aa->n=m)/\(A8 X l f=ak->∃q,gG m n q/\oI vs (q1 i) q)
 |[],_,g=>s f i O K r a o p g
 |x::l,h,g=>by
  unfold JD at g;unfold JE A8;split at g
  ·rename_i c;rw[if_pos c];simp only[fx] at c;have:=kA c.1;subst this;refine (h x oG i O K r a o p g).mono λv n j=>⟨j,λb=>Yy b,λb=> ?_⟩
   rw[c.1] at b;cases b
  ·rename_i c;rw[if_neg c];refine (aey s o p (λy t=>h y (kn _ t)) g).mono λv n j=>⟨j.1,j.2.1,λb=>j.2.2 ?_⟩
   cases u:A8 X l f with
   |false=>rfl
   |true=>rw[u,Bool.or_true] at b;cases b
def iV.gen {l:List (GE D)} (g:iV X) (h:∀x∈l,fR X x.d x.F):iV (X.gen l):=by
 intro f n O j K r z e m k o a b i c;exact aey (X:=X) g b i h c
def gL.gm {q:j6 D} {d:fS D} {F:d.F} (h:gL (X.gm q) d F):gL X d F:=by
 intro f O i K r z e m k j a c g b;rw[<-acR q] at b;exact h f O K r a c g b
def fR.up {q:j6 D} {d:e7 D} {F:d.gA.F} (h:fR X d F):fR (X.gm q) d F:=by
 intro c O i K r z e m k j a f g b;have b:d.call X F c O K=J r:=by unfold e7.call at b⊢;rw[adr] at b;exact b
 exact h c O K r a f g b
def iV.amW {a:List (mK D)} {l:List (GE D)} (c:iV (X.with a)) (h:∀x∈l,fR X x.d x.F):iV ((X.with a).gen l):=iV.gen c λx b=>(h x b).up
def as1:∀y∈([]:List (GE D)),fR X y.d y.F:=by simp
def arR {l:List (GE D)} {x:GE D} (h:fR X x.d x.F) (a:∀y∈l,fR X y.d y.F):∀y∈x::l,fR X y.d y.F:=by
 grind
end
end
end Go.aF
end
section
namespace Go.aF
noncomputable section
section
variable {P:bI} {D:Nat->Type} {cT:e3 P D}
structure mi (cT:e3 P D) where
 X:e3 P D
 ok:iV X
 iB:∀{d:fS D} {F:d.F},gL X d F->gL cT d F
 Z7:∀{d:e7 D} {F:d.gA.F},fR X d F->fR cT d F
def mi.l9 (E:mi cT) (f:bS->Option bS->Option bS->Nat):mi cT:=⟨E.X.l9 f,iV.l9 E.ok,λh=>E.iB (gL.l9 h),λh=>E.Z7 (fR.base h)⟩
structure eS (cT:e3 P D) where
 bY:List (mK D)
 gs:List (GE D)
 ok:∀y∈bY,gL cT y.d y.F
 UM:∀y∈gs,fR cT y.d y.F
def eS.nil:eS cT:=⟨[],[],by simp,as1⟩
def eS.l7 (T:eS cT) (d:fS D) (F:d.F) (h:gL cT d F):eS cT:=⟨⟨d,F⟩::T.bY,T.gs,aqT (x:=⟨d,F⟩) h T.ok,T.UM⟩
def eS.ir (T:eS cT) (d:e7 D) (F:d.gA.F) (h:fR cT d F):eS cT:=⟨T.bY,⟨d,F⟩::T.gs,T.ok,arR (x:=⟨d,F⟩) h T.UM⟩
def eS.bk (T:eS cT):mi cT:=⟨(cT.with T.bY).gen T.gs,iV.amW (iV.of T.ok) T.UM,λh=>gL.gm (gL.gm h),λh=>fR.base (fR.base h)⟩
structure ch (E:mi cT) (B:Code) where
 us:List (mP D)
 ok:∀u∈us,qJ E.X B u
variable {E:mi cT} {B:Code}
def ch.nil:ch E B:=⟨[],atg⟩
def ch.add (a:ch E B) (p:h4 D) (F:p.F) (h:qF E.X B p F) (b:p.p0 B=aa):ch E B:=⟨p.zd E.X F::a.us,asI (h.zd b) a.ok⟩
def ch.aS (a:ch E B) (p:h4 D) (F:p.F) (c:p.p0 B=aa:=by kernel_rfl)
  (b:∀x,j8 E.X a.us calm aa p.path.reverse (aF.sub B p.path) (hc E.X p.ins x++p.fg) (eU E.X p.ins x) (sk E.X (gU p.ins) p.ks p.iM)=F x:=by intro x;kernel_rfl):ch E B:=
 a.add p F (qF.of E.ok (λu h _=>a.ok u h) b) c
def aeA:Code->Bool| .loop _=>aa|_=>ak
def aqw {B:Code} {p:List Nat} (h:aeA (aF.sub B p)=aa):aF.sub B p= .loop (aF.sub B (p++[0])):=by
 rw[<-WZ];cases a:aF.sub B p<;>rw[a] at h<;>first|(cases h;done)|exact congrArg Code.loop (sc _).symm
def ch.bE (a:ch E B) (N:Nat) (p:h4 D) (F:Nat->p.F) (b:(aeA (aF.sub B p.path)&&p.p0 B)=aa:=by kernel_rfl) (c:∀x,F 0 x=ae:=by exact λx=>rfl)
  (d:∀n x,j8 E.X a.us calm aa (0::p.path.reverse) (aF.sub B (p.path++[0])) (hc E.X p.ins x++p.fg) (eU E.X p.ins x) (aeY E.X p (F n))=F (n+1) x:=by intro n x;kernel_rfl):ch E B:=
 a.add p (F N) (qF.loop E.ok (aqw (tY.1 b).1) (tY.1 b).2 (λu h _=>a.ok u h) c d N) (tY.1 b).2
def Cu (P:bI) (f a:Nat) (fn:Func):Bool:=fn.body.isSome&&(lR P f&&iJ a fn.ntmps)
def adQ {fn:Func} (h:fn.body.isSome=aa):fn.body=J (en fn):=by
 unfold en;cases a:fn.body with
 |none=>grind
 |some c=>rfl
def fS.ho (P:bI) (d:fS D) (fn:Func):Bool:=Cu P d.f d.lQ fn&&(sh d.outs&&((d.fg.all λp=>tJ p.2)&&((d.fu.all λp=>tJ p.2)&&(d.fg.all λp=>(GY p.2).isNone))))
def ch.fn {fn:Func} (b:ch E (en fn)) {d:fS D} {F:d.F} (l:P.funcs[d.f]? =J fn) (a:d.ho P fn=aa:=by kernel_rfl) (k:fn.results.toList=d.lV:=by exact rfl)
  (m:∀r x,j8 E.X b.us calm aa [] (en fn) (hc E.X d.ins x++(d.fg++xu d.ij)) (rb E.X d.ij r) (PY E.X d)=F r x:=by intro r x;kernel_rfl):gL cT d F:=by
 unfold fS.ho Cu at a;simp only[fx] at a;obtain ⟨⟨n,e,g⟩,i,j,c,o⟩:=a;exact E.iB (Il.call ⟨⟨fn,_,l, .inl (adQ n),e,g,k,Au.of E.ok (us:=b.us) (λu h _=>b.ok u h) m⟩,i,j,c,o⟩)
def e7.ho (P:bI) (d:e7 D) (fn:Func):Bool:=Cu P d.f d.lQ fn&&d.gA.p0 (en fn)
def ch.fd {fn:Func} {c:Code} (b:ch E c) {d:fS D} {F:d.F} (m:P.funcs[d.f]? =J fn) (o:qm P fn c) (a:d.ho P fn=aa:=by kernel_rfl) (l:fn.results.toList=d.lV:=by exact rfl)
  (n:∀r x,j8 E.X b.us calm aa [] c (hc E.X d.ins x++(d.fg++xu d.ij)) (rb E.X d.ij r) (PY E.X d)=F r x:=by intro r x;kernel_rfl):gL cT d F:=by
 unfold fS.ho Cu at a;simp only[fx] at a;obtain ⟨⟨q,g,i⟩,j,k,e,p⟩:=a;exact E.iB (Il.call ⟨⟨fn,_,m,o,g,i,l,Au.of E.ok (us:=b.us) (λu h _=>b.ok u h) n⟩,j,k,e,p⟩)
def ch.iu {fn:Func} (b:ch E (en fn)) {d:e7 D} {F:d.gA.F} (j:P.funcs[d.f]? =J fn) (a:d.ho P fn=aa:=by kernel_rfl) (i:fn.results.toList=d.eX.map .tmp:=by exact rfl)
  (k:∀x,j8 E.X b.us calm aa d.gA.path.reverse (aF.sub (en fn) d.gA.path) (hc E.X d.gA.ins x++d.gA.fg) (eU E.X d.gA.ins x) (λm=>sk E.X (gU d.gA.ins) d.gA.ks d.gA.iM (zb m))=F x:=by intro x;kernel_rfl):fR cT d F:=by
 unfold e7.ho Cu at a;simp only[fx] at a;obtain ⟨⟨l,c,e⟩,g⟩:=a;exact E.Z7 (Tw.call ⟨⟨fn,_,j, .inl (adQ l),c,e,i,g,sB.of E.ok (us:=b.us) (λu h _=>b.ok u h) k⟩⟩)
def ad (k:Nat):dt:= .v k (.int .i64)
def a6 (k:Nat):dt:= .v k .bool
def vs (k:Nat):dt:= .v k .str
def aW (k e:Nat):dt:= .v k (.bh e)
def cm (k t:Nat):dt:= .v k (.agg t)
def e1 (k t:Nat):dt:= .v k (.hd t)
def ax (k e:Nat):dt:= .o k (.bh e)
def ob (k t:Nat):dt:= .o k (.box t)
def aX (k t:Nat):dt:= .o (100000000+k) (.box t)
def eJ (k t:Nat):dt:= .u k (.box t)
def aE (k j:Nat):Nat×bc D:=(k, .box j 0)
def a8 (k j:Nat):Nat×bc D:=(k, .c (.own j))
def abS:Nat->Nat->List Nat|0,_=>[]|f+1,n=>if iJ n 1=aa then [] else abS f (n / 10)++[n%10]
def abR (n:Nat):List Nat:=abS 40 n
def dI (k:Nat) (l:List dt):List (lF D):=[⟨.exit k,[],[]⟩,⟨.ret,l,[]⟩]
def b3 (l:List dt):List (lF D):=[⟨.normal,l,[]⟩]
def eD (k:Nat) (l:List dt):List (lF D):=[⟨.exit k,l,[]⟩]
def cV (n:Nat) (b:List dt) (c:List (lF D)) (a:List Nat):h4 D:=⟨abR n,b,[],[],c,a⟩
def bi (n:Nat) (b:List dt) (c:List (Nat×bc D)) (e:List Nat) (d:List (lF D)) (a:List Nat):h4 D:=⟨abR n,b,c,e,d,a⟩
def awg:dt->ResultVar| .v k _=> .tmp k| .o k _=> .tmp k| .u k _=> .tmp k
def sX (f c:Nat) (b a:List dt) (d:List ResultVar):fS D:=⟨f,c,b,[],ae,0,a,[],d,aa⟩
def gS (f d:Nat) (b a:List dt) (c:List (Nat×bc D)) (e:List ResultVar):fS D:=⟨f,d,b,[],ae,0,a,c,e,ak⟩
def cx (f c:Nat) (b a:List dt):fS D:=⟨f,c,b,[],ae,0,a,[],a.map awg,aa⟩
def ga {G:l6 D} {t:Nat} (a:List hJ) (b:D t->h6 (gJ G a)) (c:h6 (gJ G a)->D t) {i:TypeInfo} (e:P.info? t=J i) (h:∀x,c (b x)=x:=by exact λ_=>rfl) (d:∀y,b (c y)=y:=by exact λ_=>rfl)
  (m:G.T t=fB t (gJ G a) b:=by exact rfl) (g:i.size=a.length:=by exact rfl) (k:(a.length==0)=ak:=by exact rfl) (l:iJ i.bytes 32768=aa:=by exact rfl) (f:i.zero=J (i.zero.getD undef):=by exact rfl) (j:(i.zero.getD undef).cells.toList=oD a:=by exact rfl):dP P G t:=
 awe a b c h d i m e g k l f j
def fE {a:Type} (x:a):a×Unit:=(x,())
def ju {a:Type} (y:a×Unit):a:=y.1
def eS.go (T:eS cT) (d:fS D) (F:d.F) {fn:Func} (c:P.funcs[d.f]? =J fn) (a:ch T.bk (en fn):=ch.nil) (g:d.ho P fn=aa:=by kernel_rfl) (b:fn.results.toList=d.lV:=by exact rfl)
  (e:∀r x,j8 T.bk.X a.us calm aa [] (en fn) (hc T.bk.X d.ins x++(d.fg++xu d.ij)) (rb T.bk.X d.ij r) (PY T.bk.X d)=F r x:=by intro r x;kernel_rfl):eS cT:=T.l7 d F (a.fn c g b e)
def eS.mx (T:eS cT) (d:e7 D) (F:d.gA.F) {fn:Func} (c:P.funcs[d.f]? =J fn) (a:ch T.bk (en fn):=ch.nil) (h:d.ho P fn=aa:=by kernel_rfl) (b:fn.results.toList=d.eX.map .tmp:=by exact rfl)
  (e:∀x,j8 T.bk.X a.us calm aa d.gA.path.reverse (aF.sub (en fn) d.gA.path) (hc T.bk.X d.gA.ins x++d.gA.fg) (eU T.bk.X d.gA.ins x) (λg=>sk T.bk.X (gU d.gA.ins) d.gA.ks d.gA.iM (zb g))=F x:=by intro x;kernel_rfl):eS cT:=T.ir d F (a.iu c h b e)
end
end
end Go.aF
end
section
namespace Go.aF
def W7 {P : bI} {g : FuncId} {fn : Func} {id t3 t4 : Nat} {iw iQ : Oper} {X : Code} {ty tz : bV} {al8 : Array bV} (bF : P.funcs[g]? = J fn) (bB : (fn.name == "runtime.NumGoroutine") = ak)
  (aw:fn.body=J (.seq (.region id #[iw,iQ] ak) (.cond (.tmp t4) X .skip))) (h1:iw.op= .call {callee:= .builtin .recover,args:=#[],argTypes:=al8}) (d1:iw.dst=J t3) (g1:iw.guard=ae)
  (ai:iQ.op= .binOp .neq ty (.tmp t3) (.const .nilIface) tz) (d2:iQ.dst=J t4) (g2:iQ.guard=ae) (avD:t3<fn.ntmps) (ay7:t4<fn.ntmps) (aV:fn.results=#[])
  (fv:∀w,(eqGuard .neq ty (.tmp t3) (.const .nilIface) .nilIface .nilIface).run P w= .ok () w) (fQ:∀w,(binOp .neq ty .nilIface .nilIface).run P w= .ok (.bool ak) w):Cl P g:=by
 refine ⟨⟨fn,bF,bB,by grind⟩,λcs w=> ?_⟩;refine callsD_of_wpS bF aw λamw ds hm=>wpS_seq (wpS_region ?_);have cN:(cs++nj (fn.ntmps - cs.size) undef).size>=fn.ntmps:=by grind
 generalize cs++nj (fn.ntmps - cs.size) undef=T at cN;show wpOpsS P #[iw,iQ] _ [0,1] _ _ w;have dX:qK iw (yielded #[iw,iQ] T)=aa:=by grind [qK]
 have bX:∀ap,(execOp ap iw).run P w= .ok .recover w:=λap=>by simp[execOp,h1,resolve,invoke,builtin]
 have aoM:recoverD (amw::ds)=ae:=by grind [recoverD]
 unfold wpOpsS;simp only[show (#[iw,iQ]:Array Oper)[0]? =J iw from rfl,dX,if_true,bX,aoM];unfold wpOpsS;have ix:qK iQ (yielded #[iw,iQ] (qB {tmps:=T,defers:=[]} iw.dst .nilIface).tmps)=aa:=by grind [qK]
 have aD:(qB {tmps:=T,defers:=[]} iw.dst .nilIface).eval (.tmp t3)= .nilIface:=by simp[Act.eval,qB,d1,show t3<T.size by omega]
 have e2:(execOp (qB {tmps:=T,defers:=[]} iw.dst .nilIface).eval iQ).run P w= .ok (.value (.bool ak)) w:=by have ay:(qB {tmps:=T,defers:=[]} iw.dst .nilIface).eval (.const .nilIface)= .nilIface:=rfl;simp_all [execOp]
 simp only[show (#[iw,iQ]:Array Oper)[1]? =J iQ from rfl,ix,if_true,e2];rw[Oper.upon_value];have ao0:(qB (qB {tmps:=T,defers:=[]} iw.dst .nilIface) iQ.dst (.bool ak)).eval (.tmp t4)= .bool ak:=by simp[Act.eval,qB,d1,d2,show t4<T.size by omega]
 refine wpS_cond ao0 (wpS_of_wp (wp_skip ?_));refine ⟨by grind [qB], .returning, ?_, .tuple #[],by simp[results,aV],⟨_,rfl⟩,rfl,rfl⟩;rw[<-hm]
def oh:Code->Code| .seq A (.seq (.region b a d) B)=> .seq A (.seq (.region b a.pop d) B)|k=>k
end Go.aF
end
section
namespace Go.aF
open Go.Sort Go.Shelf Go.Proofs
noncomputable def ou {a:Type} [Inhabited a] (c:a->a->Int) (b:List a):List a:=(pdq (ltOf c) b.toArray 0 b.toArray.size (Ty b.toArray.size) aa aa).toList
noncomputable def G6 {a:Type} [Inhabited a] (c:a->a->Int) (b:List a):Option (List a):=if b.length<4611686018427387904 then J (ou c b) else ae
def p1 (x y:Int):Int:=Lib.compareInt x y
section
variable {aK:Type} [Inhabited aK]
def asc (x y:Int):decide (p1 x y<0)=decide (x<y):=by
 grind [p1,Lib.compareInt]
def W0 (f:aK->Int):SWO (ltOf λx y=>p1 (f x) (f y)):=by
 have e:∀x y,ltOf (λx y=>p1 (f x) (f y)) x y=decide (f x<f y):=λx y=>asc _ _;refine ⟨λx=> ?_,λx y z b a=> ?_,λx y z b a=> ?_⟩
 ·grind
 ·grind
 grind
def Wi (b:aK->aK->Int) (c:SWO (ltOf b)) (a:List aK):PermIn 0 a.length a.toArray (ou b a).toArray/\SortedIn (ltOf b) 0 a.length (ou b a).toArray:=by
 have h:=pdq_sorts (ltOf b) c a.toArray 0 a.toArray.size (Ty a.toArray.size) aa aa (Nat.zero_le _) (e4 _) (Or.inl rfl);have e:(ou b a).toArray=pdq (ltOf b) a.toArray 0 a.toArray.size (Ty a.toArray.size) aa aa:=by rfl
 grind
def BU (a:aK->aK->Int) (c:SWO (ltOf a)) (b:List aK):(ou a b).length=b.length:=by
 have:=(Wi a c b).1.1
 grind
def acL (a:aK->aK->Int) (c:SWO (ltOf a)) (b:List aK):(ou a b).Perm b:=by
 have h:=(Wi a c b).1;have d:=BU a c b;have e:=h.2.2
 grind
theorem acY {a:aK->List af} {k:Nat} (d:∀x,(a x).length=k):∀(b:List aK) (t:Nat),t<b.length*k->(b.flatMap a)[t]? =J ((a b.toArray[t / k]!)[t%k]!)
 |[],t,h=>by grind
 |x::b,t,h=>by
  have e:0<k:=by grind
  rw[II,AB];split
  ·grind [Nat.div_eq_of_lt,Nat.mod_eq_of_lt]
  ·rename_i c;rw[d] at c⊢;have c:k<=t:=by omega
   rw[acY d b (t - k) (by grind [ko])];have g:t / k=(t - k) / k+1:=by rw[<-Nat.sub_add_cancel c,Nat.add_div_right _ e];simp
   have f:t%k=(t - k)%k:=by rw[<-Nat.sub_add_cancel c,Nat.add_mod_right];simp
   grind
theorem KD {a:aK->List af} {k:Nat} (d:∀x,(a x).length=k) (b:List aK):(b.flatMap a).length=b.length*k:=by
 induction b with
 |nil=>simp
 |cons x b c=>grind
theorem arW {a:aK->List af} {k:Nat} (d:∀x,(a x).length=k) (b:List aK):(flatK a k b.toArray).toList=b.flatMap a:=by
 refine rv λt=> ?_;by_cases c:t<b.length*k
 ·grind [acY,flatK]
 ·rw[Tz (l:=b.flatMap a) (by grind [KD]),Tz (by simp_all)]
variable {P:bI} {ap:Ren}
def Wh {f l:Nat} {o F k:List af} {w:World} {a:Nat} (p:k.length=F.length) (z:0<F.length)
  (h:∀b g:Nat,a<w.heap.size->Holds id w a b F.toArray->Calls P f (.slice (J ⟨a,b,ae⟩) l g::o).toArray w λe q=>e= .returned (.tuple #[])/\∃n m,q=grow (putRow id (TL w n) a b k.toArray) m):zE P f o l F k w a:=by
 intro b g s t bZ y u D;have v:Holds id w a b F.toArray:=by
  intro j B
  grind [rG,World.frozen?]
 have d:a<w.heap.size:=by
  grind
 refine (h b g d v).mono ?_;rintro e q ⟨rfl,n,m,rfl⟩;have r:∀c,c<w.heap.size->(grow (putRow id (TL w n) a b k.toArray) m).heap[c]? =(w.heap.modify a (onCells (putCells id b k.toArray)))[c]? :=by
  grind [grow,putRow,mapBlock,TL]
 refine ⟨rfl,rfl,rfl,rfl,by grind,λc A C=> ?_, ?_⟩
 ·grind
 ·rw[r a d,Array.getElem?_modify,if_pos rfl,y];simp only[vU,onCells];congr 2;have x:b+F.length<=s.size:=by
   have:=(Array.getElem?_eq_some_iff.1 (u _ _ (mm (l:=F) (i:=F.length - 1) (by omega)))).1;omega
  apply Array.ext_getElem?
  grind [o5,putCells]
def ar8 (L:SlLaysF0.n6 P ap) {f g k:Nat} (F:ap.f 6=f) (C:∀w,(isAgg (ap.t 24)).run P w= .ok aa w) (D:∀w,(Go.sizeOf (ap.t 24)).run P w= .ok k w) (a:aK->List af) (l:∀x,(a x).length=k) (G:∀x,(a x).all dy=aa)
  (d:aK->aK->Int) (u:SWO (ltOf d)) (J:∀c w,(callFunc g c).run P w= .ok (.enter g c) w)
  (H:∀(x y:aK) (W:World),Calls P g #[.agg (a x).toArray, .agg (a y).toArray] W λe A=>e= .returned (.int .i64 (d x y))/\∃q I,A=grow (W.drewN q) I)
  (b:List aK) (O:b.length<4611686018427387904) (R:0<k) (M:0<b.length) (w:World) (h:Nat):zE P f [.func (.func g) #[] #[]] b.length (b.flatMap a) ((ou d b).flatMap a) w h:=by
 subst F;have B:=BU d u b;have e:∀o:List aK,(o.flatMap a).toArray=flatK a k o.toArray:=λo=>by grind [arW]
 refine Wh (by rw[KD l,KD l,B]) (by rw[KD l];simp_all) λr p i s=> ?_;rw[e] at s;have K:∀x,∀v∈a x,v.oneCell'=aa:=λx v E=>(acX (j:=λ_=>ae) (iA.1 (G x) v E)).one;refine (AnyQ.slices_SortFunc_eq L k C D a l K d u g #[] h r p b.toArray w J (λm z N _ x y=>H x y _) s i (by grind)).mono ?_;rintro Q A ⟨rfl,n,z,rfl⟩;refine ⟨rfl,n,z, ?_⟩;rw[e,show (ou d b).toArray=pdq (ltOf d) b.toArray 0 b.toArray.size (Ty b.toArray.size) aa aa by rfl];rfl
end
noncomputable section
section
variable {P:bI} {D:Nat->Type} {G:l6 D}
def AV:List hJ->Bool|[]=>aa| .bh _::_=>ak| .mp _ _ _::_=>ak| .fn::_=>ak|_::a=>AV a
def w0 {z:Nat->bW}:∀{ls:List hJ} {x:h6 (gJ G ls)} {a:List af},AV ls=aa->pa z (gJ G ls) x a->a=hC ls x
 |[],_,[],_,_=>rfl
 |[],_,_::_,_,h=>h.elim
 | .int k::ls,x,d::a,h,e=>by have b:d= .int k x.1:=e.1;rw[hC,b,<-w0 (ls:=ls) h e.2]
 | .bool::ls,x,d::a,h,e=>by have b:d= .bool x.1:=e.1;rw[hC,b,<-w0 (ls:=ls) h e.2]
 | .str::ls,x,d::a,h,e=>by have b:d=aF.str x.1:=e.1;rw[hC,b,<-w0 (ls:=ls) h e.2]
 | .bh _::_,_,_,h,_=>by cases h
 | .mp _ _ _::_,_,_,h,_=>by cases h
 | .fn::_,_,_,h,_=>by cases h
 | .int _::_,_,[],_,h=>h.elim
 | .bool::_,_,[],_,h=>h.elim
 | .str::_,_,[],_,h=>h.elim
def zu {z:Nat->bW}:∀{ls:List hJ} {x:h6 (gJ G ls)},AV ls=aa->pa z (gJ G ls) x (hC ls x)
 |[],_,_=>trivial
 | .int k::ls,x,h=>⟨rfl,zu (ls:=ls) h⟩
 | .bool::ls,x,h=>⟨rfl,zu (ls:=ls) h⟩
 | .str::ls,x,h=>⟨rfl,zu (ls:=ls) h⟩
 | .bh _::_,_,h=>by cases h
 | .mp _ _ _::_,_,h=>by cases h
 | .fn::_,_,h=>by cases h
def BS:∀{ls:List hJ} {x:h6 (gJ G ls)},AV ls=aa->(hC ls x).all dy=aa
 |[],_,_=>rfl
 | .int k::ls,x,h=>by simp only[hC,ml,BS (ls:=ls) (x:=x.2) h];rfl
 | .bool::ls,x,h=>by simp only[hC,ml,BS (ls:=ls) (x:=x.2) h];rfl
 | .str::ls,x,h=>by simp only[hC,ml,BS (ls:=ls) (x:=x.2) h];rfl
 | .bh _::_,_,h=>by cases h
 | .mp _ _ _::_,_,h=>by cases h
 | .fn::_,_,h=>by cases h
def w4:∀{ls:List hJ} {x:h6 (gJ G ls)},(hC ls x).length=ls.length
 |[],_=>rfl
 | .int k::ls,x=>by simp only[hC,ry,w4 (ls:=ls)]
 | .bool::ls,x=>by simp only[hC,ry,w4 (ls:=ls)]
 | .str::ls,x=>by simp only[hC,ry,w4 (ls:=ls)]
 | .bh _::ls,x=>by simp only[hC,ry,w4 (ls:=ls)]
 | .mp _ _ _::ls,x=>by simp only[hC,ry,w4 (ls:=ls)]
 | .fn::ls,x=>by simp only[hC,ry,w4 (ls:=ls)]
def WA {e f:Nat} {z:Nat->bW} {M m:Mem} {k:Option Nat} {d g:List (D e)} {v:af} {n:List af} (a:D e->List af) (C:∀z x K,(G.T e).rd z x K->K=a x) (H:∀z x,(G.T e).rd z x (a x)) (bF:∀x,(a x).all dy=aa) (S:lR P f=aa) (bB:g.length=d.length)
  (bR:∀(p:Option Addr) (E:Nat) (Q:List af) (w:World),Q.length=n.length->Calls P f (.slice p 0 E::Q).toArray w λx w'=>x= .returned (.tuple #[])/\w'=w)
  (bf:0<d.length->∀(b:Nat) (L:List af) (t:bV),z b= .dead->m.blk b= .own L t->∀(j:cj) (w:World) (y:List af) (q:kl),WF m->Rel P j m w->bP (de j) n y->j b=J q->zE P f y d.length (d.flatMap a) (g.flatMap a) w q.blk)
  (I:dU (G.T e) z M m k d v):∃s A,h2 P f (v::n).toArray m (λu F=>u=(if ak=aa then s else .tuple #[])/\F=A)/\(A=m\/∃b X,da v=J b/\A=m.put b X)/\dU (G.T e) z M A k g s/\da s=da v/\(ak=ak->s=v):=by
 have B:∀l:List (D e),∀x∈l,(a x).length=(G.T e).bM:=λl x _=>(G.T e).len z x _ (H z x);have V:∀l:List (D e),(l.flatMap a).all dy=aa:=λl=>by
  grind
 have Z:d=[]->(∃p c,v= .slice p 0 c)->h2 P f (v::n).toArray m (λu F=>u=(if ak=aa then v else .tuple #[])/\F=m)/\g=d:=λo ⟨p,c,C⟩=>by subst o C;exact ⟨h2.sort S (ar9 p c n bR) ⟨rfl,rfl⟩,yl bB⟩
 rcases I.bT with ⟨rfl,rfl⟩|⟨b,h,L,c,rfl,N,g2,O,g4,g5,g6⟩
 ·grind
 ·by_cases hV:d.length=0
  ·grind
  ·have W:=WI (B d);have Y:=WI (B g);have R:(eY L h (g.flatMap a)).length=L.length:=mB _ _ _;refine ⟨_,m.put b (.own (eY L h (g.flatMap a)) (G.T e).tid),h2.sort S (ar' b h d.length c L (G.T e).tid (d.flatMap a) (g.flatMap a) n (λj w y q dV cY eL r=>bf (by omega) b L _ O N j w y q dV cY eL r) (by omega) N ?_ (by grind) (by grind) (V _) (V _)) ⟨rfl,rfl⟩, .inr ⟨b,_,rfl,rfl⟩,⟨.inr ⟨b,h,eY L h (g.flatMap a),c,by grind,by simp[Mem.put],g2,O,by grind,by grind,λi x o=> ?_⟩,I.fresh⟩,rfl,λ_=>rfl⟩
   ·refine rv λj=> ?_;rw[List.getElem?_take];split
    ·rename_i r;rw[List.getElem?_drop];have U:=mm r;rw[U];exact acf C (λi x o=>g6 i x o) (B d) j _ U
    grind
   ·refine ⟨a x,H z x,λj u r=> ?_⟩;have hk:=adJ (B g) i j x u o r;rw[o5 _ _ _ _ (by grind)];have cF:=(fq.1 hk).1;rw[if_pos (by omega),show h+i*(G.T e).bM+j - h=i*(G.T e).bM+j by omega]
    grind
def asW {g:Nat} {z:Nat->bW} {m d c:List af} {j:cj} (h:bP (rel G z m) [.fn g []] d) (i:bP (de j) d c):c=[.func (.func g) #[] #[]]:=by
 match d,c,h,i with
 |[_],[_],⟨⟨a,rfl,b⟩,_⟩,⟨k,_⟩=>
  have:a=[]:=by cases a with
   |nil=>rfl
   |cons _ _=>exact b.elim
  subst this;obtain ⟨a,e,n,b,f⟩:=k;have o:a=#[]:=by
   obtain ⟨l⟩:=a;cases l with
   |nil=>rfl
   |cons _ _=>exact b.elim
  have p:e=#[]:=by
   obtain ⟨l⟩:=e;cases l with
   |nil=>rfl
   |cons _ _=>exact f.elim
  grind
def avF {t:Nat} (c:List hJ) (i:D t->h6 (gJ G c)) (B:G.T t=fB t (gJ G c) i) (n:AV c=aa) (C:D t) (a:D t->Int) {l:Ren} (L:SlLaysF0.n6 P l) (f g:Nat) (u:l.f 6=f) (Q:lR P f=aa)
  (F:∀w,(isAgg (l.t 24)).run P w= .ok aa w) (H:∀w,(Go.sizeOf (l.t 24)).run P w= .ok c.length w) (S:∀d w,(callFunc g d).run P w= .ok (.enter g d) w) (N:mn 0 c.length=aa)
  (O:∀(x y:D t) (W:World),Calls P g #[.agg (hC c (i x)).toArray, .agg (hC c (i y)).toArray] W λe U=>e= .returned (.int .i64 (p1 (a x) (a y)))/\∃q R,U=grow (W.drewN q) R):ns P G where
 f:=f
 e:=t
 u5:=ak
 acc:=λo=>match o with|[.fn A5 []]=>fi A5 g|_=>ak
 qp:=λ_=> @G6 (D t) ⟨C⟩ λx y=>p1 (a x) (a y)
 run:=λz eV m k vs lW o E V v s h Y A K=>by
  letI:Inhabited (D t):=⟨C⟩
  split at s
  ·obtain rfl:=kA s;unfold G6 at h;split at h
   ·rename_i J;cases h;refine WA (λx=>hC c (i x)) (λz x ds h=>by rw[B] at h;exact w0 n h) (λz x=>by rw[B];exact zu n) (λx=>BS n) Q (BU _ (W0 a) E) (λp r o w h=> ?_) (λI b _ eu _ _ j w kG q dV Z M X=> ?_) K
    ·subst u;rw[<-A.length] at h
     match o,h with
     |[v],_=>exact AnyF.slices_SortFunc_none L p r v w
    ·have e:=asW A M;subst e;exact ar8 L u F H (λx=>hC c (i x)) (λ_=>w4) (λ_=>BS n) (λx y=>p1 (a x) (a y)) (W0 a) S O E J (pk N) I w q.blk
   ·cases h
  ·cases s
end
end
end Go.aF
end
section
namespace Go.aF
open Go.Sort Go.Shelf Go.Proofs Go.RowKit
noncomputable section
def ve (a:List Int):Option (List Int):=if a.length<4611686018427387904 then J (if a.Pairwise (·<=·) then a else a.mergeSort λx y=>decide (x<=y)) else ae
def uF {a:Type} (x:List a):Option (List a):=wK x λt=>if t=aa then J [] else ab (cD [] x) λy=>J y
def Lg {b:Type} {x y:List b} (h:(ab (cD [] x) λy=>J y)=J y):uF x=J y:=
 atc λt a=>by
  cases t with
  |false=>grind
  |true=>rw[a rfl] at h;exact h
def gL.imp {P:bI} {D:Nat->Type} {X:e3 P D} {d:fS D} {F rq:d.F} (a:d.ij=ae) (b:∀r x y,F r x=J y->rq r x=J y) (h:gL X d rq):gL X d F:=gL.or a (λr x y g=> .inl (b r x y g)) h h
def aqv {b a:List Int} (h:ve b=J a):ve (b.map λx=>x)=J (a.map λx=>x):=by simp_all
section
variable {aK:Type} [Inhabited aK]
def acj (b:aK->af) (w:World) (a c:Nat) (d:List aK):putRow b w a c d.toArray=putRow id w a c (d.map b).toArray:=by
 unfold putRow putCells
 grind
def acx {b:aK->af} {w:World} {a c:Nat} {d:List aK} (h:Holds id w a c (d.map b).toArray):Holds b w a c d.toArray:=by
 intro j e;have e:j<d.length:=by grind
 have:=h j (by grind)
 grind
end
section
variable {P:bI} {D:Nat->Type} {G:l6 D} {t:Nat}
def KC (b:D t->Int) (a:List (D t)):(a.flatMap λx=>[mu .i64 (b x)])=(a.map b).map (mu .i64):=by
 induction a with
 |nil=>rfl
 |cons x a c=>grind
def au2 (to:D t->Int) (aD:∀z x ds,(G.T t).rd z x ds->ds=[.int .i64 (to x)]) (aV:∀z x,(G.T t).rd z x [.int .i64 (to x)]) (qp:List (D t)->Option (List (D t))) (bf:∀{xs b4},qp xs=J b4->ve (xs.map to)=J (b4.map to)) {ap:Ren} (L:Lays.n189 P ap) (f:Nat) (bF:ap.f 189=f) (ok:lR P f=aa):ns P G where
 f:=f
 e:=t
 u5:=ak
 acc:=List.isEmpty
 qp:=λ_=>qp
 run:=λz eV m k vs lW gV xs b4 v oN h bx dE cG=>by
  cases gV with
  |cons _ _=>cases oN
  |nil=>
  cases lW with
  |cons _ _=>exact dE.elim
  |nil=>
  subst bF;have h:=bf h;unfold ve at h;split at h
  ·rename_i cF;have h:((xs.map to).mergeSort λx y=>decide (x<=y))=b4.map to:=by
    have h:=kB.inj h;split at h
    ·rename_i bf;rw[<-h];exact List.mergeSort_of_pairwise (bf.imp λh=>decide_eq_true h)
    ·exact h
   have hlen:b4.length=xs.length:=by have:=congrArg List.length h;simpa using this.symm
   refine WA (λx=>[.int .i64 (to x)]) aD aV (λx=>rfl) ok hlen (λp cap gV w h=> ?_) (λbR b _ eu _ _ j w kG q dV cY eL bn=> ?_) cG
   ·cases gV with
    |cons _ _=>simp at h
    |nil=>exact Any.slices_Sort_int_none L p cap w
   ·cases kG with
    |cons _ _=>exact eL.elim
    |nil=>
    rw[KC,KC];refine Wh (by simp[hlen]) (by simpa using bR) λoff cap hblk hH=> ?_;have ay:=Any.slices_Sort_int L q.blk off cap (xs.map to) w (acx hH) hblk cF;rw[ug] at ay;refine ay.mono ?_;rintro e w' ⟨rfl,n,os,rfl⟩;exact ⟨rfl,n,os,by rw[<-h,acj]⟩
  ·cases h
def afh {e:Nat} (d:dP P G e) (H:P.follows .mixedOrders=aa) {fn:Func} (f:Nat) (r:P.funcs[f]? =J fn) (o:fn.body.isSome=aa) (A:lR P f=aa) (K:iJ 3 fn.ntmps=aa) (I:fn.results.toList=[.tmp 6]) (B:Tu t (en fn)) (p:P.underlying t=J (.slice e)):ns P G where
 f:=f
 e:=e
 u5:=aa
 acc:=λg=>match g with|[.c (.int .i64 _), .c (.int .i64 _)]=>aa|_=>ak
 qp:=λg l=>match g with|[.c (.int _ a), .c (.int _ b)]=>AY l a b|_=>ae
 run:=λz N m k R F g l L v j h M y w=>by
  split at j
  ·rename_i a b
   match F,y with
   |[_,_],⟨rfl,rfl,_⟩=>
    simp only[AY] at h;split at h
    ·rename_i q;cases h;obtain ⟨s,O,rfl⟩:=q;obtain ⟨n,rfl⟩:=Int.eq_ofNat_of_zero_le s;obtain ⟨b,Y,x,i,C,D,E⟩:=ase (T:=G.T e) H r o A (pk K) I B (by rw[d.tid];exact p) (by rw[d.tid];exact d.az) d.bx d.dw d.et d.cN w (a:=n) (by omega);exact ⟨x,_,D.mono λu Q h=>⟨by rw[if_pos rfl];exact h.1,h.2⟩, .inr ⟨b,Y,i,rfl⟩,E,by rw[i,C],λh=>by cases h⟩
    ·cases h
  ·cases j
end
end
end Go.aF
end
section
namespace Go.aF
open Go.Sort Go.Shelf Go.Proofs Go.RowKit
noncomputable section
abbrev pW (n:Nat):Type:={x:Int // 0<=x/\x<n}
def o1 (a c:List Int):Option (List Int):=
 if c=[] then J [] else
 if h:(∀x∈c,0<=x/\x<a.length)/\(∀b∈a,0<=b/\b<4294967296)/\c.length<4611686018427387904/\0<a.length then
  J ((@ou (pW a.length) ⟨⟨0,by omega⟩⟩ (λx y=>a.getD x.1.toNat 0 - a.getD y.1.toNat 0) (c.pmap Subtype.mk h.1)).map Subtype.val)
 else ae
def W1 {a:Type} (f:a->Int):SWO (ltOf λx y=>f x - f y):=by
 have e:∀x y,ltOf (λx y=>f x - f y) x y=decide (f x<f y):=λx y=>by grind [ltOf]
 refine ⟨λx=> ?_,λx y z c b=> ?_,λx y z c b=> ?_⟩
 ·grind
 ·grind
 grind
def abZ {a b c:List Int} (h:o1 a b=J c):c.Perm b:=by
 unfold o1 at h;split at h
 ·grind
 ·split at h
  ·rename_i d;cases h
   letI:Inhabited (pW a.length):=⟨⟨0,by omega⟩⟩
   have:=(acL (λ(x y:pW a.length)=>a.getD x.1.toNat 0 - a.getD y.1.toNat 0) (W1 _) (b.pmap Subtype.mk d.1)).map Subtype.val;simp_all [List.map_pmap]
  grind
def aqp {b c a:List Int} (h:o1 b c=J a):o1 b (c.map λx=>x)=J (a.map λx=>x):=by simp_all
section
variable {P:bI} {ap:Ren} {f g bM o:Nat} {eZ xs b4:List Int} {w:World} {lg cu kj dz cap blk:Nat}
def Wr {a:Type} [Inhabited a] {b:a->af} {e n:Nat} {d:Array a} {f:Array Obj} {c i:Nat} {v:af} (h:w.cell? ⟨c,i,ae⟩=J v) (g:c≠blk):(sortWorld b w blk e n d f).cell? ⟨c,i,ae⟩=J v:=by
 grind [rG,sortWorld,grow,putRow,mapBlock,TL]
def asu [Inhabited (pW eZ.length)] (L:SlLaysF.n6 P ap) (sW:∀args w,(callFunc g args).run P w= .ok (.enter g args) w)
  (kK:∀(x y bL b:Int) (lg cu kj dz n cap:Nat) (W:World),W.cell? ⟨lg,cu,ae⟩=J (.slice (J ⟨kj,dz,ae⟩) n cap)->0<=x->x<n->0<=y->y<n->W.cell? ⟨kj,dz+x.toNat*bM+o,ae⟩=J (.int .i64 bL)->W.cell? ⟨kj,dz+y.toNat*bM+o,ae⟩=J (.int .i64 b)->
   Calls P g #[.int .i64 x, .int .i64 y, .pointer (J ⟨lg,cu,ae⟩)] W λe w'=>e= .returned (.int .i64 (Aw.wrap (bL - b)))/\∃q pz,w'=grow (W.drewN q) pz)
  (c2:∀b∈eZ,0<=b/\b<4294967296) (h1:w.cell? ⟨lg,cu,ae⟩=J (.slice (J ⟨kj,dz,ae⟩) eZ.length cap)) (ai:∀(i:Nat) (b:Int),eZ[i]? =J b->w.cell? ⟨kj,dz+i*bM+o,ae⟩=J (.int .i64 b)) (tp:lg≠blk) (mX:kj≠blk) {zs:List (pW eZ.length)} (VD:0<zs.length) (cF:zs.length<4611686018427387904):
  zE P (ap.f 6) [.func (.func g) #[] #[.pointer (J ⟨lg,cu,ae⟩)]] zs.length (zs.map λx=>mu .i64 x.1) ((ou (λ(x y:pW eZ.length)=>eZ.getD x.1.toNat 0 - eZ.getD y.1.toNat 0) zs).map λx=>mu .i64 x.1) w blk:=by
 have hO:SWO (ltOf λ(x y:pW eZ.length)=>eZ.getD x.1.toNat 0 - eZ.getD y.1.toNat 0):=W1 _;have JQ:=BU _ hO zs;refine Wh (by grind) (by grind) λoff ams hblk hH=> ?_;refine (Any.slices_SortFunc_eq L (λx:pW eZ.length=>mu .i64 x.1) (λx=>rfl) _ hO g #[.pointer (J ⟨lg,cu,ae⟩)] blk off ams zs.toArray w sW (λn os Z8 _ x y=> ?_) (acx hH) hblk (by grind)).mono ?_
 ·have aap:eZ[x.1.toNat]? =J (eZ.getD x.1.toNat 0):=by have:=x.2;simp_all
  have aaq:eZ[y.1.toNat]? =J (eZ.getD y.1.toNat 0):=by have:=y.2;simp_all
  have bL:=c2 _ (mM aap);have b:=c2 _ (mM aaq);have:=kK x.1 y.1 _ _ lg cu kj dz eZ.length cap (sortWorld (λx:pW eZ.length=>mu .i64 x.1) w blk off n Z8 os) (Wr h1 tp) x.2.1 x.2.2 y.2.1 y.2.2 (Wr (ai _ _ aap) mX) (Wr (ai _ _ aaq) mX);rw[aG.wrap_i64,show (eZ.getD x.1.toNat 0 - eZ.getD y.1.toNat 0+9223372036854775808)%18446744073709551616 - 9223372036854775808=eZ.getD x.1.toNat 0 - eZ.getD y.1.toNat 0 by omega] at this;exact this
 ·rintro e w' ⟨rfl,n,os,rfl⟩;refine ⟨rfl,n,os, ?_⟩;show grow (putRow _ _ blk off _) os=_;rw[<-acj];rfl
def asv (L:SlLaysF.n6 P ap) (j:ap.f 6=f) (r:∀a w,(callFunc g a).run P w= .ok (.enter g a) w)
  (l:∀(x y bL b:Int) (lg cu kj dz n cap:Nat) (W:World),W.cell? ⟨lg,cu,ae⟩=J (.slice (J ⟨kj,dz,ae⟩) n cap)->0<=x->x<n->0<=y->y<n->W.cell? ⟨kj,dz+x.toNat*bM+o,ae⟩=J (.int .i64 bL)->W.cell? ⟨kj,dz+y.toNat*bM+o,ae⟩=J (.int .i64 b)->
   Calls P g #[.int .i64 x, .int .i64 y, .pointer (J ⟨lg,cu,ae⟩)] W λe t=>e= .returned (.int .i64 (Aw.wrap (bL - b)))/\∃q p,t=grow (W.drewN q) p)
  (h:o1 eZ xs=J b4) (k:w.cell? ⟨lg,cu,ae⟩=J (.slice (J ⟨kj,dz,ae⟩) eZ.length cap)) (d:∀(i:Nat) (b:Int),eZ[i]? =J b->w.cell? ⟨kj,dz+i*bM+o,ae⟩=J (.int .i64 b)) (s:lg≠blk) (m:kj≠blk) (u:0<xs.length):
  zE P f [.func (.func g) #[] #[.pointer (J ⟨lg,cu,ae⟩)]] xs.length (xs.map (mu .i64)) (b4.map (mu .i64)) w blk:=by
 subst j;unfold o1 at h;rw[if_neg (by intro e;simp_all)] at h;split at h
 ·rename_i c;cases h
  letI:Inhabited (pW eZ.length):=⟨⟨0,by omega⟩⟩
  have:=asu (zs:=xs.pmap Subtype.mk c.1) L r l c.2.1 k d s m (by grind) (by grind);simp_all [List.map_pmap]
 grind
end
section
variable {P:bI} {D:Nat->Type} {G:l6 D} {e ti:Nat}
def au1 (I:D e->Int) (aD:∀z x A,(G.T e).rd z x A->A=[.int .i64 (I x)]) (aV:∀z x,(G.T e).rd z x [.int .i64 (I x)]) (r:D ti->Int) (o:Nat) (hk:∀z x A,(G.T ti).rd z x A->A[o]? =J (.int .i64 (r x)))
  (qp:List Int->List (D e)->Option (List (D e))) (bf:∀{eZ B S},qp eZ B=J S->o1 eZ (B.map I)=J (S.map I)) {ap:Ren} (L:SlLaysF.n6 P ap) (f g:Nat) (bF:ap.f 6=f) (ok:lR P f=aa) (sW:∀t w,(callFunc g t).run P w= .ok (.enter g t) w)
  (kK:∀(x y bL b:Int) (lg cu V U n d:Nat) (W:World),W.cell? ⟨lg,cu,ae⟩=J (.slice (J ⟨V,U,ae⟩) n d)->0<=x->x<n->0<=y->y<n->W.cell? ⟨V,U+x.toNat*(G.T ti).bM+o,ae⟩=J (.int .i64 bL)->W.cell? ⟨V,U+y.toNat*(G.T ti).bM+o,ae⟩=J (.int .i64 b)->
   Calls P g #[.int .i64 x, .int .i64 y, .pointer (J ⟨lg,cu,ae⟩)] W λe w'=>e= .returned (.int .i64 (Aw.wrap (bL - b)))/\∃q pz,w'=grow (W.drewN q) pz):ns P G where
 f:=f
 e:=e
 u5:=ak
 acc:=λF=>match F with|[.fn A5 [(_,[.bh M _,_])]]=>fi A5 g&&fi M ti|_=>ak
 qp:=λF B=>match F with|[.fn _ [(_,[.bh M H,_])]]=>if h:M=ti then qp ((h▸H:List (D ti)).map r) B else ae|_=>ae
 run:=λz eV m k vs lW F B S v Q h bx dE cG=>by
  split at Q
  ·rename_i A5 t0 M H c;simp only[fx] at Q;have h1:=kA Q.1;have ai:=kA Q.2;subst h1 ai;simp only[dif_pos] at h;have C:=bf h;have N:S.length=B.length:=by have:=(abZ C).length_eq;simpa using this
   match lW,dE with
   |[axv],⟨s4,_⟩=>
   refine WA (λx=>[.int .i64 (I x)]) aD aV (λx=>rfl) ok N (λp d F w h=> ?_) (λbR b aw1 M VH jj j w kG q dV cY eL bn=> ?_) cG
   ·subst bF
    match F,h with
    |[v],_=>exact AnyF.slices_SortFunc_none (P:=P) (ρ:=ap) {L with} p d v w
   ·match kG,eL with
    |[jf],⟨anx,_⟩=>
    obtain ⟨gs,rfl,wk⟩:=s4
    match gs,wk with
    |[axx],⟨s5,_⟩=>
    obtain ⟨js,iw,A,rfl,X,oP⟩:=s5;obtain ⟨K,Y,rfl,Vw,Vx⟩:=anx;have bX:K=#[]:=by
     obtain ⟨l⟩:=K;cases l with
     |nil=>rfl
     |cons _ _=>exact Vw.elim
    subst bX;obtain ⟨Y⟩:=Y
    match Y,Vx with
    |[Z2],⟨anA,_⟩=>
    obtain ⟨ia,_,p6,rfl⟩:=anA
    match A,oP with
    |[d0,d1],⟨anF,_,_⟩=>
    have hh:0<(H.map r).length:=by
     unfold o1 at C;rw[if_neg (by
      intro e;have:(B.map I).length=0:=by rw[e];rfl
      simp at this;rw[this] at bR;simp at bR)] at C
     split at C
     ·rename_i u;exact u.2.2.2
     ·cases C
    have u3:m.load js (iw+0)=J d0:=KO bx (X 0 d0 rfl);obtain ⟨bz,c1,c2⟩:=cY.load js ia _ d0 p6 u3;rcases anF with ⟨_,rfl⟩|⟨jR,R,c3,rfl,ao',_,mb⟩
    ·simp at hh
    have qc:z js≠ .dead:=(w5 (X 0 _ rfl)).ne;obtain ⟨O,_,Bb,fZ⟩:=c2;have s:∃d,bz= .slice (J ⟨O.blk,O.db+R,ae⟩) (H.map r).length d:=by
     have Z:H.length=(H.map r).length:=by simp
     rcases fZ with ⟨_,u⟩|⟨_,_,_,_,_,_,u⟩|⟨_,hV,_⟩|⟨_,hV,_⟩|⟨_,_,_,_,_,_,_,_,_,u⟩
     ·exact ⟨_,by rw[u,Z]⟩
     ·exact ⟨_,by rw[u,Z]⟩
     ·omega
     ·omega
     ·exact ⟨_,by rw[u,Z]⟩
    obtain ⟨d,rfl⟩:=s;have aox:(m.blk b).iO=aa:=by rw[jj];rfl
    have kM:∀{x:Nat},(z x).iD->(m.blk x).live=aa:=λ{x} s=>by have:=(bx x s.ne).1;rw[s.mem] at this;rw[this];cases BA:z x<;>first|rfl|(rw[BA] at s;exact s.elim)
    have ne:∀{x:Nat} {E:kl},j x=J E->(z x).iD->E.blk≠q.blk:=λ{x E} bp s he=>by have:=cY.inj b x q E bn bp aox (kM s) he.symm;subst this;exact s.ne VH
    have Bu:=asv (w:=w) (lg:=ia.blk) (cu:=ia.db+(iw+0)) (kj:=O.blk) (dz:=O.db+R) (blk:=q.blk) L bF sW kK C c1 (λi nZ az=> ?_) (ne p6 (w5 (X 0 _ rfl))) (ne Bb ao') (by simpa using bR)
    ·rw[KC,KC];rw[ug] at Bu;exact Bu
    ·rw[sH] at az;obtain ⟨a,bl,rfl⟩:=vT.1 az;obtain ⟨cs,cL,c9⟩:=mb i a bl;obtain ⟨bz,fo,k4⟩:=cY.load jR O _ _ Bb (KO bx (c9 o _ (hk z a cs cL)));rw[B0 rfl k4] at fo;rw[<-fo];congr 2;omega
  ·cases Q
end
end
end Go.aF
end
