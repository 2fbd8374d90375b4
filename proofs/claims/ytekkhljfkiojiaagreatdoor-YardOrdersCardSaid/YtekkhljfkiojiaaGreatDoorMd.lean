/- A part of the proof of YardOrders; no condition of our own. -/
import Derived.Test.YtekkhljfkiojiaaGreatDoorMc
set_option linter.defProp false
set_option linter.unusedSimpArgs false
set_option linter.unusedVariables false
open Array renaming toList_map->ye
open Bool renaming and_eq_true->fx,noConfusion->Yy,not_eq_true'->Aq,or_eq_true->Ar,false->ak,true->aa
open Classical renaming choose->YA
open Go renaming Operand->bS,Program->bI,TypeId->bV,Value->af
open Go.Value renaming slice->pr
open Int renaming eq_ofNat_of_zero_le->sD,toNat_natCast->sG
open List renaming all_eq_true->iA,eq_nil_of_length_eq_zero->yl,eq_of_mem_replicate->ym,ext_getElem?->rv,flatMap_cons->II,getD_eq_getElem?_getD->YV,getElem?_append->AB,getElem?_append_left->kS,getElem?_append_right->kT,getElem?_cons_succ->qH,getElem?_eq_getElem->mm,getElem?_eq_some_iff->fq,getElem?_set->ll,length_append->sI,length_cons->ry,length_map->ug,length_replicate->IL,length_set->sJ,mem_append->kU,mem_cons->ha,mem_cons_of_mem->kn,mem_cons_self->oG,mem_map->l2,mem_of_getElem?->mM,range->mN,replicate->gb
open Nat renaming add_mul->ko,beq->fi,ble->iJ,blt->mn,eq_of_beq_eq_true->kA,le_of_ble_eq_true->pk,le_refl->e4,le_succ->mo,le_trans->jd,lt_of_lt_of_le->hS,zero_add->lH
open Option renaming map_eq_some_iff->vT,none->ae,some->J
namespace Go.aF
section
section
variable {P:bI}{D:Nat->Type}{X:e3 P D}{ap:Type}{z z':Nat->bW}{e m m':Mem}{k:Option Nat}{vs:List af}{fr:Nat->af}{E:List (Nat×bc D)}{O:List (ba D)}{o:Oper}{r:ap}
variable {x y:bS}{t u:bV}{K:bc D->List (ba D)->Option ap}
def K5{b:Option bS}{a:Int}(e:∀x,rel X.G z vs (dp E x) (bk fr x))(h:y6 E b=J a):y5 (bk fr) b a:=by
 cases b with
 |none=>cases h;rfl
 |some y=>
  simp only[y6] at h;split at h
  ·rename_i kk n d;cases h;have:=e y;rw[d] at this;exact⟨kk,this⟩
  grind
def KN{b:Option bS}{a:Int}{l:Nat}(e:∀x,rel X.G z vs (dp E x) (bk fr x))(h:zL E (l:Int) b=J a):zK (bk fr) b l a:=by
 cases b with
 |none=>cases h;rfl
 |some y=>
  simp only[zL] at h;split at h
  ·rename_i kk n d;cases h;have:=e y;rw[d] at this;exact⟨kk,this⟩
  grind
theorem arI{a:bc D}{y p:Option bS}(l:o.op=.slice t x y p ae)(n:b9 X.G O z e m k vs)(b:∀x,rel X.G z vs (dp E x) (bk fr x))(w:rel X.G z vs a (bk fr x))(h:X0 X t a E y p O K=J r):cH P (bk fr) o m λ_ v R=>dH X O z e k vs K r v R:=by
 unfold X0 at h;split at h
 ·split at h
  ·rename_i s U C j i g;obtain⟨q,f,h⟩:=bind_some h;exact avf l j w (K5 b i) (KN b g) f (dH.here (dR:=.c (.str q)) n rfl h)
  grind
 ·rename_i c L;split at h
  ·rename_i V xs Z H;obtain⟨dv,Q,S,B,F⟩:=zw n H w;split at h
   ·rename_i A d U C j iE i g;split at h
    ·rename_i N;subst N;obtain⟨q,f,h⟩:=bind_some h;refine apg (T:=X.G.T A) l (by rw[d.tid];grind) (by rw[d.tid];exact d.az) d.cN rfl (K5 b i) (KN b g) F B.aS f λY I _ M=>?_;exact dH.from Q S (dH.here (dR:=.c (.bh A q)) B M h)
    grind
   grind
  grind
 grind
def apJ{A:Type}{T:cM A}{d:List A}{v:af}{g f:Option bS}{a n:Nat}{i:TypeInfo}{e:bS->af}(h:o.op=.slice t x g f ae)(l:P.underlying t=J (.slice T.tid))(y:P.info? T.tid=J i)(K:i.size=T.bM)(p:e x=v)(w:qo e g a)(s:nJ e f d.length n)
  (C:fO T z m d v) (j:a<=n) (q:n<=d.length):∃r,(dD P e o r\/fH P e o m r)/\pO T.bM a n v r:=by
 rcases C with⟨rfl,rfl⟩|⟨b,k,L,c,rfl,E,M,N,O,F,Q⟩
 ·have H:n=0:=by grind
  subst H;obtain rfl:a=0:=by omega
  exact⟨.slice ae 0 0,.inl (.nc t x g f T.tid i h l y p w s),.inl ⟨rfl,rfl,rfl,rfl⟩⟩
 ·rcases F with rfl|⟨B,R,I⟩
  ·refine⟨_,.inr (.slice t x g f T.tid i L b k d.length a n h l y p E w s j q (by grind)),.inr ⟨b,k,d.length,dc,_,dc,rfl,rfl,j,q,.inl (by grind),.inl ⟨rfl,rfl⟩⟩⟩
  ·refine⟨_,.inl (.slice t x g f T.tid i b k d.length c a n h l y p (by grind) w s j (by omega) (λ_=>trivial)),.inr ⟨b,k,d.length,c,_,_,rfl,rfl,j,q,?_,.inr ⟨B,rfl⟩⟩⟩
   grind
def ari{a:bc D}{R N:Option bS}(aM:o.op=.slice t x R N ae)(d:b9 X.G O z e m k vs)(F:∀x,rel X.G z vs (dp E x) (bk fr x))(s:rel X.G z vs a (bk fr x))(h:XA X t x a E R N O K=J r):cH P (bk fr) o m λ_ v Y=>dH X O z e k vs K r v Y:=by
 unfold XA at h;split at h
 ·rename_i yT;have aD:bk fr x=.slice ae 0 0:=by
   unfold abE at yT;split at yT
   ·exact s
   grind
  split at h
  ·rename_i Q p q aJ V U;split at h
   ·rename_i g iE;split at h
    ·rename_i bR;simp only[fx,beq_iff_eq] at bR;obtain⟨rfl,rfl⟩:=bR;exact cH.pure (.nc t x R N Q g.i aM aJ g.az aD (K4 (n:=0) (K5 F V)) (KM (n:=0) (KN (l:=0) F U))) (dH.here (dR:=.c .gE) d rfl h)
    grind
   grind
  grind
 rename_i aok;split at h
 ·grind[arI]
 ·rename_i md aya;split at h
  ·rename_i i;have s:ed X.G z vs (.own i) (bk fr x):=s;split at h
   ·rename_i Q L w f hO hu;split at h
    ·rename_i g p q aoT V U;by_cases eB:f=Q
     case neg=>grind
     rw[if_pos eB] at h;subst eB;obtain⟨G0,aV,h⟩:=bind_some h;obtain⟨rI,c1,c2,rfl⟩:=Ws aV;obtain⟨p,rfl⟩:=sD rI;obtain⟨q,rfl⟩:=sD (Int.le_trans rI c1);simp only[sG] at h;have C:dU (X.G.T f) z e m k L (bk fr x):=d.obj i _ _ hO s.1;obtain⟨A,H,B⟩:=apJ (T:=X.G.T f) aM (by rw[g.tid];omega) (by rw[g.tid];exact g.az) g.cN rfl (K4 (K5 F V)) (KM (KN F U)) C.bT (by omega) (by omega);have hk:dH X O z e k vs K r A m:=by
      by_cases Z:fi md 0=aa
      ·rw[if_pos Z] at h;exact dH.here (dR:=.cut i f p q) d ⟨_,s,B⟩ h
      ·rw[if_neg Z] at h;have bT:dU (X.G.T f) z e m k ((L.take q).drop p) A:=⟨B.VY C.bT,λb aw=>C.fresh b (by
        have n2:dQ (bk fr x)=da (bk fr x):=hi (by obtain⟨a,c,S⟩:=C.bT.len;grind);have kI:dQ A=da A:=hi (by obtain⟨a,c,S⟩:=(B.VY C.bT).len;grind);rw[<-n2,<-B.blk,kI];grind)⟩
       have UW:dQ A=dQ (bk fr x):=B.blk;have fP:=λj qj w hq y M hw=>d.fD j i qj _ w _ hq y hO M rfl hw s.1;exact⟨z,vs++[A],.c (.own O.length),O.set i .dead++[.bh f ((L.take q).drop p) ak ak],(Inv.set O i (.inl rfl)).trans (Inv.push _ _),dT.refl z,j0,
        (d.kill i).push (q:=dQ (bk fr x)) (o':=.bh f ((L.take q).drop p) ak ak) ⟨e4 _,d.aS.dead,λ_ _ _=>rfl⟩ d.aS (λj p w y hw M=>by
         rw[ll] at y;split at y
         ·split at y
          ·cases y;cases M
          grind
         grind) bT (λp bb US=>by grind),oi d (by obtain⟨a,c,S⟩:=bT.bT.len;exact⟨a,c,S⟩),h⟩
     rcases H with H|H
     ·exact cH.abT (D:=λ_ v Y=>dH X O z e k vs K r v Y) (I:=λ_=>True) H hk
     grind[cH.read]
    grind
   grind
  grind
def arj{y f:bS}(R:o.op=.slice t x ae (J y) (J f))(aN:b9 X.G O z e m k vs)(I:∀x,rel X.G z vs (dp E x) (bk fr x))(h:XB X t (dp E x) (dp E y) (dp E f) O K=J r):cH P (bk fr) o m λ_ v m'=>dH X O z e k vs K r v m':=by
 unfold XB at h;have Y:∀{Q:Type}{p:Prop}[Decidable p]{x:Option Q}{r:Q},(if p then x else ae)=J r->p/\x=J r:=by
  grind
 split at h
 ·rename_i w M p L q N bb bm;have j:=I y;rw[bb] at j;have j:bk fr y=.int M p:=j;have l:=I f;rw[bm] at l;have l:bk fr f=.int L q:=l;have U:=I x;split at h
  ·rename_i c an;rw[an] at U;split at h
   ·rename_i e2 g cu bF;split at h
    ·rename_i A iE;obtain⟨he,h⟩:=Y h;subst he;obtain⟨G0,S,h⟩:=bind_some h;unfold LJ at S;obtain⟨C,JV⟩:=Y S;obtain⟨bR,h1,ai,Vu⟩:=C;subst Vu;cases JV;obtain⟨V,g0,g1,g2,g3⟩:=zw aN bF U;obtain⟨n,rfl⟩:=sD bR;have bB:n<=g.length:=by omega
     have F:n<dc:=by grind[dc]
     have key:∃v,dD P (bk fr) o v/\rel X.G V vs (.full w (g.take n)) v:=by
      rcases(g3:fA (X.G.T w) V g (bk fr x)) with⟨B,rfl⟩|⟨b,d,s,B,H,ayx,ayy⟩
      ·have wq:n=0:=by grind
       subst wq;exact⟨_,.P4 t x f (J y) w A.i L R N A.az B ⟨y,M,rfl,j⟩ l,.inl ⟨rfl,by rfl⟩,by grind,ae,by rfl⟩
      ·have fZ:(s<dc/\n<=s)\/(s=dc/\n<=g.length):=by
        grind
       have Z:(g.take n).length=n:=by grind
       refine⟨_,.slice3 t x f (J y) w A.i b d g.length s n n L R N A.az B fZ ⟨y,M,rfl,j⟩ l (e4 _),?_⟩;refine⟨.inr ⟨b,d,n,by grind,H,.inr ⟨F,by grind⟩,λi a az=>?_⟩,by grind,J ⟨b,d,ae⟩,by grind⟩
       grind
     grind[cH.pure,dH.from,dH.here]
    grind
   grind
  grind
 grind
def arA{a:bc D}{v:af}{t:Nat}{b:List (D t)}(i:b9 X.G O z e m k vs)(h:qn O a=J ⟨t,b⟩)(d:rel X.G z vs a v):fA (X.G.T t) z b v\/dU (X.G.T t) z e m k b v:=by
 unfold qn at h;split at h
 ·cases h;exact .inl d
 ·split at h
  ·rename_i n j bZ l g;cases h;have f:=i.obj _ _ v g d.1;cases bZ with
   |true=>exact .inl f
   |false=>exact .inr f
  grind
 grind
def arh{a:bc D}(j:o.op=.convert u t x)(d:b9 X.G O z e m k vs)(n:rel X.G z vs a (bk fr x))(h:Xz X u t a O K=J r):cH P (bk fr) o m λ_ v y=>dH X O z e k vs K r v y:=by
 unfold Xz at h;split at h
 ·rename_i R Q g f;split at h
  ·exact j1 d h (avt j g f n) rfl
  grind
 ·rename_i F g f;split at h
  ·rename_i s b I;obtain⟨U,i,h⟩:=bind_some h;refine atB j g f b.hu b.az b.kL n i d.aS ?_;intro w y E l B T;have L:=b.aw _ _ _ _ _ _ l;have M:dQ w=da w:=hi (by obtain⟨a,c,rfl⟩:=l.bT.len;grind);refine⟨z,vs++[w],.c (.own O.length),_,Inv.push O _,dT.refl z,j0,d.push (q:=ae) B E (λ_ _ _ _ _ _=>e6.qg) ?_ (λp N _=>by grind),?_,h⟩
   ·exact L
   ·refine⟨?_,?_⟩
    ·rw[<-d.len];simp
    ·obtain⟨a,c,rfl⟩:=l.bT.len;exact⟨rfl,rfl⟩
  grind
 ·rename_i F g f;split at h
  ·rename_i S A b C I;split at h
   ·rename_i H;subst H;rcases arA d C n with i|i
    ·exact avj j g b.hu f rfl (b.aV _ _ _ i) d.aS (dH.here (dR:=.c (.str (b.to A))) d rfl h)
    ·exact avi j g b.hu f rfl (b.aM _ _ _ _ _ _ i) (dH.here (dR:=.c (.str (b.to A))) d rfl h)
   grind
  grind
 grind
def arN{a:bc D}{ts:Array bV}(j:o.op=.call {callee:=.builtin .len,args:=#[x],argTypes:=#[t]})(d:b9 X.G O z e m k vs)(n:rel X.G z vs a (bk fr x))(h:XR (P:=P) t a O K=J r):cH P (bk fr) o m λ_ v T=>dH X O z e k vs K r v T:=by
 unfold XR at h;split at h
 ·rename_i s f;exact j1 d h (auM j rfl f n) rfl
 ·rename_i Q f;have q:bk fr x=.slice ae 0 0:=n;exact j1 d h (Lz (xs:=([]:List Int)) j f rfl ⟨ae,0,q⟩) rfl
 ·rename_i Q F f;split at h
  ·rename_i B g A;exact j1 d h (Lz j f rfl (aqK d A n)) rfl
  ·split at h
   ·split at h
    ·rename_i B t1 up N C w y;obtain⟨hu,ws,p⟩:=d.obj _ _ _ y n.1;exact j1 d h (Lz (xs:=N) j f rfl (by obtain⟨a,c,M⟩:=p.bT.bT.len;exact⟨a,c,by rw[M,p.len]⟩)) rfl
    grind
   ·split at h
    ·rename_i i B L H V I e2 g dX y;split at h
     ·rename_i R;subst R;obtain⟨w,S,E⟩:=n;have p:dU _ z e m k g w:=d.obj _ _ _ y S.1;obtain⟨ec,c1,A⟩:=p.bT.len;refine j1 d h (Lz (xs:=(g.take H).drop L) j f rfl ?_) rfl;rcases E with⟨_,q,rfl,rfl⟩|⟨b,f0,l,c,U,c3,bR,q,h1,Z,Y,br⟩
      ·grind
      grind
     grind
    grind
   grind
 grind
def ac1{I:Type}{T:cM I}{Q:Tag->af->Mem->Prop}{d f:List I}{w:af}{a:Option Addr}{g:bS->af}{i:TypeInfo}(h:o.op=.call {callee:=.builtin .append,args:=#[x,y],argTypes:=#[t,u]})(X:P.underlying t=J (.slice T.tid))(az:P.info? T.tid=J i){A:af}(hL:i.zero=J A)(dw:A.cells.toList.all dy=aa)(et:A.cells.size=i.size)
  (cN:i.size=T.bM) (hh:(T.bM==0)=ak) (O:iJ i.bytes 32768=aa) (hu:(∃cz,P.underlying u=J (.slice cz))\/P.underlying u=J .string) (Z:g x=.slice a d.length d.length) (bf:Src T z m d (.slice a d.length d.length)) (aZ:g y=w) (mW:Src T z m f w) (gT:f.isEmpty=ak)
  (R:dL z e m k) {r:List I} (Y:cD d f=J r)
  (F:∀N H,dL z e H k->dU T z e H k r N->gl m H ae->(∀p,(∀b,p=J b->b<m.next)->e6 p (da N))->Q .fX N H):cH P g o m Q:=by
 obtain⟨V,rfl⟩:=tv Y;simp only[uf] at V;have O:=pk O;have bb:0<T.bM:=by grind
 obtain⟨S,B,mb,kK,e0⟩:=mW;obtain⟨Vj,j,hex,nF,M⟩:=bf;have K:ja (g y)=f.length:=by grind
 have Bz:0<f.length:=by grind
 have U:(d.length+f.length)*i.bytes<=4294967296*32768:=Nat.mul_le_mul V O;have qS:z m.next=.dead:=by
  have s:=R.bZ;cases wC:z m.next with
  |dead=>rfl
  |ro rd=>have:=(s m.next (by grind)).2;omega
  |own L t=>have:=(s m.next (by grind)).2;omega
  |map L t=>have:=(s m.next (by grind)).2;omega
  |lock _ _ _ _=>have:=(s m.next (by grind)).2;omega
 have bp:hR P (jn P 0) g o m (.slice (J ⟨m.next,0,ae⟩) (d.length+ja (g y)) dc) (m.push (.own (j++B) T.tid)):=
  .sP x y t u T.tid i A a d.length d.length (ja (g y)) j B h X az hL dw et (by grind) Z (by grind) (by grind) (by grind) (.el hu rfl (by grind)) (by grind) (by grind) (by grind)
 rw[K] at bp;have uX:fO T z (m.push (.own (j++B) T.tid)) (d++f) (.slice (J ⟨m.next,0,ae⟩) (d.length+f.length) dc):=by
  refine fO.AW ⟨m.next,j++B,dc,by simp,by simp[Mem.push],by simp[Mem.push],qS,by grind[ko],.inl rfl,λn q l=>?_⟩;rw[AB] at l;split at l
  ·obtain⟨c,C,E⟩:=M n q l;refine⟨c,C,λk q F=>?_⟩;have:=E k q F
   grind
  ·rename_i hA;obtain⟨c,C,E⟩:=e0 _ q l;refine⟨c,C,λk q F=>?_⟩;have:=E k q F;have h1:n*T.bM=j.length+(n-d.length)*T.bM:=by
    rw[nF,<-ko];grind
   grind
 obtain⟨C,E,g3,g4⟩:=Jz (k:=k) R uX rfl
 grind[cH.fX]
def aqU{d:Nat}{l:TypeDesc}{b:bc D}{i:List (D d)}(h:b9 X.G O z e m k vs)(j:P.underlying u=J l)(g:rel X.G z vs b (bk fr y))(a:Xp X d l b O=J i):
  Src (X.G.T d) z m i (bk fr y)/\((∃q,P.underlying u=J (.slice q))\/P.underlying u=J .string):=by
 unfold Xp at a;split at a
 ·refine⟨?_,.inl ⟨_,j⟩⟩;split at a
  ·cases a;have f:bk fr y=.slice ae 0 0:=g;rw[f];exact(fA.nil (T:=X.G.T d)).src h.aS.bZ
  ·split at a
   ·rename_i w p n;split at a
    ·rename_i r;subst r;cases a;exact acy h n g
    grind
   grind
 ·refine⟨?_,.inr j⟩;split at a
  ·rename_i s t _;cases a;have f:bk fr y=aF.str s:=g;rw[f];exact t.bf _ _ _ _ (asP s)
  grind
 grind
theorem arG{a b:bc D}(S:o.op=.call {callee:=.builtin .append,args:=#[x,y],argTypes:=#[t,u]})(f:b9 X.G O z e m k vs)(M:rel X.G z vs a (bk fr x))(aw:rel X.G z vs b (bk fr y))(h:Ly X t u a b O K=J r):cH P (bk fr) o m λ_ v Q=>dH X O z e k vs K r v Q:=by
 unfold Ly at h;split at h
 ·rename_i H awn aJ hu;split at h
  ·grind
  ·rename_i d iE;split at h
   ·grind
   ·rename_i b4 qW;have I:=aqU (u:=u) f hu aw qW;have mW:Src (X.G.T H) z m b4 (bk fr y):=I.1;have oc:P.underlying t=J (.slice (X.G.T H).tid):=by rw[d.tid];grind
    have Z:P.info? (X.G.T H).tid=J d.i:=by rw[d.tid];exact d.az
    split at h
    ·obtain⟨q,B,h⟩:=bind_some h;have aD:bk fr x=.slice ae 0 0:=M;refine K3 (T:=X.G.T H) (z:=z) S oc Z d.bx d.dw d.et d.cN d.hh d.hp I.2 aD dU.nil rfl mW f.aS B λl Q C g E Y=>?_;have kI:dQ l=da l:=hi (by obtain⟨a,c,rfl⟩:=g.bT.len;grind);exact pA (v:=l) f C E (λp U=>by rw[kI];exact Y p U e6.qg) h g (oi f g.bT.len)
    ·rename_i s R;by_cases F:s=H
     case neg=>grind
     rw[dif_pos F] at h;subst F;by_cases gT:b4.isEmpty=aa
     case pos=>grind
     rw[if_neg gT] at h;obtain⟨q,B,h⟩:=bind_some h;obtain⟨f1,f2,a0,f3⟩:=M;refine ac1 (T:=X.G.T s) (z:=z) S oc Z d.bx d.dw d.et d.cN d.hh d.hp I.2 f3 (by rw[<-f3];exact fA.src f1 f.aS.bZ) rfl mW (by grind) f.aS B λl Q C g E Y=>?_;have kI:dQ l=da l:=hi (by obtain⟨a,c,rfl⟩:=g.bT.len;grind);exact pA (v:=l) f C E (λp U=>by grind) h g (oi f g.bT.len)
    ·rename_i i;split at h
     ·rename_i s R dX N;split at h
      ·rename_i F;subst F;obtain⟨q,B,h⟩:=bind_some h;have V:dU (X.G.T s) z e m k R (bk fr x):=f.obj i _ _ N M.1;refine K3 (T:=X.G.T s) S oc Z d.bx d.dw d.et d.cN d.hh d.hp I.2 rfl V rfl mW f.aS B λl Q C g E Y=>?_;have kI:dQ l=da l:=hi (by obtain⟨a,c,rfl⟩:=g.bT.len;grind);have n2:dQ (bk fr x)=da (bk fr x):=hi (by obtain⟨a,c,cp⟩:=V.bT.len;grind);have jg:=f.kill i;have hlen:(O.set i .dead).length=O.length:=sJ;refine⟨z,vs++[l],.c (.own O.length),O.set i .dead++[.bh s q ak ak],(Inv.set O i (.inl rfl)).trans (Inv.push _ _),dT.refl z,j0,jg.push (o':=.bh s q ak ak) E C (λj p w A hw L=>?_) g (λp U US=>by grind),?_,h⟩
       ·rw[ll] at A;split at A
        ·split at A
         ·cases A;cases L
         grind
        ·rename_i hq;rw[<-n2];exact f.fD j i p _ w _ (λe=>hq e.symm) A N L rfl hw M.1
       ·exact oi f g.bT.len
      grind
     grind
    ·rename_i i bX cf n;by_cases eW:fi cf 0=aa
     case neg=>grind
     rw[if_pos eW] at h;obtain rfl:=kA eW;by_cases wh:bX=H
     case neg=>grind
     rw[if_pos wh] at h;subst wh;split at h
     ·rename_i s R dX N;split at h
      ·rename_i F;subst F;obtain⟨q,B,h⟩:=bind_some h;obtain⟨zU,J2,iF⟩:=M;have Vo:dU (X.G.T s) z e m k R zU:=f.obj i _ _ N J2.1;have anp:dQ zU=da zU:=hi (by obtain⟨a,c,cp⟩:=Vo.bT.len;grind);have uX:=iF.bT Vo.bT;have n2:dQ (bk fr x)=da (bk fr x):=hi (by obtain⟨a,c,cp⟩:=uX.len;grind);have V:dU (X.G.T s) z e m k (R.take n) (bk fr x):=⟨uX,λb aw=>Vo.fresh b (by rw[<-anp,<-iF.blk,n2];grind)⟩
       refine K3 (T:=X.G.T s) S oc Z d.bx d.dw d.et d.cN d.hh d.hp I.2 rfl V rfl mW f.aS B λl Q C g E Y=>?_;have kI:dQ l=da l:=hi (by obtain⟨a,c,rfl⟩:=g.bT.len;grind);have jg:=f.kill i;refine⟨z,vs++[l],.c (.own O.length),O.set i .dead++[.bh s q ak ak],(Inv.set O i (.inl rfl)).trans (Inv.push _ _),dT.refl z,j0,jg.push (o':=.bh s q ak ak) E C (λj p w A hw L=>?_) g (λp U US=>by grind),?_,h⟩
       ·rw[ll] at A;split at A
        ·split at A
         ·cases A;cases L
         grind
        ·rename_i hq;rw[<-n2,iF.blk];exact f.fD j i p _ w _ (λe=>hq e.symm) A N L rfl hw J2.1
       ·exact oi f g.bT.len
      grind
     grind
    grind
 grind
theorem are{a b:bc D}(A:o.op=.call {callee:=.builtin .append,args:=#[x,y],argTypes:=#[t,u]})(f:b9 X.G O z e m k vs)(Z:rel X.G z vs a (bk fr x))(V:rel X.G z vs b (bk fr y))(h:Xy X t u a b O K=J r):cH P (bk fr) o m λ_ v N=>dH X O z e k vs K r v N:=by
 unfold Xy at h;split at h
 ·rename_i ht Y aJ M;split at h
  ·rename_i d C w g B iE U;by_cases j:C=ht
   case neg=>grind
   rw[dif_pos j] at h;subst j;by_cases j:g=C
   case neg=>grind
   rw[dif_pos j] at h;subst j;obtain⟨q,E,h⟩:=bind_some h;have Q:=acy f U V;have R:P.underlying t=J (.slice (X.G.T g).tid):=by rw[d.tid];grind
   have H:P.info? (X.G.T g).tid=J d.i:=by rw[d.tid];exact d.az
   obtain⟨F,f2,S,s⟩:=Z;by_cases I:B.isEmpty=aa
   ·rw[if_pos I] at h;obtain rfl:B=[]:=by grind
    obtain⟨nD,rfl⟩:=tv E;obtain⟨L,cs,mb,kK,_⟩:=Q;obtain rfl:cs=[]:=yl (by grind);have bp:hR P (jn P 0) (bk fr) o m (bk fr x) m:=.vZ x y t u _ d.i S w.length w.length A R H s (by omega) (e4 _) (.el (.inl ⟨_,M⟩) (by grind) (by rw[d.cN];grind));exact cH.fX bp (dH.here (X:=X) f (dR:=.c (.bh g (w++[]))) (by rw[List.append_nil];exact F) h)
   ·rw[if_neg I] at h;refine ac1 (T:=X.G.T g) (z:=z) A R H d.bx d.dw d.et d.cN d.hh d.hp (.inl ⟨_,M⟩) s (by rw[<-s];exact fA.src F f.aS.bZ) rfl Q (by grind) f.aS E λn N fc l gI fP=>?_;have kI:dQ n=da n:=hi (by obtain⟨a,c,rfl⟩:=l.bT.len;grind);exact pA (v:=n) f fc gI (λp bb=>by grind) h l (oi f l.bT.len)
  grind
 grind
def arO{d b:Nat}(j:o.op=.makeMap t ae)(i:P.underlying t=J (.map d b))(a:b9 X.G O z e m k vs)(h:K (.c (.own O.length)) (O++[.map t d b [] ak ak])=J r):cH P (bk fr) o m λ_ v g=>dH X O z e k vs K r v g:=by
 refine ar1 (X.G.M t d b) j i rfl a.aS λw g n f p l=>?_;obtain⟨q,rfl,s⟩:=f.bT;exact pA (v:=.map (J q)) a n p l h f ⟨Cb a _,rfl,rfl⟩
def arl{u g f:Nat}{A:List (D g×D f)}{a:D g}{b:IP P X.G g f}{B:Bool}{c:bc D}(n:o.op=.lookup t x y B)(l:P.underlying t=J (.map g f))(p:P.underlying u=J (.map g f))(j:b9 X.G O z e m k vs)
  (i:nn (X.G.M u g f) z A (bk fr x)\/jD (X.G.M u g f) z e m k A (bk fr x)) (E:rel X.G z vs c (bk fr y)) (F:b.qY c=J a)
  (h:(aF.lt (@jv _ _ b.dec A a) λy=>if B=aa then K (.sq [.inl (b.pG (y.getD b.z0)),.inl (.bool y.isSome)]) O else K (.c (b.pG (y.getD b.z0))) O)=J r):cH P (bk fr) o m λ_ v H=>dH X O z e k vs K r v H:=by
 letI I:=b.dec
 obtain⟨w,q,h⟩:=adC h;have s:=b.wo z vs c a _ F E;have C:=b.th z vs (w.getD b.z0);cases B with
 |true=>
  rw[if_pos rfl] at h;have d:rel X.G z vs (.sq [.inl (b.pG (w.getD b.z0)),.inl (.bool w.isSome)]) (.tuple #[ey (ek P f) (X.G.eo f (w.getD b.z0)),.bool w.isSome]):=⟨[_,_],rfl,C,rfl,trivial⟩
  rcases i with i|i
  ·exact aeC (M:=X.G.M u g f) (a:=a) (z0:=b.z0) n l p b.K b.V b.az b.bx rfl i j.aS rfl s q (if_pos rfl) (dH.here j d h)
  ·exact aeB (M:=X.G.M u g f) (a:=a) (z0:=b.z0) n l p b.K b.V b.az b.bx rfl i rfl s q (if_pos rfl) (dH.here j d h)
 |false=>
  rw[if_neg (by simp)] at h;have d:rel X.G z vs (.c (b.pG (w.getD b.z0))) (ey (ek P f) (X.G.eo f (w.getD b.z0))):=C;rcases i with i|i
  ·exact aeC (M:=X.G.M u g f) (a:=a) (z0:=b.z0) n l p b.K b.V b.az b.bx rfl i j.aS rfl s q (if_neg (by simp)) (dH.here j d h)
  ·exact aeB (M:=X.G.M u g f) (a:=a) (z0:=b.z0) n l p b.K b.V b.az b.bx rfl i rfl s q (if_neg (by simp)) (dH.here j d h)
def adk{u g f i:Nat}{n:List (D g×D f)}{a:D g}{b:D f}{j:IP P X.G g f}{c:bc D}{d:cv D}{w:bS}(H:o.op=.mapUpdate t x y w\/o.op=.insert t x y w)(F:P.underlying t=J (.map g f))(T:P.underlying u=J (.map g f))(l:b9 X.G O z e m k vs)
  {Q:Bool} (A:O[i]?=J (.map u g f n ak Q)) (p:vs[i]?=J (bk fr x)) (I:rel X.G z vs c (bk fr y)) (U:ed X.G z vs d (bk fr w)) (S:j.qY c=J a) (E:j.tN d=J b)
  (h:(aF.lt (@o8 _ _ j.dec n a b) λC=>K .undef (O.set i (.map u g f C ak aa)))=J r):cH P (bk fr) o m λ_ v B=>dH X O z e k vs K r v B:=by
 letI Z:=j.dec
 obtain⟨C,Y,h⟩:=adC h;have s:jD (X.G.M u g f) z e m k n (bk fr x):=l.obj i _ _ A p;refine as7 (M:=X.G.M u g f) (a:=a) (b:=b) H F T j.K j.V rfl s rfl (j.wo z vs c a _ S I) rfl (j.y0 z vs d b _ E U) l.aS Y λB R L gI=>?_;have kI:dQ (bk fr x)=tH (bk fr x):=by obtain⟨q,N,_⟩:=s.bT;rw[N];rfl
 exact BW l h A p rfl rfl (by grind) R L
def KJ{s:bc D}{g:af}{c:Nat×List (cv D)}{q:List (ba D)}(a:b9 X.G O z e m k vs)(B:rel X.G z vs s g)(h:vp O s=J (c,q)):∃x,Inv O q/\dT e.next z x/\b9 X.G q x e m k vs/\lU X.G x vs c.2 0 g:=by
 cases s with
 |hd t E w=>
  simp only[vp] at h;split at h
  ·rename_i n;subst n;cases h;exact⟨z,Inv.refl _,dT.refl z,a,B⟩
  ·cases h
 |box i w=>
  simp only[vp] at h;obtain⟨b,A,I⟩:=B;split at h
  ·rename_i t E bZ L f;split at h
   ·rename_i n;subst n;cases h;have C:=a.obj i _ _ f A;rw[I];cases bZ with
    |true=>
     obtain⟨Q,d,r,H,l⟩:=C;cases r;have:O.set i (.box t E aa L)=O:=by
      apply rv;intro j;rw[ll];split
      ·rename_i P;subst P;rw[f,if_pos (fq.1 f).1]
      ·rfl
     rw[this];exact⟨z,Inv.refl _,dT.refl z,a,b,0,d,rfl,H,l⟩
    |false=>obtain⟨Q,d,r,S,N,l⟩:=C;cases r;obtain⟨M,p,K,F,R⟩:=S.freeze N a.aS;have y:=pb.mono l p.le λ_ _ h=>h;exact⟨M,Inv.set O i (.inl rfl),p,a.jT f A rfl rfl p.le K R ⟨b,d,rfl,F,y⟩,b,0,d,rfl,F,y⟩
   ·cases h
  ·cases h
 |_=>cases h
def aro{s:bc D}{r:ap}{v:af}{b:Mem}(h:dH X O z e k vs (V2 s K) r v b):dH X O z e k vs K r v b:=by
 unfold V2 at h;split at h
 ·obtain⟨B,w,A,y,t,f,d,i,j,a⟩:=h;dsimp only at a;split at a
  ·rename_i c l g;obtain⟨x,m,n,p,q⟩:=KJ i j g;exact⟨x,w,.hd c.1 c.2 0,l,t.trans m,f.trans n,d,p,q,a⟩
  ·cases a
 ·exact h
def acT:∀{l:List (bc D)}{f:List af}{a:List (Nat×List (cv D))}{O b:List (ba D)}{z:Nat->bW},b9 X.G O z e m k vs->bP (rel X.G z vs) l f->Ch l O=J (a,b)->∃i,Inv O b/\dT e.next z i/\b9 X.G b i e m k vs/\bP (λc g=>lU X.G i vs c.2 0 g) a f
 |[],[],a,O,b,z,d,_,h=>by cases h;exact⟨z,Inv.refl _,dT.refl z,d,trivial⟩
 |s::l,g::f,a,O,b,z,d,⟨C,q⟩,h=>by
  unfold Ch at h;split at h
  ·rename_i c H t;split at h
   ·rename_i r K p;cases h;obtain⟨I,E,j,w,x⟩:=KJ d C t;obtain⟨F,y,n,A,B⟩:=acT w (bP.mono (λ_ _ h=>rel.mono h j.le λ_ _ h=>h) q) p;exact⟨F,E.trans y,j.trans n,A,lU.mono x n.le λ_ _ h=>h,B⟩
   grind
  grind
 |[],_::_,_,_,_,_,_,h,_=>h.elim
 |_::_,[],_,_,_,_,_,h,_=>h.elim
theorem w3{a:List bS}(d:∀x,rel X.G z vs (dp E x) (bk fr x)):bP (rel X.G z vs) (a.map (dp E)) (a.map (bk fr)):=by
 induction a with
 |nil=>trivial
 |cons x a b=>exact⟨d x,b⟩
def ass{s:bc D}{i:Nat}{v:af}(g:b9 X.G O z e m k vs)(h:T9 O s=J i)(a:rel X.G z vs s v):sQ vs i v:=by
 unfold T9 at h;split at h
 ·split at h
  ·split at h
   ·rename_i f;cases h;subst f;obtain⟨b,j,d⟩:=a;exact⟨by grind,b,d⟩
   grind
  grind
 grind
def ac9(d:b9 X.G O z e m k vs):∀{l:List (bc D)}{b:List af}{a:List Nat},Cv O l=J a->bP (rel X.G z vs) l b->bP (sQ vs) a b
 |[],[],a,h,_=>by cases h;trivial
 |s::l,g::b,a,h,⟨p,f⟩=>by
  unfold Cv at h;split at h
  ·rename_i i q j n;cases h;exact⟨ass d j p,ac9 d n f⟩
  grind
 |[],_::_,_,_,h=>h.elim
 |_::_,[],_,_,h=>h.elim
def arK{f:FuncId}{first a:Array bS}{i:List Nat}(j:o.op=.makeFunc (.func f) first a)(t:first.toList=[])(d:b9 X.G O z e m k vs)(n:∀x,rel X.G z vs (dp E x) (bk fr x))(l:Cv O (a.toList.map (dp E))=J i)(h:K (.c (.fn f i)) O=J r):
  cH P (bk fr) o m λ_ v q=>dH X O z e k vs K r v q:=by
 have g:=ac9 d l (w3 n);have s:first=#[]:=by grind
 subst s;have p:(a.map (bk fr)).toList.all storable=aa:=by
  rw[iA];intro v b;rw[ye] at b;have:=iA.1 (WR g) v b;unfold xr at this;split at this
  ·rfl
  grind
 exact j1 d h (aeG j rfl p) ⟨a.toList.map (bk fr),by congr 1;grind,g⟩
def asC{f:FuncId}{first cap:Array bS}{caps:List (Nat×List (cv D))}{cr:List (ba D)}(aM:o.op=.makeFunc (.func f) first cap)(bF:first.toList=[])(aN:b9 X.G O z e m k vs)(bp:∀x,rel X.G z vs (dp E x) (bk fr x))(ay:Ch (cap.toList.map (dp E)) O=J (caps,cr))(h:K (.fn f caps) cr=J r):
  cH P (bk fr) o m λ_ v m'=>dH X O z e k vs K r v m':=by
 obtain⟨dv,g0,g1,g2,g3⟩:=acT aN (w3 bp) ay;have wi:first=#[]:=by grind
 subst wi;have fb:(cap.map (bk fr)).toList.all storable=aa:=by
  rw[iA];intro v aD;rw[ye] at aD;have:∀(cs:List (Nat×List (cv D)))(gs:List af),bP (λc g=>lU X.G dv vs c.2 0 g) cs gs->∀v∈gs,storable v=aa:=by
   intro cs;induction cs with
   |nil=>intro gs bs v aD;cases gs with
    |nil=>grind
    |cons _ _=>exact bs.elim
   |cons c cs a1=>intro gs bs v aD;cases gs with
    |nil=>grind
    |cons g gs=>
     rcases ha.1 aD with rfl|aD
     ·obtain⟨b,iw,ds,he,_⟩:=bs.1;rw[he];rfl
     ·exact a1 gs bs.2 v aD
  grind
 refine cH.pure (aeG aM rfl fb) (dH.from g0 g1 (dH.here (dR:=.fn f caps) g2 ⟨cap.toList.map (bk fr),?_,g3⟩ h));congr 1
 grind
end
end
section
section
variable {P:bI}{D:Nat->Type}{X:e3 P D}{ap:Type}{z z':Nat->bW}{e m m':Mem}{k:Option Nat}{vs:List af}{fr:Nat->af}{E:List (Nat×bc D)}{O:List (ba D)}{o:Oper}{r:ap}
variable {x y:bS}{t u:bV}{K:bc D->List (ba D)->Option ap}
theorem arP{l:Nat}{M:Array (Nat×bS)}(F:o.op=.buildSlice t l M)(i:b9 X.G O z e m k vs)(V:∀x,rel X.G z vs (dp E x) (bk fr x))(h:XS X t l M.toList E O K=J r):cH P (bk fr) o m λ_ v B=>dH X O z e k vs K r v B:=by
 unfold XS at h;split at h
 ·rename_i I C;split at h
  ·rename_i t1 hu;split at h
   ·rename_i b oM;split at h
    ·rename_i n;refine Xn (T:=rD I) F C b.az b.bx rfl (by rw[b.h1];rfl) (by rw[b.h1];rfl) [] [] rfl rfl rfl (by rw[n];trivial) i.aS λg B s d A Y=>?_;have Q:dQ g=da g:=hi (by obtain⟨a,c,rfl⟩:=d.bT.len;grind);exact pA (v:=g) i s A (by grind) h ⟨λf q=>by cases q;exact⟨b.cN,b.tid,b.aV⟩,_,d,rfl,λj w N Z g2 _=>by grind,λp S=>by grind⟩ (oi i d.bT.len)
    ·rename_i y n;split at h
     ·rename_i j U;split at h
      ·rename_i t2 N w hO;split at h
       ·rename_i ai;have H:=V y;rw[U] at H;obtain⟨aD,L,R⟩:=H;refine Xn (T:=rD I) F C b.az b.bx rfl (by rw[b.h1];rfl) (by rw[b.h1];rfl) [bk fr y] [[bk fr y]] rfl rfl rfl (by rw[n];exact⟨rfl,L,by grind,⟨rfl,L,R⟩,trivial⟩) i.aS λg B s d A Y=>?_;have Q:dQ g=da g:=hi (by obtain⟨a,c,rfl⟩:=d.bT.len;grind);refine pA (v:=g) i s A (by grind) h ⟨λf q=>by cases q;exact⟨b.cN,b.tid,b.aV⟩,_,d,rfl,λj w N Z g2 g3=>?_,λp S=>?_⟩ (oi i d.bT.len)
        ·grind
        grind
       grind
      grind
     grind
    grind
   grind
  grind
 grind
def b9.afJ(h:b9 X.G O z e m k vs)(bx:fl z z')(aS:dL z' e m k)(bg:∀b,z b=.dead->z' b=.dead)(hk:∀(j:Nat)(q:ba D)(w:af),O[j]?=J q->vs[j]?=J w->q.live=aa->TC z z' (fV w)):b9 X.G O z' e m k vs where
 aS:=aS
 len:=h.len
 obj:=λj q w bn hw=>(h.obj j q w bn hw).jP bx (λaR b aw=>by
  have:=((h.obj j q w bn hw).lt aR b aw).2.1
  grind) λaR=>hk j q w bn hw aR
 fD:=h.fD
noncomputable def Ao(z:Nat->bW)(a f g e d:Nat):Nat->bW:=λb=>
 match z b with
 |.lock n j L t=>if a<=b/\n≠0/\n=f then .lock d j L t else if a<=b/\n≠0/\n=g then .lock d (e+j) L t else .lock n j L t
 |x=>x
theorem aem{a e g d f b:Nat}(h:∀n j L t,z b≠.lock n j L t):Ao z a e g d f b=z b:=by
 grind[Ao]
theorem tK{a f g e d b n j:Nat}{L:List af}{t:bV}(h:z b=.lock n j L t):Ao z a f g e d b=if a<=b/\n≠0/\n=f then .lock d j L t else if a<=b/\n≠0/\n=g then .lock d (e+j) L t else .lock n j L t:=by
 grind[Ao]
def Xq{a:Type}{T:cM a}{b:List a}{v:af}(h:dU T z e m k b v)(g:b≠[]):fV v≠0:=by
 intro d;unfold fV at d;rcases h.bT with⟨rfl,n⟩|⟨j,l,f,i,rfl,_⟩
 ·grind
 grind[da]
def ac2{f:Type}{T:cM f}{L:f}{A:Tag->af->Mem->Prop}{q:bS->af}{i:TypeInfo}{kk I:IntKind}{n:Int}{v:af}{xs:List f}(h:o.op=.call {callee:=.builtin .append,args:=#[x,y],argTypes:=#[t,u]})(M:P.underlying t=J (.slice T.tid))(R:P.info? T.tid=J i){j:af}(hL:i.zero=J j)(X:j.cells.toList.all dy=aa)(et:j.cells.size=i.size)
  (V:i.size=T.bM) (hh:(T.bM==0)=ak) (hp:iJ i.bytes 32768=aa) (hu:P.underlying u=J (.int kk)) (Q:q x=v) (w:dU T z e m k xs v) (N:q y=.int I n) (Y:T.rd z L j.cells.toList) (g:dL z e m k) {F r:List f} (hm:hy L n=J F) (E:cD xs F=J r)
  (hk:∀l d,dL z e d k->dU T z e d k r l->gl m d (da v)->(∀p,(∀b,p=J b->b<m.next)->e6 p (da v)->e6 p (da l))->A .fX l d):cH P q o m A:=by
 obtain⟨S,K,rfl⟩:=B3 hm;obtain⟨c,rfl⟩:=sD S;have H:0<T.bM:=by grind
 rw[sG] at E;obtain⟨l,d,K,O,B,a⟩:=arV (C:=jn P 0) (k:=I) h M R hL X et V H (pk hp) hu Q w.bT N Y g.bZ g.dead E;refine cH.fX K (hk _ _ (g.same B w.bm) ⟨O,λb s=>?_⟩ B λp H U b s Z=>?_)
 ·rcases a b s with a|a
  ·exact w.fresh b a
  ·have:=g.next;omega
 ·rcases a b Z with a|a
  ·exact U b s a
  grind
theorem aqz{a b:bc D}(aM:o.op=.call {callee:=.builtin .append,args:=#[x,y],argTypes:=#[t,u]})(hu:Xl (P.underlying u)=aa)(aN:b9 X.G O z e m k vs)(bl:rel X.G z vs a (bk fr x))(aw:rel X.G z vs b (bk fr y))(h:W8 X t a b O K=J r):cH P (bk fr) o m λ_ v m'=>dH X O z e k vs K r v m':=by
 have J0:∃kk,P.underlying u=J (.int kk):=by
  unfold Xl at hu
  grind
 obtain⟨kk,J0⟩:=J0;unfold W8 at h;split at h
 ·rename_i bX cL n aJ;split at h
  ·rename_i ti iE;split at h
   ·rename_i bB;obtain⟨xs,hm,h⟩:=bind_some h;have aV:cD ([]:List (D bX)) xs=J xs:=by
     obtain⟨bR,h1,rfl⟩:=B3 hm
     grind[cD,uf]
    refine ac2 (T:=X.G.T bX) (xs:=[]) aM (by rw[ti.tid];grind) (by rw[ti.tid];exact ti.az) ti.bx ti.dw ti.et ti.cN ti.hh ti.hp J0 bl ⟨.inl ⟨rfl,rfl⟩,λb aw=>by cases aw⟩ aw (ti.GX z) aN.aS hm aV λcc m' fc bT gI fP=>?_;have kI:dQ cc=da cc:=hi (by obtain⟨a,c,rfl⟩:=bT.bT.len;grind);exact pA (v:=cc) aN fc gI (by rw[kI];exactλp bb=>fP p bb (by intro b aw e5;cases e5)) h bT (oi aN bT.bT.len)
   grind
  grind
 ·rename_i hE i cL n aJ;split at h
  ·rename_i cu U5;split at h
   ·rename_i bX t1 up oA dX rP;split at h
    ·rename_i eG oM;split at h
     ·rename_i he;subst he;obtain⟨b4,hm,h⟩:=bind_some h;obtain⟨q,bm,h⟩:=bind_some h;obtain⟨dv,i1,U,ui⟩:=BZ aN U5;obtain⟨aoa,Vk,rfl⟩:=B3 hm;have nD:=(tv bm).1;have aoH:=(tv bm).2;subst aoH;have rX:=bl.1;obtain⟨zR,zS,jY⟩:=ui.obj i _ _ rP rX;have aod:hy (pr ae 0 0) n=J (gb n.toNat (pr ae 0 0)):=by
       grind[hy]
      have Vy:cD zS (gb n.toNat (pr ae 0 0))=J (zS++gb n.toNat (pr ae 0 0)):=by unfold cD;rw[jY.len,IL,if_pos (by grind)]
      refine ac2 (T:=rD bX) aM aJ eG.az eG.bx rfl (by rw[eG.h1];rfl) (by rw[eG.h1];rfl) rfl eG.hp J0 rfl jY.bT aw ⟨rfl,rfl,rfl⟩ ui.aS aod Vy λcc m' fc bT gI fP=>?_;have aaz:dQ (bk fr x)=da (bk fr x):=hi (by obtain⟨a,c,cp⟩:=jY.bT.bT.len;grind);have kI:dQ cc=da cc:=hi (by obtain⟨a,c,rfl⟩:=bT.bT.len;grind);have TD:=ui.pF (o':=.dead) rP rX rfl (by grind) fc trivial;have left:∀(l:Nat)(p:ba D)(w:af),(cu.set i (.dead:ba D))[l]?=J p->vs[l]?=J w->p.live=aa->cu[l]?=J p/\l≠i:=by
       intro l p w aR hw bb;rw[ll] at aR;split at aR
       ·split at aR
        ·cases aR;cases bb
        grind
       grind
      generalize qd:Ao dv e.next (fV (bk fr x)) 0 oA.length (fV cc)=z3;have Z9:∀b,(∀n j L t,dv b≠.lock n j L t)->z3 b=dv b:=λb cp=>by rw[<-qd];grind[aem]
      have hle:fl dv z3:=λb bF=>Z9 b λn j L t cp=>by rw[cp] at bF;exact bF
      have mU:∀b,dv b=.dead->z3 b=.dead:=λb bg=>by grind
      have BA:dT e.next dv z3:=⟨hle,λb cF=>by
       cases bx:dv b with
       |lock n j L t=>rw[<-qd,tK bx,if_neg (by omega),if_neg (by omega)]
       |_=>grind⟩
      have fb:dL z3 e m' k:=⟨λb aw=>by
       cases bx:dv b with
       |lock n j L t=>
        have br:=fc.bZ b (by grind);rw[bx] at br;rw[<-qd,tK bx];split
        ·exact br
        grind
       |_=>
        have aT:=Z9 b (λn j L t cp=>by rw[bx] at cp;cases cp);rw[aT] at aw⊢;exact fc.bZ b aw,fc.dead,fc.oL,fc.next,fc.kept⟩
      have AE:=TD.afJ hle fb mU λl p w aR hw bb b c6 L eu s8=>by
       obtain⟨h1,ai⟩:=left l p w aR hw bb;have ne:fV w≠0->fV w≠fV (bk fr x):=by
        intro n1;have fP:=ui.fD l i _ _ _ _ ai h1 rP bb rfl hw rX
        grind[WT,hi,LI]
       rw[<-qd,tK s8,s8,if_neg λcp=>ne cp.2.1 cp.2.2,if_neg λcp=>cp.2.1 cp.2.2]
      have nE:hf X.G z3 e m' k (vs++[cc]) (.nest bX t1 up (oA++gb n.toNat []) ae ak:ba D) cc:=by
       refine⟨zR,_,bT.jP hle (λb aw=>mU b (bT.bT.lt b aw).2▸((bT.bT.lt b aw).2).symm),by rw[sI,sI,jY.len,IL,IL],λl w xs g1 g2 _=>?_,λp bb=>by grind⟩;by_cases aR:l<oA.length
       ·rw[kS (by rw[jY.len];grind)] at g1;rw[kS aR] at g2;rcases jY.oU l w xs g1 g2 (λp bb=>by grind) with cp|⟨b,f0,L,c,fv,fQ,kb,nb,r8,q0⟩
        ·exact .inl cp
        ·have bR:=Xq jY.bT (λcp=>by grind);refine .inr ⟨b,f0,L,c,fv,by rw[<-qd,tK fQ,if_pos ⟨kb,bR,rfl⟩],kb,nb,r8,λi x az=>?_⟩;obtain⟨cs,oq,o9⟩:=q0 i x az;exact⟨cs,(X.G.T t1).mono _ _ hle _ _ oq,o9⟩
       ·rw[kT (by rw[jY.len];omega)] at g1;rw[kT (by omega)] at g2;have h1:=mM g1;have ai:=mM g2;exact .inl ⟨ym h1,ym ai⟩
      have TE:=AE.V4 nE λ_ l p w aR bb hw=>by
       obtain⟨h1,ai⟩:=left l p w aR hw bb;rw[kI];refine fP _ (λb aw=>((ui.obj l p w h1 hw).lt bb b aw).1) ?_;have:=ui.fD l i _ _ _ _ ai h1 rP bb rfl hw rX
       grind
      have an1:(cu.set i (.dead:ba D)).length=cu.length:=by simp
      refine⟨z3,vs++[cc],_,_,i1.trans ((Inv.set cu i (.inl rfl)).trans (Inv.push _ _)),U.trans BA,j0,TE,?_,h⟩;have:=oi AE bT.bT.len
      grind
     grind
    grind
   grind
  grind
 grind
theorem ard{i:Nat}{b:bc D}(aM:o.op=.call {callee:=.builtin .append,args:=#[x,y],argTypes:=#[t,u]})(aN:b9 X.G O z e m k vs)(bl:rel X.G z vs (.c (.own i)) (bk fr x))(aw:rel X.G z vs b (bk fr y))(h:Xx X t u i b O K=J r):cH P (bk fr) o m λ_ v m'=>dH X O z e k vs K r v m':=by
 unfold Xx at h;split at h
 ·rename_i hE azd aJ hu;split at h
  ·rename_i j;split at h
   ·grind
   ·rename_i hq;have hq:i≠j:=λcp=>hq (by simp_all);split at h
    ·rename_i cu U5;split at h
     ·rename_i dz anL;split at h
      ·rename_i bX t1 up oA dX e2 t2 awm Ha ix rP UR;split at h
       ·rename_i eG oM;split at h
        ·rename_i eB;subst eB;split at h
         ·rename_i he;obtain⟨rfl,rfl⟩:=he;obtain⟨q,bm,h⟩:=bind_some h;have bm:cD oA Ha=J q:=bm;obtain⟨dv,i1,U,ui⟩:=BZ aN U5;obtain⟨z2,i2,ag,M2⟩:=BZ ui anL;obtain⟨nD,rfl⟩:=tv bm;have rX:=bl.1;have qU:=aw.1;obtain⟨zR,zS,jY⟩:=M2.obj i _ _ rP rX;obtain⟨_,aE,oX⟩:=M2.obj j _ _ UR qU;have Vy:cD zS aE=J (zS++aE):=by
           unfold cD;rw[jY.len,oX.len,if_pos nD]
          refine K3 (T:=rD e2) aM aJ eG.az eG.bx rfl (by rw[eG.h1];rfl) (by rw[eG.h1];rfl) rfl eG.hp (.inl ⟨_,hu⟩) rfl jY.bT rfl oX.bT.bT.src M2.aS Vy λcc m' fc bT gI fP=>?_;have aaz:dQ (bk fr x)=da (bk fr x):=hi (by obtain⟨a,c,cp⟩:=jY.bT.bT.len;grind);have UU:dQ (bk fr y)=da (bk fr y):=hi (by obtain⟨a,c,cp⟩:=oX.bT.bT.len;grind);have kI:dQ cc=da cc:=hi (by obtain⟨a,c,rfl⟩:=bT.bT.len;grind);have anm:=M2.fD i j _ _ _ _ hq rP UR rfl rfl rX qU;rw[aaz,UU] at anm;have TD:=M2.pF (o':=.dead) rP rX rfl (by grind) fc trivial;have ane:(dz.set i (.dead:ba D))[j]?=J (.nest e2 t2 awm Ha ae ix):=by grind
          have af5:=TD.pF (m':=m') (o':=.dead) ane qU rfl ⟨e4 _,fc.dead,λ_ _ _=>rfl⟩ fc trivial;have left:∀(l:Nat)(p:ba D)(w:af),((dz.set i (.dead:ba D)).set j .dead)[l]?=J p->vs[l]?=J w->p.live=aa->dz[l]?=J p/\l≠i/\l≠j:=by
           intro l p w aR hw bb;rw[ll] at aR;split at aR
           ·split at aR
            ·cases aR;cases bb
            grind
           ·rename_i h1;rw[ll] at aR;split at aR
            ·split at aR
             ·cases aR;cases bb
             grind
            grind
          generalize qd:Ao z2 e.next (fV (bk fr x)) (fV (bk fr y)) oA.length (fV cc)=z3;have bX:∀b,(∀n j L t,z2 b≠.lock n j L t)->z3 b=z2 b:=λb cp=>by rw[<-qd];grind[aem]
          have hle:fl z2 z3:=λb bF=>bX b λn j L t cp=>by rw[cp] at bF;exact bF
          have mU:∀b,z2 b=.dead->z3 b=.dead:=λb bg=>by grind
          have BA:dT e.next z2 z3:=⟨hle,λb cF=>by
           cases bx:z2 b with
           |lock n j L t=>rw[<-qd,tK bx,if_neg (by omega),if_neg (by omega)]
           |_=>grind⟩
          have fb:dL z3 e m' k:=⟨λb aw=>by
           cases bx:z2 b with
           |lock n j L t=>
            have br:=fc.bZ b (by grind);rw[bx] at br;rw[<-qd,tK bx];split
            ·exact br
            ·split
             ·exact br
             grind
           |_=>
            have aT:=bX b (λn j L t cp=>by rw[bx] at cp;cases cp);rw[aT] at aw⊢;exact fc.bZ b aw,fc.dead,fc.oL,fc.next,fc.kept⟩
          have AE:=af5.afJ hle fb mU λl p w aR hw bb b c6 L eu s8=>by
           obtain⟨h1,ai,aT⟩:=left l p w aR hw bb;have ne:∀{ez:af}{u3:Nat}{u9:ba D},l≠u3->dz[u3]?=J u9->u9.live=aa->vs[u3]?=J ez->(∀r,ez≠.map r)->fV w≠0->fV w≠fV ez:=by
            intro ez u3 u9 gT br cK fJ jH n1;have fP:=M2.fD l u3 _ _ _ _ gT h1 br bb cK hw fJ;by_cases aba:∃r,w=.map r
            ·obtain⟨r,rfl⟩:=aba;exact absurd WT n1
            ·rw[hi (λr aV=>aba ⟨r,aV⟩),hi jH] at fP
             grind[LI]
           have m1:∀r,bk fr x≠.map r:=by obtain⟨a,c,cp⟩:=jY.bT.bT.len;grind
           have m2:∀r,bk fr y≠.map r:=by obtain⟨a,c,cp⟩:=oX.bT.bT.len;grind
           rw[<-qd,tK s8,s8,if_neg λcp=>ne ai rP rfl rX m1 cp.2.1 cp.2.2,if_neg λcp=>ne aT UR rfl qU m2 cp.2.1 cp.2.2]
          have nE:hf X.G z3 e m' k (vs++[cc]) (.nest e2 t2 up (oA++Ha) ae ak:ba D) cc:=by
           refine⟨zR,zS++aE,bT.jP hle (λb aw=>mU b (bT.bT.lt b aw).2▸((bT.bT.lt b aw).2).symm),by rw[sI,sI,jY.len,oX.len],λl w xs g1 g2 _=>?_,λp bb=>by grind⟩;by_cases aR:l<oA.length
           ·rw[kS (by rw[jY.len];grind)] at g1;rw[kS aR] at g2;rcases jY.oU l w xs g1 g2 (λp bb=>by grind) with cp|⟨b,f0,L,c,fv,fQ,kb,nb,r8,q0⟩
            ·exact .inl cp
            ·have bR:=Xq jY.bT (λcp=>by grind);refine .inr ⟨b,f0,L,c,fv,by rw[<-qd,tK fQ,if_pos ⟨kb,bR,rfl⟩],kb,nb,r8,λi x az=>?_⟩;obtain⟨cs,oq,o9⟩:=q0 i x az;exact⟨cs,(X.G.T t2).mono _ _ hle _ _ oq,o9⟩
           ·rw[kT (by rw[jY.len];omega),jY.len] at g1;rw[kT (by omega)] at g2;rcases oX.oU (l-oA.length) w xs g1 g2 (λp bb=>by grind) with cp|⟨b,f0,L,c,fv,fQ,kb,nb,r8,q0⟩
            ·exact .inl cp
            ·have bR:=Xq oX.bT (λcp=>by grind);have gT:fV (bk fr y)≠fV (bk fr x):=by
              grind[LI]
             refine .inr ⟨b,f0,L,c,fv,by rw[<-qd,tK fQ,if_neg (λcp=>gT cp.2.2),if_pos ⟨kb,bR,rfl⟩,show oA.length+(l-oA.length)=l by omega],kb,nb,r8,λi x az=>?_⟩;obtain⟨cs,oq,o9⟩:=q0 i x az;exact⟨cs,(X.G.T t2).mono _ _ hle _ _ oq,o9⟩
          have TE:=AE.V4 nE λ_ l p w aR bb hw=>by
           obtain⟨h1,ai,aT⟩:=left l p w aR hw bb;rw[kI];refine fP _ (λb aw=>((M2.obj l p w h1 hw).lt bb b aw).1) ?_;have:=M2.fD l i _ _ _ _ ai h1 rP bb rfl hw rX
           grind
          have an1:((dz.set i (.dead:ba D)).set j .dead).length=dz.length:=by simp
          refine⟨z3,vs++[cc],_,_,(i1.trans i2).trans ((Inv.set dz i (.inl rfl)).trans ((Inv.set _ j (.inl rfl)).trans (Inv.push _ _))),(U.trans ag).trans BA,j0,TE,?_,h⟩;have:=oi AE bT.bT.len
          grind
         grind
        grind
       grind
      grind
     grind
    grind
  grind
 grind
end
end
section
section
variable {P:bI}{D:Nat->Type}{X:e3 P D}{ap:Type}{z z':Nat->bW}{e m m':Mem}{k:Option Nat}{vs:List af}{fr:Nat->af}{E:List (Nat×bc D)}{O:List (ba D)}{o:Oper}{r:ap}
variable {x y:bS}{t u:bV}{K:bc D->List (ba D)->Option ap}
def gG(m a:Mem)(q:Option Nat):Prop:=m.next<=a.next/\∀b,b<m.next->q≠J b->a.blk b=m.blk b
def oI(b:List af)(a:List Nat)(q:Option Nat):Prop:=q=ae\/∃i,i∈a/\∃v,b[i]?=J v/\q=dQ v
def cH.mono{d:bS->af}{K e:Tag->af->Mem->Prop}(h:cH P d o m K)(a:∀t v b,K t v b->e t v b):cH P d o m e:=by
 rcases h with⟨v,h,g⟩|⟨v,I,h,g⟩|⟨v,h,g⟩|⟨Y,v,h,g⟩|⟨n,v,b,h,g⟩
 ·exact .inl ⟨v,h,a _ _ _ g⟩
 ·exact .inr (.inl ⟨v,I,h,a _ _ _ g⟩)
 ·exact .inr (.inr (.inl ⟨v,h,a _ _ _ g⟩))
 ·exact .inr (.inr (.inr (.inl ⟨Y,v,h,a _ _ _ g⟩)))
 ·exact .inr (.inr (.inr (.inr ⟨n,v,b,h,a _ _ _ g⟩)))
def iV(X:e3 P D):Prop:=∀(f:Nat)(b:List (bc D))(O:List (ba D)){h:Type}(K:bc D->List (ba D)->Option h)(r:h){z:Nat->bW}{e m:Mem}{k:Option Nat}{d:List af}(a:List af),
 b9 X.G O z e m k d->bP (rel X.G z d) b a->X.C f b O K=J r->h2 P f a.toArray m λv g=>dH X O z e k d K r v g/\(X.F f b O=aa->g=m)/\(X.W f=ak->∃q,gG m g q/\oI d (q1 b) q)
def bP.caps{caps:List (Nat×List (cv D))}{a:List af}(h:bP (λc g=>lU X.G z vs c.2 0 g) caps a):bP (rel X.G z vs) (caps.map λp=>bc.hd p.1 p.2 0) a:=by
 induction caps generalizing a with
 |nil=>cases a with
  |nil=>trivial
  |cons _ _=>exact h.elim
 |cons c caps b=>cases a with
  |nil=>exact h.elim
  |cons g a=>exact⟨h.1,b h.2⟩
def acf{aK:Type}{T:cM aK}{aW:aK->List af}(aD:∀z x ds,T.rd z x ds->ds=aW x){L:List af}:∀{xs:List aK}{o:Nat},(∀(i:Nat)(x:aK),xs[i]?=J x->∃cs,T.rd z x cs/\ql L (o+i*T.bM) cs)->(∀x∈xs,(aW x).length=T.bM)->
  ∀(i:Nat)(v:af),(xs.flatMap aW)[i]?=J v->L[o+i]?=J v
 |[],o,_,_,i,v,h=>by grind
 |x::xs,o,h,aR,i,v,az=>by
  obtain⟨cs,h1,ai⟩:=h 0 x rfl;have:=aD _ _ _ h1;subst this;have Vj:=aR x oG;rw[II,AB] at az;split at az
  ·have:=ai i v az
   grind
  ·rename_i hA;have:=acf aD (xs:=xs) (o:=o+T.bM) (L:=L) (λj y bn=>by
    obtain⟨cs,g1,g2⟩:=h (j+1) y (by grind)
    grind) (λy aZ=>aR y (kn _ aZ)) _ v az
   grind
def adJ{d:Type}{b:d->List af}{n:Nat}:∀{a:List d},(∀x∈a,(b x).length=n)->∀(i j:Nat)(x:d)(v:af),a[i]?=J x->(b x)[j]?=J v->(a.flatMap b)[i*n+j]?=J v
 |[],_,i,j,x,v,h,_=>by grind
 |y::a,e,0,j,x,v,h,f=>by
  grind
 |y::a,e,i+1,j,x,v,h,f=>by have k:=e y oG;rw[II,ko,Nat.one_mul,kT (by omega),show i*n+n+j-(b y).length=i*n+j by omega];exact adJ (λx g=>e x (kn _ g)) i j x v (by grind) f
def WI{b:Type}{d:b->List af}{n:Nat}:∀{a:List b},(∀x∈a,(d x).length=n)->(a.flatMap d).length=a.length*n
 |[],_=>by simp
 |x::a,h=>by rw[II,sI,h x oG,WI λy e=>h y (kn _ e),ry,ko];omega
def KK{f:Nat}{a:List (Nat×List (cv D))}{b:List (bc D)}{d:ns P X.G}:∀{l:List (ns P X.G)},xk X l f a b=J d->d.f=f/\a=[]/\d.acc b.tail=aa
 |[],h=>by cases h
 |s::l,h=>by
  unfold xk at h;by_cases e:(fi s.f f&&(a.isEmpty&&s.acc b.tail))=aa
  ·simp_all
  ·rw[if_neg e] at h;exact KK h
theorem acG{f:Nat}{H:List (bc D)}{n:ns P X.G}{d:List af}{I:List (Nat×List (cv D))}(bF:xk X X.S f I H=J n)(g:b9 X.G O z e m k vs)(dE:bP (rel X.G z vs) H d)(h:XD X n H O K=J r):
  h2 P f d.toArray m λv L=>dH X O z e k vs K r v L/\∃q,gG m L q/\oI vs (zC H) q:=by
 obtain⟨rfl,_,yU⟩:=KK bF
 match H,d,dE with
 |[],_,_=>cases h
 |s::gV,ec::V,⟨N,ai⟩=>
  unfold XD at h;split at h
  ·rename_i i l bf;cases bf;split at h
   ·rename_i t xs w R;split at h
    ·rename_i he;subst he;obtain⟨A,aZ,h⟩:=bind_some h;have M:dU (X.G.T n.e) z e m k xs ec:=g.obj i _ ec R N.1;have kI:∀{A:List (D n.e)}{L:Mem}{u:af},dU (X.G.T n.e) z e L k A u->dQ u=da u:=λhu=>hi (by obtain⟨a,c,cp⟩:=hu.bT.len;grind);obtain⟨cc,L,ay,n4,uX,UW,wA⟩:=n.run z e m k vs V gV xs A ec yU aZ g.aS.bZ ai M;refine ay.mono ?_;rintro u Q ⟨rfl,rfl⟩;have k2:∃q,gl m Q q/\dL z e Q k/\(q=ae\/da ec=q):=by
      rcases n4 with rfl|⟨b,Y,y,rfl⟩
      ·exact⟨ae,⟨e4 _,g.aS.dead,λ_ _ _=>rfl⟩,g.aS,.inl rfl⟩
      ·have x:=M.bm b y;exact⟨J b,zm g.aS.dead (M.lt b y),g.aS.put _ x.1 (M.lt b y) x.2,.inr y⟩
     obtain⟨q,C,fb,x⟩:=k2;have Z:∃q,gG m Q q/\oI vs (zC (.c (.own i)::gV)) q:=⟨q,⟨C.next,C.blk⟩,by
      rcases x with x|x
      ·exact .inl x
      ·cases q with
       |none=>exact .inl rfl
       |some b=>exact .inr ⟨i,by simp[zC],_,N.1,by grind⟩⟩
     refine⟨?_,Z⟩;have E:gl m Q (dQ ec):=by
      rcases x with rfl|x
      ·exact⟨C.next,C.dead,λb y _=>C.blk b y (λe=>by grind)⟩
      grind
     by_cases F:n.u5=aa
     ·rw[if_pos F] at h⊢;have axO:dQ cc=dQ ec:=by grind
      have fP:=λj qj w hq B U hw=>g.fD j i qj _ w _ hq B R U rfl hw N.1;exact⟨z,vs++[cc],.c (.own O.length),O.set i .dead++[.bh n.e A ak ak],(Inv.set O i (.inl rfl)).trans (Inv.push _ _),dT.refl z,j0,
       (g.kill i).push (q:=dQ ec) (o':=.bh n.e A ak ak) E fb (λj p w B hw U=>by
        rw[ll] at B;split at B
        ·split at B
         ·cases B;cases U
         grind
        grind) uX (λp bb US=>by grind),oi g (by obtain⟨a,c,cp⟩:=uX.bT.len;exact⟨a,c,cp⟩),h⟩
     ·rw[if_neg F] at h⊢;have:=wA (by grind);subst this;exact⟨z,vs,.sq [],_,Inv.set O i (.inr rfl),dT.refl z,λ_ _ h=>h,g.pF (o':=.bh n.e A ak aa) R N.1 rfl E fb uX,⟨[],rfl,trivial⟩,h⟩
    grind
   grind
  grind
 |_::_,[],h=>exact h.elim
def ac':∀{d:List Nat}{a:List af},bP (sQ vs) d a->bP (rel X.G z vs) (d.map λi=>bc.box i 0) a
 |[],[],_=>trivial
 |[],_::_,h=>h.elim
 |_::_,[],h=>h.elim
 |_::_,_::_,⟨⟨f,b,h⟩,e⟩=>⟨⟨b,by grind,h⟩,ac' e⟩
def arf(T:iV X){c:Call}(l:o.op=.call c)(n:b9 X.G O z e m k vs)(g:∀x,rel X.G z vs (dp E x) (bk fr x))(h:sa X c E O K=J r):cH P (bk fr) o m λ_ v m'=>dH X O z e k vs K r v m':=by
 obtain⟨ce,i,H⟩:=c;cases ce with
 |invoke r m=>cases h
 |value f=>
  simp only[sa] at h;split at h
  ·rename_i Q d L;have w:=g f;rw[L] at w;obtain⟨q,F,B⟩:=w;split at h
   ·rename_i ke U;have V:d=[]:=(KK U).2.1;subst V;have wk:q=[]:=by cases q with
     |nil=>rfl
     |cons _ _=>exact B.elim
    subst wk;refine cH.call (B2 (args:=(i.toList.map (bk fr)).toArray) (caps:=#[]) l F (by grind) rfl) ?_;have:=(acG U n (w3 g) h).mono λ_ _ h=>h.1
    grind
   refine cH.call (B2 (args:=(i.toList.map (bk fr)).toArray) (caps:=q.toArray) l F (by grind) rfl) ?_;have:=(T Q _ O K r (i.toList.map (bk fr)++q) n ((w3 g).append B.caps) h).mono λ_ _ h=>h.1
   grind
  ·rename_i Q is L;have w:=g f;rw[L] at w;obtain⟨q,F,B⟩:=w;refine cH.call (B2 (args:=(i.toList.map (bk fr)).toArray) (caps:=q.toArray) l F (by grind) rfl) ?_;have:=(T Q _ O K r (i.toList.map (bk fr)++q) n ((w3 g).append (ac' B)) h).mono λ_ _ h=>h.1
   grind
  grind
 |builtin b=>
  cases b with
  |len=>
   simp only[sa] at h;split at h
   ·rename_i x t A S;have j:i=#[x]:=by grind
    have C:H=#[t]:=by grind
    subst j C;exact arN (ts:=#[t]) l n (g x) h
   grind
  |append=>
   simp only[sa] at h;split at h
   ·rename_i x y t u A S;have j:i=#[x,y]:=by grind
    have C:H=#[t,u]:=by grind
    grind[aqz,are,ard,arG]
   grind
  |cap=>
   simp only[sa] at h;split at h
   ·rename_i x t A S;have j:i=#[x]:=by grind
    have C:H=#[t]:=by grind
    subst j C;split at h
    ·rename_i hE p hu;have R:=g x;rw[p] at R;exact cH.pure (.Jj x t hE l hu R) (dH.here (dR:=.c (.int .i64 0)) n rfl h)
    grind
   grind
  |max=>
   simp only[sa] at h;split at h
   ·rename_i x y A;have j:i=#[x,y]:=by grind
    subst j;have p:=g x;have s:=g y;split at h
    ·rename_i Z a Y b M I;rw[M] at p;rw[I] at s;split at h
     ·rename_i N;subst N;exact j1 n h (auP l p s) rfl
     grind
    grind
   grind
  |min=>
   simp only[sa] at h;split at h
   ·rename_i x y A;have j:i=#[x,y]:=by grind
    subst j;have p:=g x;have s:=g y;split at h
    ·rename_i Z a Y b M I;rw[M] at p;rw[I] at s;split at h
     ·rename_i N;subst N;exact j1 n h (auQ l p s) rfl
     grind
    grind
   grind
  |_=>cases h
def arz{s:bc D}{v:af}{p:YR D}(f:b9 X.G O z e m k vs)(h:XY O s=J p)(a:rel X.G z vs s v):nn (X.G.M p.u p.bG p.bA) z p.es v\/jD (X.G.M p.u p.bG p.bA) z e m k p.es v:=by
 unfold XY at h;split at h
 ·cases h;exact .inl a
 ·split at h
  ·rename_i u i g l bZ j d;cases h;have b:=f.obj _ _ v d a.1;cases bZ with
   |true=>exact .inl b
   |false=>exact .inr b
  grind
 grind
def arp{r:ap}{v:af}{g:Mem}(h:dH X O z e k vs (V3 K) r v g):dH X O z e k vs K r v g:=by
 obtain⟨q,w,y,p,s,l,i,d,f,a⟩:=h;refine⟨q,w,?_⟩;unfold V3 at a;split at a
 ·rename_i j;split at a
  ·rename_i B x bZ A t;have n:=d.obj _ _ _ t f.1;have m:∃b,v=.pointer (J ⟨b,0,ae⟩):=by cases bZ<;>exact⟨_,n.choose_spec.choose_spec.1⟩
   obtain⟨b,rfl⟩:=m;exact⟨.box j 0,p,s,l,i,d,⟨b,f.1,rfl⟩,a⟩
  grind
 grind
def Ln(cW:iV X){U:Op}(B:o.op=U)(q:b9 X.G O z e m k vs)(A:∀x,rel X.G z vs (dp E x) (bk fr x))(h:iR X U E O K=J r):cH P (bk fr) o m λ_ v m'=>dH X O z e k vs K r v m':=by
 cases U with
 |move x=>exact j1 q h (auR B rfl) (A x)
 |assign x=>exact j1 q h (asF B rfl) (A x)
 |nilCheck x=>
  have C:=A x;simp only[iR] at h;split at h
  ·rename_i i off H;have N:=C;rw[H] at N;obtain⟨b,_,L⟩:=N;exact j1 q h (by rw[L];exact .nilCheck x _ B L) C
  ·rename_i i H;have N:=C;rw[H] at N;obtain⟨b,l,_,L⟩:=N;exact j1 q h (by rw[L];exact .nilCheck x _ B L) C
  ·rename_i i bX dx off H;have N:=C;rw[H] at N;obtain⟨b,f0,l,c,_,L⟩:=N;exact j1 q h (by rw[L];exact .nilCheck x _ B L) C
  ·rename_i t cs off H;have N:=C;rw[H] at N;obtain⟨b,iw,ds,L,_⟩:=N;exact j1 q h (by rw[L];exact .nilCheck x _ B L) C
  grind
 |extract x i=>
  have C:=A x;simp only[iR] at h;split at h
  ·rename_i l H;rw[H] at C;obtain⟨ds,L,T⟩:=C;split at h
   ·rename_i c F;obtain⟨w,R,S⟩:=T.get i _ F;exact j1 q h (adm B L R) S
   ·rename_i p F;obtain⟨w,R,S⟩:=T.get i _ F;exact j1 q h (adm B L R) S
   grind
  grind
 |pick c a b=>
  have F:=A c;simp only[iR] at h;split at h
  ·rename_i H;rw[H] at F;exact j1 q h (aeH (t:=aa) B F (if_pos rfl)) (A a)
  ·rename_i H;rw[H] at F;exact j1 q h (aeH (t:=ak) B F (if_neg (by simp))) (A b)
  grind
 |binOp U t x y u=>
  simp only[iR] at h;have C:=A x;have M:=A y;split at h
  ·rename_i t1 c1 t2 c2 Q Z;rw[Q] at C;rw[Z] at M;obtain⟨c,v,k1,bb,S⟩:=ats B C M h;exact j1 q k1 bb S
  ·obtain⟨c,v,k1,bb,S⟩:=asr B q C M h;exact j1 q k1 bb S
 |unOp U t x=>
  have C:=A x;cases U with
  |not=>
   simp only[iR] at h;split at h
   ·rename_i b H;rw[H] at C;exact j1 q h (apX B C) rfl
   grind
  |neg=>
   simp only[iR] at h;split at h
   ·rename_i kk a H;rw[H] at C;exact j1 q h (apV B C) rfl
   grind
  |_=>grind[iR]
 |convert s t x=>exact arh B q (A x) h
 |indexAddr t x y=>
  cases x with
  |global g=>exact arL B q (A y) h
  |_=>exact arM B q (A _) (A y) h
 |field t x n=>exact aqC B q (A x) h
 |fieldAddr t x n=>exact arJ B q (A x) h
 |load t x=>
  simp only[iR] at h;split at h
  ·unfold aea at h;refine(acF B q (A x) h).mono λ_ v m' bB=>?_;obtain⟨dv,jK,dR,cu,bR,Q,Z,V,br,cK⟩:=bB;dsimp only at cK;split at cK
   ·rename_i j;split at cK
    ·rename_i c dz bF;obtain⟨z2,ec,a2,a3,a4⟩:=adL V bF br.1;exact⟨z2,jK,.c c,dz,bR.trans ec,Q.trans a2,Z,a3,a4,cK⟩
    grind
   grind
  ·split at h
   ·grind[aqD]
   ·exact(acF B q (A x) h).mono λ_ _ _ h=>arp h
 |store t x y=>exact aqG B q (A x) (A y) h
 |alloc t=>exact aqy B q h
 |box t x=>
  simp only[iR] at h;split at h
  ·rename_i i cs az F;split at h
   ·rename_i T;exact(arH B q (A x) az F T h).mono λ_ _ _ h=>aro h
   grind
  grind
 |makeSlice t x y=>
  have C:=A x;simp only[iR] at h;split at h
  ·rename_i ht kk n I H;rw[H] at C;split at h
   ·exact aqF B I q C h
   ·split at h
    ·rename_i ti iE y2;exact arm B I q C y2 h
    grind
  grind
 |buildSlice t l cQ=>
  simp only[iR] at h;split at h
  ·grind[arP]
  ·split at h
   ·rename_i ht I;split at h
    ·rename_i ti iE;exact aqB B I q A h
    grind
   grind
 |build t cQ=>
  simp only[iR] at h;split at h
  ·rename_i bY ti I iE;split at h
   ·rename_i bb;split at h
    ·rename_i cs F;exact aqf B I q A bb F h
    grind
   grind
  ·rename_i n Jq ti I iE;split at h
   ·rename_i kk hk;split at h
    ·rename_i cs F;exact aqA B I hk q A F h
    grind
   grind
  grind
 |slice t x cf az h8=>
  cases h8 with
  |none=>exact ari B q A (A x) h
  |some h8=>
   cases cf with
   |some _=>grind[iR]
   |none=>
    cases az with
    |none=>grind[iR]
    |some y=>exact arj B q A h
 |index t x y=>
  have C:=A x;have M:=A y;simp only[iR] at h;split at h
  ·rename_i s kk n I Q Z;rw[Q] at C;rw[Z] at M;obtain⟨c,F,h⟩:=bind_some h;exact as6 B I C M F (dH.here (dR:=.c (.int .u8 (UInt8.toNat c:Int))) q rfl h)
  grind[ark]
 |makeFunc fn first cap=>
  cases fn with
  |func f=>
   simp only[iR] at h;split at h
   ·split at h
    ·rename_i is bF F;exact arK B bF q A F h
    grind
   ·split at h
    ·rename_i caps cu bF F;exact asC B bF q A F h
    grind
  |_=>grind[iR]
 |makeMap t rs=>
  cases rs with
  |none=>
   simp only[iR] at h;split at h
   ·rename_i bG bA I;exact arO B I q h
   grind
  |some _=>grind[iR]
 |lookup t x y ok=>
  have C:=A x;have M:=A y;simp only[iR] at h;split at h
  ·rename_i u bG bA es T;have hm:=arz q T C;split at h
   ·rename_i cL v1 c9 v2 I hu;split at h
    ·rename_i eB;obtain⟨rfl,rfl,rfl,rfl⟩:=eB;split at h
     ·rename_i eP Y;split at h
      ·rename_i a bl;exact arl B I hu q hm M bl h
      grind
     grind
    grind
   grind
  grind
 |mapUpdate t x y w=>
  have C:=A x;have M:=A y;have R:=A w;simp only[iR] at h;split at h
  ·rename_i i d Q V;rw[Q] at C;rw[V] at R;split at h
   ·rename_i u bG bA es dX hO;split at h
    ·rename_i cL v1 c9 v2 I hu;split at h
     ·rename_i eB;obtain⟨rfl,rfl,rfl,rfl⟩:=eB;split at h
      ·rename_i eP Y;split at h
       ·rename_i a b bl aw;exact adk (.inl B) I hu q hO C.1 M R bl aw h
       grind
      grind
     grind
    grind
   grind
  grind
 |insert t x y w=>
  have C:=A x;have M:=A y;have R:=A w;simp only[iR] at h;split at h
  ·rename_i i d Q V;rw[Q] at C;rw[V] at R;split at h
   ·rename_i u bG bA es dX hO;split at h
    ·rename_i cL v1 c9 v2 I hu;split at h
     ·rename_i eB;obtain⟨rfl,rfl,rfl,rfl⟩:=eB;split at h
      ·rename_i eP Y;split at h
       ·rename_i a b bl aw;exact adk (.inr B) I hu q hO C.1 M R bl aw h
       grind
      grind
     grind
    grind
   grind
  grind
 |call c=>exact arf cW B q A h
 |_=>grind[iR]
end
end
section
section
variable {P:bI}{D:Nat->Type}{X:e3 P D}{ap:Type}{z z':Nat->bW}{e m m':Mem}{k:Option Nat}{vs vs':List af}{fr:Nat->af}{E:List (Nat×bc D)}{O cr:List (ba D)}{o:Oper}{r:ap}
theorem gG.refl(m:Mem):gG m m ae:=⟨e4 _,λ_ _ _=>rfl⟩
def gG.push(m:Mem)(Y:bW):gG m (m.push Y) ae:=⟨mo _,λb a _=>if_neg (by omega)⟩
def gG.put(m:Mem)(c:Nat)(Y:bW):gG m (m.put c Y) (J c):=⟨e4 _,λb d a=>if_neg (λh=>a (by rw[h]))⟩
def gG.any(h:gG m m' ae)(q:Option Nat):gG m m' q:=⟨h.1,λb a _=>h.2 b a (by simp)⟩
def cH.Ke{a:bS->af}{K d:Tag->af->Mem->Prop}(h:cH P a o m K)
  (e:∀v,dD P a o v->(∃t,K t v m)->d .pure v m) (i:∀v,fH P a o m v->K (.read λm=>fH P a o m v) v m->d (.read λm=>fH P a o m v) v m)
  (f:∀Y v,jC P a o m.next Y v->K .new v (m.push Y)->d .new v (m.push Y)) (j:∀n v b,hR P (jn P n) a o m v b->K .fX v b->d .fX v b):cH P a o m d:=by
 rcases h with⟨v,h,g⟩|⟨v,I,h,g⟩|⟨v,h,g⟩|⟨Y,v,h,g⟩|⟨n,v,b,h,g⟩
 ·exact .inl ⟨v,h,e v h ⟨_,g⟩⟩
 ·exact .inl ⟨v,h,e v h ⟨_,g⟩⟩
 ·exact .inr (.inr (.inl ⟨v,h,i v h g⟩))
 ·exact .inr (.inr (.inr (.inl ⟨Y,v,h,f Y v h g⟩)))
 ·exact .inr (.inr (.inr (.inr ⟨n,v,b,h,j n v b h g⟩)))
def ash{C:FuncId->Array af->Mem->af->Mem->Prop}{v:af}(K:∀x,rel X.G z vs (dp E x) (bk fr x))(h:hR P C (bk fr) o m v m'){Q:List Nat}(r:sj X E o.op=J Q)
  (T:∀x R S,o.op≠.call {callee:=.value x,args:=R,argTypes:=S}):∃q,gG m m' q/\oI vs Q q:=by
 cases h with
 |store t x y b A i L e h s az hm T g aR=>
  simp only[sj,h] at r;have d:=K x;split at r
  ·rename_i j p g;cases r;rw[g] at d;obtain⟨Y,H,B⟩:=d;rw[s] at B;cases B;exact⟨_,gG.put m b _,.inr ⟨j,by simp,_,H,rfl⟩⟩
  ·rename_i j u dx p g;cases r;rw[g] at d;obtain⟨Y,f0,l,c,H,B⟩:=d;rw[s] at B;cases B;exact⟨_,gG.put m b _,.inr ⟨j,by simp,_,H,rfl⟩⟩
  grind
 |call f I v m' h cW=>
  obtain⟨x,R,S,first,V,h,_⟩:=h
  grind
 |vZ x y t u e i a l c h _ _ _ _ _ _=>exact⟨ae,gG.refl _,.inl rfl⟩
 |sP x y t u e i z a l c n ew new h _ _ _ _ _ _ _ _ _ _ _ _ _ _=>exact⟨ae,gG.push _ _,.inl rfl⟩
 |yy x y t u e i b A l c k n L new h _ _ s _ _ Z O _ qR _=>
  simp only[sj,h] at r;have d:=K x;split at r
  ·rename_i g;rw[g] at d;have d:bk fr x=.slice ae 0 0:=d
   grind
  ·rename_i j g;cases r;rw[g] at d;exact⟨_,gG.put m b _,.inr ⟨j,by simp,_,d.1,by rw[s];rfl⟩⟩
  ·rename_i j _ _ _ g;cases r;rw[g] at d;obtain⟨w,H,B⟩:=d;exact⟨_,gG.put m b _,.inr ⟨j,by simp,_,H.1,by rw[<-B.blk,s];rfl⟩⟩
  ·rename_i g;cases r;rw[g] at d;obtain⟨_,_,a,N⟩:=d
   grind
  grind
 |vY x y t u e i b A l c n L new h _ _ s _ Z O _ qR _=>
  simp only[sj,h] at r;have d:=K x;split at r
  ·rename_i g;rw[g] at d;have d:bk fr x=.slice ae 0 0:=d
   grind
  ·rename_i j g;cases r;rw[g] at d;exact⟨_,gG.put m b _,.inr ⟨j,by simp,_,d.1,by rw[s];rfl⟩⟩
  ·rename_i j _ _ _ g;cases r;rw[g] at d;obtain⟨w,H,B⟩:=d;exact⟨_,gG.put m b _,.inr ⟨j,by simp,_,H.1,by rw[<-B.blk,s];rfl⟩⟩
  ·rename_i g;cases r;rw[g] at d;obtain⟨_,_,a,N⟩:=d;rw[s] at N;cases N;have bR:n=0:=by omega
   have yT:new=[]:=yl (by grind);subst yT;refine⟨ae,⟨e4 _,λc _ _=>?_⟩,.inl rfl⟩
   grind[Mem.put,eY]
  grind
 |append x y t u e i z b A l n L new h _ _ _ _ _ _ s _ _ _ _ _ _=>
  simp only[sj,h] at r;have d:=K x;have M:gG m ((m.put b .dead).push (.own ((L.drop A).take (l*i.size)++new) e)) (J b):=by have:=gG.put m b .dead;exact⟨mo _,λc M U=>by rw[show((m.put b .dead).push _).blk c=(m.put b .dead).blk c from if_neg (by show c≠m.next;omega)];exact this.2 c M U⟩
  split at r
  ·rename_i g;rw[g] at d;have d:bk fr x=.slice ae 0 0:=d
   grind
  ·rename_i j g;cases r;rw[g] at d;exact⟨_,M,.inr ⟨j,by simp,_,d.1,by rw[s];rfl⟩⟩
  ·rename_i j _ _ _ g;cases r;rw[g] at d;obtain⟨w,H,B⟩:=d;exact⟨_,M,.inr ⟨j,by simp,_,H.1,by rw[<-B.blk,s];rfl⟩⟩
  ·rename_i g;cases r;rw[g] at d;obtain⟨_,mS,a,N⟩:=d
   grind
  grind
 |clear x t e i z b A l c L h _ _ _ _ _ _ _ _ _=>grind[sj]
 |copy x y t u e i b A l c L cs h _ _ _ _ _ _ _=>grind[sj]
 |mapUpdate hZ x jW j3 u bG bA b L eo vc F mJ ho h _ _ s _ _ _ _ _ _ _ _ _ _ _ _ _ _ _=>
  have d:=K x;have r:(match dp E x with|.c (.own j)=>J [j]|_=>ae)=J Q:=by rcases h with h|h<;>(rw[h] at r;exact r)
  split at r
  ·rename_i j g;cases r;rw[g] at d;exact⟨_,gG.put m b _,.inr ⟨j,by simp,_,d.1,by rw[s];rfl⟩⟩
  grind
theorem ab3{a:List (Nat×List (cv D))}:∀{l:List (bc D)},q1 (l++a.map λp=>bc.hd p.1 p.2 0)=q1 l
 |[]=>by
  induction a with
  |nil=>rfl
  |cons c a b=>exact b
 |s::l=>by cases s<;>simp only[List.cons_append,q1,ab3 (l:=l)]
def ate(M:iV X){K:bc D->List (ba D)->Option ap}(I:b9 X.G O z e m k vs)(t:∀x,rel X.G z vs (dp E x) (bk fr x))(qQ:lT o.op=aa){y:List Nat}(a:sj X E o.op=J y)(h:iR X o.op E O K=J r):
  cH P (bk fr) o m λ_ v g=>dH X O z e k vs K r v g/\(tA X E O o.op=aa->g=m)/\∃q,gG m g q/\oI vs y q:=by
 have s:(∀x d l,o.op≠.call {callee:=.value x,args:=d,argTypes:=l})->∀{p:Prop},tA X E O o.op=aa->p:=λi p F=>by
  unfold tA at F;split at F
  ·rename_i c ay;split at F
   ·rename_i f C;obtain⟨ce,d,y⟩:=c
    grind
   grind
  grind
 have V:(∀x d l,o.op≠.call {callee:=.value x,args:=d,argTypes:=l})->cH P (bk fr) o m λ_ v g=>dH X O z e k vs K r v g/\(tA X E O o.op=aa->g=m)/\∃q,gG m g q/\oI vs y q:=λi=>
  (Ln M rfl I t h).Ke (λv _ ⟨_,j⟩=>⟨j,λ_=>rfl,ae,gG.refl _,.inl rfl⟩) (λv _ j=>⟨j,λ_=>rfl,ae,gG.refl _,.inl rfl⟩) (λY v _ j=>⟨j,s i,ae,gG.push _ _,.inl rfl⟩) λn v g Z j=>⟨j,s i,ash t Z a i⟩
 by_cases i:∀x d l,o.op≠.call {callee:=.value x,args:=d,argTypes:=l}
 ·grind
 ·simp only[Classical.not_forall,ne_eq,Classical.not_not] at i;obtain⟨f,d,l,A⟩:=i;rw[A] at h a;simp only[sj] at a;have h:sa X {callee:=.value f,args:=d,argTypes:=l} E O K=J r:=h;simp only[sa] at h;split at h
  ·rename_i R b C;rw[C] at a;simp only at a;have N:=t f;rw[C] at N;obtain⟨w,T,L⟩:=N;split at h
   ·rename_i ke S;rw[S] at a;cases a;have U:b=[]:=(KK S).2.1;subst U;have wk:w=[]:=by cases w with
     |nil=>rfl
     |cons _ _=>exact L.elim
    subst wk;refine cH.call (B2 (args:=(d.toList.map (bk fr)).toArray) (caps:=#[]) A T (by grind) rfl) ?_
    grind[tA,acG,w3]
   rename_i B;rw[B] at a;simp only at a;split at a
   ·grind
   rename_i Q;have Q:X.W R=ak:=by grind
   cases a;refine cH.call (B2 (args:=(d.toList.map (bk fr)).toArray) (caps:=w.toArray) A T (by grind) rfl) ?_;have:=(M R _ O K r (d.toList.map (bk fr)++w) I ((w3 t).append L.caps) h).mono λv g H=>(⟨H.1,H.2.1,H.2.2 Q⟩:_/\_/\_)
   grind[ab3,tA]
  ·grind
  grind
def WB{C:FuncId->Array af->Mem->af->Mem->Prop}(e:∀f a m v m',C f a m v m'->m.next<=m'.next){b:bS->af}{v:af}(h:hR P C b o m v m'):m.next<=m'.next:=by
 cases h with
 |call f a v m' h d=>grind
 |sP=>exact mo _
 |append=>exact mo _
 |_=>exact e4 _
def aq'{C:FuncId->Array af->Mem->af->Mem->Prop}(d:∀f a m v m',C f a m v m'->m.next<=m'.next){b:bS->af}{v:af}(h:ln P C b o m v m'):m.next<=m'.next:=by
 cases h with
 |new h=>exact mo _
 |fX h=>exact WB d h
 |_=>grind
def WW{C:FuncId->Array af->Mem->af->Mem->Prop}(d:∀f b m v a,C f b m v a->m.next<=a.next){e:List Oper}:∀{l:List Oper}{i g:Nat->af}{m a:Mem},k6 P C e l i m g a->m.next<=a.next
 |[],_,_,_,_,⟨_,h⟩=>by grind
 |o::l,i,g,m,a,h=>by
  unfold k6 at h;split at h
  ·obtain⟨v,n,k,j⟩:=h;exact jd (aq' d k) (WW d j)
  ·exact WW d h
def zp{C:FuncId->Array af->Mem->af->Mem->Prop}(a:∀f d m v b,C f d m v b->m.next<=b.next){e:List Oper}{B:Array Nat}:∀{l:List Oper}{i:Nat}{A:Acc}{j g:Nat->af}{m b:Mem},hW P C e B i l A j m g b->m.next<=b.next
 |[],_,_,_,_,_,_,⟨_,h⟩=>by grind
 |o::l,i,A,j,g,m,b,h=>by
  unfold hW at h;split at h
  ·rcases h with⟨v,_,h⟩|⟨v,_,_,h⟩|⟨Y,v,_,h⟩|⟨v,n,k,_,_,h⟩
   ·exact zp a h
   ·exact zp a h
   ·exact jd (mo _) (zp a h)
   ·exact jd (WB a k) (zp a h)
  ·exact zp a h
def aqZ{C:FuncId->Array af->Mem->af->Mem->Prop}(r:∀f i m v g,C f i m v g->m.next<=g.next):∀(n:Nat){c:Code}{k j:Nat->af}{m g:Mem}{e:fG},lS P C n c k m e j g->m.next<=g.next:=by
 intro n;induction n with
 |zero=>intro c k j m g e h;exact h.elim
 |succ n z=>
  intro c k j m g e h;cases c with
  |skip=>obtain⟨_,rfl,rfl⟩:=h;grind
  |label l=>obtain⟨_,rfl,rfl⟩:=h;grind
  |exit w=>obtain⟨_,rfl,rfl⟩:=h;grind
  |ret=>obtain⟨_,rfl,rfl⟩:=h;grind
  |region w F d=>
   cases d with
   |false=>exact WW r h.2
   |true=>exact zp r h.2
  |seq a b=>
   rcases h with⟨q,B,E,p,A⟩|h
   rotate_left
   ·exact h.2.next
   grind
  |cond c a b=>obtain⟨t,_,p⟩:=h;grind
  |block w c=>obtain⟨q,p,_⟩:=h;grind
  |scope c=>exact z h
  |loop c=>
   obtain⟨q,B,E,p,A⟩:=h
   grind
  |rangeFunc f H x y=>exact h.elim
  |goto l=>exact h.elim
  |refuse s=>exact h.elim
def ab6:∀(n:Nat)(f:FuncId)(a:Array af)(m:Mem)(v:af)(b:Mem),jn P n f a m v b->m.next<=b.next
 |0,_,_,_,_,_,h=>h.elim
 |n+1,f,a,m,v,b,h=>by
  rcases h with⟨_,h⟩|⟨fn,c,e,g,j,k,_,_,_,_,h,_,_,_,_,d⟩
  ·cases h<;>first|grind|grind|grind
  ·have i:=aqZ (ab6 n) n h;rcases d with rfl|⟨rfl,_⟩
   ·grind
   ·exact e4 _
def AM(m:Mem)(I:Mem->Prop)(ob:Option Nat):Prop:=∀a,(∀b,ob=J b->a.blk b=m.blk b)->I a
def ac5{b a:Nat}{v:af}(h:m.load b a=J v)(d:m'.blk b=m.blk b):m'.load b a=J v:=by
 grind[Mem.load]
theorem KY{b:Nat}(d:m'.blk b=m.blk b):∀(n a:Nat),kd m' b a n=kd m b a n
 |0,_=>rfl
 |n+1,a=>by
  have:∀o,m'.load b o=m.load b o:=λo=>by grind[Mem.load]
  simp only[kd,this,KY d n]
def uv(z:Nat->bW)(a:List af)(ob:Option Nat):l4->Prop|.py=>False|.lost=>False|.bZ=>∀b,ob=J b->(z b).iD|.ob j=>∀b,ob=J b->∃u,a[j]?=J u/\dQ u=J b
def vW(z:Nat->bW)(a:List af)(b:Nat):l4->Prop|.py=>False|.lost=>False|.bZ=>(z b).iD|.ob j=>∃u,a[j]?=J u/\dQ u=J b
def vW.at{b:Nat}{s:l4}(h:vW z vs b s):uv z vs (J b) s:=by
 cases s with
 |py=>exact h
 |lost=>exact h
 |bZ=>intro c a;cases a;exact h
 |ob j=>intro c a;cases a;exact h
def aue{s:l4}{v:af}(aN:b9 X.G O z e m k vs)(bp:∀x,rel X.G z vs (dp E x) (bk fr x))(bf:q9 E o.op=J s)(h:fH P (bk fr) o m v):
  ∃ob,AM m (λm=>fH P (bk fr) o m v) ob/\uv z vs ob s:=by
 have amR:∀{t:Nat}{c:cv D}{cs:List (cv D)}{off b VX:Nat},rel X.G z vs (.hd t (c::cs) off) (.pointer (J ⟨b,VX,ae⟩))->(z b).iD:=by
  rintro t c cs off b VX ⟨dJ,o',ds,h1,ai,aT⟩;cases h1;cases ds with
  |nil=>exact aT.elim
  |cons d ds=>exact w5 (ai 0 d rfl)
 have ptr:∀{x:bS}{b off:Nat},bk fr x=.pointer (J ⟨b,off,ae⟩)->(match dp E x with|.wb _ _=>J l4.bZ|.hd _ (_::_) _=>J l4.bZ|.box j _=>J (.ob j)|.el j _ _ _=>J (.ob j)|_=>ae)=J s->vW z vs b s:=by
  intro x b off an bf;have aV:=bp x;split at bf
  ·rename_i h1;rw[h1,an] at aV;obtain⟨_,_,g2⟩:=aV
   grind
  ·rename_i h1;cases bf;rw[h1,an] at aV;exact amR aV
  ·rename_i h1;cases bf;rw[h1,an] at aV;obtain⟨dJ,g1,g2⟩:=aV;cases g2;exact⟨_,g1,rfl⟩
  ·rename_i h1;cases bf;rw[h1,an] at aV;obtain⟨dJ,f0,l,c,g1,g2⟩:=aV;cases g2;exact⟨_,g1,rfl⟩
  grind
 have bh:∀{t:Nat}{xs:List (D t)}{b off l c:Nat},fA (X.G.T t) z xs (.slice (J ⟨b,off,ae⟩) l c)->(z b).iD:=by
  rintro t xs b off l c (⟨h1,_⟩|⟨dJ,o',c3,h1,ai,_⟩)
  ·grind
  grind
 cases h with
 |load t x b off d v h an aJ bg aD=>simp only[q9,h] at bf;exact⟨J b,λm' hm=>.load t x b off d v h an aJ bg (ac5 aD (hm b rfl)),(ptr an bf).at⟩
 |wc t x g n jx h an bB aJ bs=>
  have aV:=bp x;simp only[q9,h] at bf;have wj:s=.bZ:=by
   split at bf
   ·grind
   ·grind
   ·rename_i g1;rw[g1,an] at aV;obtain⟨_,_,g2⟩:=aV
    grind
   ·rename_i g1;rw[g1,an] at aV;obtain⟨_,_,_,_,_,g2⟩:=aV
    grind
   grind
  subst wj;exact⟨ae,λm' _=>.wc t x g n jx h an bB aJ bs,λb aw=>by grind⟩
 |wI t x b off d i cs h an aJ bg az aD=>simp only[q9,h] at bf;exact⟨J b,λm' hm=>.wI t x b off d i cs h an aJ bg az (by grind[KY]),(ptr an bf).at⟩
 |slice t x cf az cz i L b off l n dG h aJ fm an hm eW eN h1 ai aT=>
  simp only[q9,h] at bf;refine⟨J b,λm' n4=>.slice t x cf az cz i L b off l n dG h aJ fm an (by grind) eW eN h1 ai aT,vW.at ?_⟩;have aV:=bp x;split at bf
  ·rename_i g;rw[g,an] at aV;cases aV
  ·rename_i g;cases bf;rw[g,an] at aV;exact bh aV
  ·rename_i g;cases bf;rw[g,an] at aV;exact⟨_,aV.1,rfl⟩
  grind
 |vx t x cf az cz i L b off l c k n dG h aJ fm an hk hm eW eN h1 ai aT=>
  simp only[q9,h] at bf;refine⟨J b,λm' n4=>.vx t x cf az cz i L b off l c k n dG h aJ fm an hk (by grind) eW eN h1 ai aT,vW.at ?_⟩;have aV:=bp x;split at bf
  ·rename_i g;rw[g,an] at aV;cases aV
  ·rename_i g;cases bf;rw[g,an] at aV;exact bh aV
  ·rename_i g;cases bf;rw[g,an] at aV;exact⟨_,aV.1,rfl⟩
  grind
 |str jx t x cz b off l c cs h oa he aJ an aD=>
  simp only[q9,h] at bf;refine⟨J b,λm' n4=>.str jx t x cz b off l c cs h oa he aJ an (by grind[KY]),vW.at ?_⟩;have aV:=bp x;split at bf
  ·rename_i g;cases bf;rw[g,an] at aV;exact bh aV
  ·rename_i g;cases bf;rw[g,an] at aV;exact⟨_,aV.1,rfl⟩
  ·rename_i g;rw[g,an] at aV;cases aV
  ·rename_i g;rw[g,an] at aV;cases aV
  grind
 |zQ jx t x cz l c h oa he aJ an=>
  simp only[q9,h] at bf;refine⟨ae,λm' n4=>.zQ jx t x cz l c h oa he aJ an,?_⟩;have aV:=bp x;split at bf
  ·cases bf;intro b aw;grind
  ·cases bf;intro b aw;grind
  ·rename_i g;rw[g,an] at aV;cases aV
  ·rename_i g;rw[g,an] at aV;cases aV
  grind
 |lookup hZ x dx ok u bG bA b L F i z' v0 t ho h jk hu an nC tf mj bF hk bs az bx dw aR=>
  simp only[q9,h] at bf;rcases an with⟨an,hm,qN⟩|⟨an,qN⟩
  ·refine⟨J b,λm' n4=>.lookup hZ x dx ok u bG bA b L F i z' v0 t ho h jk hu (.inl ⟨an,by grind,qN⟩) nC tf mj bF hk bs az bx dw aR,vW.at ?_⟩;have aV:=bp x;split at bf
   ·rename_i g;cases bf;rw[g,an] at aV;rcases aV with⟨h1,_⟩|⟨r,h1,ai⟩
    ·grind
    ·cases h1;show(z _).iD;rw[ai];exact True.intro
   ·rename_i g;cases bf;rw[g,an] at aV;exact⟨_,aV.1,rfl⟩
   grind
  ·refine⟨ae,λm' n4=>.lookup hZ x dx ok u bG bA b L F i z' v0 t ho h jk hu (.inr ⟨an,qN⟩) nC tf mj bF hk bs az bx dw aR,?_⟩;split at bf
   ·cases bf;intro b aw;grind
   ·cases bf;intro b aw;grind
   grind
def agz(z:Nat->bW)(m:Mem)(a:List af)(I:Mem->Prop)(s:l4):Prop:=s=.lost\/∃ob,AM m I ob/\(∀b,ob=J b->b<m.next)/\uv z a ob s
structure iI(z:Nat->bW)(m:Mem)(vs:List af)(A:Acc)(L:gk):Prop where
 rd:∀x∈A.reads,∃y∈L.rd,y.1=x.1/\agz z m vs x.2 y.2
 j7:∀x∈A.iC,∃y∈L.j7,y.1=x.1/\(y.2.1=aa->m=x.2)/\∀j∈y.2.2,∃v,vs[j]?=J v/\∀b,dQ v=J b->b<m.next/\m.blk b=x.2.blk b
 jZ:∀x∈A.news,∃y∈L.jZ,y.1=x.1/\x.2<m.next/\∃v,vs[y.2]?=J v/\dQ v=J x.2
def AM.step{I:Mem->Prop}{ob q:Option Nat}(h:AM m I ob)(d:∀b,ob=J b->b<m.next)(e:gG m m' q)(f:∀b,ob=J b->q≠J b):AM m' I ob:=λi g=>h i λb a=>by
 rw[g b a,e.2 b (d b a) (f b a)]
def uv.mono{ob:Option Nat}{s:l4}(h:uv z vs ob s)(d:fl z z')(e:∀(i:Nat)(u:af),vs[i]?=J u->vs'[i]?=J u):uv z' vs' ob s:=by
 cases s with
 |py=>exact h
 |lost=>exact h
 |bZ=>intro b a;rw[d b (h b a)];exact h b a
 |ob j=>intro b a;obtain⟨u,f,g⟩:=h b a;grind
def iI.step{A:Acc}{L:gk}{q:Option Nat}(h:iI z m vs A L)(K:fl z z')(s:∀(i:Nat)(u:af),vs[i]?=J u->vs'[i]?=J u)(k:gG m m' q)
  (L':gk) (E:∀y∈L.rd,∃a∈L'.rd,a.1=y.1/\(a.2=.lost\/a.2=y.2/\∀ob,uv z vs ob y.2->∀b,ob=J b->q≠J b))
  (O:∀y∈L.j7,∃a∈L'.j7,a.1=y.1/\(a.2.1=aa->y.2.1=aa/\m'=m)/\∀j∈a.2.2,j∈y.2.2/\∀v b,vs[j]?=J v->dQ v=J b->q≠J b) (F:∀y∈L.jZ,y∈L'.jZ):iI z' m' vs' A L' where
 rd:=λx g=>by
  obtain⟨y,f,w,e⟩:=h.rd x g;obtain⟨a,B,M,d⟩:=E y f;refine⟨a,B,by grind,?_⟩;rcases d with d|⟨d,t⟩
  ·exact .inl d
  ·rcases e with e|⟨ob,r,p,l⟩
   ·exact .inl (by grind)
   ·exact .inr ⟨ob,r.step p k (t ob l),λb n=>hS (p b n) k.1,by rw[d];exact l.mono K s⟩
 j7:=λx g=>by obtain⟨y,f,w,Q,e⟩:=h.j7 x g;obtain⟨a,B,M,R,d⟩:=O y f;refine⟨a,B,by grind,λP=>by grind,λj H=>?_⟩;obtain⟨t,N⟩:=d j H;obtain⟨v,r,p⟩:=e j t;refine⟨v,s _ _ r,λb n=>?_⟩;obtain⟨l,S⟩:=p b n;exact⟨hS l k.1,by rw[k.2 b l (N v b r n)];grind⟩
 jZ:=λx g=>by obtain⟨y,f,w,e,v,C,I⟩:=h.jZ x g;exact⟨y,F y f,w,hS e k.1,v,s _ _ C,I⟩
def iI.quiet{A:Acc}{L:gk}(h:iI z m vs A L)(e:fl z z')(b:∀(i:Nat)(u:af),vs[i]?=J u->vs'[i]?=J u)(f:m'=m):iI z' m' vs' A L:=
 h.step (q:=ae) e b (by grind[gG.refl]) L (λy a=>⟨y,a,rfl,.inr ⟨rfl,λ_ _ _ _=>by simp⟩⟩) (λy a=>⟨y,a,rfl,λh=>⟨h,f⟩,λj d=>⟨d,λ_ _ _ _=>by simp⟩⟩) λy a=>a
theorem adP{j:Nat}(p:b9 X.G O z e m k vs)(h:Lc O j=aa):∃v,vs[j]?=J v/\∀b,dQ v=J b->b<m.next/\(z b≠.dead\/∃o,O[j]?=J o/\o.live=aa):=by
 unfold Lc at h;have F:∀{o:ba D},O[j]?=J o->o≠.dead->(∀t w,o≠.box t [] aa w)->∃v,vs[j]?=J v/\∀b,dQ v=J b->b<m.next/\(z b≠.dead\/∃o,O[j]?=J o/\o.live=aa):=by
  intro o n I L;obtain⟨v,x,i⟩:=p.at n;refine⟨v,x,λb f=>?_⟩;cases a:o.live with
  |true=>exact⟨(i.lt a b f).1,.inr ⟨o,n,a⟩⟩
  |false=>
   have q:z b≠.dead:=by
    cases o with
    |dead=>grind
    |bh t H bZ w=>
     cases bZ with
     |false=>cases a
     |true=>
      rcases(i:fA (X.G.T t) z H v) with⟨rfl,_⟩|⟨C,N,K,rfl,g,_⟩
      ·cases f
      ·cases f;exact g.ne
    |box t l bZ w=>
     cases bZ with
     |false=>cases a
     |true=>
      obtain⟨C,s,rfl,g,y⟩:=i;cases f;cases l with
      |nil=>grind
      |cons c l=>
       cases s with
       |nil=>exact y.elim
       |cons d s=>
        have:=g 0 d rfl
        grind[nH]
    |recv t l w=>cases a
    |arr _ _ _ _ _=>cases a
    |nest _ _ _ _ _ _=>cases a
    |map t B A E bZ w=>
     cases bZ with
     |false=>cases a
     |true=>
      rcases(i:nn (X.G.M t B A) z E v) with⟨rfl,_⟩|⟨r,rfl,g⟩
      ·cases f
      ·cases f
       grind
   refine⟨?_,.inl q⟩;exact(p.aS.bZ b q).2
 split at h
 ·grind
 ·grind
 ·grind
 grind
theorem asl{l:List Nat}{j:Nat}:l.any (fi j)=aa↔j∈l:=by
 simp_all
def adz{j:Nat}(h:tB O j=aa):∃o,O[j]?=J o/\o.live=aa:=by
 grind[tB]
theorem KH{d:List Nat}{q:Option Nat}(a:b9 X.G O z e m k vs)(y:d.all (tB O)=aa)(C:oI vs d q){j:Nat}(h:vo O d j=aa){v:af}{b:Nat}(f:vs[j]?=J v)(l:dQ v=J b):q≠J b:=by
 simp only[vo,fx,Aq] at h;rcases C with rfl|⟨i,A,w,n,rfl⟩
 ·simp
 ·intro t;have F:i≠j:=by
   grind[asl]
  obtain⟨o,g,r⟩:=adz (iA.1 y i A);have I:=((a.obj i o w g n).lt r b t).2.1;obtain⟨K,s,E⟩:=adP a h.1;rw[f] at s;cases s;rcases(E b l).2 with H|⟨p,B,x⟩
  ·grind
  ·exact a.fD i j o p w v F g B r x n f b t l
def ar0{a:List Nat}{q:Option Nat}(f:b9 X.G O z e m k vs)(g:a.all (tB O)=aa)(j:oI vs a q){b:Nat}(l:z b≠.dead):q≠J b:=by
 rcases j with rfl|⟨i,h,w,n,rfl⟩
 ·simp
 ·intro r;obtain⟨o,d,p⟩:=adz (iA.1 g i h);exact l ((f.obj i o w d n).lt p b r).2.1
theorem acK{d:List Nat}{q:Option Nat}(f:b9 X.G O z e m k vs)(g:d.all (tB O)=aa)(l:oI vs d q){s:l4}(h:G5 O d s=aa){ob:Option Nat}(a:uv z vs ob s):∀b,ob=J b->q≠J b:=by
 intro b i;cases s with
 |py=>exact a.elim
 |lost=>exact a.elim
 |bZ=>exact ar0 f g l (a b i).ne
 |ob j=>obtain⟨u,n,p⟩:=a b i;exact KH f g l h n p
def ach:∀{l:List (ba D)}{i j:Nat},j∈vf O i l->∃n o,j=i+n/\l[n]?=J o/\o.live=aa
 |[],i,j,h=>by grind[vf]
 |o::l,i,j,h=>by
  simp only[vf] at h;have a:j∈vf O (i+1) l->∃n p,j=i+n/\(o::l)[n]?=J p/\p.live=aa:=λh=>by obtain⟨n,p,f,d,b⟩:=ach h;exact⟨n+1,p,by omega,d,b⟩
  split at h
  ·rename_i e;rcases ha.1 h with rfl|h
   ·grind
   grind
  grind
def iI.fX{A:Acc}{L:gk}{q:Option Nat}{B:Array Nat}{i:Nat}{ts:List Nat}{ra:Bool}(h:iI z m vs A L)(s:b9 X.G O z e m k vs)(Y:fl z z')(I:∀(i:Nat)(u:af),vs[i]?=J u->vs'[i]?=J u)(p:gG m m' q)(F:oI vs ts q)(yW:ra=aa->m'=m)
  (Q:XF B i O L ts=aa):u7 B i A m .fX m'/\iI z' m' vs' (qL A i m .fX) (A0 i O ts ra L):=by
 simp only[XF,fx,iA,Ar] at Q;obtain⟨f,S,R⟩:=Q;have f:ts.all (tB O)=aa:=iA.2 f;refine⟨⟨λx d E=>?_,λx d E=>?_⟩,?_⟩
 ·obtain⟨y,a,H,g⟩:=h.rd x d;have:=S y a;rw[H,E] at this;have r:G5 O ts y.2=aa:=by grind
  rcases g with g|⟨ob,cL,Z,fo⟩
  ·rw[g] at r;cases r
  ·exact cL m' λb l=>p.2 b (Z b l) (acK s f F r fo b l)
 ·obtain⟨y,a,H,g,v,T,V⟩:=h.jZ x d;have:=R y a;rw[H,E] at this;have r:vo O ts y.2=aa:=by grind
  exact p.2 _ g (KH s f F r T V)
 ·have t:=h.step (L':=A0 i O ts ra L) Y I p (λy a=>?_) (λy a=>?_) λy a=>a
  ·refine⟨t.rd,λx d=>?_,t.jZ⟩;rcases ha.1 d with rfl|d
   ·refine⟨(i,aa&&ra,(vf O 0 O).filter (vo O ts)),by simp[A0],rfl,λU=>yW (by grind),λj K=>?_⟩;obtain⟨C,w⟩:=List.mem_filter.1 K;obtain⟨n,o,N,g2,g3⟩:=ach C;rw[lH] at N;subst N;obtain⟨v,P,g5⟩:=s.at g2;refine⟨v,I _ _ P,λb l=>?_⟩;have M:=(g5.lt g3 b l).1;exact⟨hS M p.1,p.2 b M (KH s f F w P l)⟩
   ·exact t.j7 x d
  ·refine⟨if G5 O ts y.2=aa then y else(y.1,.lost),l2.2 ⟨y,a,rfl⟩,by grind,?_⟩
   grind[acK]
  ·refine⟨(y.1,y.2.1&&ra,y.2.2.filter (vo O ts)),l2.2 ⟨y,kn _ a,rfl⟩,rfl,λU=>by grind,λj K=>?_⟩
   grind[KH]
def iI.A1{A:Acc}{L:gk}{B:Array Nat}{i:Nat}(h:iI z m vs A L)(g:∀(i:Nat)(u:af),vs[i]?=J u->vs'[i]?=J u)(n:m.next<=m'.next)
  (r:Xo B i L=aa):u7 B i A m .fX m'/\iI z' m' vs' (qL A i m .fX) (XG i L):=by
 simp only[Xo,fx,iA] at r;refine⟨⟨λx a p=>?_,λx a p=>?_⟩,⟨λx a=>?_,λx a=>?_,λx a=>?_⟩⟩
 ·obtain⟨y,b,d,_⟩:=h.rd x a
  grind
 ·obtain⟨y,b,d,_⟩:=h.jZ x a
  grind
 ·obtain⟨y,b,d,_⟩:=h.rd x a;exact⟨(y.1,.lost),l2.2 ⟨y,b,rfl⟩,d,.inl rfl⟩
 ·rcases ha.1 a with rfl|a
  ·exact⟨(i,ak,[]),oG,rfl,λf=>Yy f,λj e=>absurd e (by simp)⟩
  ·obtain⟨y,b,d,_⟩:=h.j7 x a;exact⟨(y.1,ak,[]),kn _ (l2.2 ⟨y,b,rfl⟩),d,λf=>Yy f,λj e=>absurd e (by simp)⟩
 ·obtain⟨y,b,d,l,v,k,q⟩:=h.jZ x a;exact⟨y,b,d,hS l n,v,g _ _ k,q⟩
def iI.afq{A:Acc}{L:gk}(h:iI z m vs A L)(i:Nat)(s:l4)(n:Option Nat):iI z m vs A (pD i s n L) where
 rd:=λx b=>by
  obtain⟨y,d,a,e⟩:=h.rd x b;refine⟨y,?_,a,e⟩;unfold pD
  grind
 j7:=λx b=>by
  obtain⟨y,d,a,e,f⟩:=h.j7 x b;cases n with
  |none=>exact⟨y,d,a,e,f⟩
  |some j=>exact⟨(y.1,ak,y.2.2),l2.2 ⟨y,d,rfl⟩,a,(by simp),f⟩
 jZ:=λx b=>by
  obtain⟨y,d,a⟩:=h.jZ x b;refine⟨y,?_,a⟩;unfold pD
  grind
structure gC(fK:Nat)(z0 z:Nat->bW)(fr:Nat->af)(E:List (Nat×bc D))(m:Mem)(A:Acc)(L:gk):Prop where
 le:fl z0 z
 n:fK<=m.next
 lt:∀b,(z0 b).iD->b<fK
 lK:∀x∈A.iC,∀b,(z0 b).iD->m.blk b=x.2.blk b
 ew:∀d,(L.pg.any (fi d))=ak->y4 (eI E d)=aa->∀b,dQ (fr d)=J b->(z0 b).iD
variable {z0:Nat->bW}
def gC.at{e:Nat}{A:Acc}{L:gk}(h:gC e z0 z fr E m A L){x:bS}(a:tr E L x=aa):∀b,dQ (bk fr x)=J b->(z0 b).iD:=by
 unfold tr at a;split at a
 ·rename_i d;simp only[fx,Aq] at a;exact h.ew d a.1 a.2
 grind
def gC.read{fK:Nat}{A:Acc}{L:gk}{B:Array Nat}{i:Nat}{v:af}(h:gC fK z0 z fr E m A L)(f:abf E L o.op=aa)(X:fH P (bk fr) o m v):∀x∈A.iC,gD B i x.1=ak->fH P (bk fr) o x.2 v:=by
 intro x Y bl;have Z:=h.lK x Y;cases X with
 |load t q b a d v r e j H C=>rw[r] at f;have:=h.at f b (by rw[e];rfl);exact .load t q b a d v r e j H (ac5 C (Z b this).symm)
 |wc t q g n S r e bB j T=>exact .wc t q g n S r e bB j T
 |wI t q b a d i U r e j H s C=>rw[r] at f;have:=h.at f b (by rw[e];rfl);exact .wI t q b a d i U r e j H s (by grind[KY])
 |slice t q I s w i y b a l n r p j N e hm M K O Q R=>rw[p] at f;have:=h.at f b (by rw[e];rfl);exact .slice t q I s w i y b a l n r p j N e (by grind) M K O Q R
 |vx t q I s w i y b a l c k n r p j N e V hm M K O Q R=>rw[p] at f;have:=h.at f b (by rw[e];rfl);exact .vx t q I s w i y b a l c k n r p j N e V (by grind) M K O Q R
 |str S t q w b a l c U p oa he j e C=>rw[p] at f;cases f
 |zQ S t q w l c p oa he j e=>rw[p] at f;cases f
 |lookup hZ q dx ok u bG bA b y F i z' v0 t ho p jk hu e nC tf mj bF V T s bx dw hB=>rw[p] at f;cases f
def gC.jP{a:Nat}{A:Acc}{L:gk}(h:gC a z0 z fr E m A L)(b:fl z z'):gC a z0 z' fr E m A L:=⟨h.le.trans b,h.n,h.lt,h.lK,h.ew⟩
def arq{L:gk}{v:af}{fK:Nat}{A:Acc}(h:gC fK z0 z fr E m A L)(p:rK E L o.op=aa)(bb:dD P (bk fr) o v):∀b,dQ v=J b->(z0 b).iD:=by
 have lK:∀{w:af},flat w=aa->∀b,dQ w=J b->(z0 b).iD:=by
  intro w N b B;cases w with
  |pointer a=>cases a with
   |none=>cases B
   |some a=>cases N
  |slice a l c=>cases a with
   |none=>cases B
   |some a=>cases N
  |map r=>cases r with
   |none=>cases B
   |some r=>cases N
  |_=>cases B
 cases bb with
 |flat v T s Z aV=>grind
 |move x j=>
  rcases j with j|j
  ·rw[j] at p;exact h.at p
  ·rw[j] at p;exact h.at p
 |nilCheck x a j s=>rw[j] at p;intro b B;exact h.at p b (by grind)
 |fieldAddr t x i S f k b q j K bF hk T s=>rw[j] at p;intro c F;exact h.at p c (by rw[s];exact F)
 |indexAddr t x y e i b q l c k n j K C s Q R V=>rw[j] at p;intro c F;exact h.at p c (by rw[s];exact F)
 |JC t x y bX i l g kk n M K C T s Q R V aR=>intro b B;cases B
 |J4 t x y e i b q l k n j K C s Q R V=>rw[j] at p;intro c F;exact h.at p c (by rw[s];exact F)
 |pick c a b t j F=>rw[j] at p;cases p
 |extract x i us v j s Z=>rw[j] at p;cases p
 |field t x i S f d I v j _ _ _ _ _=>rw[j] at p;cases p
 |J6 t x y e d i l k n I j=>rw[j] at p;cases p
 |J5 t x y e d i l k n I v j=>rw[j] at p;cases p
 |build t cQ S i z I j _ _ _ _ _ _=>rw[j] at p;cases p
 |Jg t cQ n e i k z I j _ _ _ _ _ _=>rw[j] at p;cases p
 |slice t x U C e i b q l c n M j _ _ _ _ _ _ _ _ _=>rw[j] at p;cases p
 |nc t x U C e i j _ _ _ _ _=>rw[j] at p;cases p
 |slice3 t x X C e i b q l c M k' Y j _ _ _ _ _ _ _=>rw[j] at p;cases p
 |P5 t x U C X e i b q l c n M k' Kb J9 Y j _ _ _ _ _ _ _ _ _=>rw[j] at p;cases p
 |P4 t x X C e i Y j _ _ _ _ _=>rw[j] at p;cases p
 |len x t e a l c j _ _=>rw[j] at p;cases p
 |Jj x t e j _ _=>rw[j] at p;cases p
 |A2 O x y t u e a l c j _ _ _=>rw[j] at p;cases O<;>cases p
 |func fn first H j _=>rw[j] at p;cases p
def gC.put{j:Nat}{A:Acc}{L:gk}{v:af}{i:bc D}(h:gC j z0 z fr E m A L)(p:rK E L o.op=aa->∀b,dQ v=J b->(z0 b).iD):gC j z0 z (set fr o.dst v) (na E o.dst i) m A (sx E o L):=by
 cases r:o.dst with
 |none=>
  have e:sx E o L=L:=by grind[sx]
  rw[e];exact⟨h.le,h.n,h.lt,h.lK,h.ew⟩
 |some d=>
  refine⟨h.le,h.n,h.lt,h.lK,λc q g b a=>?_⟩;by_cases f:c=d
  ·subst f;simp only[set,if_true] at a;by_cases l:rK E L o.op=aa
   ·grind
   simp_all[sx]
  ·simp only[set,if_neg f] at a;have k:eI (na E (J d) i) c=eI E c:=by
    grind[na,eI,kA]
   rw[k] at g;refine h.ew c ?_ g b a
   grind[sx,kA]
def gC.log{b:Nat}{A d:Acc}{L a:gk}(h:gC b z0 z fr E m A L)(f:d.iC=A.iC)(e:a.pg=L.pg):gC b z0 z fr E m d a:=⟨h.le,h.n,h.lt,by rw[f];exact h.lK,by rw[e];exact h.ew⟩
theorem gC.grow{e:Nat}{A:Acc}{L:gk}(h:gC e z0 z fr E m A L)(d:gG m m' ae):gC e z0 z fr E m' A L:=⟨h.le,jd h.n d.1,h.lt,λx f b a=>by
 rw[d.2 b (hS (h.lt b a) h.n) (by simp)];exact h.lK x f b a,h.ew⟩
def gC.fX{g i:Nat}{A:Acc}{L:gk}{q:Option Nat}{ts:List Nat}{ra:Bool}(h:gC g z0 z fr E m A L)(f:gG m m' q)(j:∀b,(z0 b).iD->q≠J b):gC g z0 z fr E m' (qL A i m .fX) (A0 i O ts ra L):=by
 have e:∀b,(z0 b).iD->m'.blk b=m.blk b:=λb a=>f.2 b (hS (h.lt b a) h.n) (λk=>j b a k);refine⟨h.le,jd h.n f.1,h.lt,λx d b a=>?_,h.ew⟩;rcases ha.1 d with rfl|d
 ·grind
 ·rw[e b a];exact h.lK x d b a
def gC.A1{l i:Nat}{A:Acc}{L:gk}{r:Option Nat}(h:gC l z0 z fr E m A L)(q:m.next<=m'.next)(j:fl z z')(s:dL z e m k)(t:dL z' e m' r):gC l z0 z' fr E m' (qL A i m .fX) (XG i L):=by
 have f:∀b,(z0 b).iD->m'.blk b=m.blk b:=λb a=>by have p:=h.le b a;have g:=j b (by grind);rw[(s.bZ b (by rw[p];exact a.ne)).1,(t.bZ b (by rw[g,p];exact a.ne)).1,g]
 refine⟨h.le.trans j,jd h.n q,h.lt,λx d b a=>?_,h.ew⟩;rcases ha.1 d with rfl|d
 ·grind
 ·rw[f b a];exact h.lK x d b a
def asa{f:List Nat}{q:Option Nat}(h:b9 X.G O z e m k vs)(j:f.all (tB O)=aa)(d:oI vs f q)(r:fl z0 z):∀b,(z0 b).iD->q≠J b:=by
 intro b a t;rcases d with d|⟨i,l,v,g,s⟩
 ·grind
 ·have:=iA.1 j i l;unfold tB at this;split at this
  ·rename_i p n;have:=((h.obj i p v n g).lt this b (by grind)).2.1;rw[r b a] at this;rw[this] at a;exact a.elim
  grind
def gC.start{E:List (Nat×bc D)}(aN:b9 X.G O z e m k vs)(bp:∀d,rel X.G z vs (eI E d) (fr d)):gC m.next z z fr E m ⟨[],[],[]⟩ ⟨[],[],[],[],[]⟩:=by
 refine⟨fl.refl z,e4 _,λb aw=>(aN.aS.bZ b aw.ne).2,by simp,λd _ bF b aw=>?_⟩;have aV:=bp d;unfold y4 at bF;split at bF
 ·rename_i bX xs bf;rw[bf] at aV;rcases(aV:fA (X.G.T bX) z xs (fr d)) with⟨h1,_⟩|⟨dJ,o',c3,h1,ai,_⟩
  ·rw[h1] at aw;cases aw
  ·rw[h1] at aw;cases aw
   grind
 ·rename_i t c cs off bf;rw[bf] at aV;obtain⟨b,o',ds,h1,ai,aT⟩:=aV;rw[h1] at aw;cases aw;cases ds with
  |nil=>exact aT.elim
  |cons d ds=>
   have br:=ai 0 d rfl
   grind[w5]
 grind
def w9{A:Acc}{L:gk}{E:List (Nat×bc D)}(h:iI z m vs A L):iI z m vs A (sx E o L):=by
 unfold sx;split
 ·grind
 ·split<;>exact⟨h.rd,h.j7,h.jZ⟩
def iI.read{A:Acc}{L:gk}{B:Array Nat}{i:Nat}{s:l4}{v:af}{n:Option Nat}(h:iI z m vs A L)(aN:b9 X.G O z e m k vs)(bp:∀x,rel X.G z vs (dp E x) (bk fr x))(bx:fl z z')(aD:∀(i:Nat)(u:af),vs[i]?=J u->vs'[i]?=J u)
  {fK:Nat} (bf:q9 E o.op=J s) (hk:(zO B i O L s||Lm B i E L s o.op)=aa) (aV:fH P (bk fr) o m v) (bs:gC (D:=D) fK z0 z fr E m A L):
  u7 B i A m (.read λm=>fH P (bk fr) o m v) m/\iI z' m vs' (qL A i m (.read λm=>fH P (bk fr) o m v)) (pD i s n L):=by
 obtain⟨ob,h1,ai⟩:=aue aN bp bf aV;rw[Ar] at hk;have lt:∀b,ob=J b->b<m.next:=by
  intro b aw;cases s with
  |py=>exact ai.elim
  |lost=>exact ai.elim
  |bZ=>have bx:=ai b aw;exact(aN.aS.bZ b bx.ne).2
  |ob j=>
   have hk:zO B i O L (.ob j)=aa:=hk.resolve_right (by simp[Lm,aaj]);simp only[zO,fx] at hk;obtain⟨u,g1,g2⟩:=ai b aw
   grind[adP]
 refine⟨λx an bl=>?_,?_⟩
 ·rcases hk with hk|hk
  case inr=>
   simp only[Lm,fx] at hk;exact bs.read (B:=B) hk.2 aV x an bl
  obtain⟨y,aZ,cL,lu,c9⟩:=h.j7 x an;refine h1 x.2 λb aw=>?_;cases s with
  |py=>exact ai.elim
  |lost=>exact ai.elim
  |bZ=>
   grind[zO]
  |ob j=>
   simp only[zO,fx,iA,Ar] at hk;have:=hk.2 y aZ;rw[cL,bl] at this;have bn:y.2.1=aa\/j∈y.2.2:=by
    rcases this with h|h|h
    ·grind
    ·grind
    simp_all
   rcases bn with bn|bn
   ·grind
   obtain⟨cc,g1,g2⟩:=c9 j bn;obtain⟨u,g3,g4⟩:=ai b aw
   grind
 ·have aS:=((h.quiet (fl.refl z) (λ_ _ h=>h) rfl).afq i s n).quiet (m':=m) bx aD rfl;refine⟨λx an=>?_,aS.j7,aS.jZ⟩;rcases ha.1 an with rfl|an
  ·refine⟨(i,s),?_,rfl,.inr ⟨ob,h1,lt,ai.mono bx aD⟩⟩;unfold pD;cases s<;>first|exact ai.elim|grind
  ·exact aS.rd x an
def ato{Y:bW}{v:af}{g:bc D}{n:Option Nat}{N:Nat}(h:jC P (bk fr) o N Y v)(a:rel X.G z vs g v)(e:XZ g=J n):∃j,n=J j/\∃u,vs[j]?=J u/\dQ u=J N:=by
 have d:dQ v=J N:=by cases h<;>rfl
 unfold XZ at e;split at e
 ·cases e;exact⟨_,rfl,v,a.1,d⟩
 ·cases e;obtain⟨b,f,rfl⟩:=a;exact⟨_,rfl,_,f,d⟩
 ·cases e;obtain⟨b,l,f,rfl⟩:=a;exact⟨_,rfl,_,f,d⟩
 ·have a:v=.int _ _:=a;rw[a] at d;cases d
 ·have a:v=aF.str _:=a;rw[a] at d;cases d
 grind
def iI.new{A:Acc}{L:gk}{i:Nat}{s:l4}{j:Nat}{Y:bW}(h:iI z m vs A L)(g:fl z z')(f:∀(i:Nat)(u:af),vs[i]?=J u->vs'[i]?=J u)(e:∃u,vs'[j]?=J u/\dQ u=J m.next):
  iI z' (m.push Y) vs' (qL A i m .new) (pD i s (J j) L):=by
 have b:=h.step (m':=m.push Y) (q:=ae) g f (gG.push m Y) (pD i s (J j) L) (λy a=>⟨y,by unfold pD;grind,rfl,.inr ⟨rfl,λ_ _ _ _=>by simp⟩⟩)
  (λy a=>⟨(y.1,ak,y.2.2),l2.2 ⟨y,a,rfl⟩,rfl,by simp,λj e=>⟨e,λ_ _ _ _=>by simp⟩⟩) λy a=>kn _ a
 refine⟨b.rd,b.j7,λx d=>?_⟩;rcases ha.1 d with rfl|d
 ·obtain⟨u,k,l⟩:=e;exact⟨(i,j),by simp[pD],rfl,Nat.lt_succ_self _,u,k,l⟩
 ·exact b.jZ x d
end
end
section
section
variable {P:bI}{D:Nat->Type}{X:e3 P D}{ap:Type}{z z':Nat->bW}{e m m':Mem}{k:Option Nat}{vs:List af}{fr:Nat->af}{E:List (Nat×bc D)}{O:List (ba D)}{o:Oper}{r:ap}
def fj(X:e3 P D)(z:Nat->bW)(b:List af)(E:List (Nat×bc D))(a:Nat->af):Prop:=∀d,rel X.G z b (eI E d) (a d)
def fj.mono(h:fj X z vs E fr){a:List af}(e:fl z z')(b:∀(i:Nat)(u:af),vs[i]?=J u->a[i]?=J u):fj X z' a E fr:=λd=>rel.mono (h d) e b
theorem fj.cons(h:fj X z vs E fr){d:Nat}{s:bc D}(a:rel X.G z vs s (fr d)):fj X z vs ((d,s)::E) fr:=λi=>by
 simp only[eI];split
 ·simp_all
 ·exact h i
def fj.put(h:fj X z vs E fr){d:Option Nat}{s:bc D}{v:af}(b:rel X.G z vs s v):fj X z vs (na E d s) (set fr d v):=by
 cases d with
 |none=>exact h
 |some d=>
  intro i;simp only[na,eI,set];split
  ·simp_all
  ·rename_i a;rw[if_neg]
   ·exact h i
   ·intro e;simp_all
def je(X:e3 P D)(O:List (ba D))(z:Nat->bW)(e:Mem)(k:Option Nat)(j:List af)(K:List (Nat×bc D)->List (ba D)->Option ap)(r:ap)(g:Nat->af)(h:Mem):Prop:=∃d a f b,Inv O b/\dT e.next z d/\(∀(i:Nat)(u:af),j[i]?=J u->a[i]?=J u)/\b9 X.G b d e h k a/\fj X d a f g/\K f b=J r
def je.from{K:List (Nat×bc D)->List (ba D)->Option ap}{b:Nat->af}{f:Nat->bW}{g:List af}{d:List (ba D)}(n:Inv O d)(s:dT e.next z f)(j:∀(i:Nat)(u:af),vs[i]?=J u->g[i]?=J u)(h:je X d f e k g K r b m'):je X O z e k vs K r b m':=by
 obtain⟨B,a,x,w,p,y,m,l,q,t⟩:=h;exact⟨B,a,x,w,n.trans p,s.trans y,λi u A=>m i u (j i u A),l,q,t⟩
def je.here{K:List (Nat×bc D)->List (ba D)->Option ap}(a:b9 X.G O z e m k vs)(b:fj X z vs E fr)(d:K E O=J r):je X O z e k vs K r fr m:=⟨z,vs,E,O,Inv.refl O,dT.refl z,λ_ _ h=>h,a,b,d⟩
def acJ{d:Nat}{K:List (Nat×bc D)->Option ap}(e:fj X z vs E fr)(h:vn E d K=J r):∃f,fj X z vs f fr/\K f=J r:=by
 unfold vn at h;have a:=e d;split at h
 ·rename_i b g;rw[g] at a;cases b with
  |true=>rw[if_pos rfl] at h;exact⟨_,e.cons (s:=.c (.bool aa)) a,h⟩
  |false=>rw[if_neg (by simp)] at h;exact⟨_,e.cons (s:=.c (.bool ak)) a,h⟩
 ·grind
 grind
def atd(q:iV X){K:List (Nat×bc D)->List (ba D)->Option ap}(i:b9 X.G O z e m k vs)(a:fj X z vs E fr)(h:BI X o E O K=J r):cH P (bk fr) o m λ_ v b=>je X O z e k vs K r (set fr o.dst v) b:=by
 have A:∀{E:List (Nat×bc D)},fj X z vs E fr->iR X o.op E O (λv O=>K (na E o.dst v) O)=J r->cH P (bk fr) o m λ_ v b=>je X O z e k vs K r (set fr o.dst v) b:=by intro E a h;refine cH.mono (Ln q rfl i (WN a) h) ?_;rintro t v b ⟨w,d,y,s,l,g,f,j,n,p⟩;exact⟨w,d,_,s,l,g,f,j,(a.mono g.le f).put n,p⟩
 unfold BI at h;split at h
 ·obtain⟨x,B,h⟩:=acJ a h
  grind
 grind
def B9(x:iV X){a:List Oper}{K:List (Nat×bc D)->List (ba D)->Option ap}:∀{l:List Oper}{E:List (Nat×bc D)}{O:List (ba D)}{z:Nat->bW}{g:List af}{m:Mem}{f:Nat->af},b9 X.G O z e m k g->fj X z g E f->tM X a l E O K=J r->ea P a l (je X O z e k g K r) f m
 |[],E,O,z,g,m,f,n,p,h=>ea.nil (je.here n p h)
 |o::l,E,O,z,g,m,f,n,p,h=>by
  unfold tM at h;have q:∀{E:List (Nat×bc D)},fj X z g E f->(BI X o E O λE O=>tM X a l E O K)=J r->cH P (bk f) o m λ_ v H=>ea P a l (je X O z e k g K r) (set f o.dst v) H:=by intro E p h;refine cH.mono (atd x n p h) ?_;rintro t v H ⟨Z,T,U,V,N,S,L,I,Q,R⟩;exact ea.mono (B9 x I Q R) λ_ _ M=>M.from N S L
  split at h
  ·grind[ea.Ue,wanted]
  ·rename_i j w F;split at h
   ·grind
   ·rename_i d C;obtain⟨Y,y,h⟩:=acJ p h;have i:=y d;split at h
    ·rename_i b B;rw[B] at i;split at h
     ·rename_i A;exact ea.Ud F C i A (q y h)
     ·rename_i A;exact ea.P3 F C i (by cases b<;>cases w<;>simp at A⊢) (B9 x n (y.put (s:=.undef) rfl) h)
    ·rename_i B;rw[B] at i;exact ea.X6 F C i (B9 x n (y.put (s:=.undef) rfl) h)
    grind
variable {z0:Nat->bW}
def acq{d:Nat}{K:List (Nat×bc D)->Option ap}(g:fj X z vs E fr)(h:vn E d K=J r):∃e,fj X z vs e fr/\(∀c,eI e c=eI E c\/y4 (eI e c)=ak)/\K e=J r:=by
 have f:=g d;have a:∀{b:Bool}(c:Nat),eI ((d,.c (.bool b))::E) c=eI E c\/y4 (eI ((d,.c (.bool b))::E) c)=ak:=by
  intro b c;simp only[eI];split
  ·exact .inr rfl
  grind
 unfold vn at h;split at h
 ·rename_i b j;rw[j] at f;have f:fr d=.bool b:=f;split at h
  ·rename_i i;exact⟨_,g.cons (by grind),a,h⟩
  ·rename_i i;exact⟨_,g.cons (by grind),a,h⟩
 ·grind
 grind
def gC.split{f:Nat}{A:Acc}{L:gk}{b:List (Nat×bc D)}(h:gC f z0 z fr E m A L)(a:∀c,eI b c=eI E c\/y4 (eI b c)=ak):gC f z0 z fr b m A L:=⟨h.le,h.n,h.lt,h.lK,λd g e=>by
 rcases a d with a|a
 ·rw[a] at e;exact h.ew d g e
 grind⟩
def gC.skip{g:Nat}{A:Acc}{L:gk}{a:Option Nat}(h:gC g z0 z fr E m A L):gC g z0 z (set fr a undef) (na E a .undef) m A L:=by
 cases a with
 |none=>exact h
 |some d=>
  refine⟨h.le,h.n,h.lt,h.lK,λc i e b f=>?_⟩;simp only[na,eI] at e;split at e
  ·cases e
  ·rename_i j;have:c≠d:=by rintro rfl;simp_all
   simp only[set,if_neg this] at f;exact h.ew c i e b f
def ad'(cW:iV X){B:Array Nat}{ops l:List Oper}{i:Nat}{A:Acc}{L:gk}{fK:Nat}{Q:(Nat->af)->Mem->Prop}{K:gk->List (Nat×bc D)->List (ba D)->Option ap}(aN:b9 X.G O z e m k vs)(bp:fj X z vs E fr)(dE:iI z m vs A L)(bs:gC fK z0 z fr E m A L)(h:Km X B i o L E O K=J r)
  (hk:∀{z':Nat->bW}{vs':List af}{m':Mem}{iH:Acc}{L':gk}{E':List (Nat×bc D)}{cr:List (ba D)}{v:af},Inv O cr->dT e.next z z'->(∀(i:Nat)(u:af),vs[i]?=J u->vs'[i]?=J u)->b9 X.G cr z' e m' k vs'->fj X z' vs' E' (set fr o.dst v)->iI z' m' vs' iH L'->gC fK z0 z' (set fr o.dst v) E' m' iH L'->K L' E' cr=J r->hQ P ops B (i+1) l iH Q (set fr o.dst v) m'):
  cH P (bk fr) o m λt v m1=>u7 B i A m t m1/\hQ P ops B (i+1) l (qL A i m t) Q (set fr o.dst v) m1:=by
 have cY:=WN bp;unfold Km at h;split at h
 ·rename_i qQ;split at h
  ·rename_i ts aJ;obtain⟨my,h⟩:=gz h;have sR:∀{v:af},fH P (bk fr) o m v->False:=λaV=>by
    have:=Ks aV;revert this qQ;cases o.op<;>simp[lT,looks]
   have Ub:∀{Y:bW}{v:af},jC P (bk fr) o m.next Y v->False:=λaV=>by have:=BK aV;revert this qQ;cases o.op<;>simp[lT,sg]
   have r5:rK E L o.op=aa->False:=λbg=>by revert bg qQ;cases o.op<;>simp[lT,rK]
   refine(ate cW aN cY qQ aJ h).Ke (λv _ cp=>?_) (λv aV _=>(sR aV).elim) (λY v aV _=>(Ub aV).elim) λn v m' he cp=>?_
   ·obtain⟨_,⟨z',vs',dR,cr,bR,h1,ai,aT,br,cK⟩,yW,q,ay,bm⟩:=cp;obtain⟨g1,g2⟩:=dE.fX (B:=B) (ra:=tA X E O o.op) aN h1.le ai (gG.any (gG.refl m) ae) (.inl rfl) (λ_=>rfl) my;have e2:=(bs.fX (O:=O) (ts:=ts) (q:=ae) (i:=i) (ra:=tA X E O o.op) (gG.refl m) (λb _=>by simp)).jP h1.le;exact⟨trivial,hk bR h1 ai aT ((bp.mono h1.le ai).put br) (w9 ⟨g2.rd,λx an=>g2.j7 x (kn _ an),g2.jZ⟩) (gC.put ⟨e2.le,e2.n,e2.lt,λx an=>e2.lK x (kn _ an),e2.ew⟩ λbg=>(r5 bg).elim) cK⟩
   ·obtain⟨⟨z',vs',dR,cr,bR,h1,ai,aT,br,cK⟩,yW,q,ay,bm⟩:=cp;obtain⟨g1,g2⟩:=dE.fX (B:=B) aN h1.le ai ay bm yW my;exact⟨g1,hk bR h1 ai aT ((bp.mono h1.le ai).put br) (w9 g2) (gC.put ((bs.fX ay (asa aN (Bool.and_eq_true_iff.1 my).1 bm bs.le)).jP h1.le) λbg=>(r5 bg).elim) cK⟩
  ·obtain⟨my,h⟩:=gz h;have sR:∀{v:af},fH P (bk fr) o m v->False:=λaV=>by
    have:=Ks aV;revert this qQ;cases o.op<;>simp[lT,looks]
   have Ub:∀{Y:bW}{v:af},jC P (bk fr) o m.next Y v->False:=λaV=>by have:=BK aV;revert this qQ;cases o.op<;>simp[lT,sg]
   have r5:rK E L o.op=aa->False:=λbg=>by revert bg qQ;cases o.op<;>simp[lT,rK]
   refine(Ln cW rfl aN cY h).Ke (λv _ cp=>?_) (λv aV _=>(sR aV).elim) (λY v aV _=>(Ub aV).elim) λn v m' he cp=>?_
   ·obtain⟨_,z',vs',dR,cr,bR,h1,ai,aT,br,cK⟩:=cp;obtain⟨g1,g2⟩:=dE.A1 (z':=z') (m':=m) ai (e4 _) my;have e2:=bs.A1 (i:=i) (e4 _) h1.le aN.aS aT.aS;exact⟨trivial,hk bR h1 ai aT ((bp.mono h1.le ai).put br) (w9 ⟨g2.rd,λx an=>g2.j7 x (kn _ an),g2.jZ⟩) (gC.put ⟨e2.le,e2.n,e2.lt,λx an=>e2.lK x (kn _ an),e2.ew⟩ λbg=>(r5 bg).elim) cK⟩
   ·obtain⟨z',vs',dR,cr,bR,h1,ai,aT,br,cK⟩:=cp;have bB:=WB (ab6 n) he;obtain⟨g1,g2⟩:=dE.A1 (z':=z') ai bB my;exact⟨g1,hk bR h1 ai aT ((bp.mono h1.le ai).put br) (w9 g2) (gC.put (bs.A1 bB h1.le aN.aS aT.aS) λbg=>(r5 bg).elim) cK⟩
 ·rename_i qQ;split at h
  ·rename_i s bf;obtain⟨my,h⟩:=gz h;refine(Ln cW rfl aN cY h).Ke (λv bb cp=>?_) (λv aV cp=>?_) (λY v aV cp=>?_) λn v m' he _=>absurd (Wt he) qQ
   ·obtain⟨_,z',vs',dR,cr,bR,h1,ai,aT,br,cK⟩:=cp;dsimp only at cK;split at cK
    ·rename_i n bB;exact⟨trivial,hk bR h1 ai aT ((bp.mono h1.le ai).put br) (w9 ((dE.quiet h1.le ai rfl).afq i s n)) (gC.put (L:=pD i s n L) ((bs.jP h1.le).log rfl rfl) λbg=>arq bs bg bb) cK⟩
    grind
   ·obtain⟨z',vs',dR,cr,bR,h1,ai,aT,br,cK⟩:=cp;dsimp only at cK;split at cK
    ·rename_i n bB;obtain⟨g1,g2⟩:=dE.read (n:=n) (B:=B) (i:=i) aN cY h1.le ai bf my aV bs;exact⟨g1,hk bR h1 ai aT ((bp.mono h1.le ai).put br) (w9 g2) (gC.put (L:=pD i s n L) ((bs.jP h1.le).log rfl rfl) λbg=>(by
      have:=Ks aV;revert this bg;cases o.op<;>simp[rK,looks])) cK⟩
    grind
   ·obtain⟨z',vs',dR,cr,bR,h1,ai,aT,br,cK⟩:=cp;dsimp only at cK;split at cK
    ·rename_i n bB;rw[abH,if_pos (BK aV)] at bB;obtain⟨j,rfl,bn⟩:=ato aV br bB;exact⟨trivial,hk bR h1 ai aT ((bp.mono h1.le ai).put br) (w9 (dE.new (i:=i) (s:=s) (Y:=Y) h1.le ai bn)) (gC.put (L:=pD i s (J j) L) (((bs.grow (gG.push m Y)).jP h1.le).log rfl rfl) λbg=>(by
      have:=BK aV;revert this bg;cases o.op<;>simp[rK,sg])) cK⟩
    grind
  grind
def atq(x:iV X){B:Array Nat}{b l:List Oper}{i:Nat}{A:Acc}{L:gk}{C:Nat}{Q:(Nat->af)->Mem->Prop}{K:gk->List (Nat×bc D)->List (ba D)->Option ap}(q:b9 X.G O z e m k vs)(s:fj X z vs E fr)(y:iI z m vs A L)(w:gC C z0 z fr E m A L)(h:BH X B i o L E O K=J r)
  (F:∀{d:Nat->bW}{a:List af}{g:Mem}{p:Acc}{j:gk}{f:List (Nat×bc D)}{n:List (ba D)}{v:af},Inv O n->dT e.next z d->(∀(i:Nat)(u:af),vs[i]?=J u->a[i]?=J u)->b9 X.G n d e g k a->fj X d a f (set fr o.dst v)->iI d g a p j->gC C z0 d (set fr o.dst v) f g p j->K j f n=J r->hQ P b B (i+1) l p Q (set fr o.dst v) g):
  cH P (bk fr) o m λt v H=>u7 B i A m t H/\hQ P b B (i+1) l (qL A i m t) Q (set fr o.dst v) H:=by
 unfold BH at h;split at h
 ·rename_i S M;obtain⟨f,R,N,h⟩:=acq s h;have I:=w.split N;exact ad' x q R y I h F
 ·exact ad' x q s y w h F
def hQ.mono{a l:List Oper}{B:Array Nat}{i:Nat}{A:Acc}{K b:(Nat->af)->Mem->Prop}(h:hQ P a B i l A K fr m)(g:∀fr m,K fr m->b fr m):hQ P a B i l A b fr m:=
 let⟨n,e,j,f,d⟩:=h;⟨n,e,j,f,g _ _ d⟩
def K0(C:iV X){B:Array Nat}{f:List Oper}{R:Nat}{K:List (Nat×bc D)->List (ba D)->Option ap}:∀{l:List Oper}{i:Nat}{A:Acc}{L:gk}{E:List (Nat×bc D)}{O:List (ba D)}{z:Nat->bW}{g:List af}{m:Mem}{a:Nat->af},b9 X.G O z e m k g->fj X z g E a->iI z m g A L->gC R z0 z a E m A L->vu X B f i l L E O K=J r->hQ P f B i l A (je X O z e k g K r) a m
 |[],i,A,L,E,O,z,g,m,a,p,q,F,T,h=>hQ.done λcb bF=>by rw[bF];exact je.here p q h
 |o::l,i,A,L,E,O,z,g,m,a,p,q,F,T,h=>by
  unfold vu at h;have x:∀{E:List (Nat×bc D)},fj X z g E a->gC R z0 z a E m A L->(BH X B i o L E O λL E O=>vu X B f (i+1) l L E O K)=J r->cH P (bk a) o m λt v S=>u7 B i A m t S/\hQ P f B (i+1) l (qL A i m t) (je X O z e k g K r) (set a o.dst v) S:=by intro E q w h;refine atq C p q F w h ?_;intro z' vs' m' iH L' E' cr v bR h1 Y V br cK jH fJ;exact hQ.mono (K0 C V br cK jH fJ) λ_ _ Z=>Z.from bR h1 Y
  split at h
  ·grind[hQ.cons,wanted]
  ·rename_i j y w;split at h
   ·grind
   ·rename_i d N;obtain⟨ia,H,U,h⟩:=acq q h;have Q:=T.split U;have n:=H d;split at h
    ·rename_i b M;rw[M] at n;split at h
     ·rename_i I;exact hQ.Ud w N n I (x H Q h)
     ·rename_i I;exact hQ.P3 w N n (by cases b<;>cases y<;>simp at I⊢) (K0 C p (H.put (s:=.undef) rfl) F Q.skip h)
    ·rename_i M;rw[M] at n;exact hQ.X6 w N n (K0 C p (H.put (s:=.undef) rfl) F Q.skip h)
    grind
def iI.start:iI z m vs ⟨[],[],[]⟩ ⟨[],[],[],[],[]⟩:=⟨by simp,by simp,by simp⟩
def qJ(X:e3 P D)(B:Code)(u:mP D):Prop:=∀{b:Type}(E:List (Nat×bc D))(O:List (ba D))(K:fG->List (Nat×bc D)->List (ba D)->Option b)(r:b){z:Nat->bW}{e m:Mem}{k:Option Nat}{a:List af}{d:Nat->af},
 u.fits E O=aa->b9 X.G O z e m k a->fj X z a E d->u.run E O K=J r->W P (sub B u.path) (λx=>je X O z e k a (K x) r) d m
theorem WZ:∀(c:Code)(p q:List Nat),sub (sub c p) q=sub c (p++q):=by
 intro c p;induction p generalizing c with
 |nil=>intro q;cases c<;>rfl
 |cons i p d=>
  intro q;cases c with
  |seq a b=>cases i with
   |zero=>exact d a q
   |succ i=>exact d b q
  |cond x a b=>cases i with
   |zero=>exact d a q
   |succ i=>exact d b q
  |block n c=>cases i with
   |zero=>exact d c q
   |succ i=>exact d c q
  |scope c=>cases i with
   |zero=>exact d c q
   |succ i=>exact d c q
  |loop c=>cases i with
   |zero=>exact d c q
   |succ i=>exact d c q
  |_=>rcases q with _|⟨_|j,q⟩<;>cases i<;>rfl
def zo{B c:Code}{p:List Nat}{i:Nat}(h:sub B p.reverse=c):sub B (i::p).reverse=sub c [i]:=by grind[WZ]
def sc(c:Code):sub c []=c:=by cases c<;>rfl
theorem aev:∀{p q:List Nat},Jr p q=aa->p=q
 |[],[],_=>rfl
 |a::p,b::q,h=>by simp only[Jr,fx] at h;rw[kA h.1,aev h.2]
 |[],_::_,h=>by cases h
 |_::_,[],h=>by cases h
def aqt{a:List (mP D)}{p:List Nat}{u:mP D}(h:sf a p E O=J u):u∈a/\u.path=p/\u.fits E O=aa:=by
 induction a with
 |nil=>cases h
 |cons w a b=>
  grind[sf,aev]
def adf:∀{n:Nat}{O a:List (ba D)}{z:Nat->bW}{m:Mem}{b:List af},b9 X.G O z e m k b->LK n O=J a->∃f,Inv O a/\dT e.next z f/\b9 X.G a f e m k b
 |0,O,a,z,m,b,d,h=>by cases h;grind[Inv.refl,dT.refl]
 |n+1,O,a,z,m,b,d,h=>by
  simp only[LK] at h;split at h
  ·rename_i w l;obtain⟨t,p,i,j⟩:=adf d l;split at h
   ·split at h
    ·grind
    ·obtain⟨s,r,q,g⟩:=BZ j h;exact⟨s,p.trans r,i.trans q,g⟩
   grind
  grind
def je.fill{K:List (Nat×bc D)->List (ba D)->Option ap}{r:ap}{g:List af}{f:Mem}{d:Nat->af}(h:je X O z e k g (vq K) r d f):je X O z e k g K r d f:=by
 obtain⟨B,x,w,A,n,t,l,j,p,a⟩:=h;unfold vq at a;split at a
 ·rename_i q m;obtain⟨y,s,b,i⟩:=adf j m;exact⟨y,x,w,q,n.trans s,t.trans b,l,i,p.mono b.le λ_ _ h=>h,a⟩
 grind
def Lh(cW:iV X){B:Code}{us:List (mP D)}{L:Nat}(te:∀u∈us,L<u.path.length->qJ X B u):
  ∀(c:Code)(f:Bool)(p:List Nat)(E:List (Nat×bc D))(O:List (ba D))(K:fG->List (Nat×bc D)->List (ba D)->Option ap)(r:ap){z:Nat->bW}{w:List af}{m:Mem}{A:Nat->af},
   sub B p.reverse=c->L<=p.length->(f=ak->L<p.length)->b9 X.G O z e m k w->fj X z w E A->j8 X us calm f p c E O K=J r->W P c (λx=>je X O z e k w (K x) r) A m:=by
 intro c;have q:∀{c:Code}{f:Bool}{p:List Nat}{E:List (Nat×bc D)}{O:List (ba D)}{K:fG->List (Nat×bc D)->List (ba D)->Option ap}{r:ap}{z:Nat->bW}{w:List af}{m:Mem}{A:Nat->af}{u:mP D},
   sub B p.reverse=c->(f=ak->L<p.length)->b9 X.G O z e m k w->fj X z w E A->(if f=aa then ae else sf us p.reverse E O)=J u->u.run E O K=J r->W P c (λx=>je X O z e k w (K x) r) A m:=by
  intro c f p E O K r z w m A u s y n g C h;cases f with
  |true=>grind
  |false=>
   obtain⟨H,I,F⟩:=aqt C;have:=te u H (by grind) E O K r F n g h
   grind
 induction c with
 |seq a b VI VJ=>
  intro f p E O K r z w m A s N y n g h;simp only[j8] at h;split at h
  ·rename_i u C;exact q s y n g C h
  ·refine W.seq ((VI ak (0::p) E O _ r (by rw[zo s];exact sc a) (by grind) (λ_=>by grind) n g h).mono ?_);rintro x fY m1 ⟨V,Y,U,T,R,H,I,F,S,Z⟩;cases x with
   |normal=>have Z:=(if_pos rfl).symm.trans Z;exact(VJ ak (1::p) U T K r (by rw[zo s];exact sc b) (by grind) (λ_=>by grind) F S Z).mono λ_ _ _ M=>M.from R H I
   |exit i=>exact⟨V,Y,U,T,R,H,I,F,S,(if_neg (by simp)).symm.trans Z⟩
   |ret=>exact⟨V,Y,U,T,R,H,I,F,S,(if_neg (by simp)).symm.trans Z⟩
 |cond x a b VI VJ=>
  intro f p E O K r z w m A s N y n g h;simp only[j8] at h;split at h
  ·rename_i u C;exact q s y n g C h
  ·split at h
   ·rename_i t bf;have an:=WN g x;rw[bf] at an;cases t with
    |true=>rw[if_pos rfl] at h;exact W.amu an rfl (VI ak (0::p) E O K r (by rw[zo s];exact sc a) (by grind) (λ_=>by grind) n g h)
    |false=>rw[if_neg (by simp)] at h;exact W.Z0 an rfl (VJ ak (1::p) E O K r (by rw[zo s];exact sc b) (by grind) (λ_=>by grind) n g h)
   grind
 |scope c a1=>
  intro f p E O K r z w m A s N y n g h;simp only[j8] at h;split at h
  ·rename_i u C;exact q s y n g C h
  ·exact W.scope (a1 ak (0::p) E O K r (by rw[zo s];exact sc c) (by grind) (λ_=>by grind) n g h)
 |block i c a1=>
  intro f p E O K r z w m A s N y n g h;simp only[j8] at h;split at h
  ·rename_i u C;exact q s y n g C h
  ·refine W.block ((a1 ak (0::p) E O _ r (by rw[zo s];exact sc c) (by grind) (λ_=>by grind) n g h).mono ?_);rintro x fY m1 M;obtain⟨V,Y,U,T,R,H,I,F,S,Z⟩:=M;cases x with
   |normal=>exact⟨V,Y,U,T,R,H,I,F,S,by grind⟩
   |exit j=>
    by_cases hq:j=i
    ·subst hq;exact pZ.rS ⟨V,Y,U,T,R,H,I,F,S,by grind⟩
    ·exact pZ.qZ (by grind) ⟨V,Y,U,T,R,H,I,F,S,by grind⟩
   |ret=>exact⟨V,Y,U,T,R,H,I,F,S,by grind⟩
 |region id ops d=>
  intro f p E O K r z w m A s N y n g h;simp only[j8] at h;split at h
  ·rename_i u C;exact q s y n g C h
  ·cases d with
   |true=>
    rw[if_pos rfl] at h;split at h
    ·rename_i ay;exact(W.calm (Q:=λx=>je X O z e k w (vq (K x)) r) ay (B9 cW n g h)).mono λ_ _ _ M=>M.fill
    ·exact(W.draw (Q:=λx=>je X O z e k w (vq (K x)) r) (K0 cW n g iI.start (gC.start n g) h)).mono λ_ _ _ M=>M.fill
   |false=>rw[if_neg (by simp)] at h;exact(W.region (Q:=λx=>je X O z e k w (vq (K x)) r) (B9 cW n g h)).mono λ_ _ _ M=>M.fill
 |loop c a1=>
  intro f p E O K r z w m A s N y n g h;simp only[j8] at h;split at h
  ·rename_i u C;exact q s y n g C h
  grind
 |skip=>intro f p E O K r z w m A s N y n g h;exact W.skip (je.here n g h)
 |label l=>intro f p E O K r z w m A s N y n g h;exact W.label (je.here n g h)
 |exit i=>intro f p E O K r z w m A s N y n g h;exact W.exit (je.here n g h)
 |ret=>intro f p E O K r z w m A s N y n g h;exact W.ret (je.here n g h)
 |_=>grind[j8]
end
end
section
inductive gR where
 |int (k:IntKind)|bool|str
 |bh (e:Nat)|mp (t bG bA:Nat)
 |agg (t:Nat)|hd (t:Nat)
 |fn (f:Nat) (ts:List Nat)
 |cut (j e:Nat)
inductive cw where
 |bh (e:Nat)|box (t:Nat)|recv (t:Nat)|arr (e t n:Nat)|map (t bG bA:Nat)
 |bL (t:Nat) (l:List (Nat×Nat))
 |uI (t f:Nat) (is:List Nat)
 |ne (e t:Nat)
inductive dt where
 |v (d:Nat) (c:gR)
 |o (d:Nat) (c:cw)
 |u (j:Nat) (c:cw)
noncomputable section
section
variable {P:bI}{D:Nat->Type}
def wF(D:Nat->Type):List Nat->Type|[]=>Unit|t::a=>D t×wF D a
def gR.ty(D:Nat->Type):gR->Type|.int _=>Int|.bool=>Bool|.str=>List UInt8|.bh e=>List (D e)|.mp _ b a=>List (D b×D a)|.agg t=>D t|.hd t=>D t|.fn _ d=>wF D d|.cut _ _=>Nat×Nat
def cw.ty(D:Nat->Type):cw->Type|.bh e=>List (D e)|.box t=>D t|.recv t=>D t|.arr e _ _=>List (D e)|.map _ b a=>List (D b×D a)|.bL t _=>D t|.uI _ _ _=>Unit|.ne _ t=>List (List (D t))
def dt.ty(D:Nat->Type):dt->Type|.v _ c=>c.ty D|.o _ c=>c.ty D|.u _ c=>c.ty D
def ft(D:Nat->Type):List dt->Type|[]=>Unit|i::a=>i.ty D×ft D a
variable (X:e3 P D)
def jl(t:Nat)(x:D t):List (cv D):=match X.I t with|some a=>a.kM x|none=>[]
def mA(t:Nat)(a:List (cv D)):Option (D t):=match X.I t with|some b=>b.qk a|none=>ae
def tD:(a:List Nat)->wF D a->List (Nat×List (cv D))|[],_=>[]|t::a,x=>(t,jl X t x.1)::tD a x.2
def xa:(d:List Nat)->List (Nat×List (cv D))->Option (wF D d)
 |[],[]=>J ()
 |t::d,p::l=>if p.1=t then(match mA X t p.2,xa d l with|some a,J b=>J (a,b)|_,_=>ae) else ae
 |_,_=>ae
def gR.mk:(c:gR)->c.ty D->bc D|.int k,n=>.c (.int k n)|.bool,b=>.c (.bool b)|.str,s=>.c (.str s)|.bh e,i=>.c (.bh e i)|.mp t d a,g=>.c (.mp t d a g)|.agg t,x=>.agg t (jl X t x)|.hd t,x=>.hd t (jl X t x) 0|.fn f h,x=>.fn f (tD X h x)|.cut j e,x=>.cut j e x.1 x.2
def gR.get:(c:gR)->bc D->Option (c.ty D)|.int k,.c (.int r n)=>if r=k then J n else ae|.bool,.c (.bool b)=>J b|.str,.c (.str s)=>J s|.bh e,.c .gE=>J []|.mp t m j,.c .oY=>J []|.bh e,.c (.bh g z)=>if h:g=e then J (h▸z) else ae|.mp t m j,.c (.mp a x w q)=>if h:x=m/\w=j then(if a=t then J (h.1▸h.2▸q) else ae) else ae|.agg t,.agg a d=>if a=t then mA X t d else ae|.hd t,.hd a d i=>if a=t/\i=0 then mA X t d else ae|.fn f y,.fn ma l=>if ma=f then xa X y l else ae|.cut _ e,.cut _ g p n=>if g=e then J (p,n) else ae|_,_=>ae
def nw:List (Nat×Nat)->Nat->Option Nat|[],_=>ae|p::l,i=>if fi p.1 i=aa then J p.2 else nw l i
def qi(a:Nat->Nat)(l:List (Nat×Nat)):Nat->List (cv D)->List (cv D)
 |_,[]=>[]
 |i,c::b=>(match nw l i with|some n=>.own (a n)|none=>c)::qi a l (i+1) b
def nQ(t:Nat):List (cv D):=match X.I t with|some a=>a.rk|none=>[]
def u6(a:List (cv D))(l:List (Nat×Nat)):Nat->List (cv D)->List (cv D)
 |_,[]=>[]
 |i,c::b=>(match nw l i with|some _=>a.getD i .gE|none=>c)::u6 a l (i+1) b
def cw.gO(b:Nat->Nat):(c:cw)->c.ty D->Bool->ba D|.bh e,a,w=>.bh e a ak w|.box t,x,w=>.box t (jl X t x) ak w|.recv t,x,w=>.recv t (jl X t x) w|.arr e t n,a,w=>.arr e t n a w|.map t g d,i,w=>.map t g d i ak w|.bL t l,x,w=>.box t (qi b l 0 (jl X t x)) ak w|.uI t f j,_,w=>.box t [.fn f (j.map b)] ak w|.ne e t,h,w=>.nest e t ((X.N e t).map vO.up) h ae w
def cw.mk(c:cw)(x:c.ty D)(w:Bool):ba D:=cw.gO X (λn=>n) c x w
def cw.hs:cw->List Nat|.bL _ l=>l.map Prod.snd|.uI _ _ a=>a|_=>[]
def oZ(a:Option Nat)(i:Nat):Bool:=match a with|some j=>fi j i|none=>ak
def Lv(a:List Nat)(b:List (cv D)):List (Nat×Nat)->Bool
 |[]=>aa
 |p::l=>(match b[p.1]? with|some (.own i)=>oZ (a[p.2]?) i|_=>ak)&&Lv a b l
def Ji(a:List Nat):List Nat->List Nat->Bool|[],[]=>aa|n::l,i::k=>oZ (a[n]?) i&&Ji a l k|_,_=>ak
def cw.get(g:List Nat):(c:cw)->ba D->Option (c.ty D)|.bh e,.bh cz d ak _=>if h:cz=e then J (h▸d) else ae|.box t,.box a b ak _=>if a=t then mA X t b else ae|.recv t,.recv a b _=>if a=t then mA X t b else ae|.arr e t n,.arr cz a w d _=>if h:cz=e then(if a=t/\w=n then J (h▸d) else ae) else ae|.map t j i,.map a r q m ak _=>if h:r=j/\q=i then(if a=t then J (h.1▸h.2▸m) else ae) else ae|.bL t l,.box a b ak _=>if a=t/\Lv g b l=aa then mA X t (u6 (nQ X t) l 0 b) else ae|.uI t f p,.box a [.fn s x] ak _=>if a=t/\s=f/\Ji g p x=aa then J () else ae|.ne e t,.nest cz a _ k ae _=>if h:a=t then(if cz=e then J (h▸k) else ae) else ae|_,_=>ae
def ba.clean:ba D->Bool|.box _ a _ _=>a.all zM|.recv _ a _=>a.all zM|.nest _ _ _ _ _ _=>ak|_=>aa
def UI(O:List (ba D)):bc D->Option (bc D×List (ba D))
 |.c c=>(match sY O c with|some (f,a)=>J (.c f,a)|none=>ae)
 |.agg t h=>(match uJ O h with|some (b,a)=>J (.agg t b,a)|none=>ae)
 |.cut i e g n=>(match v8 O i with|some (.bh d j,a)=>if d=e then J (.c (.bh d ((j.take n).drop g)),a) else ae|_=>ae)
 |s=>J (s,O)
def LM:bc D->Option Nat|.c (.own i)=>J i|.box i _=>J i|.arr i=>J i|.el i _ _ _=>J i|_=>ae
def xB(l:List (Nat×Nat)):Nat->List (cv D)->Bool
 |_,[]=>ak
 |i,c::a=>(match c with|.own _=>(match nw l i with|none=>aa|_=>ak)|_=>ak)||xB l (i+1) a
def Jw(l:List (Nat×Nat)):Nat->List (cv D)->List (ba D)->Option (List (cv D)×List (ba D))
 |_,[],O=>J ([],O)
 |i,c::e,O=>
  match(match nw l i with|some _=>J (c,O)|none=>sY O c) with
  |some (b,d)=>(match Jw l (i+1) e d with|some (a,f)=>J (b::a,f)|none=>ae)
  |none=>ae
def uK(l:List (Nat×Nat))(O:List (ba D))(i:Nat):Option (List (ba D)):=
 match O[i]? with
 |some (.box t b ak _)=>if xB l 0 b=aa then(match Jw l 0 b O with|some (a,d)=>J (d.set i (.box t a ak aa))|none=>ae) else J O
 |_=>J O
def UJ(c:gR)(O:List (ba D))(s:bc D):Option (bc D×List (ba D)):=
 match c,s with
 |.cut _ _,s=>J (s,O)
 |.hd _,.box i a=>
  (match uK [] O i with
  |some b=>(match vp b (.box i a) with|some (p,d)=>J (.hd p.1 p.2 0,d)|none=>ae)
  |none=>ae)
 |_,s=>UI O s
def rL(E:List (Nat×bc D)):List dt->List (ba D)->Option (List (bc D)×List (ba D))
 |[],O=>J ([],O)
 |.v d c::a,O=>
  match UJ c O (eI E d) with
  |some (s,b)=>(match rL E a b with|some (l,e)=>J (s::l,e)|none=>ae)
  |none=>ae
 |_::a,O=>match rL E a O with|some (l,b)=>J (.un::l,b)|none=>ae
def rF:Nat:=2000000
def ZD:Nat:=100000000
def ZE:Nat:=200000000
def Co:List (cv D)->List Nat|[]=>[]|.own i::a=>i::Co a|.fn _ b::a=>b++Co a|_::a=>Co a
def ae8(O:List (ba D))(i:Nat):List Nat:=match O[i]? with|some (.box _ a _ _)=>Co a|some (.recv _ a _)=>Co a|_=>[]
def Xs(O:List (ba D)):Nat->List Nat->List Nat->List Nat|0,_,s=>s|_+1,[],s=>s|n+1,i::l,s=>if s.any (fi i)=aa then Xs O n l s else Xs O n (ae8 O i++l) (s++[i])
def ae3:List (Nat×bc D)->List Nat
 |[]=>[]
 |p::E=>(match LM p.2 with|some i=>[i]|none=>[])++ae3 E
def ae2(E:List (Nat×bc D))(O:List (ba D)):Nat->Nat->Option Nat
 |0,_=>ae
 |n+1,m=>if fi (m%64) 0=aa then LM (eI E (m / 64)) else(match ae2 E O n (m / 64) with|some i=>(ae8 O i)[m%64-1]? |none=>ae)
def T4(E:List (Nat×bc D))(O:List (ba D))(d:Nat):Option Nat:=
 if iJ 1000000000 d=aa then LM (eI E d) else
 if iJ ZE d=aa then ae2 E O 8 (d-ZE) else
 if mn d rF=aa then LM (eI E d)
 else if iJ ZD d=aa then J (d-ZD)
 else match eI E ((d-rF) / 1000) with
  |.box i 0=>(match O[i]? with|some (.box _ a _ _)=>(match a[(d-rF)%1000]? with|some (.own n)=>J n|_=>ae)|_=>ae)
  |_=>ae
def I9(E:List (Nat×bc D))(O:List (ba D)):List dt->Option (List Nat)
 |[]=>J []
 |.o d _::a=>(match T4 E O d,I9 E O a with|some i,J l=>J (i::l)|_,_=>ae)
 |_::a=>I9 E O a
def pt(E:List (Nat×bc D)):List dt->List (ba D)->Option (List (ba D))
 |[],O=>J O
 |.o d (.box _)::a,O=>(match T4 E O d with|some i=>(match uK [] O i with|some b=>pt E a b|none=>ae)|none=>ae)
 |.o d (.bL _ l)::a,O=>(match T4 E O d with|some i=>(match uK l O i with|some b=>pt E a b|none=>ae)|none=>ae)
 |.u j (.box _)::a,O=>(match uK [] O j with|some b=>pt E a b|none=>ae)
 |.u j (.bL _ l)::a,O=>(match uK l O j with|some b=>pt E a b|none=>ae)
 |_::a,O=>pt E a O
def Z4(a:List Nat):gR->bc D->Bool|.cut j _,.cut i _ _ _=>oZ (a[j]?) i|_,_=>aa
def iG(b:List Nat)(O:List (ba D)):(a:List dt)->List (bc D)->List Nat->Option (ft D a)
 |[],_,[]=>J ()
 |.v d c::a,s::l,e=>if Z4 b c s=aa then(match gR.get X c s,iG b O a l e with|some x,J y=>J (x,y)|_,_=>ae) else ae
 |.o d c::a,_::l,i::e=>
  match O[i]? with
  |some o=>(match cw.get X b c o,iG b O a l e with|some x,J y=>J (x,y)|_,_=>ae)
  |none=>ae
 |.u j c::a,_::l,e=>
  match O[j]? with
  |some o=>(match cw.get X b c o,iG b O a l e with|some x,J y=>J (x,y)|_,_=>ae)
  |none=>ae
 |_,_,_=>ae
def eU:(a:List dt)->ft D a->List (ba D)|[],_=>[]|.o _ c::a,x=>cw.mk X c x.1 ak::eU a x.2|.v _ _::a,x=>eU a x.2|.u _ _::a,x=>eU a x.2
def hc:(a:List dt)->ft D a->List (Nat×bc D)|[],_=>[]|.v d c::a,x=>(d,gR.mk X c x.1)::hc a x.2|.o _ _::a,x=>hc a x.2|.u _ _::a,x=>hc a x.2
def wa(a:List Nat):bc D->bc D->Bool|.c (.own j),.c (.own i)=>oZ (a[j]?) i|.box j o,.box i p=>oZ (a[j]?) i&&fi o p|.arr j,.arr i=>oZ (a[j]?) i|.c .gE,.c .gE=>aa|.c .za,.c .za=>aa|.c .oY,.c .oY=>aa|.undef,.undef=>aa|.un,_=>aa|.c (.int k n),.c (.int h l)=>decide (k=h)&&(n==l)|.c (.bool b),.c (.bool g)=>b==g|.fn f [],.fn e []=>fi f e|.hd t [.own j] o,.hd d [.own i] p=>oZ (a[j]?) i&&(fi t d&&fi o p)|.fn f [(t,[.own j])],.fn e [(d,[.own i])]=>oZ (a[j]?) i&&(fi t d&&fi f e)|_,_=>ak
def pE(a:Nat->Nat):bc D->bc D|.c (.own j)=>.c (.own (a j))|.box j o=>.box (a j) o|.arr j=>.arr (a j)|.hd t [.own j] o=>.hd t [.own (a j)] o|.fn f [(t,[.own j])]=>.fn f [(t,[.own (a j)])]|s=>s
def tE:List Nat->Bool|[]=>aa|i::l=> !(l.any λj=>fi j i)&&tE l
def Ci(l:List (Nat×Nat)):Nat->List (cv D)->Bool
 |_,[]=>aa
 |i,c::a=>(match nw l i with|some _=>aa|none=>zM c)&&Ci l (i+1) a
def cw.uF:cw->ba D->Bool|.bL _ l,.box _ a _ _=>Ci l 0 a|_,o=>o.clean
def zF(c:cw)(O:List (ba D))(i:Nat):Bool:=match O[i]? with|some o=>o.nd|| !(c.uF o)|none=>aa
def mY(d:List Nat):(a:List dt)->ft D a->List Nat->List (ba D)->List (ba D)|.o _ c::a,x,i::b,O=>mY d a x.2 b (O.set i (cw.gO X (λn=>d.getD n 0) c x.1 (zF c O i)))|.v _ _::a,x,b,O=>mY d a x.2 b O|.u _ _::a,x,b,O=>mY d a x.2 b O|_,_,_,O=>O
def Lu(b:List dt)(f:List (Nat×bc D))(E:List (Nat×bc D))(O:List (ba D)):Option (ft D b×List Nat×List (ba D)):=match rL E b O,I9 E O b with|some (e,d),J a=>if tE a&&f.all λp=>wa a p.2 (eI E p.1) then match iG X a d b e a with|some x=>J (x,a,mY X a b x a d)|none=>ae else ae|_,_=>ae
def sl(a:List dt)(b:List (Nat×bc D))(E:List (Nat×bc D))(O:List (ba D)):Option (ft D a×List Nat×List (ba D)):=match pt E a O with|some d=>Lu X a b E d|none=>ae
end
section
variable {P:bI}{D:Nat->Type}{X:e3 P D}{z z':Nat->bW}{e m m':Mem}{k:Option Nat}{vs vs':List af}{fr:Nat->af}{E:List (Nat×bc D)}{O cr:List (ba D)}
def tC{t:Nat}{x:D t}{a:List af}(h:bP (ed X.G z vs) (jl X t x) a):bP (ed X.G z vs') (jl X t x) a:=by
 unfold jl at h⊢;split at h
 ·rename_i b _;exact b.rc z vs' x a (b.r6 z vs _ x a (b.V1 x) h)
 ·exact bP.mono (λ_ _ h=>h) (by cases a with|nil=>trivial|cons _ _=>exact h.elim)
def vl{t:Nat}{x:D t}{d:List (cv D)}{a:List af}(b:mA X t d=J x)(h:bP (ed X.G z vs) d a):bP (ed X.G z vs') (jl X t x) a:=by
 unfold mA at b;unfold jl;split at b
 ·rename_i e f;exact e.rc z vs' x a (e.r6 z vs d x a b h)
 grind
def LA{t:Nat}{x:D t}{a:List (cv D)}(b:mA X t a=J x)(h:a.all zM=aa):a=jl X t x:=by
 unfold mA at b;unfold jl;split at b
 ·rename_i d e;exact(d.Ko a x b).eq h
 grind
def auW{t:Nat}{x:D t}{b:List (cv D)}(a:mA X t b=J x):pR b (jl X t x):=by
 unfold mA at a;unfold jl;split at a
 ·rename_i d e;exact d.Ko b x a
 grind
def acC:∀{a:List Nat}{x:wF D a}{d:List af},bP (λc g=>lU X.G z vs c.2 0 g) (tD X a x) d->bP (λc g=>lU X.G z vs' c.2 0 g) (tD X a x) d
 |[],_,[],_=>trivial
 |[],_,_::_,h=>h.elim
 |t::a,x,[],h=>h.elim
 |t::a,x,g::d,⟨⟨b,o,j,k,f,e⟩,i⟩=>⟨⟨b,o,j,k,f,tC e⟩,acC i⟩
def acw:∀{d:List Nat}{l:List (Nat×List (cv D))}{x:wF D d}{e:List af},xa X d l=J x->bP (λc g=>lU X.G z vs c.2 0 g) l e->bP (λc g=>lU X.G z vs' c.2 0 g) (tD X d x) e
 |[],[],_,[],_,_=>trivial
 |[],[],_,_::_,_,h=>h.elim
 |[],_::_,_,_,h,_=>by cases h
 |_::_,[],_,_,h,_=>by cases h
 |t::d,p::l,x,[],_,h=>h.elim
 |t::d,p::l,x,g::e,h,⟨⟨b,o,n,q,i,f⟩,m⟩=>by
  simp only[xa] at h;split at h
  ·split at h
   ·rename_i a r k j;cases h;exact⟨⟨b,o,n,q,i,vl k f⟩,acw j m⟩
   grind
  grind
def gR.y9:gR->Bool|.cut _ _=>ak|_=>aa
theorem gR.VP{c:gR}{x:c.ty D}{v:af}(k:c.y9=aa)(h:rel X.G z vs (gR.mk X c x) v):rel X.G z vs' (gR.mk X c x) v:=by
 cases c with
 |cut j e=>cases k
 |agg t=>obtain⟨g,d,a⟩:=h;exact⟨g,d,tC a⟩
 |hd t=>obtain⟨b,o,g,d,a,i⟩:=h;exact⟨b,o,g,d,a,tC i⟩
 |fn f m=>obtain⟨l,d,a⟩:=h;exact⟨l,d,acC a⟩
 |_=>exact h
def ad1{a:Option Nat}{i:Nat}(h:oZ a i=aa):a=J i:=by
 unfold oZ at h
 grind[kA]
def gR.A7{k:List Nat}{c:gR}{x:c.ty D}{s:bc D}{v:af}(q:∀(j i:Nat)(u:af),k[j]?=J i->vs[i]?=J u->vs'[j]?=J u)(n:Z4 k c s=aa)(a:gR.get X c s=J x)(h:rel X.G z vs s v):rel X.G z vs' (gR.mk X c x) v:=by
 unfold gR.get at a;split at a
 ·split at a
  ·rename_i d;cases a;subst d;exact h
  grind
 ·cases a;exact h
 ·cases a;exact h
 ·cases a;exact .inl ⟨h,rfl⟩
 ·cases a;exact .inl ⟨h,rfl⟩
 ·split at a
  ·rename_i d;cases a;subst d;exact h
  grind
 ·split at a
  ·rename_i d;split at a
   ·rename_i l;obtain⟨f,e⟩:=d;subst f e l;cases a;exact h
   grind
  grind
 ·obtain⟨_,a⟩:=gz a;obtain⟨g,f,e⟩:=h;exact⟨g,f,vl a e⟩
 ·obtain⟨d,a⟩:=gz a;obtain⟨b,o,g,f,e,m⟩:=h;exact⟨b,o,g,by grind,e,vl a m⟩
 ·obtain⟨d,a⟩:=gz a;subst d;obtain⟨p,f,e⟩:=h;exact⟨p,f,acw a e⟩
 ·obtain⟨d,a⟩:=gz a;subst d;cases a;obtain⟨w,f,e⟩:=h;exact⟨w,⟨q _ _ _ (ad1 n) f.1,f.2⟩,e⟩
 grind
theorem cw.tn{a:Nat->Nat}{c:cw}{x:c.ty D}{w:Bool}:(cw.gO X a c x w).live=aa:=by cases c<;>rfl
theorem cw.Kc{a:Nat->Nat}{c:cw}{x:c.ty D}{w:Bool}:(cw.gO X a c x w).nd=w:=by cases c<;>first|rfl|simp[cw.gO,ba.nd]
theorem cw.u4{c:cw}{x:c.ty D}{w:Bool}:(cw.mk X c x w).live=aa:=cw.tn
theorem lx{d e:Type}{R:d->e->Prop}:∀{l:List d}{k:List e},bP R l k↔l.length=k.length/\∀(i:Nat)(a:d)(b:e),l[i]?=J a->k[i]?=J b->R a b
 |[],[]=>by simp[bP]
 |[],_::_=>by simp[bP]
 |_::_,[]=>by simp[bP]
 |a::l,b::k=>by
  simp only[bP,lx (l:=l) (k:=k),ry];constructor
  ·grind
  ·rintro⟨j,f⟩;exact⟨f 0 a b rfl rfl,by omega,λi x y h g=>f (i+1) x y (by grind) (by grind)⟩
theorem B5{b:Nat->Nat}{l:List (Nat×Nat)}:∀{cs:List (cv D)}{a i:Nat},(qi b l a cs)[i]?=(cs[i]?).map λc=>match nw l (a+i) with|some n=>.own (b n)|none=>c
 |[],a,i=>by rfl
 |c::cs,a,0=>by rfl
 |c::cs,a,i+1=>by simp only[qi,qH];rw[B5 (cs:=cs),show a+1+i=a+(i+1) by omega]
theorem ac7{b:List (cv D)}{l:List (Nat×Nat)}:∀{cs:List (cv D)}{a i:Nat},(u6 b l a cs)[i]?=(cs[i]?).map λc=>match nw l (a+i) with|some _=>b.getD (a+i) .gE|none=>c
 |[],a,i=>by rfl
 |c::cs,a,0=>by rfl
 |c::cs,a,i+1=>by simp only[u6,qH];rw[ac7 (cs:=cs),show a+1+i=a+(i+1) by omega]
theorem Wy{b:Nat->Nat}{l:List (Nat×Nat)}:∀{cs:List (cv D)}{a:Nat},(qi b l a cs).length=cs.length
 |[],_=>rfl
 |c::cs,a=>by simp[qi,Wy (cs:=cs)]
def XE{t:Nat}(i:Nat):∃v,∀(z:Nat->bW)(a:List af),ed X.G z a ((nQ X t).getD i .gE) v:=by
 unfold nQ;cases f:X.I t with
 |none=>exact⟨.slice ae 0 0,λz a=>rfl⟩
 |some d=>
  simp only;cases b:d.rk[i]? with
  |none=>exact⟨.slice ae 0 0,λz a=>by rw[YV,b];rfl⟩
  |some c=>obtain⟨v,e,_⟩:=(d.qX (λ_=>.dead) []).get i c b;refine⟨v,λz a=>?_⟩;rw[YV,b];exact(lx.1 (d.qX z a)).2 i c v b e
theorem adj{b:List (cv D)}{l:List (Nat×Nat)}:∀{cs:List (cv D)}{a:Nat},(u6 b l a cs).length=cs.length
 |[],_=>rfl
 |c::cs,a=>by simp[u6,adj (cs:=cs)]
def B1:∀{l:List (Nat×Nat)}{i n:Nat},nw l i=J n->(i,n)∈l
 |[],_,_,h=>by cases h
 |p::l,i,n,h=>by
  simp only[nw] at h;split at h
  ·grind[kA]
  ·exact kn _ (B1 h)
theorem KP{b:List Nat}{d:List (cv D)}:∀{l:List (Nat×Nat)},Lv b d l=aa->∀p∈l,∃i,d[p.1]?=J (.own i)/\b[p.2]?=J i
 |[],_,_,h=>by grind
 |q::l,h,p,a=>by
  simp only[Lv,fx] at h;rcases ha.1 a with rfl|a
  ·grind[oZ,kA]
  ·exact KP h.2 p a
theorem as9{t:Nat}{x:D t}:(jl X t x).all qf=aa:=by
 unfold jl;split
 ·rename_i a _;exact a.VN x
 rfl
theorem aqH{c:cv D}{v:af}(a:qf c=aa)(h:ed X.G z vs c v)(d:∀f b,c≠.fn f b):ed X.G z vs' c v:=by
 cases c<;>first|exact h|cases a|grind
theorem aq6{c:cv D}{v:af}(d:qf c=aa)(h:ed X.G z vs c v):ed X.G z vs' c v:=by
 cases c with
 |fn f g=>
  cases g with
  |nil=>obtain⟨a,e,b⟩:=h;exact⟨a,e,by cases a with|nil=>trivial|cons _ _=>exact b.elim⟩
  |cons _ _=>cases d
 |_=>grind[aqH]
def XH(i:Nat):ba D->Prop|.box _ a _ _=>.own i∈a\/∃f b,.fn f b∈a/\i∈b|_=>False
def Lb{a:List Nat}:∀{l k:List Nat},Ji a l k=aa->bP (λn i=>a[n]?=J i) l k
 |[],[],_=>trivial
 |n::l,i::k,h=>by simp only[Ji,fx] at h;exact⟨ad1 h.1,Lb h.2⟩
 |[],_::_,h=>by cases h
 |_::_,[],h=>by cases h
def adR{e i:Nat->Nat}:∀{a:List Nat}{b:List af},(∀n∈a,∀u,vs[e n]?=J u->vs'[i n]?=J u)->bP (sQ vs) (a.map e) b->bP (sQ vs') (a.map i) b
 |[],[],_,_=>trivial
 |[],_::_,_,h=>h.elim
 |_::_,[],_,h=>h.elim
 |n::a,g::b,d,⟨f,j⟩=>⟨⟨d n oG g f.1,f.2⟩,adR (λm k=>d m (kn _ k)) j⟩
def adS{f:List Nat}{k:Nat->Nat}(e:∀n i u,f[n]?=J i->vs[i]?=J u->vs'[k n]?=J u):∀{b d:List Nat}{a:List af},bP (λn i=>f[n]?=J i) b d->bP (sQ vs) d a->bP (sQ vs') (b.map k) a
 |[],[],[],_,_=>trivial
 |_::_,[],_,h,_=>h.elim
 |[],_::_,_,h,_=>h.elim
 |[],[],_::_,_,h=>h.elim
 |_::_,_::_,[],_,h=>h.elim
 |n::b,j::d,g::a,⟨q,m⟩,⟨l,p⟩=>⟨⟨e n j g q l.1,l.2⟩,adS e m p⟩
def cw.abB{B H:Nat->Nat}{c:cw}{x:c.ty D}{v:af}{w:Bool}(P:Bool)(h:hf X.G z e m k vs (cw.gO X B c x w) v)(C:∀n∈c.hs,XH (B n) (cw.gO X B c x w)->∀u,vs[B n]?=J u->vs'[H n]?=J u):hf X.G z e m k vs' (cw.gO X H c x P) v:=by
 cases c with
 |box t=>obtain⟨b,g,r,j,y,q⟩:=h;exact⟨b,g,r,j,y,tC q⟩
 |recv t=>obtain⟨b,g,r,j,q⟩:=h;exact⟨b,g,r,j,tC q⟩
 |bL t l=>
  obtain⟨b,g,r,j,y,q⟩:=h;refine⟨b,g,r,j,y,lx.2 ⟨?_,λi a d s K=>?_⟩⟩
  ·grind[lx,Wy]
  ·rw[B5] at s;obtain⟨R,I,s⟩:=vT.1 s;have A:=(lx.1 q).2 i _ d (by rw[B5,I];rfl) K;rw[lH] at s A;cases F:nw l i with
   |none=>
    grind[aq6,as9]
   |some n=>rw[F] at s A;subst s;exact⟨C n (l2.2 ⟨_,B1 F,rfl⟩) (.inl (mM (i:=i) (by grind[B5]))) d A.1,A.2⟩
 |uI t f T=>
  obtain⟨b,g,r,j,y,q⟩:=h;refine⟨b,g,r,j,y,?_⟩
  match g,q with
  |[d],⟨⟨N,L,M⟩,_⟩=>exact⟨⟨N,L,adR (λn E=>C n E (.inr ⟨f,_,oG,l2.2 ⟨n,E,rfl⟩⟩)) M⟩,trivial⟩
 |ne e t=>obtain⟨O,Q,h⟩:=h;exact⟨O,Q,h.bT,h.len,h.oU,λp S=>by grind⟩
 |_=>exact h
def cw.y8{a nR:Nat->Nat}{c:cw}{x:c.ty D}{v:af}{w:Bool}(b:Bool)(h:hf X.G z e m k vs (cw.gO X a c x w) v)(d:∀n∈c.hs,∀u,vs[a n]?=J u->vs'[nR n]?=J u):hf X.G z e m k vs' (cw.gO X nR c x b) v:=cw.abB b h λn f _=>d n f
def auf{e t:Nat}:ZB X.G e t ((X.N e t).map vO.up):=by
 intro f b;cases d:X.N e t with
 |none=>grind
 |some a=>rw[d] at b;cases b;exact⟨a.cN,a.tid,a.aV⟩
theorem cw.A7{L:List Nat}{N:Nat->Nat}{c:cw}{x:c.ty D}{o:ba D}{v:af}(f:cw.get X L c o=J x)(h:hf X.G z e m k vs o v)(F:∀n i u,L[n]?=J i->vs[i]?=J u->vs'[N n]?=J u)(w:Bool):hf X.G z e m k vs' (cw.gO X N c x w) v:=by
 unfold cw.get at f;split at f
 ·split at f
  ·rename_i g;cases f;subst g;exact h
  grind
 ·obtain⟨g,f⟩:=gz f;subst g;obtain⟨b,q,r,j,A,s⟩:=h;exact⟨b,q,r,j,A,vl f s⟩
 ·obtain⟨g,f⟩:=gz f;subst g;obtain⟨b,q,r,j,s⟩:=h;exact⟨b,q,r,j,vl f s⟩
 ·split at f
  ·rename_i g;split at f
   ·rename_i B;obtain⟨r,j⟩:=B;subst g r j;cases f;exact h
   grind
  grind
 ·split at f
  ·rename_i g;split at f
   ·rename_i B;obtain⟨r,j⟩:=g;subst r j B;cases f;exact h
   grind
  grind
 ·rename_i t l O S ez;obtain⟨g,f⟩:=gz f;obtain⟨rfl,Q⟩:=g;obtain⟨b,q,r,j,A,s⟩:=h;have P:=(lx.1 s).1;have I:bP (ed X.G z vs) (u6 (nQ X O) l 0 S) ((mN q.length).map λi=>match nw l i with|some _=>YA (XE (X:=X) (t:=O) i)|none=>q.getD i undef):=by
   grind[lx,adj,ac7]
  have I:=vl (vs':=vs') f I;refine⟨b,q,r,j,A,lx.2 ⟨by grind[Wy,lx],λi a d y M=>?_⟩⟩;rw[B5] at y;obtain⟨Y,bR,y⟩:=vT.1 y;rw[lH] at y;have Z:i<q.length:=(fq.1 M).1;cases K:nw l i with
  |none=>
   grind[lx]
  |some n=>rw[K] at y;subst y;obtain⟨U,C,E⟩:=KP Q _ (B1 K);have H:=(lx.1 s).2 i _ d C M;exact⟨F n U d E H.1,H.2⟩
 ·obtain⟨⟨rfl,rfl,R⟩,f⟩:=gz f;obtain⟨b,q,r,j,A,s⟩:=h;refine⟨b,q,r,j,A,?_⟩
  match q,s with
  |[d],⟨⟨T,C,E⟩,_⟩=>exact⟨⟨T,C,adS F (Lb R) E⟩,trivial⟩
 ·split at f
  ·rename_i g;subst g;obtain⟨g,f⟩:=gz f;subst g;cases f;obtain⟨_,V,h⟩:=h;exact⟨auf,V,h.bT,h.len,h.oU,λp bb=>by grind⟩
  grind
 grind
theorem cw.amY{e:List Nat}{c:cw}{x:c.ty D}{o:ba D}(g:cw.get X e c o=J x):∀n∈c.hs,∃i,e[n]?=J i:=by
 intro n d;unfold cw.get at g;split at g
 ·grind[cw.hs]
 ·grind[cw.hs]
 ·grind[cw.hs]
 ·grind[cw.hs]
 ·grind[cw.hs]
 ·obtain⟨⟨_,q⟩,_⟩:=gz g;obtain⟨p,r,rfl⟩:=l2.1 d
  grind[KP]
 ·rename_i t f y s z A w;obtain⟨⟨_,_,m⟩,_⟩:=gz g;have:∀{l k:List Nat},bP (λn i=>e[n]?=J i) l k->∀n∈l,∃i,e[n]?=J i:=by
   intro l;induction l with
   |nil=>grind
   |cons a l j=>
    intro k h n d;cases k with
    |nil=>exact h.elim
    |cons b k=>
     rcases ha.1 d with rfl|d
     ·exact⟨b,h.1⟩
     ·exact j h.2 n d
  exact this (Lb m) n d
 ·grind[cw.hs]
 grind
theorem cw.UL{b:List Nat}{c:cw}{x:c.ty D}{o:ba D}(a:cw.get X b c o=J x):o.live=aa:=by
 unfold cw.get at a;split at a<;>first|rfl|grind
def acH{e:Nat->Nat}{k:List (cv D)}{l:List (Nat×Nat)}:∀{cs ds:List (cv D)}{i:Nat},pR (u6 k l i cs) ds->Ci l i cs=aa->(∀j n,nw l (i+j)=J n->cs[j]?=ae\/cs[j]?=J (.own (e n)))->qi e l i ds=cs
 |[],[],_,_,_,_=>rfl
 |[],_::_,_,h,_,_=>h.elim
 |_::_,[],_,h,_,_=>h.elim
 |c::cs,d::ds,i,h,b,a=>by
  simp only[Ci,fx] at b;have f:=acH (cs:=cs) (ds:=ds) (i:=i+1) h.2 b.2 λj n p=>by have:=a (j+1) n (by grind);simpa using this
  simp only[qi,f];have g:=a 0;rw[Nat.add_zero] at g;cases m:nw l i with
  |some n=>
   grind
  |none=>
   have q:=h.1
   grind
theorem cw.amX{g:List Nat}{c:cw}{x:c.ty D}{o:ba D}(d:cw.get X g c o=J x)(h:c.uF o=aa):o=cw.gO X (λn=>g.getD n 0) c x o.nd:=by
 unfold cw.get at d;split at d
 ·split at d
  ·rename_i e;cases d;subst e;rfl
  grind
 ·obtain⟨e,d⟩:=gz d;subst e;simp only[cw.gO,ba.nd];rw[<-LA d h]
 ·obtain⟨e,d⟩:=gz d;subst e;simp only[cw.gO,ba.nd];rw[<-LA d h]
 ·split at d
  ·rename_i e;split at d
   ·rename_i m;obtain⟨q,p⟩:=m;subst e q p;cases d;rfl
   grind
  grind
 ·split at d
  ·rename_i e;split at d
   ·rename_i m;obtain⟨q,p⟩:=e;subst q p m;cases d;rfl
   grind
  grind
 ·rename_i t l z y A;obtain⟨⟨rfl,s⟩,d⟩:=gz d;simp only[cw.gO,ba.nd];rw[acH (auW d) (h:Ci l 0 y=aa) λj n B=>.inr ?_];obtain⟨i,C,E⟩:=KP s (j,n) (B1 (by grind))
  grind
 ·rename_i t f F z H I A;obtain⟨⟨rfl,rfl,w⟩,d⟩:=gz d;have:∀{l k:List Nat},bP (λn i=>g[n]?=J i) l k->l.map (λn=>g.getD n 0)=k:=by
   intro l;induction l with
   |nil=>intro k e;cases k with
    |nil=>rfl
    |cons _ _=>exact e.elim
   |cons a l r=>
    intro k e;cases k with
    |nil=>exact e.elim
    |cons b k=>rw[List.map_cons,r e.2,YV,e.1];rfl
  simp only[cw.gO,ba.nd];rw[this (Lb w)]
 ·split at d
  ·rename_i e;subst e;obtain⟨e,d⟩:=gz d;subst e;cases h
  grind
 grind
end
end
end
section
section
variable {P:bI}{D:Nat->Type}{X:e3 P D}{z z':Nat->bW}{e m m':Mem}{k:Option Nat}{vs vs':List af}{fr:Nat->af}{E:List (Nat×bc D)}{O cr:List (ba D)}
def b9.G3(h:b9 X.G O z e m k vs)(len:vs'.length=cr.length)(a:Nat->Nat)
  (g:∀(i:Nat)(o:ba D),cr[i]?=J o->o.live=aa->∃p v,O[a i]?=J p/\p.live=aa/\vs[a i]?=J v/\vs'[i]?=J v/\hf X.G z e m k vs' o v)
  (L:∀(i:Nat)(o:ba D)(v:af),cr[i]?=J o->o.live=ak->vs'[i]?=J v->hf X.G z e m k vs' o v)
  (d:∀(i j:Nat)(o p:ba D),cr[i]?=J o->cr[j]?=J p->o.live=aa->p.live=aa->a i=a j->i=j):b9 X.G cr z e m k vs' where
 aS:=h.aS
 len:=len
 obj:=λi o v b f=>by
  grind
 fD:=λi j o p v w F b n q l f H=>by obtain⟨K,M,B,C,E,r,_⟩:=g i o b q;obtain⟨I,N,x,t,A,s,_⟩:=g j p n l;rw[f] at r;cases r;rw[H] at s;cases s;exact h.fD (a i) (a j) K I v w (λy=>F (d i j o p b n q l y)) B x C t E A
def hf.frozen{o:ba D}{v:af}(a:o.live=ak)(h:hf X.G z e m k vs o v)(d:fl z z')(f:∀(i:Nat)(u:af),vs[i]?=J u->vs'[i]?=J u):hf X.G z' e m' k vs' o v:=by
 cases o with
 |dead=>trivial
 |bh t w bZ _=>cases bZ with
  |true=>exact fA.mono d h
  |false=>cases a
 |box t r bZ _=>cases bZ with
  |true=>obtain⟨b,l,n,j,g⟩:=h;exact⟨b,l,n,Kp d j,pb.mono g d f⟩
  |false=>cases a
 |map t q p s bZ _=>cases bZ with
  |true=>exact nn.mono h d
  |false=>cases a
 |_=>cases a
def Cm(h:∀p∈E,rel X.G z vs p.2 (fr p.1)):fj X z vs E fr:=by
 induction E with
 |nil=>intro d;trivial
 |cons p E a=>exact(a λq b=>h q (kn _ b)).cons (h p oG)
def asY{s r:bc D}{v:af}(f:b9 X.G O z e m k vs)(h:UI O s=J (r,cr))(d:rel X.G z vs s v):∃a,Inv O cr/\dT e.next z a/\b9 X.G cr a e m k vs/\rel X.G a vs r v:=by
 unfold UI at h;split at h
 ·split at h
  ·rename_i c C q b;cases h;exact zw f b d
  grind
 ·split at h
  ·rename_i t E x q b;cases h;obtain⟨y,p,g⟩:=d;obtain⟨a,i,j,l,n⟩:=K1 f b g;exact⟨a,i,j,l,y,p,n⟩
  grind
 ·split at h
  ·rename_i B F q b;split at h
   ·rename_i A;subst A;cases h;obtain⟨w,p,g⟩:=d;obtain⟨a,i,j,l,n⟩:=zw (c:=.own _) f b p;exact⟨a,i,j,l,g.avG n⟩
   grind
  grind
 grind[Inv.refl,dT.refl]
theorem arZ{i j t:Nat}{c:cv D}{a:List (cv D)}{bZ w:Bool}(h:v8 O j=J (c,cr))(b:O[i]?=J (.box t a bZ w)):cr[i]?=J (.box t a bZ w):=by
 unfold v8 at h;split at h
 ·grind
 ·grind
 ·grind
 grind
theorem arY{i t:Nat}{c b:cv D}{a:List (cv D)}{bZ w:Bool}(h:sY O c=J (b,cr))(d:O[i]?=J (.box t a bZ w)):cr[i]?=J (.box t a bZ w):=by
 unfold sY at h
 grind[arZ]
def adK{l:List (Nat×Nat)}:∀{p a:List (cv D)}{n:Nat}{O b:List (ba D)}{r:List af}{z:Nat->bW},b9 X.G O z e m k vs->Jw l n p O=J (a,b)->bP (ed X.G z vs) p r->
  ∃x,Inv O b/\dT e.next z x/\b9 X.G b x e m k vs/\bP (ed X.G x vs) a r/\∀(i t:Nat)(g:List (cv D))(bZ w:Bool),O[i]?=J (.box t g bZ w)->b[i]?=J (.box t g bZ w)
 |[],a,n,O,b,[],z,y,h,_=>by cases h;grind[Inv.refl,dT.refl]
 |c::p,a,n,O,b,d::r,z,y,h,⟨P,H⟩=>by
  unfold Jw at h;split at h
  ·rename_i K q A;split at h
   ·rename_i I U Q;cases h;have j:∃f,Inv O q/\dT e.next z f/\b9 X.G q f e m k vs/\ed X.G f vs K d/\∀(i t:Nat)(g:List (cv D))(bZ w:Bool),O[i]?=J (.box t g bZ w)->q[i]?=J (.box t g bZ w):=by
     split at A
     ·grind[Inv.refl,dT.refl]
     ·obtain⟨f,C,s,E,F⟩:=zw y A P
      grind[arY]
    obtain⟨f,C,s,E,F,N⟩:=j;obtain⟨T,S,B,L,M,R⟩:=adK E Q (pb.mono H s.le λ_ _ h=>h);exact⟨T,C.trans S,s.trans B,L,⟨ed.mono F B.le λ_ _ h=>h,M⟩,λ_ _ _ _ _ h=>R _ _ _ _ _ (N _ _ _ _ _ h)⟩
   grind
  grind
 |[],_,_,_,_,_::_,_,_,_,h=>h.elim
 |_::_,_,_,_,_,[],_,_,_,h=>h.elim
def adN{l:List (Nat×Nat)}{i:Nat}(n:b9 X.G O z e m k vs)(h:uK l O i=J cr):∃x,Inv O cr/\dT e.next z x/\b9 X.G cr x e m k vs:=by
 unfold uK at h;split at h
 ·rename_i t N w j;split at h
  ·split at h
   ·rename_i E F B;cases h;obtain⟨v,g,b,p,s,A,y,C⟩:=n.at j;obtain⟨q,H,I,d,K,L⟩:=adK n B C;have a:=L _ _ _ _ _ j;obtain⟨P,S,r,f,Q,R⟩:=d.obj i _ v a g;have M:jQ q e m k b p t:=by
     rw[s] at r;cases r;exact⟨A.blk,f.lt,f.dead,f.fresh⟩
    refine⟨q,H.trans (Inv.set F i (.inr rfl)),I,d.pF (m':=m) a g rfl ⟨e4 _,d.aS.dead,λ_ _ _=>rfl⟩ d.aS ⟨b,p,s,M,y,K⟩⟩
   grind
  grind[Inv.refl,dT.refl]
 grind[Inv.refl,dT.refl]
def zv:∀{aQ:List dt}{O a:List (ba D)}{z:Nat->bW},b9 X.G O z e m k vs->pt E aQ O=J a->∃f,Inv O a/\dT e.next z f/\b9 X.G a f e m k vs
 |[],O,a,z,b,h=>by cases h;grind[Inv.refl,dT.refl]
 |it::aQ,O,a,z,b,h=>by
  have B:∀{l:List (Nat×Nat)}{i:Nat},(match uK l O i with|some a=>pt E aQ a|none=>ae)=J a->∃f,Inv O a/\dT e.next z f/\b9 X.G a f e m k vs:=by
   intro l i h;split at h
   ·rename_i y g;obtain⟨A,q,r,s⟩:=adN b g;obtain⟨x,w,p,n⟩:=zv s h;exact⟨x,q.trans w,r.trans p,n⟩
   grind
  cases it with
  |v d c=>exact zv (aQ:=aQ) b h
  |o d c=>
   cases c with
   |box t=>
    grind[pt]
   |bL t l=>
    grind[pt]
   |_=>exact zv (aQ:=aQ) b h
  |u j c=>
   cases c with
   |box t=>grind[pt]
   |bL t l=>grind[pt]
   |_=>exact zv (aQ:=aQ) b h
def yd(X:e3 P D)(z:Nat->bW)(e:List af)(b:Nat->af):List dt->List (bc D)->Prop|[],[]=>True|.v d _::a,s::l=>rel X.G z e s (b d)/\yd X z e b a l|.o _ _::a,_::l=>yd X z e b a l|.u _ _::a,_::l=>yd X z e b a l|_,_=>False
def asZ{c:gR}{s g:bc D}{v:af}(d:b9 X.G O z e m k vs)(h:UJ c O s=J (g,cr))(b:rel X.G z vs s v):∃a,Inv O cr/\dT e.next z a/\b9 X.G cr a e m k vs/\rel X.G a vs g v:=by
 unfold UJ at h;split at h
 ·grind[Inv.refl,dT.refl]
 ·rename_i t i A;split at h
  ·rename_i C j;split at h
   ·rename_i p F l;cases h;obtain⟨E,w,f,x⟩:=adN d j;obtain⟨B,y,q,n,r⟩:=KJ x (rel.mono b f.le λ_ _ h=>h) l;exact⟨B,w.trans y,f.trans q,n,r⟩
   grind
  grind
 ·exact asY d h b
def w2:∀{aQ:List dt}{O f:List (ba D)}{l:List (bc D)}{z:Nat->bW},b9 X.G O z e m k vs->fj X z vs E fr->rL E aQ O=J (l,f)->∃i,Inv O f/\dT e.next z i/\b9 X.G f i e m k vs/\yd X i vs fr aQ l
 |[],O,f,l,z,a,b,h=>by cases h;exact⟨z,Inv.refl _,dT.refl z,a,trivial⟩
 |.v d c::aQ,O,f,l,z,a,b,h=>by
  simp only[rL] at h;split at h
  ·rename_i s C q;split at h
   ·rename_i l1 n g;cases h;obtain⟨F,w,p,x,y⟩:=asZ a q (b d);obtain⟨B,A,j,r,t⟩:=w2 x (b.mono p.le λ_ _ h=>h) g;exact⟨B,w.trans A,p.trans j,r,rel.mono y j.le λ_ _ h=>h,t⟩
   grind
  grind
 |.o d c::aQ,O,f,l,z,a,b,h=>by
  simp only[rL] at h;split at h
  ·rename_i l1 n g;cases h;exact w2 (aQ:=aQ) a b g
  grind
 |.u d c::aQ,O,f,l,z,a,b,h=>by
  simp only[rL] at h;split at h
  ·rename_i l1 n g;cases h;exact w2 (aQ:=aQ) a b g
  grind
structure yh(D:Nat->Type) where
 c:cw
 x:c.ty D
def cos:(a:List dt)->ft D a->List (yh D)|[],_=>[]|.o _ c::a,x=>⟨c,x.1⟩::cos a x.2|.v _ _::a,x=>cos a x.2|.u _ _::a,x=>cos a x.2
theorem mD:∀{aQ:List dt}{x:ft D aQ},eU X aQ x=(cos aQ x).map λq=>cw.mk X q.c q.x ak
 |[],_=>rfl
 |.o d c::aQ,x=>by show cw.mk X c x.1 ak::eU X aQ x.2=cw.mk X c x.1 ak::(cos aQ x.2).map _;rw[mD]
 |.v d c::aQ,x=>mD (aQ:=aQ)
 |.u d c::aQ,x=>mD (aQ:=aQ)
def yq(X:e3 P D)(a:List Nat)(O:List (ba D)):List Nat->List (yh D)->Prop:=bP λi q=>∃o,O[i]?=J o/\cw.get X a q.c o=J q.x
theorem zN{r:List Nat}(n:∀(j i:Nat)(u:af),r[j]?=J i->vs[i]?=J u->vs'[j]?=J u):∀{e:List dt}{l:List (bc D)}{m:List Nat}{x:ft D e},iG X r O e l m=J x->yd X z vs fr e l->∀p∈hc X e x,rel X.G z vs' p.2 (fr p.1)
 |[],_,_,_,_,_=>by simp[hc]
 |.v d c::e,[],_,_,_,h=>h.elim
 |.o d c::e,[],_,_,_,h=>h.elim
 |.u d c::e,[],_,_,_,h=>h.elim
 |.v d c::e,s::l,m,x,h,g=>by
  simp only[iG] at h;obtain⟨t,h⟩:=gz h;split at h
  ·rename_i a b q k;cases h;intro p f;simp only[hc,ha] at f;rcases f with rfl|f
   ·exact gR.A7 n t q g.1
   ·exact zN n k g.2 p f
  grind
 |.o d c::e,s::l,[],x,h,g=>by cases h
 |.o d c::e,s::l,i::m,x,h,g=>by
  simp only[iG] at h;split at h
  ·split at h
   ·rename_i a b q k;cases h;intro p f;exact zN n k g p f
   grind
  grind
 |.u d c::e,s::l,m,x,h,g=>by
  simp only[iG] at h;split at h
  ·split at h
   ·rename_i a b q k;cases h;intro p f;exact zN n k g p f
   grind
  grind
def CG{j:List Nat}:∀{e:List dt}{l:List (bc D)}{f:List Nat}{x:ft D e},iG X j O e l f=J x->yq X j O f (cos e x)
 |[],[],[],_,_=>trivial
 |[],_::_,[],_,_=>trivial
 |[],_,_::_,_,h=>by grind[iG]
 |.v d c::e,[],_,_,h=>by grind[iG]
 |.o d c::e,[],_,_,h=>by grind[iG]
 |.u d c::e,[],_,_,h=>by grind[iG]
 |.v d c::e,s::l,f,x,h=>by
  simp only[iG] at h;obtain⟨_,h⟩:=gz h;split at h
  ·rename_i a b k g;cases h;show yq X j O f (cos e b);exact CG g
  grind
 |.o d c::e,s::l,[],x,h=>by cases h
 |.o d c::e,s::l,i::f,x,h=>by
  simp only[iG] at h;split at h
  ·rename_i o m;split at h
   ·rename_i a b k g;cases h;exact⟨⟨o,m,k⟩,CG g⟩
   grind
  grind
 |.u d c::e,s::l,f,x,h=>by
  simp only[iG] at h;split at h
  ·split at h
   ·rename_i a b k g;cases h;show yq X j O f (cos e b);exact CG g
   grind
  grind
def ab'{i:Nat}{l:List Nat}(h:tE (i::l)=aa):i∉l/\tE l=aa:=by
 simp only[tE,fx,Aq,List.any_eq_false] at h;refine⟨λa=>?_,h.2⟩;exact h.1 i a (by simp)
theorem We:∀{l:List Nat},tE l=aa->∀(a b i:Nat),l[a]?=J i->l[b]?=J i->a=b
 |[],_,a,b,i,h,_=>by grind
 |x::l,h,a,b,i,e,d=>by
  obtain⟨g,f⟩:=ab' h;cases a with
  |zero=>
   grind
  |succ a=>
   cases b with
   |zero=>
    grind
   |succ b=>simp at e d;rw[We f a b i e d]
def Y3(X:e3 P D)(a:List Nat)(O:List (ba D)):List Nat->List (yh D)->Prop:=bP λi q=>∃w,O[i]?=J (cw.gO X (λn=>a.getD n 0) q.c q.x w)
def atl{f:List Nat}(b:b9 X.G O z e m k vs){i:Nat}{o:ba D}{c:cw}{x:c.ty D}(d:O[i]?=J o)(s:cw.get X f c o=J x)(w:Bool):b9 X.G (O.set i (cw.gO X (λn=>f.getD n 0) c x w)) z e m k vs:=by
 obtain⟨v,q,t⟩:=b.at d;have r:=(fq.1 d).1;refine b.G3 (by rw[sJ];exact b.len) id (λj p a l=>?_) (λj p u a l g=>?_) (λi j _ _ _ _ _ _ h=>h)
 ·rw[ll] at a;split at a
  ·grind[cw.UL,cw.A7]
  ·obtain⟨u,g,y⟩:=b.at a
   grind
 ·rw[ll] at a;split at a
  ·grind[cw.tn]
  ·exact b.obj j p u a g
def aez{b:List Nat}{i:Nat}{p:ba D}:∀{a:List Nat}{C:List (yh D)},yq X b O a C->i∉a->yq X b (O.set i p) a C
 |[],[],_,_=>trivial
 |j::a,q::C,⟨⟨o,g,e⟩,d⟩,f=>by
  refine⟨⟨o,?_,e⟩,aez d λh=>f (kn _ h)⟩
  grind
 |[],_::_,h,_=>h.elim
 |_::_,[],h,_=>h.elim
theorem ar5{b:Type}{l:List b}{i:Nat}{a:b}(h:l[i]?=J a):l.set i a=l:=by
 apply rv
 grind
def Ll{f:List Nat}:∀{aQ:List dt}{x:ft D aQ}{bO:List Nat}{O:List (ba D)},b9 X.G O z e m k vs->yq X f O bO (cos aQ x)->tE bO=aa->
  Inv O (mY X f aQ x bO O)/\b9 X.G (mY X f aQ x bO O) z e m k vs/\Y3 X f (mY X f aQ x bO O) bO (cos aQ x)/\∀i,i∉bO->(mY X f aQ x bO O)[i]?=O[i]?
 |[],x,[],O,a,_,_=>⟨Inv.refl _,a,trivial,λ_ _=>rfl⟩
 |[],x,_::_,O,a,h,_=>h.elim
 |.v d c::aQ,x,bO,O,a,h,b=>by
  have:=Ll (aQ:=aQ) (x:=x.2) (bO:=bO) a h b
  grind[mY,cos]
 |.u d c::aQ,x,bO,O,a,h,b=>by
  have:=Ll (aQ:=aQ) (x:=x.2) (bO:=bO) a h b
  grind[mY,cos]
 |.o d c::aQ,x,[],O,a,h,b=>h.elim
 |.o d c::aQ,x,i::bO,O,a,⟨⟨o,g,n⟩,l⟩,b=>by
  obtain⟨w,t⟩:=ab' b;have s:=atl a g n (zF c O i);obtain⟨p,q,r,B⟩:=Ll (aQ:=aQ) (x:=x.2) (bO:=bO) s (aez l w) t;have y:=(fq.1 g).1;refine⟨Inv.trans ?_ p,q,⟨⟨zF c O i,?_⟩,r⟩,λj A=>?_⟩
  ·grind[zF,Inv.set,cw.Kc,cw.amX,ar5,Inv.refl]
  ·grind[mY]
  grind[mY]
theorem zx{a:Option Nat}{i:Nat}(h:oZ a i=aa):a=J i:=by
 unfold oZ at h
 grind[kA]
def Wz{i j a:Nat}{v:af}(g:∀u,vs[i]?=J u->vs'[j]?=J u)(h:lU X.G z vs [.own i] a v):lU X.G z vs' [.own j] a v:=by
 obtain⟨b,o,f,m,l,k⟩:=h;refine⟨b,o,f,m,l,?_⟩
 match f,k with
 |[d],⟨e,_⟩=>exact⟨⟨g _ e.1,e.2⟩,trivial⟩
def ada{i j t d:Nat}{a:List af}(b:∀u,vs[i]?=J u->vs'[j]?=J u)(h:bP (λc g=>lU X.G z vs c.2 0 g) [(t,[.own i])] a):bP (λc g=>lU X.G z vs' c.2 0 g) [(d,[.own j])] a:=by
 match a,h with
 |[g],⟨e,_⟩=>exact⟨Wz b e,trivial⟩
def Xi{m:List Nat}{s p:bc D}{v:af}(n:Nat->Nat)(h:wa m s p=aa)(a:rel X.G z vs p v)(f:∀(j i:Nat)(u:af),m[j]?=J i->vs[i]?=J u->vs'[n j]?=J u):rel X.G z vs' (pE n s) v:=by
 unfold wa at h;split at h
 ·exact⟨f _ _ _ (zx h) a.1,a.2⟩
 ·simp only[fx] at h;obtain⟨b,d,e⟩:=a;have:=kA h.2;subst this;exact⟨b,f _ _ _ (zx h.1) d,e⟩
 ·obtain⟨b,l,d,e⟩:=a;exact⟨b,l,f _ _ _ (zx h) d,e⟩
 ·exact a
 ·exact a
 ·exact a
 ·exact a
 ·trivial
 ·simp only[fx,decide_eq_true_eq,beq_iff_eq] at h;obtain⟨rfl,rfl⟩:=h;exact a
 ·have:=eq_of_beq h;subst this;exact a
 ·have:=kA h;subst this;obtain⟨g,d,e⟩:=a;refine⟨g,d,?_⟩;cases g with
  |nil=>trivial
  |cons _ _=>exact e.elim
 ·simp only[fx] at h;obtain⟨d,e,k⟩:=h;have:=kA k;subst this;exact Wz (f _ _ · (zx d)) a
 ·simp only[fx] at h;obtain⟨d,e,k⟩:=h;have:=kA k;subst this;obtain⟨g,q,r⟩:=a;exact⟨g,q,ada (f _ _ · (zx d)) r⟩
 grind
theorem Lp(s:bc D):pE id s=s:=by
 unfold pE
 grind
structure YC(X:e3 P D)(aQ:List dt)(fg:List (Nat×bc D))(x:ft D aQ)(bO:List Nat)(dz:List (ba D))(z:Nat->bW)(e m:Mem)(k:Option Nat)(vs dB:List af)(fr:Nat->af):Prop where
 abC:b9 X.G dz z e m k vs
 abD:b9 X.G (eU X aQ x) z e m k dB
 afm:fj X z dB (hc X aQ x++fg) fr
 r5:tE bO=aa
 wQ:Y3 X bO dz bO (cos aQ x)
 len:dB.length=bO.length
 ep:∀(j i:Nat),bO[j]?=J i->∃u,dB[j]?=J u/\vs[i]?=J u
 gt:∀q∈cos aQ x,∀n∈q.c.hs,∃i,bO[n]?=J i
def atr{b:List dt}{M:List (Nat×bc D)}{x:ft D b}{a:List Nat}{C:List (ba D)}(T:b9 X.G O z e m k vs)(K:fj X z vs E fr)(h:Lu X b M E O=J (x,a,C)):
  ∃R dB,Inv O C/\dT e.next z R/\YC X b M x a C R e m k vs dB fr:=by
 unfold Lu at h;split at h
 ·rename_i cX cu azo bF bl;split at h
  ·rename_i r;simp only[fx] at r;split at h
   ·rename_i jL Y;cases h;obtain⟨L,g0,N,g2,g3⟩:=w2 T K bF;have H:=CG Y;obtain⟨tp,t,l,Z⟩:=Ll g2 H r.1;have Q:∀(j i:Nat),a[j]?=J i->∃u,(a.map λi=>vs.getD i undef)[j]?=J u/\vs[i]?=J u:=by
     intro j i d;obtain⟨q,_,w,F⟩:=l.get j i d;obtain⟨v,aD,_⟩:=t.at F
     grind
    have P:(eU X b x).length=a.length:=by rw[mD,ug];exact l.length.symm
    have y:∀(j:Nat)(f:ba D),(eU X b x)[j]?=J f->∃i q,q∈cos b x/\f=cw.mk X q.c q.x ak/\a[j]?=J i/\∃w,(mY X a b x a cu)[i]?=J (cw.gO X (λn=>a.getD n 0) q.c q.x w):=by
     intro j f d;have cF:=(fq.1 d).1;have g:a[j]?=J (a[j]'(by omega)):=mm (by omega);obtain⟨q,fo,w,k4⟩:=l.get j _ g
     grind[mD]
    have rU:∀q∈cos b x,∀n∈q.c.hs,∃i,a[n]?=J i:=by
     intro q I;obtain⟨j,d,he⟩:=List.mem_iff_getElem.1 I;have V:(cos b x)[j]?=J q:=by grind
     have g:a[j]?=J (a[j]'(by rw[H.length];grind)):=mm _;obtain⟨ka,cL,o,_,c9⟩:=H.get j _ g
     grind[cw.amY]
    refine⟨L,a.map λi=>vs.getD i undef,g0.trans tp,N,t,?_,?_,r.1,l,by simp,Q,rU⟩
    ·refine t.G3 (by grind) (λj=>a.getD j 0) (λj f d U=>?_) (λj f u d U hu=>?_) (λi j o p az d _ _ hq=>?_)
     ·obtain⟨i,q,I,rfl,g,w,F⟩:=y j f d;obtain⟨u,A,B⟩:=Q j i g;have bg:a.getD j 0=i:=by grind
      refine⟨_,u,by rw[bg];omega,cw.tn,by grind,A,?_⟩;have:=t.obj i _ u F B;refine cw.y8 ak this λn bB xz oS=>?_
      grind
     ·grind[cw.u4]
     grind[We]
    ·refine Cm λp s=>?_;rcases kU.1 s with s|s
     ·grind[zN]
     ·have S:=iA.1 r.2 p s;have:=Xi (X:=X) (z:=L) (vs:=vs) (vs':=a.map λi=>vs.getD i undef) id S ((K.mono N.le λ_ _ h=>h) p.1) λj i u d hu=>by
       grind
      grind[Lp]
   grind
  grind
 grind
def ae4{a:List dt}{f:List (Nat×bc D)}{x:ft D a}{d:List Nat}{b:List (ba D)}(j:b9 X.G O z e m k vs)(n:fj X z vs E fr)(h:sl X a f E O=J (x,d,b)):
  ∃i dB,Inv O b/\dT e.next z i/\YC X a f x d b i e m k vs dB fr:=by
 unfold sl at h;split at h
 ·rename_i A l;obtain⟨y,r,g,s⟩:=zv j l;obtain⟨w,dB,t,q,p⟩:=atr s (n.mono g.le λ_ _ h=>h) h;exact⟨w,dB,r.trans t,g.trans q,p⟩
 grind
def ae0(E:List (Nat×bc D))(O:List (ba D))(q a:Nat):Option (Nat×Nat×List (cv D)×Bool):=
 match eI E q with
 |.box i 0=>(match O[i]? with|some (.box t b ak w)=>(match b[a]? with|some .gE=>J (i,t,b,w)|_=>ae)|_=>ae)
 |_=>ae
def jJ:List dt->List (Nat×bc D)->List (ba D)->List (Nat×bc D)×List (ba D)
 |.o d (.bh t)::a,E,O=>
  if mn d rF=aa then(match eI E d with|.c .gE=>jJ a ((d,.c (.own O.length))::E) (O++[.bh t [] ak ak])|_=>jJ a E O)
  else(match ae0 E O ((d-rF) / 1000) ((d-rF)%1000) with|some (i,u,b,_)=>jJ a E (O.set i (.box u (b.set ((d-rF)%1000) (.own O.length)) ak aa)++[.bh t [] ak ak])|none=>jJ a E O)
 |.o d (.ne e t)::a,E,O=>if mn d rF=aa then(match eI E d with|.c .gE=>jJ a ((d,.c (.own O.length))::E) (O++[.nest e t ae [] ae ak])|_=>jJ a E O) else jJ a E O
 |_::a,E,O=>jJ a E O
 |[],E,O=>(E,O)
def mf:∀{aQ:List dt}{E:List (Nat×bc D)}{O:List (ba D)}{n:List af},b9 X.G O z e m k n->fj X z n E fr->∃r,Inv O (jJ aQ E O).2/\(∀(i:Nat)(u:af),n[i]?=J u->r[i]?=J u)/\b9 X.G (jJ aQ E O).2 z e m k r/\fj X z r (jJ aQ E O).1 fr
 |[],E,O,n,g,l=>⟨n,Inv.refl _,λ_ _ h=>h,g,l⟩
 |.v _ _::aQ,E,O,n,g,l=>mf (aQ:=aQ) g l
 |.u _ _::aQ,E,O,n,g,l=>mf (aQ:=aQ) g l
 |.o _ (.box _)::aQ,E,O,n,g,l=>mf (aQ:=aQ) g l
 |.o _ (.recv _)::aQ,E,O,n,g,l=>mf (aQ:=aQ) g l
 |.o _ (.arr _ _ _)::aQ,E,O,n,g,l=>mf (aQ:=aQ) g l
 |.o _ (.map _ _ _)::aQ,E,O,n,g,l=>mf (aQ:=aQ) g l
 |.o _ (.bL _ _)::aQ,E,O,n,g,l=>mf (aQ:=aQ) g l
 |.o _ (.uI _ _ _)::aQ,E,O,n,g,l=>mf (aQ:=aQ) g l
 |.o d (.ne eV t)::aQ,E,O,n,g,l=>by
  have I:b9 X.G (O++[.nest eV t ae [] ae ak]) z e m k (n++[.slice ae 0 0]):=by refine g.push (q:=ae) ⟨e4 _,g.aS.dead,λ_ _ _=>rfl⟩ g.aS (λ_ _ _ _ _ _=>e6.qg) ?_ λ_ _ _=>e6.qg;exact⟨λf bF=>(by grind),[],⟨⟨.inl ⟨rfl,rfl⟩,λb x=>(by cases x)⟩,rfl,λj w xs h=>(by grind),λp bb=>(by grind)⟩⟩
  unfold jJ;split
  ·split
   ·rename_i M;have s:=l d;rw[M] at s;have s:fr d=.slice ae 0 0:=s;obtain⟨r,A,B,C,F⟩:=mf (aQ:=aQ) (E:=(d,.c (.own O.length))::E) I ((l.mono (fl.refl z) j0).cons ⟨by rw[s,<-g.len];simp,by rw[s];rfl,by rw[s];rfl⟩);exact⟨r,(Inv.push O _).trans A,λi u H=>B i u (j0 i u H),C,F⟩
   ·exact mf (aQ:=aQ) g l
  ·exact mf (aQ:=aQ) g l
 |.o d (.bh t)::aQ,E,O,n,g,l=>by
  have I:∀{O:List (ba D)},b9 X.G O z e m k n->b9 X.G (O++[.bh t [] ak ak]) z e m k (n++[.slice ae 0 0]):=λ{O} g=>by refine g.push (q:=ae) ⟨e4 _,g.aS.dead,λ_ _ _=>rfl⟩ g.aS (λ_ _ _ _ _ _=>e6.qg) ?_ λ_ _ _=>e6.qg;exact(⟨.inl ⟨rfl,rfl⟩,λb x=>by cases x⟩:dU (X.G.T t) z e m k [] (.slice ae 0 0))
  unfold jJ;split
  ·split
   ·rename_i M;have s:=l d;rw[M] at s;have s:fr d=.slice ae 0 0:=s;obtain⟨r,A,B,C,F⟩:=mf (aQ:=aQ) (E:=(d,.c (.own O.length))::E) (I g) ((l.mono (fl.refl z) j0).cons ⟨by rw[s,<-g.len];simp,by rw[s];rfl,by rw[s];rfl⟩);exact⟨r,(Inv.push O _).trans A,λi u H=>B i u (j0 i u H),C,F⟩
   ·exact mf (aQ:=aQ) g l
  ·generalize (d-rF) / 1000=q;generalize (d-rF)%1000=off;split
   ·rename_i i u y w bB;have x:O[i]?=J (.box u y ak w)/\y[off]?=J .gE:=by
     grind[ae0]
    obtain⟨v,R,b,Z,h1,U,S,Y⟩:=g.at x.1;have N:=I g;have az:=(fq.1 x.1).1;have Q:O.set i (.box u (y.set off (.own O.length)) ak aa)++[(.bh t [] ak ak:ba D)]=(O++[(.bh t [] ak ak:ba D)]).set i (.box u (y.set off (.own O.length)) ak aa):=by
     grind
    have P:b9 X.G (O.set i (.box u (y.set off (.own O.length)) ak aa)++[.bh t [] ak ak]) z e m k (n++[.slice ae 0 0]):=by
     rw[Q];refine N.pF (m':=m) (v:=v) (o:=.box u y ak w) (by grind) (j0 _ _ R) rfl ⟨e4 _,g.aS.dead,λ_ _ _=>rfl⟩ g.aS ?_;refine⟨b,Z,h1,U,S,lx.2 ⟨by grind[lx],λj a d K s=>?_⟩⟩;rw[ll] at K;split at K
     ·rename_i V;split at K
      ·cases K;subst V;have L:d=.slice ae 0 0:=(lx.1 Y).2 off _ d x.2 s;exact⟨by rw[L,<-g.len];simp,by rw[L];rfl,by rw[L];rfl⟩
      grind
     grind[ed.mono,lx,fl.refl]
    obtain⟨r,A,B,C,F⟩:=mf (aQ:=aQ) (E:=E) P (l.mono (fl.refl z) j0);exact⟨r,((Inv.set O i (.inr rfl)).trans (Inv.push _ _)).trans A,λi u H=>B i u (j0 i u H),C,F⟩
   ·exact mf (aQ:=aQ) g l
end
end
section
structure lF(D:Nat->Type) where
 ex:fG
 outs:List dt
 fg:List (Nat×bc D)
noncomputable section
section
variable {P:bI}{D:Nat->Type}
def mz(D:Nat->Type):List dt->Type|[]=>Unit|[i]=>i.ty D|i::j::a=>i.ty D×mz D (j::a)
def Mn:(a:List dt)->ft D a->mz D a|[],_=>()|[_],x=>x.1|_::j::b,x=>(x.1,Mn (j::b) x.2)
def gn:(a:List dt)->mz D a->ft D a|[],_=>()|[_],y=>(y,())|_::j::b,y=>(y.1,gn (j::b) y.2)
def so:List (lF D)->Type|[]=>Empty|[x]=>mz D x.outs|x::y::a=>mz D x.outs⊕so (y::a)
def Jb{d:Type}:(g:List (lF D))->so g->((x:lF D)->mz D x.outs->d)->d
 |[],e,_=>nomatch (e:Empty)
 |[x],y,k=>k x y
 |x::y::f,r,k=>match(r:mz D x.outs⊕so (y::f)) with|.inl a=>k x a|.inr b=>Jb (y::f) b k
variable (X:e3 P D)
def aeI(n:Nat):ba D->Bool
 |.box _ a _ _=>a.all λc=>match c with|.own i=>mn i n|.fn _ b=>b.all λi=>mn i n|_=>aa
 |_=>aa
def Cs(n:Nat)(O:List (ba D)):Nat->List Nat->Bool
 |_,[]=>aa
 |j,k::a=>(if k=1 then(match O[j]? with|some o=>o.live&& !o.nd&&aeI n o|none=>ak) else aa)&&Cs n O (j+1) a
def X3(n:Nat)(d:List Nat)(x:lF D)(E:List (Nat×bc D))(O:List (ba D)):Option (mz D x.outs):=match rL E x.outs O,I9 E O x.outs with|some (e,b),J a=>if tE a&&(a.all λi=>iJ n i||fi (d.getD i 0) 0)&&Cs n b 0 d&&x.fg.all λp=>wa (mN n++a) p.2 (eI E p.1) then match iG X (mN n++a) b x.outs e a with|some y=>J (Mn x.outs y)|none=>ae else ae|_,_=>ae
def xv(n:Nat)(b:List Nat)(x:lF D)(E:List (Nat×bc D))(O:List (ba D)):Option (mz D x.outs):=match pt (jJ x.outs E O).1 x.outs (jJ x.outs E O).2 with|some a=>X3 X n b x (jJ x.outs E O).1 a|none=>ae
def sk(n:Nat)(d:List Nat):(f:List (lF D))->fG->List (Nat×bc D)->List (ba D)->Option (so f)
 |[],_,_,_=>ae
 |[x],e,E,O=>if e=x.ex then xv X n d x E O else ae
 |x::y::g,e,E,O=>if e=x.ex then(match xv X n d x E O with|some a=>J (Sum.inl a)|none=>ae) else(match sk n d (y::g) e E O with|some b=>J (Sum.inr b)|none=>ae)
def kc(b:Nat->Nat):(a:List dt)->ft D a->Nat->ba D|.u i c::a,x,j=>if fi i j=aa then cw.gO X b c x.1 aa else kc b a x.2 j|.v _ _::a,x,j=>kc b a x.2 j|.o _ _::a,x,j=>kc b a x.2 j|[],_,_=>.dead
def wE(n:Nat):Nat:=n
def o0(a:List dt)(y:ft D a):Nat->List Nat->List (ba D)->List (ba D)|i,k::b,o::O=>(if k=1 then o else if k=2 then kc X wE a y i else .dead)::o0 a y (i+1) b O|i,[],o::O=>.dead::o0 a y (i+1) [] O|_,_,[]=>[]
def ly(b:List Nat)(d:List (ba D))(a:List dt)(y:ft D a):List (ba D):=o0 X a y 0 b d++eU X a y
end
section
variable {P:bI}{D:Nat->Type}{X:e3 P D}{z z':Nat->bW}{e m m':Mem}{k:Option Nat}{vs vs':List af}{fr:Nat->af}{E:List (Nat×bc D)}{O cr:List (ba D)}
def ae1:∀{aQ:List dt}(x:ft D aQ),gn aQ (Mn aQ x)=x
 |[],_=>rfl
 |[_],_=>rfl
 |_::j::a,x=>by show(x.1,gn (j::a) (Mn (j::a) x.2))=x;rw[ae1 (aQ:=j::a) x.2];rfl
def KG{n:Nat}{j:List Nat}{i:fG}:∀{e:List (lF D)}{d:so e},sk X n j e i E O=J d->∃x y,x∈e/\i=x.ex/\xv X n j x E O=J y/\∀{k:Type}(K:(x:lF D)->mz D x.outs->k),Jb e d K=K x y
 |[],_,h=>by cases h
 |[x],d,h=>by obtain⟨g,f⟩:=gz h;exact⟨x,d,oG,g,f,λ_=>rfl⟩
 |x::y::w,d,h=>by
  simp only[sk] at h;split at h
  ·rename_i m;split at h
   ·rename_i a q;cases h;exact⟨x,a,oG,m,q,λ_=>rfl⟩
   grind
  ·split at h
   ·rename_i b p;cases h;obtain⟨s,t,g,f,l,r⟩:=KG p;exact⟨s,t,kn _ g,f,l,λK=>r K⟩
   grind
def KV{m:List Nat}{n:Nat}:∀{aQ:List dt}{l:List (bc D)}{g:List Nat}{x:ft D aQ}{j:Nat},iG X m O aQ l g=J x->(∀e,kc X e aQ x j=.dead)\/∃c y o,O[j]?=J o/\cw.get X m c o=J y/\∀e,kc X e aQ x j=cw.gO X e c y aa
 |[],_,_,_,_,_=>.inl λ_=>rfl
 |.v d c::aQ,[],_,_,_,h=>by grind[iG]
 |.o d c::aQ,[],_,_,_,h=>by grind[iG]
 |.u d c::aQ,[],_,_,_,h=>by grind[iG]
 |.v d c::aQ,s::l,g,x,j,h=>by
  simp only[iG] at h;obtain⟨_,h⟩:=gz h;split at h
  ·rename_i a b k f;cases h;exact KV (n:=n) (aQ:=aQ) f
  grind
 |.o d c::aQ,s::l,[],x,j,h=>by cases h
 |.o d c::aQ,s::l,i::g,x,j,h=>by
  simp only[iG] at h;split at h
  ·split at h
   ·rename_i a b k f;cases h;exact KV (n:=n) (aQ:=aQ) f
   grind
  grind
 |.u d c::aQ,s::l,g,x,j,h=>by
  simp only[iG] at h;split at h
  ·rename_i o p;split at h
   ·rename_i a b k f;cases h;by_cases r:fi d j=aa
    ·have:=kA r;subst this;refine .inr ⟨c,a,o,p,k,λe=>?_⟩;show(if fi d d=aa then cw.gO X e c a aa else _)=_
     grind
    ·have q:∀e,kc X e (.u d c::aQ) (a,b) j=kc X e aQ b j:=λe=>by
      show(if fi d j=aa then cw.gO X e c a aa else _)=_
      grind
     simp only[q];exact KV (n:=n) (aQ:=aQ) (j:=j) f
   grind
  grind
def dt.hs:dt->List Nat|.v _ _=>[]|.o _ c=>c.hs|.u _ c=>c.hs
def dt.y9:dt->Bool|.v _ c=>c.y9|_=>aa
def tx:∀{aQ:List dt}{x:ft D aQ}{j:Nat},(∀a,kc X a aQ x j=.dead)\/∃d c y,dt.u d c∈aQ/\∀a,kc X a aQ x j=cw.gO X a c y aa
 |[],_,_=>.inl λ_=>rfl
 |.v d c::aQ,x,j=>by
  rcases tx (aQ:=aQ) (x:=x.2) (j:=j) with h|⟨d,c,y,e,b⟩
  ·exact .inl h
  ·exact .inr ⟨d,c,y,kn _ e,b⟩
 |.o d c::aQ,x,j=>by
  rcases tx (aQ:=aQ) (x:=x.2) (j:=j) with h|⟨d,c,y,e,b⟩
  ·exact .inl h
  ·exact .inr ⟨d,c,y,kn _ e,b⟩
 |.u d c::aQ,x,j=>by
  by_cases f:fi d j=aa
  ·exact .inr ⟨d,c,x.1,oG,λa=>if_pos f⟩
  ·have g:∀a,kc X a (.u d c::aQ) x j=kc X a aQ x.2 j:=λa=>if_neg f;simp only[g];rcases tx (aQ:=aQ) (x:=x.2) (j:=j) with h|⟨d,c,y,e,b⟩
   ·grind
   ·exact .inr ⟨d,c,y,kn _ e,b⟩
def xc:∀{aQ:List dt}{x:ft D aQ}{o:ba D},o∈eU X aQ x->∃d c y,dt.o d c∈aQ/\o=cw.mk X c y ak
 |[],_,_,h=>by grind[eU]
 |.v d c::aQ,x,o,h=>let⟨d,c,y,b,a⟩:=xc (aQ:=aQ) (x:=x.2) h;⟨d,c,y,kn _ b,a⟩
 |.u d c::aQ,x,o,h=>let⟨d,c,y,b,a⟩:=xc (aQ:=aQ) (x:=x.2) h;⟨d,c,y,kn _ b,a⟩
 |.o d c::aQ,x,o,h=>by
  simp only[eU,ha] at h;rcases h with rfl|h
  ·exact⟨d,c,x.1,oG,rfl⟩
  ·obtain⟨d,c,y,b,a⟩:=xc (aQ:=aQ) (x:=x.2) h
   grind
theorem zB:∀{aQ:List dt}{x:ft D aQ}{p:Nat×bc D},p∈hc X aQ x->∃d c y,dt.v d c∈aQ/\p.2=gR.mk X c y
 |[],_,_,h=>by grind[hc]
 |.o d c::aQ,x,o,h=>by
  obtain⟨f,b,y,e,a⟩:=zB (aQ:=aQ) (x:=x.2) h
  grind
 |.u d c::aQ,x,o,h=>by
  obtain⟨f,b,y,e,a⟩:=zB (aQ:=aQ) (x:=x.2) h
  grind
 |.v d c::aQ,x,o,h=>by
  simp only[hc,ha] at h;rcases h with rfl|h
  ·exact⟨d,c,x.1,oG,rfl⟩
  ·obtain⟨f,b,y,e,a⟩:=zB (aQ:=aQ) (x:=x.2) h
   grind
theorem q5{a:List dt}{y:ft D a}:∀{i:Nat}{b:List Nat}{O:List (ba D)},(o0 X a y i b O).length=O.length
 |i,[],[]=>rfl
 |i,_::_,[]=>rfl
 |i,k::b,o::O=>by simp[o0,q5]
 |i,[],o::O=>by simp[o0,q5]
theorem xd{outs:List dt}{y:ft D outs}:∀{i:Nat}{ks:List Nat}{O:List (ba D)}{j:Nat}{o:ba D},O[j]?=J o->(o0 X outs y i ks O)[j]?=J (if ks.getD j 0=1 then o else if ks.getD j 0=2 then kc X wE outs y (i+j) else .dead)
 |i,ks,[],j,o,h=>by grind
 |i,k::ks,p::O,0,o,h=>by grind[o0]
 |i,k::ks,p::O,j+1,o,h=>by
  simp only[qH] at h;have:=xd (outs:=outs) (y:=y) (i:=i+1) (ks:=ks) h
  grind[o0]
 |i,[],p::O,0,o,h=>by rfl
 |i,[],p::O,j+1,o,h=>by
  simp only[qH] at h;have:=xd (outs:=outs) (y:=y) (i:=i+1) (ks:=[]) h
  grind[o0]
theorem aru{n:Nat}{o:ba D}(h:aeI n o=aa):∀i,XH i o->i<n:=by
 intro i a;cases o with
 |box t b bZ w=>
  rcases a with a|⟨f,e,a,d⟩
  ·have:=iA.1 h _ a;simp_all
  ·have:=iA.1 h _ a;simp_all
 |_=>exact a.elim
def ac3{n:Nat}:∀{a:List Nat}{i j:Nat},Cs n O i a=aa->a.getD j 0=1->∃o,O[i+j]?=J o/\o.live=aa/\o.nd=ak/\∀i,XH i o->i<n
 |[],i,j,_,h=>by grind
 |k::a,i,0,b,h=>by
  grind[Cs,aru]
 |k::a,i,j+1,b,h=>by
  simp only[Cs,fx] at b;simp only[List.getD_cons_succ] at h;obtain⟨o,e,d⟩:=ac3 b.2 h
  grind
def arn{d:List dt}{g:List Nat}{x:ft D d}{f:lF D}{y:mz D f.outs}{dB:List af}(az:Inv (eU X d x) O)(aD:∀(i:Nat)(u:af),dB[i]?=J u->vs[i]?=J u)(hV:dB.length=(eU X d x).length)
  (aN:b9 X.G O z e m k vs) (bp:fj X z vs E fr) (h:X3 X dB.length g f E O=J y):
  ∃z' ep,dT e.next z z'/\b9 X.G (ly X g (eU X d x) f.outs (gn _ y)) z' e m k (dB++ep)/\∀p∈hc X f.outs (gn _ y)++f.fg,rel X.G z' (dB++ep) p.2 (fr p.1):=by
 unfold X3 at h;split at h
 ·rename_i cX cu b bF bl;split at h
  ·rename_i ay;simp only[fx] at ay;obtain⟨⟨⟨c1,c2⟩,yA⟩,ZP⟩:=ay;split at h
   ·rename_i B aw;cases h;rw[ae1];obtain⟨dv,g0,g1,L,g3⟩:=w2 aN bp bF;have Y:=CG aw;have kL:=az.trans g0;have S:∀(j i:Nat),b[j]?=J i->∃u,(b.map λi=>vs.getD i undef)[j]?=J u/\vs[i]?=J u:=by
     intro j i t;obtain⟨q,_,o,a,_⟩:=Y.get j i t;obtain⟨v,aD,_⟩:=L.at a
     grind
    have hlen:(eU X f.outs B).length=b.length:=by rw[mD,ug];exact Y.length.symm
    have P:∀(j:Nat)(o:ba D),(ly X g (eU X d x) f.outs B)[j]?=J o->
      (j<dB.length/\∃M,(eU X d x)[j]?=J M/\o=(if g.getD j 0=1 then M else if g.getD j 0=2 then kc X wE f.outs B j else .dead))\/
      (dB.length<=j/\(eU X f.outs B)[j-dB.length]?=J o):=by
     grind[ly,q5,xd]
    have R:∀(j:Nat)(u:af),j<dB.length->vs[j]?=J u->(dB++b.map λi=>vs.getD i undef)[j]?=J u:=by
     grind
    have rU:∀(n i:Nat)(u:af),(mN dB.length++b)[n]?=J i->vs[i]?=J u->(dB++b.map λi=>vs.getD i undef)[n]?=J u:=by
     grind
    refine⟨dv,b.map λi=>vs.getD i undef,g1,?_,?_⟩
    ·refine L.G3 ?_ (λj=>if j<dB.length then j else b.getD (j-dB.length) 0) (λj o t I=>?_) (λj o u t I U=>?_) (λi j o p fm t aaS aaT hq=>?_)
     ·grind[ly,q5]
     ·rcases P j o t with⟨A,M,Q,a⟩|⟨hA,a⟩
      ·simp only[if_pos A];by_cases H:g.getD j 0=1
       ·rw[if_pos H] at a;subst a;obtain⟨p,l,r,Z,V0⟩:=ac3 yA H;rw[lH] at l;have:=kL.ew j p (by omega) l r Z;rw[Q] at this;cases this;obtain⟨v,s,N⟩:=L.at l;obtain⟨_,c,w,_,rfl⟩:=xc (mM Q);exact⟨_,v,l,r,s,R j v A s,cw.abB ak N λn _ a u U=>R n u (V0 n a) U⟩
       ·rw[if_neg H] at a;by_cases K:g.getD j 0=2
        ·rw[if_pos K] at a;rcases KV (n:=0) (j:=j) aw with F|⟨c,w,p,l,r,Z⟩
         ·rw[a,F] at I;cases I
         ·obtain⟨v,s,N⟩:=L.at l;refine⟨p,v,l,cw.UL r,s,R j v A s,?_⟩;rw[a,Z];exact cw.A7 r N rU aa
        ·rw[if_neg K] at a;rw[a] at I;cases I
      ·have bB:¬j<dB.length:=by omega
       simp only[if_neg bB];have A:=(fq.1 a).1;have T:b[j-dB.length]?=J (b[j-dB.length]'(by omega)):=mm (by omega);obtain⟨q,fv,p,l,r⟩:=Y.get _ _ T;rw[mD,List.getElem?_map,fv] at a;have a:=(Option.some.inj a).symm;subst a;obtain⟨u,G7,Ya⟩:=S _ _ T;obtain⟨v,s,N⟩:=L.at l;rw[Ya] at s;cases s;have F:b.getD (j-dB.length) 0=b[j-dB.length]'(by omega):=by grind
       refine⟨p,u,by grind,cw.UL r,by grind,?_,?_⟩
       ·grind
       ·exact cw.A7 r N rU ak
     ·rcases P j o t with⟨A,M,Q,a⟩|⟨hA,a⟩
      ·by_cases H:g.getD j 0=1
       ·rw[if_pos H] at a;subst a;obtain⟨_,c,w,_,rfl⟩:=xc (mM Q)
        grind[cw.u4]
       ·rw[if_neg H] at a;by_cases K:g.getD j 0=2
        ·rw[if_pos K] at a;rcases tx (X:=X) (aQ:=f.outs) (x:=B) (j:=j) with F|⟨_,c,w,_,F⟩
         ·rw[a,F];trivial
         grind[cw.tn]
        ·rw[if_neg K] at a;rw[a];trivial
      ·obtain⟨_,c,w,_,rfl⟩:=xc (mM a)
       grind[cw.u4]
     ·have dead:∀(i j:Nat)(o p:ba D),i<dB.length->dB.length<=j->(ly X g (eU X d x) f.outs B)[i]?=J o->(ly X g (eU X d x) f.outs B)[j]?=J p->o.live=aa->i=b.getD (j-dB.length) 0->False:=by
       intro i j o p Vb aaN a C eW hq;rcases P j p C with⟨A,_⟩|⟨_,wv⟩
       ·omega
       ·have A:=(fq.1 wv).1;have T:b[j-dB.length]?=J (b[j-dB.length]'(by omega)):=mm (by omega);have F:b.getD (j-dB.length) 0=b[j-dB.length]'(by omega):=by grind
        have hm:i∈b:=by grind
        have:=iA.1 c2 i hm;simp only[Ar] at this;have nC:g.getD i 0=0:=by
         grind[pk,kA]
        rcases P i o a with⟨_,M,_,V⟩|⟨hA,_⟩
        ·rw[nC] at V;simp at V;rw[V] at eW;cases eW
        grind
      by_cases h1:i<dB.length
      ·by_cases ai:j<dB.length
       ·grind
       grind
      ·by_cases ai:j<dB.length
       ·grind
       grind[We]
    ·intro p C;rcases kU.1 C with C|C
     ·grind[zN]
     ·have aJ:=iA.1 ZP p C;have:=Xi (X:=X) (z:=dv) (vs:=vs) (vs':=dB++b.map λi=>vs.getD i undef) id aJ ((bp.mono g1.le λ_ _ h=>h) p.1) λj i u t U=>by
       grind
      grind[Lp]
   grind
  grind
 grind
def B8{ins:List dt}{ks:List Nat}{x:ft D ins}{ee:lF D}{y:mz D ee.outs}{dB:List af}(j:Inv (eU X ins x) O)(f:∀(i:Nat)(u:af),dB[i]?=J u->vs[i]?=J u)(C:dB.length=(eU X ins x).length)
  (g:b9 X.G O z e m k vs) (n:fj X z vs E fr) (h:xv X dB.length ks ee E O=J y):
  ∃b a,dT e.next z b/\b9 X.G (ly X ks (eU X ins x) ee.outs (gn _ y)) b e m k (dB++a)/\∀p∈hc X ee.outs (gn _ y)++ee.fg,rel X.G b (dB++a) p.2 (fr p.1):=by
 obtain⟨K,t,w,A,B⟩:=mf (aQ:=ee.outs) g n;unfold xv at h;split at h
 ·rename_i N l;obtain⟨M,H,d,q⟩:=zv A l;obtain⟨L,a,I,s,r⟩:=arn ((j.trans t).trans H) (λi u F=>w i u (f i u F)) C q (B.mono d.le λ_ _ h=>h) h;exact⟨L,a,d.trans I,s,r⟩
 grind
end
end
end
end Go.aF