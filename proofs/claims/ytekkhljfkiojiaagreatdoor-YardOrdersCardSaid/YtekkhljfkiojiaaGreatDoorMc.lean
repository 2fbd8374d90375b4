/- A part of the proof of YardOrders; no condition of our own. -/
import Derived.Below
import Derived.Deep.Slices
import Derived.Test.YtekkhljfkiojiaaGreatDoorMb
set_option linter.defProp false
set_option linter.unusedSimpArgs false
set_option linter.unusedVariables false
open Bool renaming false->ak,true->aa
open Go renaming IntKind->aG,Operand->bS,Program->bI,TypeId->bV,Value->af
open Go.Cell renaming okWide->Tr
open Go.DataW renaming Trod->Tt,trod->ua
open Go.IntKind renaming bits->pP
open Go.Program renaming cellsOf->nY
open Go.Value renaming cells->yu,int->mu,okWide->AQ,slice->pr
open Go.World renaming block_lt_of_cell?->I8
open List renaming all_cons->ml,ext_getElem?->rv,getElem?_append_left->kS,getElem?_append_right->kT,getElem?_eq_getElem->mm,getElem?_eq_some_iff->fq,getElem?_map->sH,getElem?_set->ll,length_set->sJ,map_cons->rA,range->mN,replicate->gb
open Nat renaming add_assoc->sK,add_mul->ko,beq->fi,ble->iJ,blt->mn,le_of_ble_eq_true->pk,le_refl->e4,le_trans->jd,mul_le_mul_right->oH,succ_mul->IU,zero_add->lH,zero_le->pn
open Option renaming bind->ab,getD_some->IV,isSome->Y2,none->ae,some->J
open True renaming intro->fs
open UInt8 renaming ofNat->AO
namespace Go.aF
section
theorem acB(w:World):∀b,(ig w).next<=b->(ig w).blk b=.dead:=(ad8 w).dead
def as'(w:World):lk (ig w).blk (ig w):=λb a=>⟨by
 grind[ig,bW.mem],by
 grind[acB]⟩
def Wn{w:World}{b:Nat}(h:b<w.heap.size):((ig w).blk b).iD:=by
 grind[ig,bW.iD]
def apo{w:World}{b o:Nat}{v:af}(h:(ig w).load b o=J v):nH (ig w).blk b o=J v:=by
 grind[Mem.load,nH]
open Classical in
noncomputable def seen(w:World)(b:Nat)(c:af):af:=if eA (h5 w) c c then c else(xt b c).getD c
theorem wT{w:World}{b:Nat}{c:af}(h:eA (h5 w) c c):seen w b c=c:=by simp[seen,h]
def wO(w:World)(c:af):Prop:=eA (h5 w) c c\/∃a,c=.slice (J a) 0 0
def B4{w:World}{c:af}(h:dy c=aa):wO w c:=.inl (q4 h)
def BO{w:World}{b:Nat}{c:af}(h:dy c=aa):seen w b c=c:=wT (q4 h)
def ayZ{w:World}{b:Nat}{c:af}(h:wO w c)(e:b<w.heap.size):eA (h5 w) (seen w b c) c:=by
 by_cases d:eA (h5 w) c c
 ·rw[wT d];exact d
 ·rcases h with h|⟨a,rfl⟩
  ·exact absurd h d
  ·simp only[seen,d,if_false,xt,IV];exact⟨⟨b,0,0,0⟩,rfl,by simp[h5,e],.inr (.inr (.inr (.inl ⟨rfl,rfl,a,rfl⟩)))⟩
def arF{w:World}{b o:Nat}{c:af}(h:wO w c)(e:w.cell? ⟨b,o,ae⟩=J c):(ig w).load b o=J (seen w b c):=by
 have f:b<w.heap.size:=I8 w ⟨b,o,ae⟩ e;by_cases d:eA (h5 w) c c
 ·rw[wT d];exact arb e d
 ·rcases h with h|⟨a,rfl⟩
  ·exact absurd h d
  ·simp[Mem.load,ig,f,e,d,xt,seen]
def aqX{w:World}{a:Addr}{v:af}(h:w.cell? a=J v):a.spot=ae/\a.block<w.heap.size:=by
 refine⟨?_,I8 w a h⟩;simp only[World.cell?] at h;split at h
 ·simp_all
 grind
structure po(P:bI){aK:Type}(T:cM aK)(G:aK->Prop):Prop where
 bM:P.cellsOf T.tid=T.bM
 pos:0<T.bM
 rd:∀{H:Type}{enc:bV×af->H}{w:World}{lp:Nat}{cs:List af}{x:DataW H×List MemPlace},ua enc P w 0 (λ_=>aa) aa lp T.tid cs=J x->
  (∀c∈cs,wO w c)/\∀b,(b<w.heap.size\/∀c∈cs,eA (h5 w) c c)->∃a,T.rd (ig w).blk a (cs.map (seen w b))/\G a
def po.conv{P:bI}{b:Type}{T AN:cM b}{G:b->Prop}(h:po P T G)(a:AN.tid=T.tid)(d:AN.bM=T.bM)(g:∀z x f,T.rd z x f->AN.rd z x f):po P AN G where
 bM:=by rw[a,d];exact h.bM
 pos:=by rw[d];exact h.pos
 rd:=λe=>by
  rw[a] at e;obtain⟨j,i⟩:=h.rd e
  grind
def aal(k:aG)(n:Int):Prop:=k.min<=n/\n<=k.max
def aan(s:List UInt8):Prop:=s.length<=maxLen
def aak{a:Type}(_:a):Prop:=True
def A6{a:Type}(G:a->Prop)(b:List a):Prop:=b.length<=maxLen/\∀x∈b,G x
def asD{P:bI}{t:bV}{k:aG}{i:TypeInfo}(d:P.underlying t=J (.int k))(e:P.info? t=J i)(f:i.size=1):po P (I4 t k) (aal k) where
 bM:=by grind[I4,cM.flat,nY]
 pos:=by simp[I4,cM.flat]
 rd:=λh=>by obtain⟨n,rfl,_,g⟩:=DataW.trod_int d h;exact⟨λc a=>by simp at a;subst a;exact B4 rfl,λb _=>⟨n,by simp[I4,cM.flat,BO (w:=_) (b:=b) (c:=.int k n) rfl],by grind[Lit.wf,aal]⟩⟩
def ay3{P:bI}{t:bV}{i:TypeInfo}(d:P.underlying t=J (.int .u8))(f:P.info? t=J i)(g:i.size=1):po P (kE t) aak where
 bM:=by grind[kE,cM.flat,nY]
 pos:=by simp[kE,cM.flat]
 rd:=λh=>by
  obtain⟨n,rfl,_,e⟩:=DataW.trod_int d h;refine⟨λc a=>by simp at a;subst a;exact B4 rfl,λb _=>⟨AO n.toNat,?_,trivial⟩⟩;simp[Lit.wf,aG.min,aG.max,aG.signed,pP] at e;have:((AO n.toNat).toNat:Int)=n:=by simp;omega
  show[mu .u8 n].map (seen _ b)=[mu .u8 ((AO n.toNat).toNat:Int)];rw[this];simp[BO (w:=_) (b:=b) (c:=.int .u8 n) rfl]
def ay0{P:bI}{t:bV}{i:TypeInfo}(d:P.underlying t=J .bool)(e:P.info? t=J i)(f:i.size=1):po P (Cn t) aak where
 bM:=by grind[Cn,cM.flat,nY]
 pos:=by simp[Cn,cM.flat]
 rd:=λh=>by obtain⟨n,rfl,_⟩:=DataW.trod_bool d h;exact⟨λc a=>by simp at a;subst a;exact B4 rfl,λb _=>⟨n,by simp[Cn,cM.flat,BO (w:=_) (b:=b) (c:=.bool n) rfl],trivial⟩⟩
def ay1{P:bI}{t:bV}{i:TypeInfo}(d:P.underlying t=J .string)(f:P.info? t=J i)(e:i.size=1):po P (I5 t) aan where
 bM:=by grind[I5,cM.flat,nY]
 pos:=by simp[I5,cM.flat]
 rd:=λh=>by obtain⟨n,rfl,_,e⟩:=DataW.trod_string d h;exact⟨λc a=>by simp at a;subst a;exact B4 rfl,λb _=>⟨n.data.toList,by simp[I5,cM.flat,str,BO (w:=_) (b:=b) (c:=.string n) rfl],by simp_all[aan]⟩⟩
def aeb{P:bI}{A:Type}{T:cM A}{G:A->Prop}{t:bV}(U:po P T G)(aJ:P.underlying t=J (.slice T.tid)){H:Type}{R:bV×af->H}{w:World}{lp:Nat}{cs:List af}{x:DataW H×List MemPlace}
  (h:ua R P w 0 (λ_=>aa) aa lp t cs=J x):∃c,cs=[c]/\wO w c/\∀b,(b<w.heap.size\/eA (h5 w) c c)->∃p,fA T (ig w).blk p (seen w b c)/\A6 G p:=by
 rcases Deep.open_slice aJ h with⟨rfl,_⟩|⟨a,len,cap,m,n,D,ago,rfl,_,Y,S,lN,_,N⟩
 ·exact⟨_,rfl,B4 rfl,λb _=>⟨[],by rw[BO rfl];exact .nil,by simp[A6]⟩⟩
 ·simp only[if_true] at lN;subst lN;refine⟨_,rfl,?_⟩;rcases Nat.eq_zero_or_pos m with bR|hh
  ·subst bR;have hV:len=0:=by omega
   subst hV;refine⟨.inr ⟨a,rfl⟩,λb r=>⟨[],?_,by simp[A6]⟩⟩;by_cases q:eA (h5 w) (.slice (J a) 0 0) (.slice (J a) 0 0)
   ·rw[wT q];obtain⟨e,h1,Z,_⟩:=q;obtain⟨d,f,K⟩:=a;simp only at h1 Z;subst h1;exact .inr ⟨d,f,0,rfl,Wn (w1 Z).1,.inr ⟨by simp[dc],e4 _⟩,λi x g=>by simp at g⟩
   ·have r:b<w.heap.size:=by
     rcases r with r|r
     ·exact r
     ·exact absurd r q
    simp only[seen,q,if_false,xt,IV];exact .inr ⟨b,0,0,rfl,Wn r,.inr ⟨by simp[dc],e4 _⟩,λi x g=>by simp at g⟩
  ·have bf:=U.bM;have bb:=U.pos;obtain⟨X,g1,_⟩:=N 0 hh;obtain⟨_,g2,g3⟩:=World.cells?_some g1;rw[bf] at g2 g3;have L:=g3 0 bb;obtain⟨v0,yY⟩:∃v,X[0]?=J v:=⟨X[0]'(by omega),by simp[show 0<X.length by omega]⟩
   rw[yY] at L;simp only[Nat.zero_mul] at L;have JI:(a.add 0).add 0=a:=by simp[Addr.add]
   rw[JI] at L;obtain⟨C,k⟩:=aqX L;obtain⟨d,f,K⟩:=a;simp only at C k;subst C;have q:eA (h5 w) (.slice (J ⟨d,f,ae⟩) len m) (.slice (J ⟨d,f,ae⟩) len m):=
    ⟨⟨d,0,0,0⟩,rfl,by simp[h5,k],.inl ⟨by simp only[maxLen] at S;simp only[dc];omega,by simp⟩⟩
   refine⟨.inl q,λb _=>?_⟩;rw[wT q];have M:∀i,i<len->∃y:A,G y/\∃I,T.rd (ig w).blk y I/\o2 (ig w).blk d (f+i*T.bM) I:=by
    intro i g;obtain⟨ci,cL,c9⟩:=N i (by omega);obtain⟨_,fo,k4⟩:=World.cells?_some cL;rw[bf] at fo k4;obtain⟨eT,e0⟩:=U.rd c9;obtain⟨y,B,V⟩:=e0 d (.inl k);refine⟨y,V,_,B,λj u s=>?_⟩;rw[sH] at s;cases E:ci[j]? with
    |none=>rw[E] at s;cases s
    |some c=>rw[E] at s;simp at s;subst s;have aaO:=(fq.1 E).1;have wH:=k4 j (by omega);rw[E,o4,o4] at wH;exact apo (arF (eT c (List.mem_of_getElem? E)) wH)
   have:∃p:List A,p.length=len/\(∀y∈p,G y)/\∀(i:Nat)(y:A),p[i]?=J y->∃I,T.rd (ig w).blk y I/\o2 (ig w).blk d (f+i*T.bM) I:=by
    clear N Y S q g1 hh;revert M;generalize len=l;induction l with
    |zero=>intro _;exact⟨[],rfl,λy B=>by simp at B,λi y g=>by simp at g⟩
    |succ l a1=>
     intro M;obtain⟨p,F,Q,O⟩:=a1 λi g=>M i (by omega);obtain⟨y,V,B⟩:=M l (by omega);refine⟨p++[y],by simp[F],λu z=>by rcases List.mem_append.1 z with z|z;exact Q u z;simp at z;subst z;exact V,λi u g=>?_⟩;by_cases aaK:i<l
     ·rw[kS (by omega)] at g;exact O i u g
     ·have cF:=(fq.1 g).1;simp at cF;have:i=l:=by omega
      subst this;rw[kT (by omega)] at g;simp[F] at g;subst g;exact B
   obtain⟨p,F,Q,O⟩:=this;refine⟨p,.inr ⟨d,f,m,by rw[F],Wn k,.inr ⟨by simp only[maxLen] at S;simp only[dc];omega,by rw[F];exact Y⟩,O⟩,by omega,Q⟩
def ay2{P:bI}{a:Type}{T:cM a}{G:a->Prop}{t:bV}{i:TypeInfo}(k:po P T G)(e:P.underlying t=J (.slice T.tid))(n:P.info? t=J i)(p:i.size=1):po P (TV t T) (A6 G) where
 bM:=by grind[TV,nY]
 pos:=by simp[TV]
 rd:=λh=>by obtain⟨c,rfl,r,f⟩:=aeb k e h;refine⟨λd q=>by grind,λb j=>?_⟩;obtain⟨m,g,l⟩:=f b (j.imp id λh=>h c (by simp));exact⟨m,⟨_,rfl,g⟩,l⟩
def asn{P:bI}{k:Type}{T:cM k}{G:k->Prop}{t:bV}(A:po P T G)(j:P.underlying t=J (.slice T.tid)){H:Type}{i:bV×af->H}{w:World}{b:Nat}{v:af}{d:DataW H}{x:List MemPlace}
  (g:AQ P w .any b t v) (h:Tt i P w 0 (λ_=>aa) aa t v d x):de (h5 w) v v/\∃p,fA T (ig w).blk p v/\A6 G p:=by
 obtain⟨O,r⟩:=h;obtain⟨c,L,M,K⟩:=aeb A j r;have F:eA (h5 w) v v/\c=v:=by
  simp only[AQ,j,Tr,Cell.ok] at g;cases v with
  |slice a l q=>
   have z:c=.slice a l q:=by grind[yu]
   refine⟨?_,z⟩;cases a with
   |none=>rfl
   |some a=>
    simp only at g;obtain⟨I,N,y⟩:=g;obtain⟨_,m,C,f,E,_⟩:=y;have s:a.block<w.heap.size:=by
     grind[World.shape?]
    obtain⟨e,B,n⟩:=a;simp only at m s;subst m;refine⟨⟨e,0,0,0⟩,rfl,by grind[h5],.inl ⟨?_,by simp⟩⟩
    grind[aG.max,aG.signed,pP,dc]
  |_=>grind
 simp_all[de.qh,wT]
theorem ast{P:bI}{w:World}{b:Nat}{u:bV}{c:af}(h:Tr P w .any b u c)(g:wO w c):eA (h5 w) c c:=by
 rcases g with g|⟨a,rfl⟩
 ·grind
 ·cases l:P.underlying u with
  |none=>simp_all[Tr,Cell.ok]
  |some d=>
   cases d<;>simp only[Tr,Cell.ok,l] at h
   obtain⟨_,_,_,i,n,f,p,_⟩:=h;have k:a.block<w.heap.size:=by
    grind[World.shape?]
   obtain⟨e,m,j⟩:=a;simp only at i k;subst i;exact⟨⟨e,0,0,0⟩,rfl,by grind[h5],.inl ⟨by simp[dc],by simp⟩⟩
def asm{P:bI}{j:Type}{T:cM j}{G:j->Prop}{t:Array Field}{H:Type}{e:bV×af->H}{w:World}{f:Nat}{v:af}{d:DataW H}{g:List MemPlace}
  (y:∀{i:Nat}{b:List af},ua e P w 0 (λ_=>aa) aa i T.tid b=J (d,g)->(∀c∈b,wO w c)/\((∀c∈b,eA (h5 w) c c)->∃a,T.rd (ig w).blk a b/\G a)) (p:P.underlying T.tid=J (.struct t))
  (m:AQ P w .any f T.tid v) (h:Tt e P w 0 (λ_=>aa) aa T.tid v d g):de (h5 w) v v/\∃x b,v=.agg b.toArray/\T.rd (ig w).blk x b/\G x:=by
 obtain⟨i,C⟩:=h;simp only[AQ,p] at m;obtain⟨b,rfl,F,K,q,_,L⟩:=m;have B:ua e P w 0 (λ_=>aa) aa i T.tid b.toList=J (d,g):=by grind[yu]
 obtain⟨I,r⟩:=y B;have z:∀c∈b.toList,eA (h5 w) c c:=by
  grind[List.getElem?_of_mem,ast]
 obtain⟨x,s,A⟩:=r z;refine⟨⟨b,rfl,?_⟩,x,b.toList,by rfl,s,A⟩;have:∀l:List af,(∀c∈l,eA (h5 w) c c)->bP (eA (h5 w)) l l:=by
  intro l;induction l with
  |nil=>intro _;exact fs
  |cons c l n=>intro k;exact⟨k c (by simp),n λd E=>k d (by grind)⟩
 grind
def ayX{P:bI}{e:Type}{T:cM e}{G:e->Prop}{j:Array Field}(n:po P T G)(g:P.underlying T.tid=J (.struct j)){H:Type}{b:bV×af->H}{w:World}{a:Nat}{v:af}{d:DataW H}{k:List MemPlace}
  (m:AQ P w .any a T.tid v) (h:Tt b P w 0 (λ_=>aa) aa T.tid v d k):de (h5 w) v v/\∃x f,v=.agg f.toArray/\T.rd (ig w).blk x f/\G x:=
 asm (λh=>(n.rd h).imp id λi p=>by
  obtain⟨x,r,s⟩:=i 0 (.inr p);have:∀l:List af,(∀c∈l,eA (h5 w) c c)->l.map (seen w 0)=l:=by
   intro l;induction l with
   |nil=>grind
   |cons c l q=>grind[wT]
  grind) g m h
def axt{P:bI}{H:Type}{a:bV×af->H}{w:World}{n:Nat}{b:Array Field}{d:List af}{g:List (DataW H×List MemPlace)}(e:g.length=b.size)
  (j:∀(i:Nat)(f:Field),b[i]?=J f->ua a P w 0 (λ_=>aa) aa n f.type ((d.drop f.offset).take (P.cellsOf f.type))=g[i]?) (i:Nat) {f:Field} (h:b[i]?=J f):
  ∃y,ua a P w 0 (λ_=>aa) aa n f.type ((d.drop f.offset).take (P.cellsOf f.type))=J y:=by
 grind
def ayY{P:bI}{j:Type}{T:cM j}{t e:bV}(l:P.underlying t=J (.slice e)){H:Type}{g:bV×af->H}{w:World}{v:af}{d:DataW H}{s:List MemPlace}{z:Nat->bW}{i:List j}
  (h:Tt g P w 0 (λ_=>aa) aa t v d s) (r:fA T z i v):i.length=0\/∃k f,d=.slice k f/\k.length=i.length:=by
 obtain⟨E,q⟩:=h;rcases r with⟨rfl,rfl⟩|⟨b,y,c,rfl,_⟩
 ·grind
 ·rcases Deep.open_slice l q with⟨C,_⟩|⟨a,len,x,m,n,D,p,B,_,_,_,_,A,_⟩
  ·grind[yu]
  grind[yu]
end
section
section
variable {z:Nat->bW}{e m:Mem}{k:Option Nat}{b n:Nat}{cs:List af}{t:bV}{v:af}
variable {P:bI}{ap:bS->af}{o:Oper}{x:bS}{i:TypeInfo}{D:Tag->af->Mem->Prop}
def jQ.apq(h:jQ z e m k b cs t)(a:dL z e m k):∃f,fl z f/\dL f e m k/\o2 f b 0 cs/\∀p,e6 p (J b)->∀c,p=J c->f c=z c:=by
 refine⟨jT z m (J b),Cj λc d=>by cases d;exact h.dead,⟨Lj a.bZ (λc d=>by cases d;exact⟨h.lt,by rw[h.blk];rfl⟩),a.dead,a.oL,a.next,a.kept⟩,λj u i=>?_,λp g c d=>?_⟩
 ·simp only[nH,jT,if_true,h.blk,lH];grind
 ·unfold jT;rw[if_neg (g c d)]
def jQ.freeze(h:jQ z e m k b cs t)(n:e.next<=b)(a:dL z e m k):∃f,dT e.next z f/\dL f e m k/\o2 f b 0 cs/\∀p,e6 p (J b)->∀c,p=J c->f c=z c:=by
 obtain⟨f,s,l,i,r⟩:=h.apq a;refine⟨jT z m (J b),⟨Cj λc d=>by cases d;exact h.dead,λc d=>?_⟩,⟨Lj a.bZ (λc d=>by cases d;exact⟨h.lt,by rw[h.blk];rfl⟩),a.dead,a.oL,a.next,a.kept⟩,λj u q=>?_,λp g c d=>?_⟩
 ·grind[jT]
 ·simp only[nH,jT,if_true,h.blk,lH];grind
 ·unfold jT;rw[if_neg (g c d)]
def as4(h:o.op=.alloc t)(q:P.info? t=J i){a:af}(w:i.zero=J a)(y:a.cells.toList.all dy=aa)(r:a.cells.size=i.size)(g:List af)(n:a.cells.toList=g)(f:dL z e m k)
  (A:∀b d,e.next<=b->dL z e d k->jQ z e d k b g t->gl m d ae->(∀p,(∀c,p=J c->c<m.next)->e6 p (J b))->D .new (.pointer (J ⟨b,0,ae⟩)) d):cH P ap o m D:=by
 subst n;obtain⟨l,j,s,x⟩:=Xj (L:=a.cells.toList) (t:=t) f;exact cH.new (.alloc t i a h q w y r) (A _ _ f.next l j s x)
def ave(h:o.op=.box t x)(r:P.info? t=J i)(n:ap x=v)(g:storable v=aa)(d:List af)(q:v.cells.toList=d)(A:d.length=i.size)(f:dL z e m k)
  (y:∀b a,e.next<=b->dL z e a k->jQ z e a k b d t->gl m a ae->(∀p,(∀c,p=J c->c<m.next)->e6 p (J b))->D .new (.pointer (J ⟨b,0,ae⟩)) a):cH P ap o m D:=by
 subst n q;obtain⟨l,j,s,w⟩:=Xj (L:=(ap x).cells.toList) (t:=t) f;exact cH.new (.box t x i h r g (by grind)) (y _ _ f.next l j s w)
def aeG{fn:Fn}{b:Array bS}{a:Array af}(h:o.op=.makeFunc fn #[] b)(d:b.map ap=a)(f:a.toList.all storable=aa):dD P ap o (.func fn #[] a):=by
 subst d;have:=dD.func (P:=P) (ap:=ap) (o:=o) fn #[] b h (λx e=>by
  grind)
 grind
def B2{f:FuncId}{y:bS}{b:Array bS}{d:Array bV}{args caps a:Array af}(h:o.op=.call {callee:=.value y,args:=b,argTypes:=d})(e:ap y=.func (.func f) #[] caps)(g:b.map ap=args)(i:args++caps=a):callee o ap f a:=
 ⟨_,b,d,#[],caps,h,e,by grind⟩
end
open Classical in
noncomputable def wK{b a:Type}(d:List b)(f:Bool->Option a):Option a:=if d=[] then(if f aa=f ak then f aa else ae) else f ak
def KF{g d:Type}{b:List g}{f:Bool->Option d}{r:d}(h:wK b f=J r)(t:Bool)(e:t=aa->b=[]):f t=J r:=by
 unfold wK at h;by_cases a:b=[]
 ·rw[if_pos a] at h;split at h
  ·cases t
   ·rename_i i;rw[<-i];exact h
   ·exact h
  ·cases h
 ·rw[if_neg a] at h;cases t
  ·exact h
  ·exact absurd (e rfl) a
def atc{e d:Type}{b:List e}{f:Bool->Option d}{r:d}(h:∀t,(t=aa->b=[])->f t=J r):wK b f=J r:=by
 unfold wK;by_cases a:b=[]
 ·rw[if_pos a,if_pos (by rw[h aa λ_=>a,h ak (by simp)])];exact h aa λ_=>a
 ·rw[if_neg a];exact h ak (by simp)
section
variable {aK cg:Type}{T:cM aK}{z:Nat->bW}{e m:Mem}{k:Option Nat}{xs:List aK}{v:af}{t u:bV}{f:Bool->Option cg}{r:cg}
variable {P:bI}{ap:bS->af}{o:Oper}{x y:bS}{hE:bV}
def KW(a:Bool)(h:o.op=.binOp (if a then .neq else .eql) t x y u)(e:P.underlying t=J (.slice hE))(d:ap x=.slice ae 0 0)(b:ap y=.slice ae 0 0):dD P ap o (.bool (!a)):=by
 refine tF (x:=x) (y:=y) (by rw[h];rfl) (by grind) (by rw[d];rfl) (by rw[b];rfl) rfl λw=>?_
 grind[eqGuard,Lib.run_eql_slice_nil,run_neq_slice_nil_any,execOp,Sem.run_bind,Result.andThen_ok,Sem.run_pure]
def fA.VU(h:fA T z xs v):(v=.slice ae 0 0/\xs=[])\/∃a l c,v=.slice (J a) l c:=by
 rcases h with h|⟨b,d,c,rfl,_⟩
 ·grind
 grind
def fO.VU(h:fO T z m xs v):(v=.slice ae 0 0/\xs=[])\/∃a l c,v=.slice (J a) l c:=by
 rcases h with h|⟨b,d,L,c,rfl,_⟩
 ·grind
 grind
end
end
section
section
variable {aK:Type}{T:cM aK}{z z':Nat->bW}{e m m':Mem}{k p q:Option Nat}{xs r:List aK}{v:af}{t u:bV}{b:Nat}
variable {P:bI}{ap:bS->af}{o:Oper}{x y:bS}{i:TypeInfo}{D:Tag->af->Mem->Prop}{hE:bV}
def Lz(h:o.op=.call {callee:=.builtin .len,args:=#[x],argTypes:=#[t]})(b:P.underlying t=J (.slice hE))(d:ap x=v)(e:∃a c,v=.slice a xs.length c):dD P ap o (.int .i64 xs.length):=by
 obtain⟨a,c,rfl⟩:=e;exact .len x t hE a _ c h b d
def dU.elem{n:Int}{a:aK}{g l c:Nat}(h:dU T z e m k xs v)(i:v=.slice (J ⟨b,g,ae⟩) l c)(s:al xs n=J a):
  ∃d,T.rd z a d/\xs[n.toNat]?=J a/\∀(j:Nat)(u:af),d[j]?=J u->m.load b (g+n.toNat*T.bM+j)=J u:=by
 obtain⟨y,E,f⟩:=o3 s;rcases h.bT with⟨_,rfl⟩|⟨B,C,L,A,rfl,p,_,_,x,_,r⟩
 ·grind
 ·obtain⟨d,t,w⟩:=r _ a f;cases i;exact⟨d,t,f,λj u q=>by simp only[Mem.load,p];exact w j u q⟩
def cM.as(T:cM aK)(t:bV):cM aK:={T with tid:=t}
def as3{x0:aK}{n:Nat}{c:List af}(h:o.op=.alloc t)(H:P.info? t=J i){a:af}(N:i.zero=J a)(Q:a.cells.toList.all dy=aa)(I:a.cells.size=i.size)(F:a.cells.toList=(gb n c).flatten)(A:T.rd z x0 c)(X:mn n dc=aa)(r:dL z e m k)
  (R:∀b f,dL z e f k->dU (T.as t) z e f k (gb n x0) (.slice (J ⟨b,0,ae⟩) n n)->gl m f ae->(∀p,(∀c,p=J c->c<m.next)->e6 p (J b))->D .new (.pointer (J ⟨b,0,ae⟩)) f):cH P ap o m D:=by
 obtain⟨B,g,M,O⟩:=Xj (L:=a.cells.toList) (t:=t) r;have d:=T.len _ _ _ A;have V:a.cells.toList.length=n*T.bM:=by simp_all
 have S:n<dc:=by simp_all
 refine cH.new (.alloc t i a h H N Q I) (R _ _ B ⟨fO.AW ⟨m.next,a.cells.toList,n,by simp,g.blk,g.lt,g.dead,?_,.inr ⟨S,by simp,?_⟩,λj x w=>?_⟩,λb E=>by cases E;exact r.next⟩ M O)
 ·grind[cM.as]
 ·grind[cM.as]
 ·obtain⟨y,s⟩:=fq.1 w;simp at y s;subst s;refine⟨c,A,λq u K=>?_⟩;have C:=(fq.1 K).1;rw[F];have l:∀(n j:Nat),j<n->(gb n c).flatten[j*T.bM+q]?=J u:=by
   intro n;induction n with
   |zero=>grind
   |succ n U=>
    intro j w;rw[List.replicate_succ,List.flatten_cons];cases j with
    |zero=>grind
    |succ j=>
     rw[kT (by grind),d,show(j+1)*T.bM+q-T.bM=j*T.bM+q by grind]
     grind
  exact l n j y
def avg{p:aG}{n:Int}{a:aK}{l:Nat}(h:o.op=.indexAddr t x y)(q:P.underlying t=J (.array l hE))(w:P.info? hE=J i)(H:i.size=T.bM)(s:ap x=.pointer (J ⟨b,0,ae⟩))(r:ap y=.int p n)(f:dU T z e m k xs (.slice (J ⟨b,0,ae⟩) l l))(g:al xs n=J a)
  (O:∀d,T.rd z a d->xs[n.toNat]?=J a->(∀(j:Nat)(u:af),d[j]?=J u->m.load b (n.toNat*T.bM+j)=J u)->D .pure (.pointer (J ⟨b,n.toNat*T.bM,ae⟩)) m):cH P ap o m D:=by
 obtain⟨d,I,K,L⟩:=f.elem rfl g;obtain⟨A,M,E⟩:=o3 g;have C:xs.length=l:=by
  obtain⟨B,F,N⟩:=f.bT.len
  grind
 have:=dD.J4 (P:=P) (ap:=ap) (o:=o) t x y hE i b 0 l p n h q w s r A (by grind)
 grind[cH.pure]
end
end
section
def AY{d:Type}(e:List d)(a b:Int):Option (List d):=if 0<=a/\a<e.length/\b=a+1 then J (e.eraseIdx a.toNat) else ae
def oe:Code->Array Oper|.region _ a _=>a|_=>#[]
def wD:Code->Nat|.region i _ _=>i|.block i _=>i|_=>0
def np:List Oper->List (Option Nat×Op)->Prop|[],[]=>True|o::b,p::a=>(o.dst=p.1/\o.op=p.2/\o.guard=ae)/\np b a|_,_=>False
def np.of:∀{l:List Oper}{a:List (Option Nat×Op)},(l.map λo=>(o.dst,o.op,o.guard))=a.map (λp=>(p.1,p.2,ae))->np l a
 |[],[],_=>trivial
 |[],_::_,h=>by grind
 |_::_,[],h=>by grind
 |o::b,p::a,h=>by simp only[rA,List.cons.injEq,Prod.mk.injEq] at h;exact⟨h.1,np.of h.2⟩
def np.nil{l:List Oper}(h:np l []):l=[]:=by
 cases l with
 |nil=>rfl
 |cons _ _=>exact h.elim
section
variable {P:bI}{K:(Nat->af)->Mem->Prop}{fr:Nat->af}{m m1:Mem}{v:af}{ops l:List Oper}
def ea.op{p:Option Nat×Op}{b:List (Option Nat×Op)}(h:np l (p::b))(f:∀q:Oper,q.op=p.2->ln P (jn P 0) (bk fr) q m v m1)(k:∀a,np a b->ea P ops a K (set fr p.1 v) m1):ea P ops l K fr m:=by
 cases l with
 |nil=>exact h.elim
 |cons o a=>
  obtain⟨⟨i,e,d⟩,g⟩:=h
  grind[ea.cons,wanted,mr.of]
def ea.end(h:np l [])(k:K fr m):ea P ops l K fr m:=by
 rw[h.nil];exact ea.nil k
end
section
variable {P:bI}{C:FuncId->Array af->Mem->af->Mem->Prop}{ap:bS->af}{o:Oper}{m:Mem}{x y cf az:bS}{t e:bV}{i:TypeInfo}{b f0 q n l a c yA:Nat}{L:List af}{k k':aG}
def pc(l c:Nat):Nat:=if c<dc then c else dc+l
def au8(h:o.op=.slice t x ae (J y) ae)(d:P.underlying t=J (.slice e))(j:P.info? e=J i)(g:ap x=.slice (J ⟨b,f0,ae⟩) l c)(f:ap y=.int k (a:Nat))(s:a<l)(p:c=dc\/(c<dc/\l<=c))(q:m.blk b=.own L e):
  ln P C ap o m (.slice (J ⟨b,f0,ae⟩) a (pc l c)) m:=by
 unfold pc;rcases p with rfl|⟨n,r⟩
 ·rw[if_neg (by omega)];have:=fH.vx (P:=P) (ap:=ap) (o:=o) (m:=m) t x ae (J y) e i L b f0 l dc l 0 a h d j g (.inl ⟨rfl,rfl⟩) q rfl ⟨k,f⟩ (pn _) (by omega) (by omega);simpa using ln.read (C:=C) this
 ·rw[if_pos n];have:=dD.slice (P:=P) (ap:=ap) (o:=o) t x ae (J y) e i b f0 l c 0 a h d j g n rfl ⟨k,f⟩ (pn _) (by omega) (λ_=>trivial);simpa using ln.pure (C:=C) (m:=m) this
def ze(b a s c:Nat):Nat:=if c<dc/\c=a then b else b+a*s
def T8(n c:Nat):Nat:=if c<dc then c-n else dc
def auX(h:c=dc\/(c<dc/\l<=c))(s:Nat):ze f0 a s c=f0+a*s\/l-a=0:=by
 grind[ze]
def au9(h:o.op=.slice t x (J y) ae ae)(g:P.underlying t=J (.slice e))(p:P.info? e=J i)(n:ap x=.slice (J ⟨b,f0,ae⟩) l c)(j:ap y=.int k (a:Nat))(q:a<=l)(w:c=dc\/(c<dc/\l<=c))(A:m.blk b=.own L e)(z:f0+l*i.size<=L.length):
  ln P C ap o m (.slice (J ⟨b,ze f0 a i.size c,ae⟩) (l-a) (T8 a c)) m:=by
 rcases w with rfl|⟨r,s⟩
 ·have d:ze f0 a i.size dc=f0+a*i.size:=if_neg λh=>by omega
  have f:T8 a dc=dc:=if_neg (by omega);rw[d,f];exact .read (.slice t x (J y) ae e i L b f0 l a l h g p n A ⟨k,j⟩ rfl q (e4 _) z)
 ·have d:ze f0 a i.size c=if c=a then f0 else f0+a*i.size:=by grind[ze]
  have f:T8 a c=c-a:=if_pos r;rw[d,f];exact .pure (.slice t x (J y) ae e i b f0 l c a l h g p n r ⟨k,j⟩ rfl q s (λ_=>trivial))
theorem asK(d:m.blk b=.own L e)(a:q+n<=L.length):kd m b q n=J ((L.drop q).take n):=by
 grind[Cc,Mem.load]
def amx(h:o.op=.call {callee:=.builtin .append,args:=#[x,y],argTypes:=#[t,t]})(g:P.underlying t=J (.slice e))(p:P.info? e=J i)(f:ap x=.slice (J ⟨b,f0,ae⟩) a (pc l c))(n:ap y=.slice (J ⟨b,q,ae⟩) (l-(a+1)) yA)
  (r:q=f0+(a+1)*i.size\/l-(a+1)=0) (I:a<l) (z:c=dc\/(c<dc/\l<=c)) (w:m.blk b=.own L e) (K:f0+l*i.size<=L.length):
  ln P C ap o m (.slice (J ⟨b,f0,ae⟩) (l-1) (pc l c)) (m.put b (.own (eY L (f0+a*i.size) ((L.drop (f0+(a+1)*i.size)).take ((l-(a+1))*i.size))) e)):=by
 have H:(a+1)*i.size+(l-(a+1))*i.size=l*i.size:=by rw[<-ko];grind
 have E:kt m i.size (ap y)=J ((L.drop (f0+(a+1)*i.size)).take ((l-(a+1))*i.size)):=by
  rw[n];show kd m b q _=_;rcases r with rfl|r
  ·grind[asK]
  simp_all[kd]
 have k:sA P m t i (ap y) (l-(a+1)) _:=.el (.inl ⟨e,g⟩) (by rw[n];rfl) E;have d:((L.drop (f0+(a+1)*i.size)).take ((l-(a+1))*i.size)).length=(l-(a+1))*i.size:=by grind
 have B:(a+(l-(a+1)))*i.size<=l*i.size:=oH _ (by omega);have A:l-1=a+(l-(a+1)):=by omega
 rw[A];rcases z with rfl|⟨s,F⟩
 ·have j:pc l dc=dc+l:=if_neg (by omega);rw[j] at f⊢;exact .fX (.yy x y t t e i b f0 a _ l (l-(a+1)) L _ h g p f rfl (by omega) (by omega) w k d (by omega))
 ·have j:pc l c=c:=if_pos s;rw[j] at f⊢;exact .fX (.vY x y t t e i b f0 a c (l-(a+1)) L _ h g p f s (by omega) w k d (by omega))
def au'(h:o.op=.slice t x (J cf) (J az) ae)(j:P.underlying t=J (.slice e))(q:P.info? e=J i)(a:ap x=.slice (J ⟨b,f0,ae⟩) (l-1) (pc l c))(p:ap cf=.int k ((l-1:Nat):Int))(n:ap az=.int k' (l:Nat))(w:0<l)(r:c=dc\/(c<dc/\l<=c))(s:m.blk b=.own L e):
  ln P C ap o m (.slice (J ⟨b,f0+(l-1)*i.size,ae⟩) 1 (if c<dc then c-(l-1) else dc+(l-(l-1)))) m:=by
 have d:l-(l-1)=1:=by omega
 rcases r with rfl|⟨g,y⟩
 ·have f:pc l dc=dc+l:=if_neg (by omega);rw[f] at a;have:=fH.vx (P:=P) (ap:=ap) (o:=o) (m:=m) t x (J cf) (J az) e i L b f0 (l-1) _ l (l-1) l h j q a (.inr rfl) s ⟨k,p⟩ ⟨k',n⟩ (by omega) (by omega) (by omega);rw[d] at this;rw[if_neg (by omega),d];exact .read this
 ·have f:pc l c=c:=if_pos g;rw[f] at a;have:=dD.slice (P:=P) (ap:=ap) (o:=o) t x (J cf) (J az) e i b f0 (l-1) c (l-1) l h j q a g ⟨k,p⟩ ⟨k',n⟩ (by omega) (by omega) (λ_=>trivial);rw[d,if_neg (by omega)] at this;rw[if_pos g];exact .pure this
end
def Z5(f g h i j k l:Nat)(p n m a b d e:Array Oper)(X:Code):Code:=.seq (.region f p ak) (.seq (.region g n ak) (.seq (.seq (.region h m ak) (.cond (.tmp 16) X .skip)) (.seq (.region i a ak) (.seq (.region j b aa) (.seq (.region k d ak) (.seq (.region l e ak) .ret))))))
structure Tu(t:bV)(B:Code):Prop where
 mS:B=Z5 (wD (sub B [0])) (wD (sub B [1,0])) (wD (sub B [1,1,0,0])) (wD (sub B [1,1,1,0])) (wD (sub B [1,1,1,1,0])) (wD (sub B [1,1,1,1,1,0])) (wD (sub B [1,1,1,1,1,1,0]))
  (oe (sub B [0])) (oe (sub B [1,0])) (oe (sub B [1,1,0,0])) (oe (sub B [1,1,1,0])) (oe (sub B [1,1,1,1,0])) (oe (sub B [1,1,1,1,1,0])) (oe (sub B [1,1,1,1,1,1,0])) (sub B [1,1,0,1,0])
 ay:calm (oe (sub B [1,1,1,1,0]))=aa
 bR:np (oe (sub B [0])).toList [(J 6,.assign (.const (.slice ae 0 0)))]
 h1:np (oe (sub B [1,0])).toList [(J 8,.move (.tmp 0)),(J 9,.move (.tmp 1)),(J 10,.move (.tmp 2)),(J 11,.move (.tmp 0)),(J 12,.call ⟨.builtin .len,#[.tmp 11],#[t]⟩),(J 13,.slice t (.tmp 8) (J (.tmp 9)) (J (.tmp 10)) (J (.tmp 12)))]
 ai:np (oe (sub B [1,1,0,0])).toList [(J 14,.move (.tmp 1)),(J 15,.move (.tmp 2)),(J 16,.binOp .eql 3 (.tmp 14) (.tmp 15) 3)]
 br:np (oe (sub B [1,1,1,0])).toList [(J 18,.move (.tmp 0)),(J 19,.call ⟨.builtin .len,#[.tmp 18],#[t]⟩),(J 7,.assign (.tmp 19))]
 cK:np (oe (sub B [1,1,1,1,0])).toList [(J 20,.move (.tmp 0)),(J 21,.move (.tmp 1)),(J 22,.slice t (.tmp 20) ae (J (.tmp 21)) ae),(J 23,.move (.tmp 0)),(J 24,.move (.tmp 2)),(J 25,.slice t (.tmp 23) (J (.tmp 24)) ae ae),(J 26,.call ⟨.builtin .append,#[.tmp 22,.tmp 25],#[t,t]⟩),(J 0,.assign (.tmp 26))]
 fJ:np (oe (sub B [1,1,1,1,1,0])).toList [(J 27,.move (.tmp 0)),(J 28,.move (.tmp 0)),(J 29,.call ⟨.builtin .len,#[.tmp 28],#[t]⟩),(J 30,.move (.tmp 7)),(J 31,.slice t (.tmp 27) (J (.tmp 29)) (J (.tmp 30)) ae),(ae,.call ⟨.builtin .clear,#[.tmp 31],#[t]⟩)]
 jH:np (oe (sub B [1,1,1,1,1,1,0])).toList [(J 32,.move (.tmp 0)),(J 6,.assign (.tmp 32))]
section
variable {P:bI}{f b f0 l a c:Nat}{fn:Func}{t e:bV}{i:TypeInfo}{c0:af}{m:Mem}{L:List af}
def asf(C:P.funcs[f]?=J fn)(N:fn.body.isSome=aa)(H:lR P f=aa)(T:3<=fn.ntmps)(M:fn.results.toList=[.tmp 6])(D:Tu t (en fn))(j:P.underlying t=J (.slice e))(p:P.info? e=J i)(E:i.zero=J c0)(F:c0.cells.toList.all dy=aa)(I:c0.cells.size=i.size)
  (s:a<l) (n:c=dc\/(c<dc/\l<=c)) (x:m.blk b=.own L e) (z:f0+l*i.size<=L.length):
  h2 P f #[.slice (J ⟨b,f0,ae⟩) l c,.int .i64 a,.int .i64 (a+1)] m λv K=>v=.slice (J ⟨b,f0,ae⟩) (l-1) (pc l c)/\
   K=m.put b (.own (eY (eY L (f0+a*i.size) ((L.drop (f0+(a+1)*i.size)).take ((l-(a+1))*i.size))) (f0+(l-1)*i.size) (gb 1 c0.cells.toList).flatten) e):=by
 have B:fn.body=J (en fn):=by
  unfold en;cases O:fn.body with
  |none=>grind
  |some _=>rfl
 refine h2.any C (.inl B) H (by grind) λw A=>?_;have r:w 0=.slice (J ⟨b,f0,ae⟩) l c:=A 0 _ rfl;have R:w 1=.int .i64 a:=A 1 _ rfl;have S:w 2=.int .i64 ((a+1:Nat):Int):=by grind
 rw[D.mS];unfold Z5;refine W.seq (W.region (ea.op D.bR (λq d=>.pure (.move _ (.inr d))) λg h=>ea.end h ?_));refine W.seq (W.region ?_);refine ea.op D.h1 (λq d=>.pure (.move _ (.inl d))) λg h=>?_;refine ea.op h (λq d=>.pure (.move _ (.inl d))) λg h=>ea.op h (λq d=>.pure (.move _ (.inl d))) λg h=>ea.op h (λq d=>.pure (.move _ (.inl d))) λg h=>?_;refine ea.op (v:=.int .i64 l) h (λq d=>.pure (.len _ t e (J ⟨b,f0,ae⟩) l c d j (by grind[bk,set]))) λg h=>?_;refine ea.op (v:=.chan ae) h (λq d=>.pure (.P5 t _ _ _ _ e i b f0 l c a (a+1) l .i64 .i64 .i64 d j p (by grind[bk,set]) (n.symm.imp (λh=>h) λh=>⟨h,e4 _⟩) (by grind[bk,set]) (by grind[bk,set]) (by rfl) (by omega) (by omega))) λg h=>ea.end h ?_;refine W.seq (W.seq (W.region ?_));refine ea.op D.ai (λq d=>.pure (.move _ (.inl d))) λg h=>ea.op h (λq d=>.pure (.move _ (.inl d))) λg h=>?_;refine ea.op h (λq d=>.pure (abO (k:=.i64) (a:=a) (b:=((a+1:Nat):Int)) d (by grind[bk,set]) (by grind[bk,set]))) λg h=>ea.end h ?_;refine W.Z0 (t:=ak) (by grind[bk,set]) rfl (W.skip ?_);refine W.seq (W.region ?_);refine ea.op D.br (λq d=>.pure (.move _ (.inl d))) λg h=>?_;refine ea.op (v:=.int .i64 l) h (λq d=>.pure (.len _ t e (J ⟨b,f0,ae⟩) l c d j (by grind[bk,set]))) λg h=>ea.op h (λq d=>.pure (.move _ (.inr d))) λg h=>ea.end h ?_;refine W.seq (W.calm D.ay ?_);refine ea.op D.cK (λq d=>.pure (.move _ (.inl d))) λg h=>ea.op h (λq d=>.pure (.move _ (.inl d))) λg h=>?_;refine ea.op h (λq d=>au8 (k:=.i64) d j p (by simp[bk,set,r];rfl) (by grind[bk,set]) s n x) λg h=>?_;refine ea.op h (λq d=>.pure (.move _ (.inl d))) λg h=>ea.op h (λq d=>.pure (.move _ (.inl d))) λg h=>?_;refine ea.op h (λq d=>au9 (k:=.i64) (a:=a+1) (c:=c) d j p (by grind[bk,set]) (by grind[bk,set]) s n x z) λg h=>?_;refine ea.op h (λq d=>amx (c:=c) d j p (by rfl) (by rfl) (auX n _) s n x z) λg h=>ea.op h (λq d=>.pure (.move _ (.inr d))) λg h=>ea.end h ?_;have Q:(l-1)*i.size+i.size=l*i.size:=by rw[<-IU];grind
 have y:(m.put b (.own (eY L (f0+a*i.size) ((L.drop (f0+(a+1)*i.size)).take ((l-(a+1))*i.size))) e)).blk b=.own (eY L (f0+a*i.size) ((L.drop (f0+(a+1)*i.size)).take ((l-(a+1))*i.size))) e:=if_pos rfl;refine W.seq (W.region ?_);refine ea.op D.fJ (λq d=>.pure (.move _ (.inl d))) λg h=>ea.op h (λq d=>.pure (.move _ (.inl d))) λg h=>?_;refine ea.op (v:=.int .i64 ((l-1:Nat):Int)) h (λq d=>.pure (.len _ t e (J ⟨b,f0,ae⟩) (l-1) (pc l c) d j (by rfl))) λg h=>ea.op h (λq d=>.pure (.move _ (.inl d))) λg h=>?_;refine ea.op h (λq d=>au' (k:=.i64) (k':=.i64) (f0:=f0) (l:=l) (c:=c) d j p (by rfl) (by rfl) (by rfl) (by omega) n y) λg h=>?_;refine ea.op h (λq d=>.fX (.clear _ t e i c0 b _ 1 _ _ d j p E F I (by rfl) y (by omega) (by grind[mB]))) λg h=>ea.end h ?_;refine W.seq (W.region ?_);refine ea.op D.jH (λq d=>.pure (.move _ (.inl d))) λg h=>ea.op h (λq d=>.pure (.move _ (.inr d))) λg h=>ea.end h (W.ret ?_);refine⟨.inr rfl,[.slice (J ⟨b,f0,ae⟩) (l-1) (pc l c)],?_,.inl rfl,rfl,?_⟩
 ·rw[M];exact⟨by rfl,trivial⟩
 grind[Mem.put]
def yC(c:Nat):Nat:=if c<dc then c else dc
theorem asj{j:cj}{x:Addr}{l n c:Nat}{d:af}(h:de j (.slice (J x) n (pc l c)) d)(g:c=dc\/(c<dc/\l<=c))(i:0<l):de j (.slice (J x) n (yC c)) d:=by
 unfold pc at h;unfold yC;rcases g with rfl|⟨f,b⟩
 ·rw[if_neg (by omega)] at h⊢;obtain⟨e,f,b,a⟩:=h;refine⟨e,f,b,.inr (.inl ?_)⟩;rcases a with⟨a,_⟩|⟨a,_⟩|⟨a,_⟩|⟨a,_⟩|⟨k,a,m,p,q,r,s,t,w,y⟩
  ·omega
  ·omega
  ·omega
  ·grind
  grind
 grind
def ase{F:Type}{T:cM F}{z:Nat->bW}{R:Mem}{k:Option Nat}{e:List F}{v:af}(n9:P.follows .mixedOrders=aa)(bF:P.funcs[f]?=J fn)(JK:fn.body.isSome=aa)(Q:lR P f=aa)(yU:3<=fn.ntmps)(oR:fn.results.toList=[.tmp 6])(D:Tu t (en fn))
  (aJ:P.underlying t=J (.slice T.tid)) (az:P.info? T.tid=J i) (bx:i.zero=J c0) (dw:c0.cells.toList.all dy=aa) (et:c0.cells.size=i.size) (O:i.size=T.bM) (h:dU T z R m k e v) (bl:a<e.length):
  ∃b X E,da v=J b/\da E=J b/\h2 P f #[v,.int .i64 a,.int .i64 (a+1)] m (λu V=>u=E/\V=m.put b X)/\dU T z R (m.put b X) k (e.eraseIdx a) E:=by
 rcases h.bT with⟨rfl,rfl⟩|⟨b,g,L,c,rfl,S,U,g3,g4,g5,g6⟩
 ·grind
 have ay:c=dc\/(c<dc/\e.length<=c):=g5.imp (λh=>h) λh=>⟨h.1,h.2.1⟩
 have dE:g+e.length*i.size<=L.length:=by grind
 obtain⟨n,v0,m1,U0,rfl,rfl⟩:=asf bF JK Q yU oR D aJ az bx dw et bl ay S dE;have aoO:(a+1)*i.size+(e.length-(a+1))*i.size=e.length*i.size:=by rw[<-ko];grind
 have ayo:(e.length-1)*i.size+i.size=e.length*i.size:=by rw[<-IU];grind
 have ayp:a*i.size+i.size=(a+1)*i.size:=(IU _ _).symm;have qR:((L.drop (g+(a+1)*i.size)).take ((e.length-(a+1))*i.size)).length=(e.length-(a+1))*i.size:=by grind
 have abb:(gb 1 c0.cells.toList).flatten.length=i.size:=by grind
 generalize oM:(L.drop (g+(a+1)*i.size)).take ((e.length-(a+1))*i.size)=N at*;generalize axK:(gb 1 c0.cells.toList).flatten=Z at*;have B:∀u∈N,u∈L:=λu l=>by grind
 have axL:∀u∈Z,dy u=aa:=λu l=>by grind
 refine⟨b,.own (eY (eY L (g+a*i.size) N) (g+(e.length-1)*i.size) Z) T.tid,.slice (J ⟨b,g,ae⟩) (e.length-1) (yC c),rfl,rfl,h2.sort (m':=m.put b (.own (eY (eY L (g+a*i.size) N) (g+(e.length-1)*i.size) Z) T.tid)) (v:=.slice (J ⟨b,g,ae⟩) (e.length-1) (yC c)) Q ⟨e4 _,λs=>⟨U,?_,?_⟩,λj w kq s cY eL=>?_⟩ ⟨rfl,rfl⟩,⟨.inr ⟨b,g,eY (eY L (g+a*i.size) N) (g+(e.length-1)*i.size) Z,yC c,?_,if_pos rfl,U,g3,?_,?_,λp x bb=>?_⟩,h.fresh⟩⟩
 ·intro d C;have C:m.next<=d:=C;simp only[Mem.put];rw[if_neg (by omega)];exact s.dead d C
 ·intro d;simp only[Mem.put];split
  ·have A:=s.low b;rw[S] at A;intro u l;rcases r9 _ _ _ _ l with l|l
   ·rcases r9 _ _ _ _ l with l|l
    ·exact A u l
    ·exact A u (B u l)
   grind[zq]
  ·exact s.low d
 ·refine((acd n9 n).2 _ _ _ _ _ U0 j w kq s cY eL).2.mono ?_
  grind[asj]
 ·grind
 ·grind[mB]
 ·grind[mB,yC]
 ·rw[List.getElem?_eraseIdx] at bb;have key:∀(q:Nat)(K:q=if p<a then p else p+1),e[q]?=J x->∃y,T.rd z x y/\ql (eY (eY L (g+a*i.size) N) (g+(e.length-1)*i.size) Z) (g+p*T.bM) y:=by
   intro q K I;obtain⟨y,M,c2⟩:=g6 q x I;have yV:=(fq.1 I).1;refine⟨y,M,λr u H=>?_⟩;have Bt:=(fq.1 H).1;rw[T.len _ _ _ M,<-O] at Bt;have ai:=c2 r u H;rw[<-O] at ai⊢;have aax:p*i.size+i.size<=(e.length-1)*i.size:=by rw[<-IU];exact oH _ (by grind)
   rw[o5 _ _ _ _ (by grind[mB]),if_neg (by omega),o5 _ _ _ _ (by omega)];split at K
   ·have Y:p*i.size+i.size<=a*i.size:=by rw[<-IU];exact oH _ (by omega)
    grind
   ·have Y:a*i.size<=p*i.size:=oH _ (by omega);have axM:q*i.size=p*i.size+i.size:=by grind
    rw[if_pos (by omega),<-oM,List.getElem?_take,if_pos (by omega),List.getElem?_drop,show g+(a+1)*i.size+(g+p*i.size+r-(g+a*i.size))=g+q*i.size+r by omega]
    grind
  grind
end
end
section
structure l6(D:Nat->Type) where
 T:(t:Nat)->cM (D t)
 eo:(t:Nat)->D t->List af
section
variable (D:Nat->Type)
inductive cv where
 |int (k:aG) (n:Int)
 |bool (b:Bool)
 |str (s:List UInt8)
 |gE|za|oY
 |bh (e:Nat) (xs:List (D e))
 |mp (t bG bA:Nat) (es:List (D bG×D bA))
 |own (i:Nat)
 |wJ
 |fn (f:Nat) (is:List Nat)
inductive bc where
 |un|undef
 |c (v:cv D)
 |agg (t:Nat) (cs:List (cv D))
 |box (i off:Nat)
 |arr (i:Nat)
 |el (i e:Nat) (dx:Int) (off:Nat)
 |hd (t:Nat) (cs:List (cv D)) (off:Nat)
 |fn (f:Nat) (caps:List (Nat×List (cv D)))
 |sq (l:List (cv D⊕(Nat×List (cv D))))
 |cut (i e cf n:Nat)
 |full (e:Nat) (xs:List (D e))
 |wb (g:Nat) (s:List UInt8)
inductive ba where
 |dead
 |bh (e:Nat) (xs:List (D e)) (bZ w:Bool)
 |box (t:Nat) (cs:List (cv D)) (bZ w:Bool)
 |recv (t:Nat) (cs:List (cv D)) (w:Bool)
 |arr (e t n:Nat) (xs:List (D e)) (w:Bool)
 |map (t bG bA:Nat) (es:List (D bG×D bA)) (bZ w:Bool)
 |nest (e t:Nat) (up:Option (List (D t)->D e)) (eh:List (List (D t))) (hole:Option (Int×Nat)) (w:Bool)
end
section
variable {D:Nat->Type}(G:l6 D)
def l6.M(t b a:Nat):ph (D b) (D a):=⟨G.eo b,G.eo a,t⟩
def sQ(a:List af)(i:Nat)(g:af):Prop:=a[i]?=J g/\∃b,g=.pointer (J ⟨b,0,ae⟩)
def ed(z:Nat->bW)(d:List af):cv D->af->Prop|.int k n,v=>v=.int k n|.bool b,v=>v=.bool b|.str s,v=>v=aF.str s|.gE,v=>v=.slice ae 0 0|.za,v=>v=.pointer ae|.oY,v=>v=.map ae|.bh e m,v=>fA (G.T e) z m v|.mp t h g j,v=>nn (G.M t h g) z j v|.own i,v=>d[i]?=J v/\storable v=aa/\v.cells=#[v]|.wJ,v=>v=.nilFunc|.fn f l,v=>∃a:List af,v=.func (.func f) #[] a.toArray/\bP (sQ d) l a
def vt(z:Nat->bW)(b:List af):cv D⊕(Nat×List (cv D))->af->Prop|.inl c,v=>ed G z b c v|.inr p,v=>∃a:List af,v=.agg a.toArray/\bP (ed G z b) p.2 a
def lU(z:Nat->bW)(f:List af)(e:List (cv D))(a:Nat)(v:af):Prop:=∃b o d,v=.pointer (J ⟨b,o+a,ae⟩)/\o2 z b o d/\bP (ed G z f) e d
def pO(g d n:Nat)(w v:af):Prop:=
 (w=.slice ae 0 0/\v=.slice ae 0 0/\d=0/\n=0)\/
 ∃b f l c a e,w=.slice (J ⟨b,f,ae⟩) l c/\v=.slice (J ⟨b,a,ae⟩) (n-d) e/\d<=n/\n<=l/\(a=f+d*g\/(n<=d/\a=f))/\((c=dc/\e=dc)\/(c<dc/\e=c-d))
def rel(z:Nat->bW)(h:List af):bc D->af->Prop|.un,_=>True|.undef,v=>v=_root_.Go.undef|.c c,v=>ed G z h c v|.agg _ p,v=>∃k:List af,v=.agg k.toArray/\bP (ed G z h) p k|.box i d,v=>∃b,h[i]?=J (.pointer (J ⟨b,0,ae⟩))/\v=.pointer (J ⟨b,d,ae⟩)|.arr i,v=>∃b l,h[i]?=J (.slice (J ⟨b,0,ae⟩) l l)/\v=.pointer (J ⟨b,0,ae⟩)|.el i e x d,v=>∃b q l c,h[i]?=J (.slice (J ⟨b,q,ae⟩) l c)/\v=.pointer (J ⟨b,q+x.toNat*(G.T e).bM+d,ae⟩)|.hd _ p d,v=>lU G z h p d v|.fn f j,v=>∃r:List af,v=.func (.func f) #[] r.toArray/\bP (λc g=>lU G z h c.2 0 g) j r|.sq l,v=>∃k:List af,v=.tuple k.toArray/\bP (vt G z h) l k|.cut i e t n,v=>∃w,ed G z h (.own i) w/\pO (G.T e).bM t n w v|.wb g s,v=>∃n:Nat,p2[n]?=J s/\v=.chan (J (g*4096+n))|.full e m,v=>fA (G.T e) z m v/\m.length<dc/\∃a,v=.slice a m.length m.length
def rD(t:bV):cM af where
 bM:=1
 tid:=t
 rd:=λ_ v b=>b=[v]/\storable v=aa/\v.cells=#[v]
 len:=λ_ v b h=>by rw[h.1];rfl
 mono:=λ_ _ _ _ _ h=>h
 one:=λ_ v b h c a=>by rw[h.1] at a;simp at a;subst a;exact h.2
def ud{e:Type}(T:cM e)(z:Nat->bW)(n g j:Nat)(a:List e)(w:af):Prop:=
 (w=.slice ae 0 0/\a=[])\/
 ∃b d L c,w=.slice (J ⟨b,d,ae⟩) a.length c/\z b=.lock g j L T.tid/\n<=b/\d+a.length*T.bM<=L.length/\(c=dc\/(c<dc/\a.length<=c/\d+c*T.bM<=L.length))/\
  ∀(i:Nat)(x:e),a[i]?=J x->∃f,T.rd z x f/\ql L (d+i*T.bM) f
def TC(z a:Nat->bW)(n:Nat):Prop:=∀b j L t,z b=.lock n j L t->a b=z b
def ud.jP{e:Type}{T:cM e}{z d:Nat->bW}{n a j:Nat}{f:List e}{w:af}(h:ud T z n a j f w)(p:fl z d)(C:TC z d a):ud T d n a j f w:=by
 rcases h with h|⟨b,s,L,c,B,k,g,m,q,t⟩
 ·exact .inl h
 ·refine .inr ⟨b,s,L,c,B,by rw[C b j L _ k];grind,g,m,q,λi x l=>?_⟩;obtain⟨r,y,A⟩:=t i x l;exact⟨r,T.mono _ _ p _ _ y,A⟩
def ud.Ja{a:Type}{T:cM a}{z:Nat->bW}{n e d j:Nat}{f:List a}{w:af}(h:ud T z n d j f w)(k:e<=n):ud T z e d j f w:=by
 rcases h with h|⟨b,m,L,c,p,i,g,l⟩
 ·exact .inl h
 ·exact .inr ⟨b,m,L,c,p,i,jd k g,l⟩
def fV(v:af):Nat:=match da v with|some b=>b+1|none=>0
def ZB(e t:Nat)(b:Option (List (D t)->D e)):Prop:=∀f,b=J f->(G.T e).bM=1/\(G.T e).tid=e/\∀z a c,fA (G.T t) z a c->(G.T e).rd z (f a) [c]
structure um{aK:Type}(eV:Nat)(T:cM aK)(z:Nat->bW)(e m:Mem)(k:Option Nat)(vs:List af)(eh:List (List aK))(hole:Option (Int×Nat))(v:af)(ws:List af):Prop where
 bT:dU (rD eV) z e m k ws v
 len:ws.length=eh.length
 oU:∀(j:Nat)(w:af)(xs:List aK),ws[j]?=J w->eh[j]?=J xs->(∀p,hole=J p->(j:Int)≠p.1)->ud T z e.next (fV v) j xs w
 out:∀p,hole=J p->0<=p.1/\∃w,vs[p.2]?=J w/\ws[p.1.toNat]?=J w
def hf(z:Nat->bW)(e m:Mem)(k:Option Nat)(h:List af):ba D->af->Prop|.dead,_=>True|.bh t g ak _,v=>dU (G.T t) z e m k g v|.bh t g aa _,v=>fA (G.T t) z g v|.box t d ak _,v=>∃b a,v=.pointer (J ⟨b,0,ae⟩)/\jQ z e m k b a t/\e.next<=b/\bP (ed G z h) d a|.box t d aa _,v=>∃b a,v=.pointer (J ⟨b,0,ae⟩)/\o2 z b 0 a/\bP (ed G z h) d a|.recv t d _,v=>∃b a,v=.pointer (J ⟨b,0,ae⟩)/\jQ z e m k b a t/\bP (ed G z h) d a|.arr t u n g _,v=>(∃b,v=.slice (J ⟨b,0,ae⟩) n n)/\dU ((G.T t).as u) z e m k g v|.map t j i l ak _,v=>jD (G.M t j i) z e m k l v|.map t j i l aa _,v=>nn (G.M t j i) z l v|.nest eV t q p f _,v=>ZB G eV t q/\∃r,um eV (G.T t) z e m k h p f v r
def ba.live:ba D->Bool|.bh _ _ bZ _|.box _ _ bZ _|.map _ _ _ _ bZ _=> !bZ|.recv _ _ _|.arr _ _ _ _ _|.nest _ _ _ _ _ _=>aa|.dead=>ak
def ba.nd:ba D->Bool|.bh _ _ _ w|.box _ _ _ w|.recv _ _ w|.arr _ _ _ _ w|.map _ _ _ _ _ w=>w|.nest _ _ _ _ h w=>w||h.isSome|.dead=>aa
structure Inv(O cr:List (ba D)):Prop where
 len:O.length<=cr.length
 ew:∀(i:Nat)(o:ba D),i<O.length->cr[i]?=J o->o.live=aa->o.nd=ak->O[i]?=J o
theorem Inv.refl(O:List (ba D)):Inv O O:=⟨e4 _,λ_ _ _ h _ _=>h⟩
def Inv.trans{O d f:List (ba D)}(h:Inv O d)(k:Inv d f):Inv O f:=⟨jd h.len k.len,λi o b g a e=>h.ew i o b (k.ew i o (Nat.lt_of_lt_of_le b h.len) g a e) a e⟩
def Inv.push(O:List (ba D))(o:ba D):Inv O (O++[o]):=⟨by simp,λi p a b _ _=>by grind⟩
theorem Inv.set(O:List (ba D))(i:Nat){o:ba D}(h:o.live=ak\/o.nd=aa):Inv O (O.set i o):=⟨by simp,λj p d b a e=>by
 grind⟩
def dQ:af->Option Nat|.slice (J a) _ _=>J a.block|.pointer (J a)=>J a.block|.map r=>r|_=>ae
theorem hi{v:af}(h:∀r,v≠.map r):dQ v=da v:=by
 cases v with
 |slice a l c=>cases a<;>rfl
 |pointer a=>cases a<;>rfl
 |map r=>grind
 |_=>rfl
structure b9(O:List (ba D))(z:Nat->bW)(e m:Mem)(k:Option Nat)(vs:List af):Prop where
 aS:dL z e m k
 len:vs.length=O.length
 obj:∀(i:Nat)(o:ba D)(v:af),O[i]?=J o->vs[i]?=J v->hf G z e m k vs o v
 fD:∀(i j:Nat)(o p:ba D)(v w:af),i≠j->O[i]?=J o->O[j]?=J p->o.live=aa->p.live=aa->vs[i]?=J v->vs[j]?=J w->e6 (dQ v) (dQ w)
variable {G}
theorem ed.mono{z j:Nat->bW}{g a:List af}{c:cv D}{v:af}(h:ed G z g c v)(d:fl z j)(b:∀(i:Nat)(u:af),g[i]?=J u->a[i]?=J u):ed G j a c v:=by
 cases c with
 |bh e s=>exact fA.mono d h
 |mp t p n q=>exact nn.mono h d
 |own i=>exact⟨b _ _ h.1,h.2⟩
 |fn f r=>obtain⟨l,m,k⟩:=h;exact⟨l,m,bP.mono (λ_ _ h=>⟨b _ _ h.1,h.2⟩) k⟩
 |_=>exact h
def pb.mono{z f:Nat->bW}{e a:List af}{b:List (cv D)}{d:List af}(h:bP (ed G z e) b d)(j:fl z f)(g:∀(i:Nat)(u:af),e[i]?=J u->a[i]?=J u):bP (ed G f a) b d:=bP.mono (λ_ _ h=>ed.mono h j g) h
def lU.mono{z j:Nat->bW}{g d:List af}{f:List (cv D)}{a:Nat}{v:af}(h:lU G z g f a v)(e:fl z j)(k:∀(i:Nat)(u:af),g[i]?=J u->d[i]?=J u):lU G j d f a v:=by
 obtain⟨b,o,n,p,m,l⟩:=h;exact⟨b,o,n,p,Kp e m,pb.mono l e k⟩
def vt.mono{z f:Nat->bW}{e a:List af}{c:cv D⊕(Nat×List (cv D))}{v:af}(h:vt G z e c v)(d:fl z f)(b:∀(i:Nat)(u:af),e[i]?=J u->a[i]?=J u):vt G f a c v:=by
 cases c with
 |inl c=>exact ed.mono h d b
 |inr p=>obtain⟨j,k,g⟩:=h;exact⟨j,k,pb.mono g d b⟩
def rel.mono{z y:Nat->bW}{x p:List af}{s:bc D}{v:af}(h:rel G z x s v)(k:fl z y)(j:∀(i:Nat)(u:af),x[i]?=J u->p[i]?=J u):rel G y p s v:=by
 cases s with
 |un=>trivial
 |undef=>exact h
 |c c=>exact ed.mono h k j
 |agg t A=>obtain⟨q,d,a⟩:=h;exact⟨q,d,pb.mono a k j⟩
 |box i m=>obtain⟨b,d,a⟩:=h;exact⟨b,j _ _ d,a⟩
 |arr i=>obtain⟨b,l,d,a⟩:=h;exact⟨b,l,j _ _ d,a⟩
 |el i e F m=>obtain⟨b,B,l,c,d,a⟩:=h;exact⟨b,B,l,c,j _ _ d,a⟩
 |hd t A m=>exact lU.mono h k j
 |fn f r=>obtain⟨C,d,a⟩:=h;exact⟨C,d,bP.mono (λ_ _ h=>lU.mono h k j) a⟩
 |sq l=>obtain⟨q,d,a⟩:=h;exact⟨q,d,bP.mono (λ_ _ h=>vt.mono h k j) a⟩
 |cut i e E n=>obtain⟨w,d,a⟩:=h;exact⟨w,ed.mono d k j,a⟩
 |full e H=>exact⟨fA.mono k h.1,h.2⟩
 |wb g s=>exact h
theorem WR{e:List af}:∀{d:List Nat}{a:List af},bP (sQ e) d a->a.all xr=aa
 |[],[],_=>rfl
 |[],_::_,h=>h.elim
 |_::_,[],h=>h.elim
 |_::_,_::_,⟨⟨_,_,h⟩,b⟩=>by subst h;simp only[ml,WR b,xr,Bool.and_self]
def ed.afp{z:Nat->bW}{b:List af}{c:cv D}{v:af}(h:ed G z b c v):storable v=aa/\v.cells=#[v]:=by
 cases c with
 |bh e n=>obtain⟨a,c,rfl⟩:=fA.len h;exact⟨rfl,rfl⟩
 |mp t j g k=>rcases h with⟨rfl,_⟩|⟨r,rfl,_⟩<;>exact⟨rfl,rfl⟩
 |own i=>exact h.2
 |fn f m=>obtain⟨l,rfl,d⟩:=h;exact⟨by grind[storable,WR],rfl⟩
 |_=>obtain rfl:=h;exact⟨rfl,rfl⟩
def hf.same{z:Nat->bW}{e m m':Mem}{k q:Option Nat}{C l:List af}{o:ba D}{v:af}(h:hf G z e m k C o v)(s:gl m m' q)(d:o.live=aa->e6 (dQ v) q)(y:∀(i:Nat)(u:af),C[i]?=J u->l[i]?=J u):hf G z e m' k l o v:=by
 have x:=fl.refl z;cases o with
 |dead=>trivial
 |bh t E bZ w=>
  cases bZ with
  |true=>exact h
  |false=>have h:dU (G.T t) z e m k E v:=h;have d:=d rfl;rw[hi (by obtain⟨a,c,rfl⟩:=h.bT.len;grind)] at d;exact h.same s d
 |box t L bZ w=>
  cases bZ with
  |true=>obtain⟨b,j,A,f,g⟩:=h;exact⟨b,j,A,f,pb.mono g x y⟩
  |false=>obtain⟨b,j,rfl,f,K,g⟩:=h;exact⟨b,j,rfl,f.same s (d rfl),K,pb.mono g x y⟩
 |recv t L w=>obtain⟨b,j,rfl,f,g⟩:=h;exact⟨b,j,rfl,f.same s (d rfl),pb.mono g x y⟩
 |arr t u n E w=>obtain⟨⟨b,rfl⟩,h⟩:=h;exact⟨⟨b,rfl⟩,h.same s (d rfl)⟩
 |map t H F N bZ w=>
  cases bZ with
  |true=>exact h
  |false=>have h:jD (G.M t H F) z e m k N v:=h;have d:=d rfl;obtain⟨r,rfl,_⟩:=h.bT;exact h.same s d
 |nest R t U S B w=>
  obtain⟨O,P,h⟩:=h;have d:=d rfl;rw[hi (by obtain⟨a,c,rfl⟩:=h.bT.bT.len;grind)] at d;refine⟨O,P,h.bT.same s d,h.len,h.oU,λp I=>?_⟩;obtain⟨Q,u,A,f⟩:=h.out p I
  grind
def hf.jP{z x:Nat->bW}{e m:Mem}{k:Option Nat}{q:List af}{o:ba D}{v:af}(h:hf G z e m k q o v)(f:fl z x)(d:o.live=aa->∀b,dQ v=J b->x b=z b)(K:o.live=aa->TC z x (fV v)):hf G x e m k q o v:=by
 have y:∀(i:Nat)(u:af),q[i]?=J u->q[i]?=J u:=λ_ _ h=>h;cases o with
 |dead=>trivial
 |bh t s bZ w=>
  cases bZ with
  |true=>exact fA.mono f h
  |false=>have h:dU (G.T t) z e m k s v:=h;have d:=d rfl;rw[hi (by obtain⟨a,c,rfl⟩:=h.bT.len;grind)] at d;exact h.jP f d
 |box t H bZ w=>
  cases bZ with
  |true=>obtain⟨b,p,A,l,g⟩:=h;exact⟨b,p,A,Kp f l,pb.mono g f y⟩
  |false=>obtain⟨b,p,rfl,l,F,g⟩:=h;exact⟨b,p,rfl,l.jP (d rfl),F,pb.mono g f y⟩
 |recv t H w=>obtain⟨b,p,rfl,l,g⟩:=h;exact⟨b,p,rfl,l.jP (d rfl),pb.mono g f y⟩
 |arr t u n s w=>obtain⟨⟨b,rfl⟩,h⟩:=h;exact⟨⟨b,rfl⟩,h.jP f (d rfl)⟩
 |map t E C I bZ w=>
  cases bZ with
  |true=>exact nn.mono h f
  |false=>have h:jD (G.M t E C) z e m k I v:=h;have d:=d rfl;obtain⟨r,rfl,_⟩:=h.bT;exact h.jP f d
 |nest O t Q P B w=>obtain⟨L,N,h⟩:=h;have d:=d rfl;rw[hi (by obtain⟨a,c,rfl⟩:=h.bT.bT.len;grind)] at d;exact⟨L,N,h.bT.jP f d,h.len,λj w s A l g=>(h.oU j w s A l g).jP f (K rfl),h.out⟩
def hf.lt{z:Nat->bW}{e m:Mem}{k:Option Nat}{B:List af}{o:ba D}{v:af}(h:hf G z e m k B o v)(i:o.live=aa):∀b,dQ v=J b->b<m.next/\z b=.dead/\(e.next<=b\/k=J b):=by
 cases o with
 |dead=>cases i
 |bh t l bZ w=>
  cases bZ with
  |true=>cases i
  |false=>have h:dU (G.T t) z e m k l v:=h;rw[hi (by obtain⟨a,c,rfl⟩:=h.bT.len;grind)];exactλb d=>⟨h.lt b d,h.bm b d⟩
 |box t x bZ w=>
  cases bZ with
  |true=>cases i
  |false=>obtain⟨b,y,rfl,f,C,p⟩:=h;intro c g;cases g;exact⟨f.lt,f.dead,f.fresh⟩
 |recv t x w=>obtain⟨b,y,rfl,f,p⟩:=h;intro c g;cases g;exact⟨f.lt,f.dead,f.fresh⟩
 |arr t u n l w=>obtain⟨⟨b,rfl⟩,h⟩:=h;intro c g;cases g;exact⟨h.lt b rfl,h.bm b rfl⟩
 |map t s q A bZ w=>
  cases bZ with
  |true=>cases i
  |false=>have h:jD (G.M t s q) z e m k A v:=h;obtain⟨r,rfl,_⟩:=h.bT;exactλb d=>⟨h.lt b d,h.bm b d⟩
 |nest E t I F j w=>obtain⟨H,K,h⟩:=h;rw[hi (by obtain⟨a,c,rfl⟩:=h.bT.bT.len;grind)];exactλb d=>⟨h.bT.lt b d,h.bT.bm b d⟩
variable {O:List (ba D)}{z z':Nat->bW}{e m m':Mem}{k q:Option Nat}{vs:List af}
def b9.at(h:b9 G O z e m k vs){i:Nat}{o:ba D}(b:O[i]?=J o):∃v,vs[i]?=J v/\hf G z e m k vs o v:=by
 have d:=(fq.1 b).1;have a:i<vs.length:=by rw[h.len];grind
 exact⟨vs[i],mm a,h.obj i o _ b (mm a)⟩
def b9.pF(h:b9 G O z e m k vs){i:Nat}{o o':ba D}{v:af}(l:O[i]?=J o)(q:vs[i]?=J v)(r:o.live=aa)(s:gl m m' (dQ v))(t:dL z e m' k)(R:hf G z e m' k vs o' v):b9 G (O.set i o') z e m' k vs:=by
 have S:=(fq.1 l).1;refine⟨t,by rw[sJ];exact h.len,λj p w f g=>?_,λa b p P u w M A x I Q K g=>?_⟩
 ·rw[ll] at f;split at f
  ·grind
  ·rename_i H;exact(h.obj j p w f g).same s (λy=>h.fD j i p o w v (λe=>H e.symm) f l y r g q) λ_ _ h=>h
 ·have d:∀(a:Nat)(p:ba D),(O.set i o')[a]?=J p->p.live=aa->∃n,O[a]?=J n/\n.live=aa:=by
   grind
  obtain⟨N,B,C⟩:=d a p A I;obtain⟨L,E,F⟩:=d b P x Q;exact h.fD a b N L u w M B E C F K g
def j0{a b:List af}:∀(i:Nat)(u:af),a[i]?=J u->(a++b)[i]?=J u:=λi u h=>by
 grind
def b9.push(h:b9 G O z e m k vs){o':ba D}{g:af}(s:gl m m' q)(L:dL z e m' k)(F:∀(i:Nat)(o:ba D)(v:af),O[i]?=J o->vs[i]?=J v->o.live=aa->e6 (dQ v) q)
  (U:hf G z e m' k (vs++[g]) o' g) (Q:∀p,(∀b,p=J b->b<m.next)->e6 p q->e6 p (dQ g)):b9 G (O++[o']) z e m' k (vs++[g]):=by
 refine⟨L,by simp[h.len],λj p w r l=>?_,λa b p x u w S d n R I f l=>?_⟩
 ·by_cases t:j<O.length
  ·rw[kS t] at r;rw[kS (by rw[h.len];grind)] at l;exact(h.obj j p w r l).same s (λN=>F j p w r l N) j0
  ·rw[kT (by omega)] at r;rw[kT (by rw[h.len];omega),h.len] at l
   grind
 ·have A:∀(a:Nat)(p:ba D)(u:af),a<O.length->(O++[o'])[a]?=J p->(vs++[g])[a]?=J u->O[a]?=J p/\vs[a]?=J u:=by
   intro a p u t d f;rw[kS t] at d;rw[kS (by rw[h.len];grind)] at f
   grind
  have new:∀(a:Nat)(p:ba D)(u:af),¬a<O.length->(O++[o'])[a]?=J p->(vs++[g])[a]?=J u->a=O.length/\u=g:=by
   intro a p u t d f;rw[kT (by omega)] at d;have M:a-O.length=0:=by grind
   rw[kT (by rw[h.len];omega),h.len,M] at f
   grind
  have T:∀(a:Nat)(p:ba D)(u:af),O[a]?=J p->vs[a]?=J u->p.live=aa->e6 (dQ u) (dQ g):=λa p u d f E=>Q _ (λb n=>((h.obj a p u d f).lt E b n).1) (F a p u d f E);by_cases H:a<O.length
  ·obtain⟨P,K⟩:=A a p u H d f;by_cases y:b<O.length
   ·obtain⟨C,B⟩:=A b x w y n l;exact h.fD a b p x u w S P C R I K B
   grind
  ·obtain⟨V,rfl⟩:=new a p u H d f;by_cases y:b<O.length
   ·obtain⟨C,B⟩:=A b x w y n l;exact(T b x w C B I).symm
   grind
theorem b9.jT(h:b9 G O z e m k vs){i:Nat}{o l:ba D}{v:af}(n:O[i]?=J o)(q:vs[i]?=J v)(r:o.live=aa)(S:l.live=ak)(I:fl z z')(C:dL z' e m k)(s:∀p,e6 p (dQ v)->∀b,p=J b->z' b=z b)(Q:hf G z' e m k vs l v):b9 G (O.set i l) z' e m k vs:=by
 have R:=(fq.1 n).1;refine⟨C,by rw[sJ];exact h.len,λj p w f g=>?_,λa b p A u w N H x y B M g=>?_⟩
 ·rw[ll] at f;split at f
  ·grind
  ·rename_i K;exact(h.obj j p w f g).jP I (λF=>s _ (h.fD j i p o w v (λe=>K e.symm) f n F r g q)) λ_ b j L t x=>s (J b) (λc E P=>by
    cases E;have:=((h.obj i o v n q).lt r b P).2.1
    grind) b rfl
 ·have d:∀(a:Nat)(p:ba D),(O.set i l)[a]?=J p->p.live=aa->O[a]?=J p:=by
   grind
  exact h.fD a b p A u w N (d a p H y) (d b A x B) y B M g
end
end
section
section
variable {D:Nat->Type}{G:l6 D}{O:List (ba D)}{z z':Nat->bW}{e m m':Mem}{k q:Option Nat}{vs vs':List af}
theorem LI{v w:af}(h:e6 (da v) (da w)):fV v≠fV w\/fV v=0:=by
 unfold fV;cases a:da v with
 |none=>grind
 |some b=>
  cases e:da w with
  |none=>grind
  |some c=>
   refine .inl λd=>h b a ?_
   grind
theorem WT{r:Option Nat}:fV (.map r)=0:=rfl
def b9.Hr(h:b9 G O z e m k vs){i:Nat}{o o':ba D}{v:af}{p:Option Nat}(l:O[i]?=J o)(y:vs[i]?=J v)(A:o.live=aa)(rY:∀r,v≠.map r)(P:fl z z')(s:gl m m' (dQ v))(I:dL z' e m' k)
  (M:∀(j:Nat)(q:ba D)(w:af),j≠i->O[j]?=J q->q.live=aa->vs[j]?=J w->e6 (dQ w) p)
  (K:∀b,p=J b->z b=.dead)
  (E:∀b,dQ v≠J b->p≠J b->(fV v=0\/∀j L t,z b≠.lock (fV v) j L t)->z' b=z b) (bB:hf G z' e m' k vs o' v):b9 G (O.set i o') z' e m' k vs:=by
 have cF:=(fq.1 l).1;refine⟨I,by rw[sJ];exact h.len,λj q w f g=>?_,λa b S R u w jV N Q Y lO Z g=>?_⟩
 ·rw[ll] at f;split at f
  ·grind
  ·rename_i B;have F:=h.obj j q w f g;refine((F.same s (λd=>h.fD j i q o w v (λe=>B e.symm) f l d A g y) λ_ _ h=>h).jP P (λd b C=>?_) λd b c6 L t s8=>?_)
   ·have h1:=F.lt d b C;refine E b (h.fD j i q o w v (λe=>B e.symm) f l d A g y b C) (M j q w (λe=>B e.symm) f d g b C) (.inr λj L t n=>?_)
    grind
   ·refine E b (λn=>?_) (λn=>?_) ?_
    ·have:=((h.obj i o v l y).lt A b n).2.1
     grind
    ·grind
    ·by_cases bR:fV v=0
     ·grind
     ·refine .inr λr2 bP t2 n=>?_;rw[s8] at n;have bX:fV w=fV v:=by grind
      have fP:=h.fD j i q o w v (λe=>B e.symm) f l d A g y
      grind[hi,WT,LI]
 ·have x:∀(a:Nat)(p:ba D),(O.set i o')[a]?=J p->p.live=aa->∃H,O[a]?=J H/\H.live=aa:=by
   grind
  obtain⟨kN,T,U⟩:=x a S N Y;obtain⟨iS,V,X⟩:=x b R Q lO;exact h.fD a b kN iS u w jV T V U X Z g
def b9.V4(h:b9 G O z e m k vs){g:ba D}{d:af}(P:hf G z e m k (vs++[d]) g d)(L:g.live=aa->∀(j:Nat)(q:ba D)(w:af),O[j]?=J q->q.live=aa->vs[j]?=J w->e6 (dQ w) (dQ d)):b9 G (O++[g]) z e m k (vs++[d]):=by
 have i:∀(a:Nat)(p:ba D)(u:af),(O++[g])[a]?=J p->(vs++[d])[a]?=J u->(O[a]?=J p/\vs[a]?=J u)\/(a=O.length/\p=g/\u=d):=by
  intro a p u f l;by_cases H:a<O.length
  ·rw[kS H] at f;rw[kS (by rw[h.len];grind)] at l
   grind
  ·have E:=(fq.1 f).1;simp at E;have:a=O.length:=by omega
   subst this;rw[kT (by omega)] at f;rw[kT (by rw[h.len];omega),h.len] at l
   grind
 refine⟨h.aS,by simp[h.len],λj p w F n=>?_,λa b p r u w N f x y A l n=>?_⟩
 ·rcases i j p w F n with⟨M,C⟩|⟨_,rfl,rfl⟩
  ·exact(h.obj j p w M C).same (q:=ae) ⟨e4 _,h.aS.dead,λ_ _ _=>rfl⟩ (λ_=>e6.qg) j0
  grind
 ·rcases i a p u f l with⟨K,B⟩|⟨Q,rfl,rfl⟩
  ·rcases i b r w x n with⟨t,s⟩|⟨I,rfl,rfl⟩
   ·exact h.fD a b p r u w N K t y A B s
   grind
  ·rcases i b r w x n with⟨t,s⟩|⟨I,rfl,rfl⟩
   ·exact(L y b r w t A s).symm
   grind
def b9.awv(h:b9 G O z e m k vs){i:Nat}{o':ba D}{v:af}(H:i<O.length)(x:vs[i]?=J v)(I:hf G z e m k vs o' v)(B:∀(j:Nat)(q:ba D)(w:af),j≠i->O[j]?=J q->q.live=aa->vs[j]?=J w->e6 (dQ w) (dQ v)):b9 G (O.set i o') z e m k vs:=by
 have d:∀(a:Nat)(p:ba D),(O.set i o')[a]?=J p->(a≠i/\O[a]?=J p)\/(a=i/\p=o'):=by
  grind
 refine⟨h.aS,by rw[sJ];exact h.len,λj p w A f=>?_,λa b p q u w F y n E s g f=>?_⟩
 ·rcases d j p A with⟨_,C⟩|⟨rfl,rfl⟩
  ·exact h.obj j p w C f
  grind
 ·rcases d a p y with⟨K,t⟩|⟨rfl,rfl⟩
  ·rcases d b q n with⟨r,l⟩|⟨rfl,rfl⟩
   ·exact h.fD a b p q u w F t l E s g f
   grind
  ·rcases d b q n with⟨r,l⟩|⟨rfl,rfl⟩
   ·rw[x] at g;cases g;exact(B b q w r l s f).symm
   grind
variable {aK:Type}{T:cM aK}{eV:Nat}{eh:List (List aK)}{ws:List af}{v:af}
open Classical in
noncomputable def se(z:Nat->bW)(n:Nat)(e m:Mem)(v:af):Nat->bW:=λb=>
 match z b with
 |.lock n' j L t=>if n'=n/\n≠0/\e.next<=b then .own L t else .lock n' j L t
 |x=>if da v=J b then m.blk b else x
def aqd{U:Type}{H:cM U}{f:List aK->U}(h:um eV T z e m k vs eh ae v ws)(Y:H.bM=1)(ai:H.tid=eV)(aV:∀z q c,fA T z q c->H.rd z (f q) [c])(s:dL z e m k):
  ∃I,dT e.next z I/\dL I e m k/\fA H I (eh.map f) v/\∀b,dQ v≠J b->(fV v=0\/∀j L t,z b≠.lock (fV v) j L t)->I b=z b:=by
 have aD:dQ v=da v:=hi (by obtain⟨a,c,rfl⟩:=h.bT.bT.len;grind);have Bj:=λb (g:da v=J b)=>(h.bT.bT.lt b g).2;have d:∀b,da v≠J b->(∀n j L t,z b≠.lock n j L t)->se z (fV v) e m v b=z b:=by
  grind[se]
 have M:∀b n j L t,z b=.lock n j L t->se z (fV v) e m v b=if n=fV v/\fV v≠0/\e.next<=b then .own L t else .lock n j L t:=by
  grind[se]
 have Z:∀b,da v=J b->se z (fV v) e m v b=m.blk b:=by
  grind[se]
 have A:fl z (se z (fV v) e m v):=λb g=>d b (λl=>by rw[Bj b l] at g;exact g) λn j L t l=>by rw[l] at g;exact g
 refine⟨se z (fV v) e m v,⟨A,λb g=>?_⟩,⟨λb g=>?_,s.dead,s.oL,s.next,s.kept⟩,?_,λb g bB=>?_⟩
 ·cases C:z b with
  |lock n j L t=>grind
  |_=>
   have:=d b (λl=>by have:=h.bT.fresh b l;omega) (λn j L t l=>by grind)
   grind
 ·by_cases R:da v=J b
  ·rw[Z b R];have:=h.bT.abw b R
   grind
  ·cases C:z b with
   |lock n j L t=>
    have:=s.bZ b (by grind);rw[C] at this;rw[M b n j L t C];split
    ·exact this
    grind
   |_=>have aT:=d b R (λn j L t l=>by rw[C] at l;cases l);rw[aT] at g⊢;exact s.bZ b g
 ·have oU:∀(j:Nat)(w:af)(q:List aK),ws[j]?=J w->eh[j]?=J q->fA T (se z (fV v) e m v) q w:=by
   intro j w q F K;rcases h.oU j w q F K (λp bb=>by grind) with l|⟨b,O,L,c,rfl,g2,g3,X,y,Q⟩
   ·exact .inl l
   ·have r:se z (fV v) e m v b=.own L T.tid:=by
     have S:fV v≠0:=by
      intro S;unfold fV at S;rcases h.bT.bT with⟨rfl,tk⟩|⟨dJ,o',L',c3,rfl,_⟩
      ·grind
      grind[da]
     grind
    refine .inr ⟨b,O,c,rfl,by rw[r];exact fs,?_,λi x B=>?_⟩
    ·grind
    ·obtain⟨V,P,E⟩:=Q i x B;refine⟨V,T.mono _ _ A _ _ P,λa u N=>?_⟩;simp only[nH,r];exact E a u N
  rcases h.bT.bT with⟨rfl,tk⟩|⟨b,O,L,c,rfl,g1,g2,g3,X,y,Q⟩
  ·have:eh=[]:=List.length_eq_zero_iff.1 (by rw[<-h.len,tk];rfl);subst this;exact .inl ⟨rfl,rfl⟩
  ·have r:=Z b rfl;rw[g1] at r;have aR:(eh.map f).length=ws.length:=by rw[List.length_map,h.len]
   refine .inr ⟨b,O,c,by grind,by rw[r];exact fs,?_,λi x B=>?_⟩
   ·rcases y with y|⟨y,g7,_⟩
    ·exact .inl ⟨y,L,by rw[r,ai];rfl,by rw[aR,Y];exact X⟩
    grind
   ·rw[sH] at B;obtain⟨q,K,rfl⟩:=Option.map_eq_some_iff.1 B;have cF:i<ws.length:=by grind
    have F:=mm cF;obtain⟨V,P,E⟩:=Q i _ F;refine⟨[ws[i]],aV _ _ _ (oU i _ q F K),λa u N=>?_⟩;rw[P.1] at E;simp only[nH,r,Y];exact E a u N
 grind
def arD{J7 j:Nat}{w:af}{A:List aK}(h:um eV T z e m k vs eh ae v ws)(l:dL z e m k)(hw:ws[j]?=J w)(Q:eh[j]?=J A)(bn:∀(i:Nat)(u:af),vs[i]?=J u->vs'[i]?=J u)(S:vs'[J7]?=J w):
  ∃a,dT e.next z a/\dL a e m k/\um eV T a e m k vs' eh (J ((j:Int),J7)) v ws/\dU T a e m k A w/\(∀b,a b=z b\/da w=J b/\fV v≠0/\∃L t,z b=.lock (fV v) j L t)/\∀b,da w=J b->z b≠.dead:=by
 have g:∀{a},fl z a->(∀b,a b=z b\/da w=J b/\fV v≠0/\∃L t,z b=.lock (fV v) j L t)->(∀b,da v=J b->a b=z b)->um eV T a e m k vs' eh (J ((j:Int),J7)) v ws:=by
  intro a f I qU;refine⟨h.bT.jP f qU,h.len,λO ix P X r N=>?_,λp M=>by grind⟩;have gT:O≠j:=λq=>N _ rfl (by grind);rcases h.oU O ix P X r (λp M=>by grind) with q|⟨b,y,L,c,V,fQ,kb,nb,r8,q0⟩
  ·exact .inl q
  ·refine .inr ⟨b,y,L,c,V,?_,kb,nb,r8,λi x B=>?_⟩
   ·grind
   ·obtain⟨E,H,F⟩:=q0 i x B;exact⟨E,T.mono _ _ f _ _ H,F⟩
 rcases h.oU j w A hw Q (λp M=>by grind) with⟨rfl,rfl⟩|⟨b,y,L,c,rfl,r,N,Y,Z,g6⟩
 ·exact⟨z,dT.refl z,l,g (fl.refl z) (λb=>.inl rfl) (λ_ _=>rfl),dU.nil,λb=>.inl rfl,λb R=>by cases R⟩
 ·have C:fV v≠0:=by
   intro C;unfold fV at C;rcases h.bT.bT with⟨rfl,tk⟩|⟨dJ,o',L',n,rfl,_⟩
   ·grind
   grind[da]
  let a:Nat->bW:=λc=>if c=b then .dead else z c
  have U:a b=.dead:=if_pos rfl;have s:∀c,c≠b->a c=z c:=λc d=>if_neg d;have f:fl z a:=λc d=>s c (λq=>by rw[q,r] at d;exact d);have I:∀n,a n=z n\/da (pr (J ⟨b,y,ae⟩) A.length c)=J n/\fV v≠0/\∃L t,z n=.lock (fV v) j L t:=λn=>by
   by_cases d:n=b
   ·subst d;exact .inr ⟨rfl,C,L,_,r⟩
   grind
  have K:=l.bZ b (by grind);rw[r] at K;refine⟨a,⟨f,λc d=>s c (by omega)⟩,⟨λc d=>?_,l.dead,l.oL,l.next,l.kept⟩,g f I (λc d=>s c (λq=>?_)),⟨.inr ⟨b,y,L,c,rfl,K.1,K.2,U,Y,Z,λi x B=>?_⟩,λc d=>by grind⟩,I,λc d=>by grind⟩
  ·by_cases gN:c=b
   ·grind
   ·rw[s c gN] at d⊢;exact l.bZ c d
  ·subst q;have:=(h.bT.bT.lt c d).2
   grind
  ·obtain⟨E,H,F⟩:=g6 i x B;exact⟨E,T.mono _ _ f _ _ H,F⟩
def W6{g:Option (Int×Nat)}{j:Nat}{w:af}{y:List aK}{B:List af}(h:um eV T z e m k vs eh g v ws)(n:dL z e m' k)(V:dU (rD eV) z e m' k B v)(S:B=ws.set j w)(bn:j<ws.length)(N:∀p,g=J p->p.1=(j:Int))(H:dU T z e m' k y w)(fP:e6 (da w) (da v)):
  ∃d,dT e.next z d/\dL d e m' k/\um eV T d e m' k vs (eh.set j y) ae v B/\∀b,d b=z b\/da w=J b:=by
 have l:∀{d},fl z d->(∀b,d b=z b\/da w=J b)->ud T d e.next (fV v) j y w->um eV T d e m' k vs (eh.set j y) ae v B:=by
  intro d f t s6;refine⟨V.jP f λb X=>?_,by rw[S,sJ,sJ];exact h.len,λR ix U r s O=>?_,λp Z=>by grind⟩
  ·rcases t b with a|a
   ·grind
   ·exact absurd X (fP b a)
  ·rw[S,ll] at r;rw[ll] at s;by_cases Q:j=R
   ·grind
   ·rw[if_neg Q] at r s;rcases h.oU R ix U r s (λp Z Y=>Q (by grind)) with a|⟨b,A,L,c,fv,fQ,kb,nb,r8,q0⟩
    ·exact .inl a
    ·refine .inr ⟨b,A,L,c,fv,?_,kb,nb,r8,λi x C=>?_⟩
     ·rcases t b with a|a
      ·grind
      ·have:=(H.bT.lt b a).2
       grind
     ·obtain⟨E,K,I⟩:=q0 i x C;exact⟨E,T.mono _ _ f _ _ K,I⟩
 rcases H.bT with⟨rfl,rfl⟩|⟨b,A,L,c,rfl,r,s,O,g4,g5,g6⟩
 ·exact⟨z,dT.refl z,n,l (fl.refl z) (λb=>.inl rfl) (.inl ⟨rfl,rfl⟩),λb=>.inl rfl⟩
 ·let d:Nat->bW:=λc=>if c=b then .lock (fV v) j L T.tid else z c
  have M:d b=.lock (fV v) j L T.tid:=if_pos rfl;have F:∀c,c≠b->d c=z c:=λc a=>if_neg a;have f:fl z d:=λc a=>F c (λN=>by rw[N,O] at a;exact a);have t:∀q,d q=z q\/da (pr (J ⟨b,A,ae⟩) y.length c)=J q:=λq=>by
   by_cases a:q=b
   ·subst a;exact .inr rfl
   grind
  have hU:=H.fresh b rfl;refine⟨d,⟨f,λc a=>F c (by omega)⟩,⟨λc a=>?_,n.dead,n.oL,n.next,n.kept⟩,l f t (.inr ⟨b,A,L,c,rfl,M,hU,g4,g5,λi x C=>?_⟩),t⟩
  ·by_cases P:c=b
   ·subst P;rw[M];exact⟨r,s⟩
   ·rw[F c P] at a⊢;exact n.bZ c a
  ·obtain⟨E,K,I⟩:=g6 i x C;exact⟨E,T.mono _ _ f _ _ K,I⟩
end
end
section
noncomputable section
section
variable {P:bI}{D:Nat->Type}
def zM:cv D->Bool|.gE|.za|.oY|.own _=>ak|_=>aa
def qf:cv D->Bool|.own _=>ak|.fn _ a=>a.isEmpty|_=>aa
def pR:List (cv D)->List (cv D)->Prop|[],[]=>True|c::a,d::b=>(zM c=aa->d=c)/\pR a b|_,_=>False
def pR.eq:∀{a e:List (cv D)},pR a e->a.all zM=aa->a=e
 |[],[],_,_=>rfl
 |c::a,d::e,h,b=>by simp only[ml,Bool.and_eq_true] at b;rw[h.1 b.1,pR.eq h.2 b.2]
 |[],_::_,h,_=>h.elim
 |_::_,[],h,_=>h.elim
def pR.refl:∀(a:List (cv D)),pR a a
 |[]=>trivial
 |_::a=>⟨λ_=>rfl,pR.refl a⟩
structure dP(P:bI)(G:l6 D)(t:Nat) where
 kM:D t->List (cv D)
 qk:List (cv D)->Option (D t)
 x0:D t
 i:TypeInfo
 c0:af
 tid:(G.T t).tid=t
 az:P.info? t=J i
 cN:i.size=(G.T t).bM
 hh:((G.T t).bM==0)=ak
 hp:iJ i.bytes 32768=aa
 bx:i.zero=J c0
 dw:c0.cells.toList.all dy=aa
 et:c0.cells.size=i.size
 GX:∀z,(G.T t).rd z x0 c0.cells.toList
 rc:∀z vs x cs,(G.T t).rd z x cs->bP (ed G z vs) (kM x) cs
 r6:∀z vs cs x ds,qk cs=J x->bP (ed G z vs) cs ds->(G.T t).rd z x ds
 V1:∀x,qk (kM x)=J x
 Ko:∀cs x,qk cs=J x->pR cs (kM x)
 rk:List (cv D)
 qX:∀z vs,bP (ed G z vs) rk c0.cells.toList
 VN:∀x,(kM x).all qf=aa
structure afK(P:bI)(G:l6 D)(t:Nat) where
 e:Nat
 n:Nat
 ti:dP P G e
 i:TypeInfo
 c0:af
 hu:P.underlying t=J (.array n e)
 az:P.info? t=J i
 bx:i.zero=J c0
 dw:c0.cells.toList.all dy=aa
 et:c0.cells.size=i.size
 qX:c0.cells.toList=(gb n ti.c0.cells.toList).flatten
 bB:mn n dc=aa
structure IP(P:bI)(G:l6 D)(bG bA:Nat) where
 dec:DecidableEq (D bG)
 K:nX P bG (G.eo bG)
 V:oK P bA (G.eo bA)
 qY:bc D->Option (D bG)
 tN:cv D->Option (D bA)
 pG:D bA->cv D
 z0:D bA
 i:TypeInfo
 az:P.info? bA=J i
 bx:i.zero=J (ey (ek P bA) (G.eo bA z0))
 wo:∀z vs s a v,qY s=J a->rel G z vs s v->v=ey (ek P bG) (G.eo bG a)
 y0:∀z vs c a v,tN c=J a->ed G z vs c v->v=ey (ek P bA) (G.eo bA a)
 th:∀z vs a,ed G z vs (pG a) (ey (ek P bA) (G.eo bA a))
 u0:ek P bA=ak
structure Yw(P:bI)(G:l6 D)(e:Nat) where
 to:List (D e)->List UInt8
 of:List UInt8->List (D e)
 aV:∀z xs v,fA (G.T e) z xs v->fA (kE e) z (to xs) v
 aM:∀z m0 m k xs v,dU (G.T e) z m0 m k xs v->dU (kE e) z m0 m k (to xs) v
 aw:∀z m0 m k xs v,dU (kE e) z m0 m k xs v->dU (G.T e) z m0 m k (of xs) v
 i:TypeInfo
 hu:P.underlying e=J (.int .u8)
 az:P.info? e=J i
 kL:i.size=1
 bf:∀z m b4 w,Src (kE e) z m b4 w->Src (G.T e) z m (of b4) w
structure AI(P:bI)(G:l6 D)(t:Nat) where
 bY:Array Field
 eq:D t->D t->Bool
 aW:D t->List af
 aJ:P.underlying t=J (.struct bY)
 bb:P.stoodInHeld t=ak
 bs:P.eqGuardType P.depth t=ak
 bf:∀x y,sN P bY.toList 0 (aW x) (aW y)
 aD:∀z x ds,(G.T t).rd z x ds->ds=aW x
 he:∀x y,eq x y=aa↔aW x=aW y
structure ns(P:bI)(G:l6 D) where
 f:Nat
 e:Nat
 u5:Bool
 acc:List (bc D)->Bool
 qp:List (bc D)->List (D e)->Option (List (D e))
 run:∀(z:Nat->bW)(eV m:Mem)(k:Option Nat)(vs lW:List af)(gV:List (bc D))(xs b4:List (D e))(v:af),acc gV=aa->qp gV xs=J b4->lk z m->bP (rel G z vs) gV lW->dU (G.T e) z eV m k xs v->
  ∃cc m',h2 P f (v::lW).toArray m (λu m1=>u=(if u5=aa then cc else .tuple #[])/\m1=m')/\(m'=m\/∃b X,da v=J b/\m'=m.put b X)/\dU (G.T e) z eV m' k b4 cc/\da cc=da v/\(u5=ak->cc=v)
structure vO(P:bI)(G:l6 D)(e t:Nat) where
 up:List (D t)->D e
 cN:(G.T e).bM=1
 tid:(G.T e).tid=e
 aV:∀z xs c,fA (G.T t) z xs c->(G.T e).rd z (up xs) [c]
 i:TypeInfo
 az:P.info? e=J i
 bx:i.zero=J (.slice ae 0 0)
 h1:i.size=1
 hp:iJ i.bytes 32768=aa
 hu:P.underlying e=J (.slice t)
 aJ:(G.T t).tid=t
structure e3(P:bI)(D:Nat->Type) where
 G:l6 D
 S:List (ns P G):=[]
 I:(t:Nat)->Option (dP P G t)
 A:(t:Nat)->Option (afK P G t)
 nm:(bG bA:Nat)->Option (IP P G bG bA)
 B:(e:Nat)->Option (Yw P G e)
 Q:(t:Nat)->Option (AI P G t)
 N:(e t:Nat)->Option (vO P G e t):=λ_ _=>ae
 F:(f:Nat)->List (bc D)->List (ba D)->Bool
 hg:bS->Option bS->Option bS->Nat:=λ_ _ _=>0
 W:(f:Nat)->Bool:=λ_=>ak
 aao : Option { g : Nat // P.globalNamed "humpyard/yardgen.dests" = J g } := ae
 C:(f:Nat)->List (bc D)->List (ba D)->{ap:Type}->(bc D->List (ba D)->Option ap)->Option ap
variable (X:e3 P D){ap:Type}
def eI:List (Nat×bc D)->Nat->bc D|[],_=>.un|p::E,i=>if fi p.1 i=aa then p.2 else eI E i
def na(E:List (Nat×bc D)):Option Nat->bc D->List (Nat×bc D)|none,_=>E|some d,v=>(d,v)::E
def VW:af->bc D|.int k n=>.c (.int k n)|.bool b=>.c (.bool b)|.string b=>.c (.str b.data.toList)|.slice ae 0 0=>.c .gE|.pointer ae=>.c .za|.map ae=>.c .oY|.nilFunc=>.c .wJ|_=>.un
def dp(E:List (Nat×bc D)):bS->bc D|.tmp t=>eI E t|.const v=>VW v|.func f=>.fn f []|.global _=>.un
def Lw:bS->Bool|.const (.int _ n)=>n !=0|_=>ak
def Jd(d:BinOp)(y:bS)(k:aG)(a b:Int)(K:cv D->Option ap):Option ap:=match d with|.add=>K (.int k (k.wrap (a+b)))|.sub=>K (.int k (k.wrap (a-b)))|.mul=>K (.int k (k.wrap (a*b)))|.and=>K (.int k (ih .and k a b))|.or=>K (.int k (ih .or k a b))|.xor=>K (.int k (ih .xor k a b))|.andNot=>K (.int k (ih .andNot k a b))|.eql=>K (.bool (a==b))|.neq=>K (.bool (a !=b))|.lss=>K (.bool (decide (a<b)))|.leq=>K (.bool (decide (a<=b)))|.gtr=>K (.bool (decide (b<a)))|.geq=>K (.bool (decide (b<=a)))|.quo=>if Lw y=aa then K (.int k (k.wrap (Int.tdiv a b))) else ab (sU a b) λc=>K (.int k (k.wrap c))|.rem=>if Lw y=aa then K (.int k (Int.tmod a b)) else ab (px a b) λc=>K (.int k c)|_=>ae
def ZO(a:BinOp)(s r:List UInt8)(K:cv D->Option ap):Option ap:=match a with|.add=>ab (cD s r) λq=>K (.str q)|.eql=>K (.bool (s==r))|.neq=>K (.bool (!(s==r)))|.lss=>K (.bool (vr s r))|.leq=>K (.bool (vr s r||(s==r)))|.gtr=>K (.bool (!(vr s r||(s==r))))|.geq=>K (.bool (!vr s r))|_=>ae
def ZN(d:BinOp)(a b:Bool)(K:cv D->Option ap):Option ap:=match d with|.eql=>K (.bool (a==b))|.neq=>K (.bool (!(a==b)))|_=>ae
def XW:bS->Bool|.const (.slice ae 0 0)=>aa|_=>ak
def qn(O:List (ba D)):bc D->Option ((e:Nat)×List (D e))|.c (.bh e a)=>J ⟨e,a⟩|.c (.own i)=>(match O[i]? with|some (.bh e a _ _)=>J ⟨e,a⟩|_=>ae)|_=>ae
def aeD:bS->Option Nat|.const (.int _ (.ofNat n))=>J n|_=>ae
def j2(k:aG)(b:Int):Option Nat:=if 0<=b then J (min b.toNat k.bits) else ae
def G4(left:Bool)(k:aG)(a:Int)(n:Nat):Int:=if left=aa then k.wrap (a*((2 ^ n:Nat):Int)) else a.fdiv ((2 ^ n:Nat):Int)
def P1(left:Bool)(y:bS)(k:aG)(a b:Int)(K:cv D->Option ap):Option ap:=match aeD y with|some n=>if iJ n k.bits=aa then K (.int k (G4 left k a n)) else ae|none=>ab (j2 k b) λn=>K (.int k (G4 left k a n))
def UH(h:BinOp)(t i:Nat)(f:List (cv D))(j:Nat)(g:List (cv D))(K:cv D->Option ap):Option ap:=
 match X.I t,X.Q t with
 |some e,J d=>
  match e.qk f,e.qk g with
  |some a,J b=>(match h with|.eql=>K (.bool (d.eq a b))|.neq=>K (.bool (!(d.eq a b)))|_=>ae)
  |_,_=>ae
 |_,_=>ae
def T6(d:BinOp)(t:bV)(y:bS)(O:List (ba D))(a b:bc D)(K:cv D->Option ap):Option ap:=
 match a,b with
 |.c (.int k a),.c (.int f b)=>(match d with|.shl=>P1 aa y k a b K|.shr=>P1 ak y k a b K|d=>if k=f then Jd d y k a b K else ae)
 |.c (.str s),.c (.str r)=>ZO d s r K
 |.c (.bool a),.c (.bool b)=>match P.underlying t with|some .bool=>ZN d a b K|_=>ae
 |a,_=>
  match d,P.underlying t,XW y with
  |.eql,J (.slice _),aa=>
   match a with
   |.c .gE=>K (.bool aa)
   |a=>match qn O a with|some ⟨_,e⟩=>wK e λt=>K (.bool t)|none=>ae
  |.neq,J (.slice _),aa=>
   match a with
   |.c .gE=>K (.bool ak)
   |a=>match qn O a with|some ⟨_,e⟩=>wK e λt=>K (.bool (!t))|none=>ae
  |_,_,_=>ae
def xy:List (cv D)->Nat->List (cv D)->List (cv D)|L,_,[]=>L|L,o,v::a=>xy (L.set o v) (o+1) a
def v8(O:List (ba D))(i:Nat):Option (cv D×List (ba D)):=match O[i]? with|some (.bh e h _ w)=>J (.bh e h,O.set i (.bh e h aa w))|some (.map t b a f _ w)=>J (.mp t b a f,O.set i (.map t b a f aa w))|some (.nest e t (J g) d ae w)=>J (.bh e (d.map g),O.set i (.bh e (d.map g) aa w))|_=>ae
def sY(O:List (ba D)):cv D->Option (cv D×List (ba D))|.own i=>v8 O i|c=>J (c,O)
def uJ(O:List (ba D)):List (cv D)->Option (List (cv D)×List (ba D))
 |[]=>J ([],O)
 |c::e=>
  match sY O c with
  |some (b,d)=>match uJ d e with|some (a,f)=>J (b::a,f)|none=>ae
  |none=>ae
def xg:bc D->Option (List (cv D))|.c c=>J [c]|.agg _ b=>J b|.fn f []=>J [.fn f []]|.box i a=>if a=0 then J [.own i] else ae|_=>ae
def Jx(O:List (ba D))(s:bc D):Option (List (cv D)×List (ba D)):=match xg s with|some a=>uJ O a|none=>ae
def o7(t:bV)(b:List (cv D))(a:Nat)(K:bc D->Option ap):Option ap:=match P.underlying t with|none=>ae|some d=>if lI d then match P.info? t with|none=>ae|some i=>if((b.drop a).take i.size).length=i.size then K (.agg t ((b.drop a).take i.size)) else ae else match b[a]? with|some c=>K (.c c)|none=>ae
def ay4(O:List (ba D))(e:Nat):bc D->Option (List (D e)×List (ba D))|.c .gE=>J ([],O)|.c c=>(match sY O c with|some (.bh b d,a)=>if h:b=e then J (h▸d,a) else ae|_=>ae)|_=>ae
def CH:bS->bS->Bool|.tmp a,.tmp b=>fi a b|.const (.int _ a),.const (.int _ b)=>a==b|_,_=>ak
structure YR(D:Nat->Type) where
 u:Nat
 bG:Nat
 bA:Nat
 es:List (D bG×D bA)
def XY(O:List (ba D)):bc D->Option (YR D)
 |.c (.mp u k v a)=>J ⟨u,k,v,a⟩
 |.c (.own i)=>(match O[i]? with|some (.map u k v a _ _)=>J ⟨u,k,v,a⟩|_=>ae)
 |_=>ae
def XQ(t:bV)(a b:bc D)(O:List (ba D))(K:bc D->List (ba D)->Option ap):Option ap:=match b with|.c (.int _ n)=>(match a with|.arr i=>(match O[i]? with|some (.arr e u p f _)=>(match X.I e,P.underlying t with|some _,J (.array l d)=>if d=e/\l=p then ab (al f n) λ_=>K (.el i e n 0) O else ae|_,_=>ae)|_=>ae)|.c (.bh e f)=>(match X.I e,P.underlying t with|some g,J (.slice d)=>if d=e then ab (al f n) λa=>K (.hd e (g.kM a) 0) O else ae|_,_=>ae)|.c (.own i)=>(match O[i]? with|some (.bh e f bZ _)=>(match X.I e,P.underlying t with|some g,J (.slice d)=>if d=e then ab (al f n) λa=>if bZ=aa then K (.hd e (g.kM a) 0) O else K (.el i e n 0) O else ae|_,_=>ae)|some (.nest e q _ m _ _)=>(match X.N e q,P.underlying t with|some _,J (.slice d)=>if d=e then ab (al m n) λ_=>K (.el i e n 0) O else ae|_,_=>ae)|_=>ae)|.cut i e h j=>(match O[i]? with|some (.bh k f ak _)=>(match X.I e,P.underlying t with|some _,J (.slice d)=>if d=e/\k=e then ab (al ((f.take j).drop h) n) λ_=>K (.el i e ((h:Int)+n) 0) O else ae|_,_=>ae)|_=>ae)|_=>ae)|_=>ae
def XP(t:bV)(g:Nat)(b:bc D)(O:List (ba D))(K:bc D->List (ba D)->Option ap):Option ap:=
 match b,P.underlying t with
 |.c (.int _ n),J (.array l e)=>(match P.info? e with|some i=>if l=6/\i.size=1 then ab (al p2 n) λs=>K (.wb g s) O else ae|none=>ae)
 |_,_=>ae
def zz{e:Nat}(d:dP P X.G e):Nat->List (cv D)->Option (List (D e))
 |0,_=>J []
 |n+1,b=>match d.qk (b.take (X.G.T e).bM),zz d n (b.drop (X.G.T e).bM) with|some a,J l=>J (a::l)|_,_=>ae
def XC(t:bV)(a b:bc D)(O:List (ba D))(K:bc D->List (ba D)->Option ap):Option ap:=
 match a,b,P.underlying t with
 |.agg _ j,.c (.int _ n),J (.array l e)=>
  match X.I e,P.underlying e with
  |some g,J d=>
   if lI d=aa then
    match uJ O j with
    |some (f,h)=>(match zz X g l f with|some i=>ab (al i n) λa=>K (.agg e (g.kM a)) h|none=>ae)
    |none=>ae
   else
    match uJ O j with
    |some (f,h)=>(match zz X g l f with|some i=>ab (al i n) λa=>(match g.kM a with|[c]=>K (.c c) h|_=>ae)|none=>ae)
    |none=>ae
  |_,_=>ae
 |_,_,_=>ae
def W9(t:bV)(n:Nat)(a:bc D)(O:List (ba D))(K:bc D->List (ba D)->Option ap):Option ap:=
 match a,P.underlying t with
 |.agg _ b,J (.struct d)=>(match d[n]? with|some f=>if iJ f.offset b.length=aa then o7 (P:=P) f.type b f.offset λv=>K v O else ae|none=>ae)
 |_,_=>ae
def X1(t:bV)(n:Nat)(a:bc D)(O:List (ba D))(K:bc D->List (ba D)->Option ap):Option ap:=
 match P.underlying t with
 |some (.struct d)=>
  match d[n]? with
  |some f=>
   match P.info? f.type with
   |some k=>
    if k.size=0 then ae else
    match a with
    |.box i b=>K (.box i (b+f.offset)) O
    |.hd eu g b=>K (.hd eu g (b+f.offset)) O
    |.el i e h b=>K (.el i e h (b+f.offset)) O
    |_=>ae
   |none=>ae
  |none=>ae
 |_=>ae
def xj(O:List (ba D))(i:Nat):Option (List (ba D)):=match O[i]? with|some (.nest _ _ _ _ ae _)=>J O|some (.nest e t d a (J p) _)=>(match O[p.2]? with|some (.bh b f ak _)=>if h:b=t then J ((O.set i (.nest e t d (a.set p.1.toNat (h▸f)) ae aa)).set p.2 .dead) else ae|_=>ae)|_=>ae
def Xb(t:bV)(i e:Nat)(g:Int)(d:Nat)(O:List (ba D))(K:bc D->List (ba D)->Option ap):Option ap:=match xj O i with|some a=>(match a[i]? with|some (.nest b f j h ae w)=>(match X.N b f with|some _=>if b=e/\t=e/\d=0 then ab (al h g) λk=>K (.c (.own a.length)) (a.set i (.nest b f j h (J (g,a.length)) w)++[.bh f k ak ak]) else ae|none=>ae)|_=>ae)|none=>ae
def Xm:Option (ba D)->Bool|some (.nest _ _ _ _ _ _)=>aa|_=>ak
def V3(K:bc D->List (ba D)->Option ap)(v:bc D)(O:List (ba D)):Option ap:=
 match v with
 |.c (.own i)=>(match O[i]? with|some (.box ..)=>K (.box i 0) O|_=>K v O)
 |v=>K v O
def Lo(t:bV)(a:bc D)(O:List (ba D))(K:bc D->List (ba D)->Option ap):Option ap:=
 match a with
 |.hd _ d b=>o7 (P:=P) t d b λv=>K v O
 |.wb g s=>(match X.aao,P.underlying t with|some p,J .string=>if p.1=g then K (.c (.str s)) O else ae|_,_=>ae)
 |.box i b=>
  match O[i]? with
  |some (.box _ d _ _)=>o7 (P:=P) t d b λv=>K v O
  |some (.recv _ d _)=>o7 (P:=P) t d b λv=>K v O
  |_=>ae
 |.el i e j b=>
  if Xm O[i]?=aa then Xb X t i e j b O K else
  match O[i]?,X.I e with
  |some (.bh f l _ _),J k=>if h:f=e then ab (al (h▸l:List (D e)) j) λa=>o7 (P:=P) t (k.kM a) b λv=>K v O else ae
  |some (.arr f _ _ l _),J k=>if h:f=e then ab (al (h▸l:List (D e)) j) λa=>o7 (P:=P) t (k.kM a) b λv=>K v O else ae
  |_,_=>ae
 |_=>ae
def Xa(t:bV)(a:bc D)(O:List (ba D))(K:bc D->List (ba D)->Option ap):Option ap:=match a with|.el i e f b=>(match O[i]? with|some (.nest d g _ _ (J p) _)=>(match X.N d g,O[p.2]? with|some _,J (.bh _ _ ak _)=>if d=e/\t=e/\b=0 then(if p.1=f then K (.c (.own p.2)) O else ae) else ae|_,_=>ae)|_=>ae)|_=>ae
def aea(t:bV)(a:bc D)(O:List (ba D))(K:bc D->List (ba D)->Option ap):Option ap:=
 Lo X t a O λd b=>match d with
  |.c (.own j)=>(match v8 b j with|some (c,e)=>K (.c c) e|none=>ae)
  |_=>ae
def Wx(t:bV)(i e:Nat)(d:Int)(l:Nat)(b:bc D)(O:List (ba D))(K:bc D->List (ba D)->Option ap):Option ap:=match b with|.c (.own j)=>(match O[i]?,O[j]? with|some (.nest f k m g a _),J (.bh q n ak _)=>(match X.N f k with|some _=>if h:q=k then if f=e/\t=e/\l=0 then match a with|none=>ab (al g d) λ_=>K .undef ((O.set i (.nest f k m (g.set d.toNat (h▸n)) ae aa)).set j .dead)|some p=>if p.1=d then ab (al g d) λ_=>K .undef ((O.set i (.nest f k m (g.set d.toNat (h▸n)) ae aa)).set j .dead) else ae else ae else ae|none=>ae)|_,_=>ae)|.c .gE=>(match O[i]? with|some (.nest f k m g a _)=>(match X.N f k with|some _=>if f=e/\t=e/\l=0 then match a with|none=>ab (al g d) λ_=>K .undef (O.set i (.nest f k m (g.set d.toNat []) ae aa))|some p=>if p.1=d then ab (al g d) λ_=>K .undef (O.set i (.nest f k m (g.set d.toNat []) ae aa)) else ae else ae|none=>ae)|_=>ae)|_=>ae
def Xd(t:bV)(a b:bc D)(O:List (ba D))(K:bc D->List (ba D)->Option ap):Option ap:=
 match P.info? t with
 |none=>ae
 |some k=>
  match a with
  |.box i d=>
   match xg b with
   |none=>ae
   |some new=>
    if new.length=k.size then
     match O[i]? with
     |some (.box u g ak _)=>if d+new.length<=g.length then K .undef (O.set i (.box u (xy g d new) ak aa)) else ae
     |some (.recv u g _)=>if d+new.length<=g.length then K .undef (O.set i (.recv u (xy g d new) aa)) else ae
     |_=>ae
    else ae
  |.el i e j d=>
   if Xm O[i]?=aa then Wx X t i e j d b O K else
   match Jx O b with
   |none=>ae
   |some (new,O)=>
    if new.length=k.size then
     match O[i]?,X.I e with
     |some (.bh p l ak _),J f=>
      if h:p=e then ab (al (h▸l:List (D e)) j) λa=>if d+new.length<=(f.kM a).length then ab (f.qk (xy (f.kM a) d new)) λm=>K .undef (O.set i (.bh e ((h▸l:List (D e)).set j.toNat m) ak aa)) else ae
      else ae
     |some (.arr p u n l _),J f=>
      if h:p=e then ab (al (h▸l:List (D e)) j) λa=>if d+new.length<=(f.kM a).length then ab (f.qk (xy (f.kM a) d new)) λm=>K .undef (O.set i (.arr e u n ((h▸l:List (D e)).set j.toNat m) aa)) else ae
      else ae
     |_,_=>ae
    else ae
  |_=>ae
def CK{e:Nat}(b:dP P X.G e)(E:List (Nat×bc D)):Nat->List (Nat×bS)->List (ba D)->(List (D e)->List (ba D)->Option ap)->Option ap|_,[],O,K=>K [] O|n,(j,x)::d,O,K=>if j=n then match Jx O (dp E x) with|some (f,O)=>ab (b.qk f) λa=>CK b E (n+1) d O λg O=>K (a::g) O|none=>ae else ae
def xi(e:List (Option (Nat×Nat)))(E:List (Nat×bc D)):List (Nat×bS)->List (cv D)->Option (List (cv D))|[],d=>J d|(i,x)::f,d=>match(e[i]?).join,xg (dp E x) with|some (b,a),J new=>if new.length=a/\b+a<=d.length then xi e E f (xy d b new) else ae|_,_=>ae
def y6(E:List (Nat×bc D)):Option bS->Option Int
 |none=>J 0
 |some y=>match dp E y with|.c (.int _ n)=>J n|_=>ae
def zL(E:List (Nat×bc D))(l:Int):Option bS->Option Int
 |none=>J l
 |some y=>match dp E y with|.c (.int _ n)=>J n|_=>ae
def X0(t:bV)(a:bc D)(E:List (Nat×bc D))(d b:Option bS)(O:List (ba D))(K:bc D->List (ba D)->Option ap):Option ap:=match a with|.c (.str s)=>(match P.underlying t,y6 E d,zL E (s.length:Int) b with|some .string,J x,J y=>ab (gi s x y) λr=>K (.c (.str r)) O|_,_,_=>ae)|.c c=>(match sY O c with|some (.bh e f,O)=>(match P.underlying t,X.I e,y6 E d,zL E (f.length:Int) b with|some (.slice g),J _,J x,J y=>if g=e then ab (gi f x y) λr=>K (.c (.bh e r)) O else ae|_,_,_,_=>ae)|_=>ae)|_=>ae
def abE:bc D->Bool|.c .gE=>aa|_=>ak
def XA(t:bV)(y:bS)(a:bc D)(E:List (Nat×bc D))(d b:Option bS)(O:List (ba D))(K:bc D->List (ba D)->Option ap):Option ap:=
 if abE a=aa then
  match P.underlying t,y6 E d,zL E 0 b with
  |some (.slice e),J p,J q=>(match X.I e with|some _=>if(p==0&&q==0)=aa then K (.c .gE) O else ae|none=>ae)
  |_,_,_=>ae
 else
 match X.hg y d b with
 |0=>X0 X t a E d b O K
 |md+1=>
  match a with
  |.c (.own i)=>
   match O[i]?,P.underlying t with
   |some (.bh e f ak _),J (.slice g)=>
    match X.I e,y6 E d,zL E (f.length:Int) b with
    |some _,J p,J q=>
     if g=e then ab (gi f p q) λr=>
      if fi md 0=aa then K (.cut i e p.toNat q.toNat) O
      else K (.c (.own O.length)) (O.set i .dead++[.bh e r ak ak])
     else ae
    |_,_,_=>ae
   |_,_=>ae
  |_=>ae
def LJ{a:Type}(b:List a)(p q:Int):Option (List a):=if 0<=p/\p<=(b.length:Int)/\p<=4294967296/\p=q then J (b.take p.toNat) else ae
def XB(t:bV)(a b c:bc D)(O:List (ba D))(K:bc D->List (ba D)->Option ap):Option ap:=match P.underlying t,b,c with|some (.slice d),.c (.int _ p),.c (.int _ q)=>(match a with|.c c=>(match sY O c with|some (.bh e f,O)=>(match X.I e with|some _=>if d=e then ab (LJ f p q) λr=>K (.full e r) O else ae|none=>ae)|_=>ae)|_=>ae)|_,_,_=>ae
def Xz(s t:bV)(a:bc D)(O:List (ba D))(K:bc D->List (ba D)->Option ap):Option ap:=
 match P.underlying s,P.underlying t with
 |some (.int _),J (.int d)=>(match a with|.c (.int _ n)=>K (.c (.int d (d.wrap n))) O|_=>ae)
 |some .string,J (.slice e)=>(match a,X.B e with|.c (.str s),J b=>ab (cD s []) (λg=>K (.c (.own O.length)) (O++[.bh e (b.of g) ak ak]))|_,_=>ae)
 |some (.slice e),J .string=>(match qn O a,X.B e with|some ⟨f,i⟩,J b=>if h:f=e then K (.c (.str (b.to (h▸i)))) O else ae|_,_=>ae)
 |_,_=>ae
def Lx(O:List (ba D))(s:bc D):Option ((e:Nat)×List (D e)):=match s with|.cut i e b n=>(match O[i]? with|some (.bh a d ak _)=>if a=e then J ⟨a,(d.take n).drop b⟩ else ae|_=>ae)|s=>qn O s
def Xp(e:Nat)(g:TypeDesc)(b:bc D)(O:List (ba D)):Option (List (D e)):=
 match g with
 |.slice _=>(match b with
  |.c .gE=>J []
  |b=>match Lx O b with|some ⟨d,a⟩=>if h:d=e then J (h▸a) else ae|none=>ae)
 |.string=>(match b,X.B e with
  |.c (.str s),J f=>J (f.of s)
  |_,_=>ae)
 |_=>ae
def Ly(t u:bV)(a b:bc D)(O:List (ba D))(K:bc D->List (ba D)->Option ap):Option ap:=match P.underlying t,P.underlying u with|some (.slice e),J l=>(match X.I e with|none=>ae|some _=>match Xp X e l b O with|none=>ae|some d=>match a with|.c .gE=>ab (cD [] d) λr=>K (.c (.own O.length)) (O++[.bh e r ak ak])|.full f g=>if h:f=e then(if d.isEmpty=aa then ae else ab (cD (h▸g:List (D e)) d) λr=>K (.c (.own O.length)) (O++[.bh e r ak ak])) else ae|.c (.own i)=>(match O[i]? with|some (.bh f g ak _)=>if h:f=e then ab (cD (h▸g:List (D e)) d) λr=>K (.c (.own O.length)) (O.set i .dead++[.bh e r ak ak]) else ae|_=>ae)|.cut i j k n=>if fi k 0 then if j=e then match O[i]? with|some (.bh f g ak _)=>if h:f=e then ab (cD ((h▸g:List (D e)).take n) d) λr=>K (.c (.own O.length)) (O.set i .dead++[.bh e r ak ak]) else ae|_=>ae else ae else ae|_=>ae)|_,_=>ae
def Xy(t u:bV)(a b:bc D)(O:List (ba D))(K:bc D->List (ba D)->Option ap):Option ap:=
 match P.underlying t,P.underlying u with
 |some (.slice e),J (.slice _)=>
  match X.I e,a,Lx O b with
  |some _,.full cz i,J ⟨g,d⟩=>
   if h:cz=e then
    if f:g=e then ab (cD (h▸i:List (D e)) (f▸d:List (D e))) λr=>if d.isEmpty=aa then K (.c (.bh e r)) O else K (.c (.own O.length)) (O++[.bh e r ak ak])
    else ae
   else ae
  |_,_,_=>ae
 |_,_=>ae
def W8(t:bV)(a b:bc D)(O:List (ba D))(K:bc D->List (ba D)->Option ap):Option ap:=match P.underlying t,a,b with|some (.slice e),.c .gE,.c (.int _ n)=>(match X.I e with|some k=>if(decide (0<n))=aa then ab (hy k.x0 n) λr=>K (.c (.own O.length)) (O++[.bh e r ak ak]) else ae|none=>ae)|some (.slice e),.c (.own i),.c (.int _ n)=>(match xj O i with|some f=>(match f[i]? with|some (.nest d g l j ae _)=>(match X.N d g with|some _=>if d=e then ab (hy ([]:List (D g)) n) λh=>ab (cD j h) λr=>K (.c (.own f.length)) (f.set i .dead++[.nest d g l r ae ak]) else ae|none=>ae)|_=>ae)|none=>ae)|_,_,_=>ae
def Xl:Option TypeDesc->Bool|some (.int _)=>aa|_=>ak
def XS(t:bV)(l:Nat)(d:List (Nat×bS))(E:List (Nat×bc D))(O:List (ba D))(K:bc D->List (ba D)->Option ap):Option ap:=match P.underlying t with|some (.slice e)=>(match P.underlying e with|some (.slice a)=>(match X.N e a with|some b=>(match l,d with|0,[]=>K (.c (.own O.length)) (O++[.nest e a (J b.up) [] ae ak])|1,[(0,y)]=>(match dp E y with|.c (.own j)=>(match O[j]? with|some (.bh f _ ak _)=>if f=a then K (.c (.own O.length)) (O++[.nest e a (J b.up) [[]] (J (0,j)) ak]) else ae|_=>ae)|_=>ae)|_,_=>ae)|none=>ae)|_=>ae)|_=>ae
def Xx(t u:bV)(i:Nat)(b:bc D)(O:List (ba D))(K:bc D->List (ba D)->Option ap):Option ap:=
 match P.underlying t,P.underlying u with
 |some (.slice e),J (.slice _)=>
  match b with
  |.c (.own j)=>
   if fi i j=aa then ae else
   match xj O i with
   |some k=>
    match xj k j with
    |some a=>
     match a[i]?,a[j]? with
     |some (.nest f d p m ae _),J (.nest l n _ g ae _)=>
      match X.N f d with
      |some q=>if h:n=d then(if f=e/\l=e then ab (cD m (h▸g:List (List (D d)))) λr=>K (.c (.own a.length)) ((a.set i .dead).set j .dead++[.nest f d p r ae ak]) else ae) else ae
      |none=>ae
     |_,_=>ae
    |none=>ae
   |none=>ae
  |_=>ae
 |_,_=>ae
def XR(t:bV)(a:bc D)(O:List (ba D))(K:bc D->List (ba D)->Option ap):Option ap:=
 match a,P.underlying t with
 |.c (.str s),J .string=>K (.c (.int .i64 (s.length:Int))) O
 |.c .gE,J (.slice _)=>K (.c (.int .i64 (([]:List Int).length:Int))) O
 |a,J (.slice _)=>
  match qn O a with
  |some ⟨_,b⟩=>K (.c (.int .i64 (b.length:Int))) O
  |none=>
   match a with
   |.c (.own i)=>(match O[i]? with|some (.nest _ _ _ h _ _)=>K (.c (.int .i64 (h.length:Int))) O|_=>ae)
   |.cut i e f d=>(match O[i]? with|some (.bh g b ak _)=>if g=e then K (.c (.int .i64 (((b.take d).drop f).length:Int))) O else ae|_=>ae)
   |_=>ae
 |_,_=>ae
def avq:cv D->Bool|.own _=>ak|.fn _ a=>a.isEmpty|_=>aa
def vp(O:List (ba D)):bc D->Option ((Nat×List (cv D))×List (ba D))|.hd t b a=>if a=0 then J ((t,b),O) else ae|.box i a=>(match O[i]? with|some (.box t b _ w)=>if a=0 then J ((t,b),O.set i (.box t b aa w)) else ae|_=>ae)|_=>ae
def V2(s:bc D)(K:bc D->List (ba D)->Option ap):bc D->List (ba D)->Option ap:=
 match s with
 |.box _ _=>λv O=>(match vp O v with|some (c,O)=>K (.hd c.1 c.2 0) O|none=>ae)
 |_=>K
def Ch:List (bc D)->List (ba D)->Option (List (Nat×List (cv D))×List (ba D))
 |[],O=>J ([],O)
 |s::l,O=>
  match vp O s with
  |some (c,O)=>(match Ch l O with|some (r,O)=>J (c::r,O)|none=>ae)
  |none=>ae
def T9(O:List (ba D)):bc D->Option Nat|.box i a=>(match O[i]? with|some (.box _ _ ak _)=>if a=0 then J i else ae|_=>ae)|_=>ae
def Cv(O:List (ba D)):List (bc D)->Option (List Nat)
 |[]=>J []
 |s::l=>match T9 O s,Cv O l with|some i,J a=>J (i::a)|_,_=>ae
def xk:List (ns P X.G)->Nat->List (Nat×List (cv D))->List (bc D)->Option (ns P X.G)|[],_,_,_=>ae|s::l,f,a,b=>if(fi s.f f&&(a.isEmpty&&s.acc b.tail))=aa then J s else xk l f a b
def XD(a:ns P X.G)(d:List (bc D))(O:List (ba D))(K:bc D->List (ba D)->Option ap):Option ap:=match d with|.c (.own i)::f=>(match O[i]? with|some (.bh e g ak _)=>if h:e=a.e then ab (a.qp f (h▸g:List (D a.e))) λb=>if a.u5=aa then K (.c (.own O.length)) (O.set i .dead++[.bh a.e b ak ak]) else K (.sq []) (O.set i (.bh a.e b ak aa)) else ae|_=>ae)|_=>ae
def sa(c:Call)(E:List (Nat×bc D))(O:List (ba D))(K:bc D->List (ba D)->Option ap):Option ap:=
 match c.callee with
 |.builtin .len=>match c.args.toList,c.argTypes.toList with|[x],[t]=>XR (P:=P) t (dp E x) O K|_,_=>ae
 |.builtin .append=>match c.args.toList,c.argTypes.toList with|[x,y],[t,u]=>if Xl (P.underlying u)=aa then W8 X t (dp E x) (dp E y) O K else if fi (X.hg y (J x) (J x)) 6=aa then Xy X t u (dp E x) (dp E y) O K else(match dp E x with|.c (.own i)=>if Xm O[i]?=aa then Xx X t u i (dp E y) O K else Ly X t u (dp E x) (dp E y) O K|_=>Ly X t u (dp E x) (dp E y) O K)|_,_=>ae
 |.builtin .cap=>match c.args.toList,c.argTypes.toList with|[x],[t]=>(match dp E x,P.underlying t with|.c .gE,J (.slice _)=>K (.c (.int .i64 0)) O|_,_=>ae)|_,_=>ae
 |.builtin .max=>match c.args.toList with|[x,y]=>(match dp E x,dp E y with|.c (.int k a),.c (.int e b)=>if k=e then K (.c (.int k (max a b))) O else ae|_,_=>ae)|_=>ae
 |.builtin .min=>match c.args.toList with|[x,y]=>(match dp E x,dp E y with|.c (.int k a),.c (.int e b)=>if k=e then K (.c (.int k (min a b))) O else ae|_,_=>ae)|_=>ae
 |.value f=>
  match dp E f with
  |.fn f d=>
   match xk X X.S f d (c.args.toList.map (dp E)) with
   |some h=>XD X h (c.args.toList.map (dp E)) O K
   |none=>X.C f (c.args.toList.map (dp E)++d.map λp=>.hd p.1 p.2 0) O K
  |.c (.fn f g)=>X.C f (c.args.toList.map (dp E)++g.map λi=>.box i 0) O K
  |_=>ae
 |_=>ae
def Xc(e:Nat)(x y:bS)(n:Int)(O:List (ba D))(K:bc D->List (ba D)->Option ap):Option ap:=match P.underlying e with|some (.slice a)=>(match X.N e a,CH x y with|some b,aa=>ab (hy ([]:List (D a)) n) λr=>K (.c (.own O.length)) (O++[.nest e a (J b.up) r ae ak])|_,_=>ae)|_=>ae
def iR(o:Op)(E:List (Nat×bc D))(O:List (ba D))(K:bc D->List (ba D)->Option ap):Option ap:=
 match o with
 |.move x=>K (dp E x) O
 |.assign x=>K (dp E x) O
 |.nilCheck x=>(match dp E x with|.box .. |.arr .. |.el .. |.hd .. =>K (dp E x) O|_=>ae)
 |.extract x i=>(match dp E x with|.sq l=>(match l[i]? with|some (.inl c)=>K (.c c) O|some (.inr p)=>K (.agg p.1 p.2) O|none=>ae)|_=>ae)
 |.pick c a b=>(match dp E c with|.c (.bool aa)=>K (dp E a) O|.c (.bool ak)=>K (dp E b) O|_=>ae)
 |.binOp op t x y u=>(match dp E x,dp E y with|.agg t1 V,.agg t2 Y=>UH X op t t1 V t2 Y λc=>K (.c c) O|a,b=>T6 (P:=P) op t y O a b λc=>K (.c c) O)
 |.unOp .not t x=>(match dp E x with|.c (.bool b)=>K (.c (.bool (!b))) O|_=>ae)
 |.unOp .neg t x=>(match dp E x with|.c (.int k a)=>K (.c (.int k (k.wrap (0-a)))) O|_=>ae)
 |.convert s t x=>Xz X s t (dp E x) O K
 |.indexAddr t (.global g) y=>XP (P:=P) t g (dp E y) O K
 |.indexAddr t x y=>XQ X t (dp E x) (dp E y) O K
 |.field t x n=>W9 (P:=P) t n (dp E x) O K
 |.fieldAddr t x n=>X1 (P:=P) t n (dp E x) O K
 |.load t x=>if fi (X.hg x ae ae) 4=aa then aea X t (dp E x) O K else if fi (X.hg x ae ae) 7=aa then Xa X t (dp E x) O K else Lo X t (dp E x) O (V3 K)
 |.store t x y=>Xd X t (dp E x) (dp E y) O K
 |.alloc t=>
  (match X.A t with
  |some L=>K (.arr O.length) (O++[.arr L.e t L.n (gb L.n L.ti.x0) ak])
  |none=>match X.I t with|some z=>K (.box O.length 0) (O++[.box t z.rk ak ak])|none=>ae)
 |.box t x=>
  (match P.info? t,xg (dp E x) with
  |some i,J B=>if B.length=i.size then V2 (dp E x) K (.box O.length 0) (O++[.box t B ak ak]) else ae
  |_,_=>ae)
 |.makeSlice t x y=>
  (match P.underlying t,dp E x with
  |some (.slice e),.c (.int _ n)=>
   if fi (X.hg x (J x) (J x)) 3=aa then Xc X e x y n O K else
   match X.I e,CH x y with
   |some z,aa=>ab (hy z.x0 n) λr=>K (.c (.own O.length)) (O++[.bh e r ak ak])
   |_,_=>ae
  |_,_=>ae)
 |.buildSlice t l C=>
  if fi (X.hg (.const (.int .i64 (t:Int))) ae ae) 3=aa then XS X t l C.toList E O K else
  (match P.underlying t with
  |some (.slice e)=>
   match X.I e with
   |some z=>CK X z E 0 C.toList O λS O=>if S.length=l/\iJ (l*(X.G.T e).bM) 16777216=aa then K (.c (.own O.length)) (O++[.bh e S ak ak]) else ae
   |none=>ae
  |_=>ae)
 |.build t C=>
  (match P.underlying t,X.I t with
  |some (.struct R),J z=>if(pC P R).all Y2=aa then(match xi (pC P R) E C.toList z.rk with|some B=>K (.agg t B) O|none=>ae) else ae
  |some (.array n e),J z=>(match P.info? e with|some k=>(match xi ((mN n).map λj=>J (j*k.size,k.size)) E C.toList z.rk with|some B=>K (.agg t B) O|none=>ae)|none=>ae)
  |_,_=>ae)
 |.slice t x Z U ae=>XA X t x (dp E x) E Z U O K
 |.slice t x ae (J y) (J h8)=>XB X t (dp E x) (dp E y) (dp E h8) O K
 |.index t x y=>(match P.underlying t,dp E x,dp E y with|some .string,.c (.str s),.c (.int _ n)=>ab (al s n) λc=>K (.c (.int .u8 (UInt8.toNat c:Int))) O|_,a,b=>XC X t a b O K)
 |.makeFunc (.func f) first F=>
  if fi (X.hg (.func f) ae ae) 5=aa then(match first.toList,Cv O (F.toList.map (dp E)) with|[],J is=>K (.c (.fn f is)) O|_,_=>ae) else
  (match first.toList,Ch (F.toList.map (dp E)) O with|[],J (H,O)=>K (.fn f H) O|_,_=>ae)
 |.makeMap t ae=>(match P.underlying t with|some (.map m h)=>K (.c (.own O.length)) (O++[.map t m h [] ak ak])|_=>ae)
 |.lookup t x y ok=>
  (match XY O (dp E x),dp E y with
  |some ⟨u,m,h,N⟩,c=>
   match P.underlying t,P.underlying u with
   |some (.map k v),J (.map Q M)=>
    if k=m/\v=h/\Q=m/\M=h then
     match X.nm m h with
     |some q=>
      match q.qY c with
      |some a=>aF.lt (@jv _ _ q.dec N a) λy=>if ok=aa then K (.sq [.inl (q.pG (y.getD q.z0)),.inl (.bool y.isSome)]) O else K (.c (q.pG (y.getD q.z0))) O
      |none=>ae
     |none=>ae
    else ae
   |_,_=>ae
  |_,_=>ae)
 |.mapUpdate t x y w|.insert t x y w=>
  (match dp E x,dp E y,dp E w with
  |.c (.own i),c,.c d=>
   match O[i]? with
   |some (.map u m h N ak _)=>
    match P.underlying t,P.underlying u with
    |some (.map k v),J (.map Q M)=>
     if k=m/\v=h/\Q=m/\M=h then
      match X.nm m h with
      |some q=>
       match q.qY c,q.tN d with
       |some a,J b=>aF.lt (@o8 _ _ q.dec N a b) λv7=>K .undef (O.set i (.map u m h v7 ak aa))
       |_,_=>ae
      |none=>ae
     else ae
    |_,_=>ae
   |_=>ae
  |_,_,_=>ae)
 |.call c=>sa X c E O K
 |_=>ae
def aed:Op->Option Nat|.pick (.tmp d) _ _=>J d|_=>ae
def vn(E:List (Nat×bc D))(d:Nat)(K:List (Nat×bc D)->Option ap):Option ap:=match eI E d with|.c (.bool b)=>if b=aa then K ((d,.c (.bool aa))::E) else K ((d,.c (.bool ak))::E)|.undef=>K E|_=>ae
def BI(o:Oper)(E:List (Nat×bc D))(O:List (ba D))(K:List (Nat×bc D)->List (ba D)->Option ap):Option ap:=match aed o.op with|some d=>vn E d λE=>iR X o.op E O λv O=>K (na E o.dst v) O|none=>iR X o.op E O λv O=>K (na E o.dst v) O
def tM(a:List Oper):List Oper->List (Nat×bc D)->List (ba D)->(List (Nat×bc D)->List (ba D)->Option ap)->Option ap
 |[],E,O,K=>K E O
 |o::f,E,O,K=>
  match o.guard with
  |none=>BI X o E O λE O=>tM a f E O K
  |some (j,e)=>
   match(a[j]?).bind (·.dst) with
   |none=>ae
   |some d=>
    vn E d λE=>
     match eI E d with
     |.c (.bool b)=>if b=e then BI X o E O λE O=>tM a f E O K else tM a f (na E o.dst .undef) O K
     |.undef=>tM a f (na E o.dst .undef) O K
     |_=>ae
inductive l4 where
 |py|bZ|lost
 |ob (j:Nat)
def q9(E:List (Nat×bc D)):Op->Option l4
 |.load _ x=>(match dp E x with|.wb _ _=>J .bZ|.hd _ (_::_) _=>J .bZ|.box j _=>J (.ob j)|.el j _ _ _=>J (.ob j)|_=>ae)
 |.lookup _ x _ _=>(match dp E x with|.c (.mp _ _ _ _)=>J .bZ|.c (.own j)=>J (.ob j)|_=>ae)
 |.convert _ _ x=>(match dp E x with|.c (.bh _ _)=>J .bZ|.c (.own j)=>J (.ob j)|.c (.int _ _)=>J .py|.c (.str _)=>J .py|_=>ae)
 |.slice _ x _ _ _=>(match dp E x with|.c (.str _)=>J .py|.c (.bh _ _)=>J .bZ|.c (.own j)=>J (.ob j)|_=>ae)
 |_=>J .py
def q1:List (bc D)->List Nat|[]=>[]|.box i _::l=>i::q1 l|_::l=>q1 l
def zC:List (bc D)->List Nat|[]=>[]|.c (.own i)::l=>i::zC l|_::l=>zC l
def sj(E:List (Nat×bc D)):Op->Option (List Nat)
 |.store _ x _=>(match dp E x with|.box j _=>J [j]|.el j _ _ _=>J [j]|_=>ae)
 |.mapUpdate _ x _ _=>(match dp E x with|.c (.own j)=>J [j]|_=>ae)
 |.insert _ x _ _=>(match dp E x with|.c (.own j)=>J [j]|_=>ae)
 |.call c=>
  match c.callee with
  |.builtin .append=>(match c.args.toList with|x::_=>(match dp E x with|.c .gE=>J []|.c (.own j)=>J [j]|.cut j _ _ _=>J [j]|.full _ _=>J []|_=>ae)|[]=>ae)
  |.value f=>(match dp E f with|.fn ma a=>(match xk X X.S ma a (c.args.toList.map (dp E)) with|some _=>J (zC (c.args.toList.map (dp E)))|none=>if X.W ma=aa then ae else J (q1 (c.args.toList.map (dp E))))|_=>ae)
  |_=>ae
 |_=>ae
structure gk where
 rd:List (Nat×l4)
 j7:List (Nat×(Bool×List Nat))
 jZ:List (Nat×Nat)
 lK:List (Nat×Bool)
 pg:List Nat
def y4:bc D->Bool|.c (.bh _ _)=>aa|.hd _ (_::_) _=>aa|_=>ak
def tr(E:List (Nat×bc D))(L:gk):bS->Bool|.tmp d=> !(L.pg.any (fi d))&&y4 (eI E d)|_=>ak
def rK(E:List (Nat×bc D))(L:gk):Op->Bool|.move x=>tr E L x|.assign x=>tr E L x|.nilCheck x=>tr E L x|.fieldAddr _ x _=>tr E L x|.indexAddr _ x _=>tr E L x|_=>ak
def abf(E:List (Nat×bc D))(L:gk):Op->Bool|.load _ x=>tr E L x|.slice _ x _ _ ae=>tr E L x|_=>ak
def sx(E:List (Nat×bc D))(o:Oper)(L:gk):gk:=
 match o.dst with
 |none=>L
 |some d=>if rK E L o.op=aa then{L with pg:=L.pg.filter λe=> !(fi d e)} else{L with pg:=d::L.pg}
def tB(O:List (ba D))(j:Nat):Bool:=match O[j]? with|some o=>o.live|none=>ak
def Lc(O:List (ba D))(j:Nat):Bool:=match O[j]? with|some .dead=>ak|some (.box _ [] aa _)=>ak|some _=>aa|none=>ak
def vo(O:List (ba D))(a:List Nat)(j:Nat):Bool:=Lc O j&& !(a.any (fi j))
def vf(O:List (ba D)):Nat->List (ba D)->List Nat|_,[]=>[]|i,o::l=>if o.live=aa then i::vf O (i+1) l else vf O (i+1) l
def zO(B:Array Nat)(i:Nat)(O:List (ba D))(L:gk):l4->Bool|.py=>aa|.bZ=>L.j7.all λy=>gD B i y.1||y.2.1|.ob j=>Lc O j&&L.j7.all λy=>gD B i y.1||(y.2.1||y.2.2.any (fi j))|.lost=>ak
def G5(O:List (ba D))(a:List Nat):l4->Bool|.ob j=>vo O a j|.lost=>ak|_=>aa
def XF(B:Array Nat)(i:Nat)(O:List (ba D))(L:gk)(a:List Nat):Bool:=a.all (tB O)&&((L.rd.all λy=>gD B i y.1||G5 O a y.2)&&L.jZ.all λy=>gD B i y.1||vo O a y.2)
def tA(E:List (Nat×bc D))(O:List (ba D)):Op->Bool
 |.call c=>
  match c.callee with
  |.value f=>(match dp E f with|.fn f a=>(match xk X X.S f a (c.args.toList.map (dp E)) with|some _=>ak|none=>X.F f (c.args.toList.map (dp E)++a.map λp=>.hd p.1 p.2 0) O)|_=>ak)
  |_=>ak
 |_=>ak
def A0(i:Nat)(O:List (ba D))(a:List Nat)(b:Bool)(L:gk):gk:=
 {rd:=L.rd.map λy=>if G5 O a y.2=aa then y else(y.1,.lost)
  j7:=((i,aa,vf O 0 O)::L.j7).map λy=>(y.1,y.2.1&&b,y.2.2.filter (vo O a))
  jZ:=L.jZ
  lK:=(i,a.isEmpty)::L.lK.map λy=>(y.1,y.2&&a.isEmpty)
  pg:=L.pg}
def XZ:bc D->Option (Option Nat)|.c (.own j)=>J (J j)|.box j _=>J (J j)|.arr j=>J (J j)|.c (.int _ _)=>J ae|.c (.str _)=>J ae|_=>ae
def abH(o:Op)(v:bc D):Option (Option Nat):=if sg o=aa then XZ v else J ae
def pD(i:Nat)(s:l4)(n:Option Nat)(L:gk):gk:=
 {rd:=match s with|.py=>L.rd|s=>(i,s)::L.rd
  j7:=match n with|some _=>L.j7.map λy=>(y.1,ak,y.2.2)|none=>L.j7
  jZ:=match n with|some j=>(i,j)::L.jZ|none=>L.jZ
  lK:=L.lK
  pg:=L.pg}
def aaj:l4->Bool|.bZ=>aa|_=>ak
def Lm(B:Array Nat)(i:Nat)(E:List (Nat×bc D))(L:gk)(s:l4)(o:Op):Bool:=aaj s&&abf E L o
def Xo(B:Array Nat)(i:Nat)(L:gk):Bool:=(L.rd.all λy=>gD B i y.1)&&L.jZ.all λy=>gD B i y.1
def XG(i:Nat)(L:gk):gk:=
 {rd:=L.rd.map λy=>(y.1,.lost)
  j7:=(i,ak,[])::L.j7.map λy=>(y.1,ak,[])
  jZ:=L.jZ
  lK:=L.lK
  pg:=L.pg}
def Km(B:Array Nat)(i:Nat)(o:Oper)(L:gk)(E:List (Nat×bc D))(O:List (ba D))(K:gk->List (Nat×bc D)->List (ba D)->Option ap):Option ap:=
 if lT o.op=aa then
  match sj X E o.op with
  |some b=>if XF B i O L b=aa then iR X o.op E O λv a=>K (sx E o (A0 i O b (tA X E O o.op) L)) (na E o.dst v) a else ae
  |none=>if Xo B i L=aa then iR X o.op E O λv a=>K (sx E o (XG i L)) (na E o.dst v) a else ae
 else
  match q9 E o.op with
  |some s=>
   if(zO B i O L s||Lm B i E L s o.op)=aa then
    iR X o.op E O λv a=>
     match abH o.op v with
     |some n=>K (sx E o (pD i s n L)) (na E o.dst v) a
     |none=>ae
   else ae
  |none=>ae
def BH(B:Array Nat)(i:Nat)(o:Oper)(L:gk)(E:List (Nat×bc D))(O:List (ba D))(K:gk->List (Nat×bc D)->List (ba D)->Option ap):Option ap:=match aed o.op with|some d=>vn E d λE=>Km X B i o L E O K|none=>Km X B i o L E O K
def vu(B:Array Nat)(a:List Oper):Nat->List Oper->gk->List (Nat×bc D)->List (ba D)->(List (Nat×bc D)->List (ba D)->Option ap)->Option ap
 |_,[],_,E,O,K=>K E O
 |i,o::f,L,E,O,K=>
  match o.guard with
  |none=>BH X B i o L E O λL E O=>vu B a (i+1) f L E O K
  |some (j,e)=>
   match(a[j]?).bind (·.dst) with
   |none=>ae
   |some d=>
    vn E d λE=>
     match eI E d with
     |.c (.bool b)=>if b=e then BH X B i o L E O λL E O=>vu B a (i+1) f L E O K else vu B a (i+1) f L (na E o.dst .undef) O K
     |.undef=>vu B a (i+1) f L (na E o.dst .undef) O K
     |_=>ae
structure mP(D:Nat->Type) where
 path:List Nat
 fits:List (Nat×bc D)->List (ba D)->Bool
 run:List (Nat×bc D)->List (ba D)->{ap:Type}->(fG->List (Nat×bc D)->List (ba D)->Option ap)->Option ap
def Jr:List Nat->List Nat->Bool|[],[]=>aa|a::p,b::q=>fi a b&&Jr p q|_,_=>ak
def sf(a:List (mP D))(p:List Nat)(E:List (Nat×bc D))(O:List (ba D)):Option (mP D):=match a with|[]=>ae|u::a=>if(Jr u.path p&&u.fits E O)=aa then J u else sf a p E O
def as2:Option (ba D)->Bool|some (.nest _ _ _ _ (J _) _)=>aa|_=>ak
def avr(O:List (ba D))(n:Nat):Bool:=
 match O[n]? with
 |some (.nest _ _ _ _ (J p) _)=>(match O[p.2]? with|some o=> !o.live|none=>ak)
 |_=>ak
def LK:Nat->List (ba D)->Option (List (ba D))
 |0,O=>J O
 |n+1,O=>match LK n O with|some a=>if as2 a[n]?=aa then(if avr a n=aa then J a else xj a n) else J a|none=>ae
def vq(K:List (Nat×bc D)->List (ba D)->Option ap)(E:List (Nat×bc D))(O:List (ba D)):Option ap:=match LK O.length O with|some a=>K E a|none=>ae
def j8(i:List (mP D))(f:Array Oper->Bool):Bool->List Nat->Code->List (Nat×bc D)->List (ba D)->(fG->List (Nat×bc D)->List (ba D)->Option ap)->Option ap|g,p,.seq a b,E,O,K=>(match(if g=aa then ae else sf i p.reverse E O) with|some u=>u.run E O K|none=>j8 i f ak (0::p) a E O λe E O=>if e=.normal then j8 i f ak (1::p) b E O K else K e E O)|g,p,.cond c a b,E,O,K=>(match(if g=aa then ae else sf i p.reverse E O) with|some u=>u.run E O K|none=>match dp E c with|.c (.bool t)=>if t=aa then j8 i f ak (0::p) a E O K else j8 i f ak (1::p) b E O K|_=>ae)|g,p,.block j c,E,O,K=>(match(if g=aa then ae else sf i p.reverse E O) with|some u=>u.run E O K|none=>j8 i f ak (0::p) c E O λe E O=>K (if e=.exit j then .normal else e) E O)|g,p,.scope c,E,O,K=>(match(if g=aa then ae else sf i p.reverse E O) with|some u=>u.run E O K|none=>j8 i f ak (0::p) c E O K)|g,p,.region _ h d,E,O,K=>(match(if g=aa then ae else sf i p.reverse E O) with|some u=>u.run E O K|none=>if d=aa then(if f h=aa then tM X h.toList h.toList E O (vq (K .normal)) else vu X (Region.before h) h.toList 0 h.toList ⟨[],[],[],[],[]⟩ E O (vq (K .normal))) else tM X h.toList h.toList E O (vq (K .normal)))|g,p,.loop c,E,O,K=>(match(if g=aa then ae else sf i p.reverse E O) with|some u=>u.run E O K|none=>ae)|_,_,.skip,E,O,K=>K .normal E O|_,_,.label _,E,O,K=>K .normal E O|_,_,.exit j,E,O,K=>K (.exit j) E O|_,_,.ret,E,O,K=>K .ret E O|_,_,_,_,_,_=>ae
end
end
end
section
def gz{aK:Type}{p:Prop}[Decidable p]{a:Option aK}{x:aK}(h:(if p then a else ae)=J x):p/\a=J x:=by
 grind
section
variable {P:bI}{D:Nat->Type}{X:e3 P D}{ap:Type}{z z':Nat->bW}{e m m':Mem}{k:Option Nat}{vs:List af}{fr:Nat->af}{E:List (Nat×bc D)}{O:List (ba D)}{o:Oper}{r:ap}
def dH(X:e3 P D)(O:List (ba D))(z:Nat->bW)(e:Mem)(k:Option Nat)(h:List af)(K:bc D->List (ba D)->Option ap)(r:ap)(v:af)(g:Mem):Prop:=∃d a f b,Inv O b/\dT e.next z d/\(∀(i:Nat)(u:af),h[i]?=J u->a[i]?=J u)/\b9 X.G b d e g k a/\rel X.G d a f v/\K f b=J r
theorem dH.here{K:bc D->List (ba D)->Option ap}{dR:bc D}{v:af}(b:b9 X.G O z e m k vs)(a:rel X.G z vs dR v)(d:K dR O=J r):dH X O z e k vs K r v m:=⟨z,vs,dR,O,Inv.refl O,dT.refl z,λ_ _ h=>h,b,a,d⟩
theorem dH.from{K:bc D->List (ba D)->Option ap}{v:af}{d:Nat->bW}{b:List (ba D)}(i:Inv O b)(m:dT e.next z d)(h:dH X b d e k vs K r v m'):dH X O z e k vs K r v m':=by
 obtain⟨t,a,q,p,j,s,g,f,l,n⟩:=h;exact⟨t,a,q,p,i.trans j,m.trans s,g,f,l,n⟩
def WN(a:∀d,rel X.G z vs (eI E d) (fr d))(x:bS):rel X.G z vs (dp E x) (bk fr x):=by
 cases x with
 |tmp t=>exact a t
 |func f=>exact⟨[],rfl,trivial⟩
 |global g=>trivial
 |const v=>show rel X.G z vs (VW v) v;unfold VW;split<;>first|trivial|rfl
def adL{i:Nat}{c:cv D}{y:List (ba D)}{v:af}(f:b9 X.G O z e m k vs)(h:v8 O i=J (c,y))(q:vs[i]?=J v):∃g,Inv O y/\dT e.next z g/\b9 X.G y g e m k vs/\ed X.G g vs c v:=by
 unfold v8 at h;split at h
 ·rename_i t H bZ w j;cases h;have d:=f.obj i _ v j q;cases bZ with
  |true=>
   have:O.set i (.bh t H aa w)=O:=by
    apply rv
    grind
   rw[this];exact⟨z,Inv.refl O,dT.refl z,f,d⟩
  |false=>have d:dU (X.G.T t) z e m k H v:=d;obtain⟨g,n,s,l,K⟩:=d.freeze f.aS;have x:dQ v=da v:=hi (by obtain⟨a,c,rfl⟩:=d.bT.len;grind);exact⟨g,Inv.set O i (.inl rfl),n,f.jT j q rfl rfl n.le s (by grind) l,l⟩
 ·rename_i t B A C bZ w j;cases h;have d:=f.obj i _ v j q;cases bZ with
  |true=>
   have:O.set i (.map t B A C aa w)=O:=by
    apply rv
    grind
   rw[this];exact⟨z,Inv.refl O,dT.refl z,f,d⟩
  |false=>
   have d:jD (X.G.M t B A) z e m k C v:=d;obtain⟨g,n,s,l,K⟩:=d.freeze f.aS;have x:dQ v=tH v:=by obtain⟨r,rfl,_⟩:=d.bT;rfl
   exact⟨g,Inv.set O i (.inl rfl),n,f.jT j q rfl rfl n.le s (by grind) l,l⟩
 ·rename_i S t R U w j;cases h;obtain⟨P,V,d⟩:=f.obj i _ v j q;obtain⟨n,s,l⟩:=P R rfl;obtain⟨g,E,L,F,N⟩:=aqd d n s l f.aS;have Q:∀r,v≠.map r:=by obtain⟨a,c,rfl⟩:=d.bT.bT.len;grind
  exact⟨g,Inv.set O i (.inl rfl),E,f.Hr (p:=ae) j q rfl Q E.le ⟨e4 _,f.aS.dead,λ_ _ _=>rfl⟩ L (λ_ _ _ _ _ _ _=>e6.qg) (λb x=>by grind) (λb x _ I=>N b x I) F,F⟩
 grind
def zw{c d:cv D}{a:List (ba D)}{v:af}(g:b9 X.G O z e m k vs)(h:sY O c=J (d,a))(f:ed X.G z vs c v):∃b,Inv O a/\dT e.next z b/\b9 X.G a b e m k vs/\ed X.G b vs d v:=by
 cases c with
 |own i=>exact adL g h f.1
 |_=>cases h;grind[Inv.refl,dT.refl]
theorem K1:∀{f a:List (cv D)}{O b:List (ba D)}{g:List af}{z:Nat->bW},b9 X.G O z e m k vs->uJ O f=J (a,b)->bP (ed X.G z vs) f g->∃i,Inv O b/\dT e.next z i/\b9 X.G b i e m k vs/\bP (ed X.G i vs) a g
 |[],a,O,b,[],z,j,h,_=>by cases h;grind[Inv.refl,dT.refl]
 |c::f,a,O,b,d::g,z,j,h,⟨A,p⟩=>by
  unfold uJ at h;split at h
  ·rename_i F H r;split at h
   ·rename_i q K B;cases h;obtain⟨I,w,n,x,y⟩:=zw j r A;obtain⟨E,C,l,s,t⟩:=K1 x B (pb.mono p n.le λ_ _ h=>h);exact⟨E,w.trans C,n.trans l,s,ed.mono y l.le λ_ _ h=>h,t⟩
   grind
  grind
 |[],_,_,_,_::_,_,_,_,h=>h.elim
 |_::_,_,_,_,[],_,_,_,h=>h.elim
def KA{s:bc D}{g:List (cv D)}{v:af}(h:xg s=J g)(a:rel X.G z vs s v):storable v=aa/\bP (ed X.G z vs) g v.cells.toList:=by
 cases s with
 |c c=>cases h;have:=ed.afp a;rw[this.2];exact⟨this.1,a,trivial⟩
 |agg t k=>cases h;obtain⟨p,rfl,e⟩:=a;exact⟨rfl,e⟩
 |box i n=>
  simp only[xg] at h;split at h
  ·rename_i j;subst j;cases h;obtain⟨b,m,rfl⟩:=a;exact⟨rfl,⟨m,rfl,rfl⟩,trivial⟩
  grind
 |fn f d=>
  cases d with
  |nil=>
   cases h;obtain⟨l,rfl,e⟩:=a;cases l with
   |nil=>exact⟨rfl,⟨[],rfl,trivial⟩,trivial⟩
   |cons _ _=>exact e.elim
  |cons _ _=>cases h
 |_=>cases h
def adM{s:bc D}{d:List (cv D)}{a:List (ba D)}{v:af}(i:b9 X.G O z e m k vs)(h:Jx O s=J (d,a))(f:rel X.G z vs s v):∃b,Inv O a/\dT e.next z b/\b9 X.G a b e m k vs/\storable v=aa/\bP (ed X.G b vs) d v.cells.toList:=by
 unfold Jx at h;split at h
 ·rename_i n g;obtain⟨l,j⟩:=KA g f
  grind[K1]
 grind
variable {x y:bS}{t u:bV}
def asp{l:BinOp}{kk:aG}{a b:Int}{K:cv D->Option ap}(e:o.op=.binOp l t x y u)(f:bk fr x=.int kk a)(d:bk fr y=.int kk b)(h:Jd l y kk a b K=J r):∃c v,K c=J r/\dD P (bk fr) o v/\ed X.G z vs c v:=by
 have i:Lw y=aa->b≠0:=λg p=>by
  unfold Lw at g;split at g
  ·rename_i m n;have:mu m n=.int kk b:=d
   grind
  grind
 cases l with
 |add=>exact⟨_,_,h,apO e f d,rfl⟩
 |sub=>exact⟨_,_,h,apZ e f d,rfl⟩
 |mul=>exact⟨_,_,h,apU e f d,rfl⟩
 |and=>exact⟨_,_,h,apP e f d,rfl⟩
 |or=>exact⟨_,_,h,apY e f d,rfl⟩
 |xor=>exact⟨_,_,h,ap0 e f d,rfl⟩
 |andNot=>exact⟨_,_,h,asE e f d,rfl⟩
 |eql=>exact⟨_,_,h,abO e f d,rfl⟩
 |neq=>exact⟨_,_,h,apW e f d,rfl⟩
 |lss=>exact⟨_,_,h,apT e f d,rfl⟩
 |leq=>exact⟨_,_,h,apS e f d,rfl⟩
 |gtr=>exact⟨_,_,h,apR e f d,rfl⟩
 |geq=>exact⟨_,_,h,apQ e f d,rfl⟩
 |quo=>
  simp only[Jd] at h;split at h
  ·rename_i g;exact⟨_,_,h,abP e f d (i g),rfl⟩
  ·obtain⟨c,j,h⟩:=bind_some h;obtain⟨k,rfl⟩:=aq0 j;exact⟨_,_,h,abP e f d k,rfl⟩
 |rem=>
  simp only[Jd] at h;split at h
  ·rename_i g;exact⟨_,_,h,abQ e f d (i g),rfl⟩
  ·obtain⟨c,j,h⟩:=bind_some h;obtain⟨k,rfl⟩:=acD j;exact⟨_,_,h,abQ e f d k,rfl⟩
 |shl=>cases h
 |shr=>cases h
def asq{e:BinOp}{s q:List UInt8}{K:cv D->Option ap}(a:o.op=.binOp e t x y u)(d:bk fr x=str s)(b:bk fr y=str q)(h:ZO e s q K=J r):∃c v,K c=J r/\dD P (bk fr) o v/\ed X.G z vs c v:=by
 cases e with
 |add=>obtain⟨c,f,h⟩:=bind_some h;obtain⟨g,rfl⟩:=tv f;exact⟨_,_,h,avs a d b (by grind[uf]),rfl⟩
 |eql=>exact⟨_,_,h,avv a d b,rfl⟩
 |neq=>exact⟨_,_,h,auT a d b,rfl⟩
 |lss=>exact⟨_,_,h,auO a d b,rfl⟩
 |leq=>exact⟨_,_,h,auN a d b,rfl⟩
 |gtr=>exact⟨_,_,h,auJ a d b,rfl⟩
 |geq=>exact⟨_,_,h,auI a d b,rfl⟩
 |_=>cases h
def aso{d:BinOp}{a b:Bool}{K:cv D->Option ap}(f:o.op=.binOp d t x y u)(e:P.underlying t=J .bool)(i:bk fr x=.bool a)(g:bk fr y=.bool b)(h:ZN d a b K=J r):∃c v,K c=J r/\dD P (bk fr) o v/\ed X.G z vs c v:=by
 cases d with
 |eql=>exact⟨_,_,h,avu f e i g,rfl⟩
 |neq=>exact⟨_,_,h,auS f e i g,rfl⟩
 |_=>cases h
def WM{s:bc D}{v:af}{p:(t:Nat)×List (D t)}(f:b9 X.G O z e m k vs)(h:qn O s=J p)(a:rel X.G z vs s v):fA (X.G.T p.1) z p.2 v\/∃(w:af),dU (X.G.T p.1) z e m k p.2 v:=by
 unfold qn at h;split at h
 ·cases h;exact .inl a
 ·rename_i i;split at h
  ·rename_i t g bZ w d;cases h;have b:=f.obj i _ v d a.1;cases bZ with
   |true=>exact .inl b
   |false=>exact .inr ⟨v,b⟩
  grind
 grind
def aqK{s:bc D}{v:af}{p:(t:Nat)×List (D t)}(d:b9 X.G O z e m k vs)(h:qn O s=J p)(b:rel X.G z vs s v):∃a c,v=.slice a p.2.length c:=by
 rcases WM d h b with h|⟨_,h⟩
 ·exact h.len
 ·exact h.bT.len
def acz{s:bc D}{v:af}{p:(t:Nat)×List (D t)}(d:b9 X.G O z e m k vs)(h:qn O s=J p)(b:rel X.G z vs s v):(v=.slice ae 0 0/\p.2=[])\/∃a l c,v=.slice (J a) l c:=by
 rcases WM d h b with h|⟨_,h⟩
 ·exact h.VU
 ·exact h.bT.VU
theorem aqL{s:bc D}{v:af}{p:(t:Nat)×List (D t)}(a:b9 X.G O z e m k vs)(h:qn O s=J p)(b:rel X.G z vs s v):Src (X.G.T p.1) z m p.2 v:=by
 rcases WM a h b with h|⟨_,h⟩
 ·exact h.src a.aS.bZ
 ·exact h.bT.src
def pO.avG{g:Type}{T:cM g}{m:Nat->bW}{e:List g}{a n:Nat}{w v:af}(s:pO T.bM a n w v)(h:fA T m e w):fA T m ((e.take n).drop a) v:=by
 rcases s with⟨rfl,rfl,rfl,rfl⟩|⟨b,M,l,c,f,y,rfl,rfl,P,q,d,t⟩
 ·exact .inl ⟨rfl,by rfl⟩
 ·rcases h with⟨h,_⟩|⟨K,E,I,A,B,C,O⟩
  ·grind
  ·cases A;have p:((e.take n).drop a).length=n-a:=by grind
   refine .inr ⟨b,f,y,by grind,B,?_,λi x F=>?_⟩
   ·rw[p];rcases C with⟨z,L,j,N⟩|⟨z,j⟩
    ·rcases t with⟨_,k⟩|⟨k,_⟩
     ·refine .inl ⟨k,L,j,?_⟩;have H:n*T.bM<=e.length*T.bM:=oH _ q;rcases d with d|⟨d,r⟩
      ·rw[d,sK,<-ko,show a+(n-a)=n by omega];omega
      grind
     grind
    grind
   grind
def pO.VY{f:Type}{T:cM f}{k:Nat->bW}{j:Mem}{d:List f}{a n:Nat}{w v:af}(s:pO T.bM a n w v)(h:fO T k j d w):fO T k j ((d.take n).drop a) v:=by
 rcases s with⟨rfl,rfl,_,rfl⟩|⟨b,U,l,c,e,z,rfl,rfl,Z,q,N,y⟩
 ·exact .inl ⟨rfl,by simp⟩
 ·rcases h with⟨h,_⟩|⟨R,V,L,P,F,H,I,K,Y,g,M⟩
  ·grind
  ·cases F;have m:((d.take n).drop a).length=n-a:=by grind
   have O:n*T.bM<=d.length*T.bM:=oH _ q;have S:a*T.bM+(n-a)*T.bM=n*T.bM:=by rw[<-ko,show a+(n-a)=n by omega]
   have p:n<=a->(n-a)*T.bM=0:=λh=>by grind
   refine .inr ⟨b,e,L,z,by grind,H,I,K,?_,?_,λi x t=>?_⟩
   ·grind
   ·rw[m];rcases y with⟨_,B⟩|⟨B,E⟩
    ·grind
    ·rcases g with g|⟨C,A,X⟩
     ·omega
     ·subst E;have r:a*T.bM+(c-a)*T.bM=c*T.bM:=by rw[<-ko,show a+(c-a)=c by omega]
      refine .inr ⟨by omega,by omega,?_⟩
      grind
   ·obtain⟨Q,C,A⟩:=M _ x (WU t)
    grind
def pO.bT{a:Type}{T:cM a}{e:Nat->bW}{b:Mem}{d:List a}{n:Nat}{w v:af}(f:pO T.bM 0 n w v)(h:fO T e b d w):fO T e b (d.take n) v:=by simpa using f.VY h
def pO.src{j:Type}{T:cM j}{g:Nat->bW}{d:Mem}{f:List j}{a n:Nat}{w v:af}(t:pO T.bM a n w v)(h:fO T g d f w):Src T g d ((f.take n).drop a) v:=by
 rcases t with⟨rfl,rfl,rfl,rfl⟩|⟨b,q,l,c,e,O,rfl,rfl,X,K,I,M⟩
 ·simpa using(fO.nil (T:=T) (z:=g) (m:=d)).src
 ·rcases h with⟨h,_⟩|⟨P,Q,L,N,C,E,R,S,U,V,F⟩
  ·grind
  ·cases C;have s:((f.take n).drop a).length=n-a:=by grind
   rw[<-s];refine Xv λi y p=>?_;obtain⟨B,A,x⟩:=F _ y (WU p);refine⟨B,A,λk u H=>?_⟩;have:=(fq.1 p).1;have r:e=q+a*T.bM:=by
    grind
   rw[r,sK q,<-ko];simp only[Mem.load,E];exact x k u H
def pO.blk{d e n:Nat}{w v:af}(a:pO d e n w v):dQ v=dQ w:=by
 rcases a with⟨rfl,rfl,_,_⟩|⟨b,h,l,c,f,g,rfl,rfl,_⟩<;>rfl
def acy{s:bc D}{v:af}{p:(t:Nat)×List (D t)}(b:b9 X.G O z e m k vs)(h:Lx O s=J p)(a:rel X.G z vs s v):Src (X.G.T p.1) z m p.2 v:=by
 unfold Lx at h;split at h
 ·obtain⟨w,g,d⟩:=a;split at h
  ·rename_i n l q i;split at h
   ·rename_i j;subst j;cases h;have f:dU _ z e m k l w:=b.obj _ _ _ i g.1;exact d.src f.bT
   grind
  grind
 grind[aqL]
def ac0(h:XW y=aa):bk fr y=.slice ae 0 0:=by
 unfold XW at h;split at h
 ·rfl
 grind
def aef{f:BinOp}{left:Bool}{kk j:aG}{a b:Int}{K:cv D->Option ap}(k:o.op=.binOp f t x y u)(l:bk fr x=.int kk a)(g:bk fr y=.int j b)(q:(f=.shl/\left=aa)\/(f=.shr/\left=ak))(h:P1 left y kk a b K=J r):∃c v,K c=J r/\dD P (bk fr) o v/\ed X.G z vs c v:=by
 have e:∀{n:Nat},0<=b->min b.toNat kk.bits=n->dD P (bk fr) o (.int kk (G4 left kk a n)):=by
  intro n i d;have:=atf (P:=P) (op:=f) k l g i (by grind)
  grind[G4]
 unfold P1 at h;split at h
 ·rename_i n d;obtain⟨m,h⟩:iJ n kk.bits=aa/\K (.int kk (G4 left kk a n))=J r:=by
   grind
  have p:b=n:=by
   unfold aeD at d;split at d
   ·cases d;have g:mu _ (Int.ofNat n)=.int j b:=g
    grind
   grind
  exact⟨_,_,h,e (by omega) (by simp_all),rfl⟩
 ·obtain⟨n,d,h⟩:=bind_some h;unfold j2 at d;split at d
  ·rename_i i;cases d;exact⟨_,_,h,e i rfl,rfl⟩
  grind
def ats{m:BinOp}{n p:Nat}{g i:List (cv D)}{K:cv D->Option ap}(j:o.op=.binOp m t x y u)(H:rel X.G z vs (.agg n g) (bk fr x))(C:rel X.G z vs (.agg p i) (bk fr y))(h:UH X m t n g p i K=J r):∃c v,K c=J r/\dD P (bk fr) o v/\ed X.G z vs c v:=by
 unfold UH at h;split at h
 ·rename_i q d B E;split at h
  ·rename_i a b L A;obtain⟨k,f,s⟩:=H;obtain⟨l,e,w⟩:=C;have F:=d.aD z a k (q.r6 z vs g a k L s);have I:=d.aD z b l (q.r6 z vs i b l A w);rw[F] at f;rw[I] at e;split at h
   ·exact⟨_,_,h,abN ak (by simpa using j) d.aJ d.bb d.bs (d.bf a b) f e (d.he a b),rfl⟩
   ·exact⟨_,_,h,abN aa (by simpa using j) d.aJ d.bb d.bs (d.bf a b) f e (d.he a b),rfl⟩
   grind
  grind
 grind
def asr{E:BinOp}{a b:bc D}{K:cv D->Option ap}(d:o.op=.binOp E t x y u)(C:b9 X.G O z e m k vs)(g:rel X.G z vs a (bk fr x))(l:rel X.G z vs b (bk fr y))(h:T6 (P:=P) E t y O a b K=J r):∃c v,K c=J r/\dD P (bk fr) o v/\ed X.G z vs c v:=by
 unfold T6 at h;split at h
 ·split at h
  ·exact aef d g l (.inl ⟨rfl,rfl⟩) h
  ·exact aef d g l (.inr ⟨rfl,rfl⟩) h
  ·split at h
   ·rename_i H;subst H;exact asp d g l h
   grind
 ·exact asq d g l h
 ·split at h
  ·rename_i f;exact aso d f g l h
  grind
 ·split at h
  ·rename_i w f q;have j:=ac0 (fr:=fr) q;split at h
   ·exact⟨_,_,h,KW ak d f g j,rfl⟩
   ·split at h
    ·rename_i F I p;rcases acz C p g with⟨i,B⟩|⟨n,A,s,i⟩
     ·exact⟨_,_,KF h aa λ_=>B,KW ak d f i j,rfl⟩
     ·exact⟨_,_,KF h ak (by simp),.A2 ak x y t u w n A s d f i j,rfl⟩
    grind
  ·rename_i w f q;have j:=ac0 (fr:=fr) q;split at h
   ·exact⟨_,_,h,KW aa d f g j,rfl⟩
   ·split at h
    ·rename_i F I p;rcases acz C p g with⟨i,B⟩|⟨n,A,s,i⟩
     ·exact⟨_,_,KF h aa λ_=>B,KW aa d f i j,rfl⟩
     ·exact⟨_,_,KF h ak (by simp),.A2 aa x y t u w n A s d f i j,rfl⟩
    grind
  grind
end
end
section
section
variable {P:bI}{D:Nat->Type}{X:e3 P D}{ap:Type}{z z':Nat->bW}{e m m':Mem}{k:Option Nat}{vs:List af}{fr:Nat->af}{E:List (Nat×bc D)}{O:List (ba D)}{o:Oper}{r:ap}
variable {x y:bS}{t u:bV}{K:bc D->List (ba D)->Option ap}
def j1{a:bc D}{v:af}(d:b9 X.G O z e m k vs)(f:K a O=J r)(h:dD P (bk fr) o v)(b:rel X.G z vs a v):cH P (bk fr) o m λ_ v g=>dH X O z e k vs K r v g:=
 cH.pure h (dH.here d b f)
def ae5{d:Nat}{ti:dP P X.G d}{g:List (D d)}{n:Int}{kk:aG}{a:D d}(j:o.op=.indexAddr t x y)(i:P.underlying t=J (.slice d))(l:b9 X.G O z e m k vs)(s:fA (X.G.T d) z g (bk fr x))(p:bk fr y=.int kk n)(w:al g n=J a)
  (h:K (.hd d (ti.kM a) 0) O=J r):cH P (bk fr) o m λ_ v C=>dH X O z e k vs K r v C:=by
 refine avh j i ti.az ti.cN rfl p s w λb f A B q=>?_;exact dH.here (dR:=.hd d (ti.kM a) 0) l ⟨b,f,A,rfl,q,ti.rc _ _ _ _ B⟩ h
def arM{a b:bc D}(E:o.op=.indexAddr t x y)(p:b9 X.G O z e m k vs)(B:rel X.G z vs a (bk fr x))(aw:rel X.G z vs b (bk fr y))(h:XQ X t a b O K=J r):cH P (bk fr) o m λ_ v m'=>dH X O z e k vs K r v m':=by
 unfold XQ at h;split at h
 ·rename_i kk n;have F:bk fr y=.int kk n:=aw;split at h
  ·rename_i i;split at h
   ·rename_i L G7 tp Q U I;split at h
    ·rename_i d l j Y f;split at h
     ·rename_i s;obtain⟨rfl,rfl⟩:=s;obtain⟨a,g,h⟩:=bind_some h;obtain⟨b,ju,A,an⟩:=B;obtain⟨⟨dJ,he⟩,q⟩:=p.obj i _ _ I A;cases he;refine avg E f d.az (T:=(X.G.T j).as G7) d.cN an F q g λcs e0 uU R=>?_;exact dH.here (dR:=.el i j n 0) p ⟨b,0,_,_,A,by simp;rfl⟩ h
     grind
    grind
   grind
  ·rename_i S Q;split at h
   ·rename_i d j Y f;split at h
    ·rename_i s;subst s;obtain⟨a,g,h⟩:=bind_some h;exact ae5 (ti:=d) E f p B F g h
    grind
   grind
  ·rename_i i;split at h
   ·rename_i L Q bZ U I;split at h
    ·rename_i d j Y f;split at h
     ·rename_i s;subst s;obtain⟨a,g,h⟩:=bind_some h;have q:=p.obj i _ _ I B.1;cases bZ with
      |true=>exact ae5 (ti:=d) E f p q F g h
      |false=>have q:dU (X.G.T j) z e m k Q (bk fr x):=q;refine ae6 E f d.az d.cN rfl F q g λb H l c cs A e0 uU R=>?_;exact dH.here (dR:=.el i j n 0) p ⟨b,H,l,c,by rw[<-A];exact B.1,rfl⟩ h
     grind
    grind
   ·rename_i S L up eh hole U I;split at h
    ·rename_i V j oM f;split at h
     ·rename_i s;subst s;obtain⟨a,g,h⟩:=bind_some h;obtain⟨hu,Z,q⟩:=p.obj i _ _ I B.1;obtain⟨g0,g1,g2⟩:=o3 g;have cF:n.toNat<Z.length:=by rw[q.len];grind
      have wm:al Z n=J Z[n.toNat]:=by
       grind[al]
      refine ae6 (T:=rD j) E f V.az (by rw[V.h1];rfl) rfl F q.bT wm λb H l c cs A e0 uU R=>?_;exact dH.here (dR:=.el i j n 0) p ⟨b,H,l,c,by rw[<-A];exact B.1,by rw[V.cN];rfl⟩ h
     grind
    grind
   grind
  ·rename_i i S M az;split at h
   ·rename_i L Q U I;split at h
    ·rename_i d j Y f;split at h
     ·rename_i s;obtain⟨rfl,rfl⟩:=s;obtain⟨a,g,h⟩:=bind_some h;obtain⟨w,hw,R⟩:=B;obtain⟨g0,g1,g2⟩:=o3 g;have N:n.toNat<((Q.take az).drop M).length:=(fq.1 g2).1;rw[List.length_drop,List.length_take] at N;rcases R with⟨_,_,rfl,rfl⟩|⟨b,H,l,c,C,c3,rfl,A,h1,ai,aT,br⟩
      ·omega
      ·have rV:C=H+M*(X.G.T L).bM:=by grind
       refine cH.pure (v:=.pointer (J ⟨b,C+n.toNat*d.i.size,ae⟩)) (.indexAddr t x y L d.i b C _ c3 kk n E f d.az A F g0 (by omega)) (dH.here (dR:=.el i L ((M:Int)+n) 0) p ⟨b,H,l,c,hw.1,?_⟩ h);have S:((M:Int)+n).toNat=M+n.toNat:=by omega
       rw[S,rV,d.cN,ko,Nat.add_zero,sK]
     grind
    grind
   grind
  grind
 grind
def arJ{n:Nat}{a:bc D}(p:o.op=.fieldAddr t x n)(q:b9 X.G O z e m k vs)(y:rel X.G z vs a (bk fr x))(h:X1 (P:=P) t n a O K=J r):cH P (bk fr) o m λ_ v I=>dH X O z e k vs K r v I:=by
 unfold X1 at h;split at h
 ·rename_i L j;split at h
  ·rename_i f w;split at h
   ·rename_i i s;split at h
    ·grind
    ·rename_i M;have A:(i.size==0)=ak:=by grind
     split at h
     ·obtain⟨b,g,d⟩:=y;exact j1 q h (Xk p j w s A d) ⟨b,g,rfl⟩
     ·obtain⟨b,H,E,d,C,B⟩:=y;exact j1 q h (Xk p j w s A d) ⟨b,H,E,by grind,C,B⟩
     ·obtain⟨b,F,l,c,g,d⟩:=y;exact j1 q h (Xk p j w s A d) ⟨b,F,l,c,g,by grind⟩
     grind
   grind
  grind
 grind
def ary{b e:Nat}{f:List (cv D)}{a:List af}{K:bc D->Option ap}(g:o.op=.load t x)(l:bk fr x=.pointer (J ⟨b,e,ae⟩)){A:Nat}(E:∀(j:Nat)(w:af),a[j]?=J w->m.load b (A+j)=J w){n:Nat}(M:e=A+n)(k:bP (ed X.G z vs) f a)
  (h:o7 (P:=P) t f n K=J r):∃q v,K q=J r/\rel X.G z vs q v/\fH P (bk fr) o m v:=by
 subst M;unfold o7 at h;split at h
 ·grind
 ·rename_i d p;split at h
  ·rename_i B;split at h
   ·grind
   ·rename_i i F;split at h
    ·rename_i s;have y:bP (ed X.G z vs) ((f.drop n).take i.size) ((a.drop n).take i.size):=bP.take _ (bP.drop _ k);have L:((a.drop n).take i.size).length=i.size:=by rw[<-y.length];grind
     refine⟨_,.agg ((a.drop n).take i.size).toArray,h,⟨_,rfl,y⟩,atx g p B F L l λj w N=>?_⟩
     grind
    grind
  ·rename_i B;split at h
   ·rename_i c I;obtain⟨w,H,C⟩:=k.get n c I;exact⟨_,w,h,C,XV g p (by grind) l (E n w H)⟩
   grind
def b9.kill(h:b9 X.G O z e m k vs)(i:Nat):b9 X.G (O.set i .dead) z e m k vs:=by
 refine⟨h.aS,by rw[sJ];exact h.len,λj p w f l=>?_,λa b p q u w y d s n r x l=>?_⟩
 ·rw[ll] at f;split at f
  ·split at f
   ·cases f;trivial
   grind
  ·exact h.obj j p w f l
 ·have g:∀(a:Nat)(p:ba D),(O.set i .dead)[a]?=J p->p.live=aa->O[a]?=J p:=by
   intro a p d t;rw[ll] at d;split at d
   ·split at d
    ·cases d;cases t
    grind
   grind
  exact h.fD a b p q u w y (g a p d n) (g b q s r) n r x l
def BZ{E:List (ba D)}{i:Nat}(d:b9 X.G O z e m k vs)(h:xj O i=J E):∃B,Inv O E/\dT e.next z B/\b9 X.G E B e m k vs:=by
 unfold xj at h;split at h
 ·grind[Inv.refl,dT.refl]
 ·rename_i n t1 x t p w Q;split at h
  ·rename_i l A ix C;split at h
   ·rename_i eB;subst eB;cases h;obtain⟨v,I,hu,y,g⟩:=d.at Q;obtain⟨u9,u,H,U⟩:=g.out p rfl;have F:dU (X.G.T l) z e m k A u:=d.obj p.2 _ u C H;have P:i≠p.2:=λs=>by grind
    have kI:dQ v=da v:=hi (by obtain⟨a,c,rfl⟩:=g.bT.bT.len;grind);have S:dQ u=da u:=hi (by obtain⟨a,c,rfl⟩:=F.bT.len;grind);have rY:∀r,v≠.map r:=by obtain⟨a,c,rfl⟩:=g.bT.bT.len;grind
    have M:=d.fD p.2 i _ _ u v (λs=>P s.symm) C Q rfl rfl H I;rw[kI,S] at M;have cF:p.1.toNat<y.length:=(fq.1 U).1;have tk:y=y.set p.1.toNat u:=by
     apply rv
     grind
    obtain⟨B,N,g2,g3,g4⟩:=W6 g d.aS g.bT tk cF (λq f=>by grind) F M;have R:=d.kill p.2;have V:(O.set p.2 .dead)[i]?=J (.nest n l x t (J p) w):=by grind
    have Bd:=R.Hr (o':=.nest n l x (t.set p.1.toNat A) ae aa) (p:=da u) V I rfl rY N.le ⟨e4 _,d.aS.dead,λ_ _ _=>rfl⟩ g2 (λj q pH bn f K hw=>?_) (λb L=>(F.bT.lt b L).2) (λb L bb _=>?_) ⟨hu,y,g3⟩
    ·have Z:(O.set i (.nest n l x (t.set p.1.toNat A) ae aa)).set p.2 .dead=(O.set p.2 .dead).set i (.nest n l x (t.set p.1.toNat A) ae aa):=List.set_comm _ _ P;exact⟨B,(Inv.set O i (.inr rfl)).trans (Inv.set _ p.2 (.inl rfl)),N,by grind⟩
    ·rw[ll] at f;split at f
     ·split at f
      ·cases f;cases K
      grind
     ·rename_i Y;have:=d.fD j p.2 q _ pH u (λs=>Y s.symm) f C K rfl hw H
      grind
    grind
   grind
  grind
 grind
def aqJ{i n g:Nat}(eG:vO P X.G n g){B:Option (List (D g)->D n)}{t:List (List (D g))}{y:Bool}{f:Int}{d:List (ba D)}{S:Nat->bW}(aM:o.op=.load n x)(aN:b9 X.G O z e m k vs)(kL:Inv O d)(qc:dT e.next z S)(s:b9 X.G d S e m k vs)(U:d[i]?=J (.nest n g B t ae y))(bl:rel X.G z vs (.el i n f 0) (bk fr x))
  (h:(ab (al t f) λE=>K (.c (.own d.length)) (d.set i (.nest n g B t (J (f,d.length)) y)++[.bh g E ak ak]))=J r):cH P (bk fr) o m λ_ v m'=>dH X O z e k vs K r v m':=by
 obtain⟨E,bs,h⟩:=bind_some h;obtain⟨b,f0,l,c,H,an⟩:=bl;obtain⟨hu,C,R⟩:=s.obj i _ _ U H;obtain⟨g0,g1,g2⟩:=o3 bs;have cF:f.toNat<C.length:=by rw[R.len];grind
 have A:=mm cF;have wm:al C f=J C[f.toNat]:=by
  grind[al]
 obtain⟨cs,e0,_,ay⟩:=R.bT.elem rfl wm;have Vf:m.load b (f0+f.toNat*(X.G.T n).bM+0)=J C[f.toNat]:=by rw[eG.cN];exact ay 0 _ (by rw[e0.1];rfl)
 generalize C[f.toNat]=u at*;obtain⟨z2,fv,fQ,kb,V,r8,q0⟩:=arD (vs':=vs++[u]) (J7:=d.length) R s.aS A g2 j0 (by rw[<-s.len];simp);have rY:∀r,pr (J ⟨b,f0,ae⟩) l c≠.map r:=λr cp=>by grind
 have nz:((f.toNat:Nat):Int)=f:=by omega
 rw[nz] at kb;have Bg:dQ u=da u:=hi (by obtain⟨a,c,rfl⟩:=V.bT.len;grind);have az:=(fq.1 U).1;have N:b9 X.G (d++[.dead]) S e m k (vs++[u]):=s.V4 trivial λI=>by cases I
 have Q:=N.Hr (o:=.nest n g B t ae y) (o':=.nest n g B t (J (f,d.length)) y) (p:=ae) (by grind) (j0 _ _ H) rfl rY fv.le ⟨e4 _,aN.aS.dead,λ_ _ _=>rfl⟩ fQ (λ_ _ _ _ _ _ _=>e6.qg) (λb aw=>by grind) (λL _ _ I=>by
  grind) ⟨hu,C,kb⟩
 have hlen:((d++[(.dead:ba D)]).set i (.nest n g B t (J (f,d.length)) y)).length=d.length+1:=by simp
 have F:=Q.awv (i:=d.length) (o':=.bh g E ak ak) (v:=u) (by grind) (by rw[<-s.len];simp) (V:dU (X.G.T g) z2 e m k E u) (λj q w bn Z I A=>?_)
 ·have JX:((d++[(.dead:ba D)]).set i (.nest n g B t (J (f,d.length)) y)).set d.length (.bh g E ak ak)=d.set i (.nest n g B t (J (f,d.length)) y)++[.bh g E ak ak]:=by
   simp_all
  rw[JX] at F;refine cH.read (XV aM eG.hu rfl an Vf) ⟨z2,vs++[u],.c (.own d.length),_,kL.trans ((Inv.set d i (.inr ?_)).trans (Inv.push _ _)),qc.trans fv,j0,F,?_,h⟩
  ·simp[ba.nd]
  ·obtain⟨a,c3,rfl⟩:=V.bT.len;exact⟨by rw[<-s.len];simp,rfl,rfl⟩
 ·intro L e5 oS;rw[Bg] at oS;refine q0 L oS ?_;have M:j<d.length:=by
   grind
  by_cases Y:j=i
  ·subst Y;rw[kS (by grind)] at A;rw[H] at A;cases A;exact((s.obj _ _ _ U H).lt rfl L e5).2.1
  ·rw[List.getElem?_set_ne (λcp=>Y cp.symm),kS M] at Z;rw[kS (by rw[s.len];grind)] at A;exact((s.obj j q w Z A).lt I L e5).2.1
theorem aqE{i d:Nat}{f:Int}{a:Nat}(g:o.op=.load t x)(b:b9 X.G O z e m k vs)(l:rel X.G z vs (.el i d f a) (bk fr x))(h:Xb X t i d f a O K=J r):cH P (bk fr) o m λ_ v y=>dH X O z e k vs K r v y:=by
 unfold Xb at h;split at h
 ·rename_i B j;obtain⟨E,w,A,s⟩:=BZ b j;split at h
  ·rename_i F L M H C p;split at h
   ·rename_i n I;split at h
    ·rename_i q;obtain⟨rfl,rfl,rfl⟩:=q;exact aqJ n g b w A s p l h
    grind
   grind
  grind
 grind
theorem aqD{a:bc D}(w:o.op=.load t x)(d:b9 X.G O z e m k vs)(C:rel X.G z vs a (bk fr x))(h:Xa X t a O K=J r):cH P (bk fr) o m λ_ v L=>dH X O z e k vs K r v L:=by
 unfold Xa at h;split at h
 ·rename_i i e2 dx N;split at h
  ·rename_i U t1 up eh p Z H;split at h
   ·rename_i g Q S ix oM B;split at h
    ·rename_i I;obtain⟨rfl,rfl,rfl⟩:=I;split at h
     ·rename_i M;obtain⟨b,F,l,c,s,y⟩:=C;obtain⟨n,R,f⟩:=d.obj i _ _ H s;obtain⟨g0,u,j,g2⟩:=f.out p rfl;subst M;obtain⟨Y,E,_,A⟩:=f.bT.elem rfl (show al R p.1=J u by grind[al]);have q:m.load b (F+p.1.toNat*(X.G.T t).bM+0)=J u:=by
       rw[g.cN];exact A 0 _ (by rw[E.1];rfl)
      have n:dU (X.G.T Q) z e m k S u:=d.obj p.2 _ u B j;refine cH.read (XV w g.hu rfl y q) (dH.here (dR:=.c (.own p.2)) d ?_ h);obtain⟨a,V,rfl⟩:=n.bT.len;exact⟨j,rfl,rfl⟩
     grind
    grind
   grind
  grind
 grind
def acU{b:Nat}{k:dP P X.G b}:∀{l:Nat}{d:List (cv D)}{f:List af}{e:List (D b)},zz X k l d=J e->bP (ed X.G z vs) d f->∀(i:Nat)(a:D b),e[i]?=J a->i<l/\(X.G.T b).rd z a ((f.drop (i*(X.G.T b).bM)).take (X.G.T b).bM)
 |0,d,f,e,h,_,i,a,g=>by cases h;grind
 |n+1,d,f,e,h,j,i,a,g=>by
  simp only[zz] at h;split at h
  ·rename_i q r p m;cases h;cases i with
   |zero=>simp at g;subst g;refine⟨by omega,?_⟩;rw[Nat.zero_mul,List.drop_zero];exact k.r6 z vs _ _ _ p (bP.take _ j)
   |succ i=>
    have:=acU m (bP.drop _ j) i a (by grind)
    grind[List.drop_drop]
  grind
theorem ark{a b:bc D}(S:o.op=.index t x y)(aN:b9 X.G O z e m k vs)(bl:rel X.G z vs a (bk fr x))(N:rel X.G z vs b (bk fr y))(h:XC X t a b O K=J r):cH P (bk fr) o m λ_ v m'=>dH X O z e k vs K r v m':=by
 unfold XC at h;split at h
 ·rename_i t1 cs kk n l B R;obtain⟨q,U,aV⟩:=bl;have N:bk fr y=.int kk n:=N;split at h
  ·rename_i f d iE V;have L:∀{g:List (cv D)}{p:List (ba D)}{E:List (D B)}{a:D B},uJ O cs=J (g,p)->zz X f l g=J E->al E n=J a->∃j,Inv O p/\dT e.next z j/\b9 X.G p j e m k vs/\0<=n/\n<l/\bP (ed X.G j vs) (f.kM a) ((q.drop (n.toNat*f.i.size)).take f.i.size):=by
    intro g p E a A w C;obtain⟨I,Q,g2⟩:=o3 C;obtain⟨j,M,H,F,kb⟩:=K1 aN A aV;obtain⟨kN,s⟩:=acU w kb _ a g2;rw[f.cN];exact⟨j,M,H,F,I,by omega,f.rc _ _ _ _ s⟩
   split at h
   ·rename_i Y;split at h
    ·rename_i g p A;split at h
     ·rename_i E w;obtain⟨a,C,h⟩:=bind_some h;obtain⟨j,M,H,F,I,Q,s⟩:=L A w C;have bb:(q.toArray.extract (n.toNat*f.i.size) (n.toNat*f.i.size+f.i.size))=((q.drop (n.toNat*f.i.size)).take f.i.size).toArray:=by
       grind
      refine cH.pure (.J6 t x y B d f.i l kk n q.toArray S R V Y f.az U N I Q) ⟨j,vs,.agg B (f.kM a),p,M,H,λ_ _ h=>h,F,?_,h⟩;rw[bb];exact⟨_,rfl,s⟩
     grind
    grind
   ·rename_i Y;split at h
    ·rename_i g p A;split at h
     ·rename_i E w;obtain⟨a,C,h⟩:=bind_some h;obtain⟨j,M,H,F,I,Q,s⟩:=L A w C;split at h
      ·rename_i c s9;rw[s9] at s;generalize jU:(q.drop (n.toNat*f.i.size)).take f.i.size=T at s
       match T,s with
       |[v],⟨Z,_⟩=>
        have qa:q.toArray[n.toNat*f.i.size]?=J v:=by
         have:((q.drop (n.toNat*f.i.size)).take f.i.size)[0]?=J v:=by grind
         grind
        exact cH.pure (.J5 t x y B d f.i l kk n q.toArray v S R V (by grind) f.az U N I Q qa) ⟨j,vs,.c c,p,M,H,λ_ _ h=>h,F,Z,h⟩
      grind
     grind
    grind
  grind
 grind
def aqC{n:Nat}{a:bc D}(p:o.op=.field t x n)(q:b9 X.G O z e m k vs)(I:rel X.G z vs a (bk fr x))(h:W9 (P:=P) t n a O K=J r):cH P (bk fr) o m λ_ v M=>dH X O z e k vs K r v M:=by
 unfold W9 at h;split at h
 ·rename_i U C A l;obtain⟨g,s,j⟩:=I;split at h
  ·rename_i f y;obtain⟨b,h⟩:=gz h;have b:=pk b;have H:=j.length;unfold o7 at h;split at h
   ·grind
   ·rename_i d B;split at h
    ·rename_i Q;split at h
     ·grind
     ·rename_i i R;split at h
      ·rename_i E;have N:bP (ed X.G z vs) ((C.drop f.offset).take i.size) ((g.drop f.offset).take i.size):=bP.take _ (bP.drop _ j);have T:((g.drop f.offset).take i.size).length=i.size:=by grind
       refine cH.pure (.field t x n A f d g.toArray (.agg ((g.drop f.offset).take i.size).toArray) p l y B s ?_) (dH.here (dR:=.agg f.type ((C.drop f.offset).take i.size)) q ⟨_,rfl,N⟩ h)
       grind
      grind
    ·rename_i Q;split at h
     ·rename_i c L;obtain⟨w,S,F⟩:=j.get f.offset c L;refine cH.pure (.field t x n A f d g.toArray w p l y B s ?_) (dH.here (dR:=.c c) q F h)
      grind
     grind
  grind
 grind
def arL{g:Nat}{b:bc D}(j:o.op=.indexAddr t (.global g) y)(p:b9 X.G O z e m k vs)(a:rel X.G z vs b (bk fr y))(h:XP (P:=P) t g b O K=J r):cH P (bk fr) o m λ_ v E=>dH X O z e k vs K r v E:=by
 unfold XP at h;split at h
 ·rename_i kk n l w f;have a:bk fr y=.int kk n:=a;split at h
  ·rename_i i q;split at h
   ·rename_i d;obtain⟨s,x,h⟩:=bind_some h;obtain⟨A,B,C⟩:=o3 x;exact cH.pure (.JC t _ y w i l g kk n j f q d.2 rfl a A (by rw[d.1];exact B) (by omega)) (dH.here (dR:=.wb g s) p ⟨n.toNat,C,rfl⟩ h)
   grind
  grind
 grind
def acF{a:bc D}(aM:o.op=.load t x)(C:b9 X.G O z e m k vs)(Q:rel X.G z vs a (bk fr x))(h:Lo X t a O K=J r):cH P (bk fr) o m λ_ v m'=>dH X O z e k vs K r v m':=by
 have d:∀{b A:Nat}{E:List (cv D)}{H:List af}{rI n:Nat},bk fr x=.pointer (J ⟨b,A,ae⟩)->(∀(j:Nat)(w:af),H[j]?=J w->m.load b (rI+j)=J w)->A=rI+n->bP (ed X.G z vs) E H->o7 (P:=P) t E n (λv=>K v O)=J r->cH P (bk fr) o m λ_ v m'=>dH X O z e k vs K r v m':=by
  intro b A E H rI n f q rV B h;obtain⟨dR,v,h1,ai,aT⟩:=ary aM f q rV B h
  grind[cH.read,dH.here]
 unfold Lo at h;split at h
 ·obtain⟨b,iw,H,f,q,B⟩:=Q;exact d f (C.aS.tm q) rfl B h
 ·rename_i g s;obtain⟨n,bB,f⟩:=Q;split at h
  ·rename_i p M aJ;split at h
   ·rename_i S;exact cH.read (.wc t x g n s aM f bB aJ (S▸p.2)) (dH.here (dR:=.c (.str s)) C rfl h)
   grind
  grind
 ·rename_i i A;obtain⟨b,L,f⟩:=Q;split at h
  ·rename_i u E bZ Y I;have y:=C.obj i _ _ I L;cases bZ with
   |true=>obtain⟨V,H,F,q,B⟩:=y;cases F;exact d f (C.aS.tm q) (lH _).symm B h
   |false=>obtain⟨V,H,F,U,_,B⟩:=y;cases F;exact d f U.tm (lH _).symm B h
  ·rename_i u E Y I;obtain⟨V,H,F,U,B⟩:=C.obj i _ _ I L;cases F;exact d f U.tm (lH _).symm B h
  grind
 ·rename_i i bX dx A;split at h
  ·grind[aqE]
  obtain⟨b,f0,l,c,L,f⟩:=Q;split at h
  ·rename_i Z xs bZ Y R I iE;split at h
   ·rename_i eB;subst eB;obtain⟨a,M,h⟩:=bind_some h;have y:=C.obj i _ _ I L;cases bZ with
    |true=>
     have y:fA (X.G.T Z) z xs _:=y;obtain⟨g0,g1,g2⟩:=o3 M;rcases y with⟨F,_⟩|⟨V,o',c3,F,_,_,br⟩
     ·grind
     ·cases F;obtain⟨E,N,q⟩:=br _ a g2;exact d f (C.aS.tm q) rfl (R.rc _ _ _ _ N) h
    |false=>have y:dU (X.G.T Z) z e m k xs _:=y;obtain⟨E,N,_,q⟩:=y.elem rfl M;exact d f q rfl (R.rc _ _ _ _ N) h
   grind
  ·rename_i Z u n xs Y R I iE;split at h
   ·rename_i eB;subst eB;obtain⟨a,M,h⟩:=bind_some h;obtain⟨_,y⟩:=C.obj i _ _ I L;obtain⟨E,N,_,q⟩:=y.elem rfl M;exact d f q rfl (R.rc _ _ _ _ N) h
   grind
  grind
 grind
end
end
section
section
variable {P:bI}{D:Nat->Type}{X:e3 P D}{ap:Type}{z z':Nat->bW}{e m m':Mem}{k:Option Nat}{vs:List af}{fr:Nat->af}{E:List (Nat×bc D)}{O:List (ba D)}{o:Oper}{r:ap}
variable {x y:bS}{t u:bV}{K:bc D->List (ba D)->Option ap}
theorem bP.set{d f:Type}{R:d->f->Prop}:∀{l:List d}{k:List f}(i:Nat){a:d}{b:f},bP R l k->R a b->bP R (l.set i a) (k.set i b)
 |[],[],i,a,b,_,_=>by grind
 |x::l,y::k,0,a,b,⟨_,e⟩,g=>⟨g,e⟩
 |x::l,y::k,i+1,a,b,⟨j,e⟩,g=>⟨j,bP.set i e g⟩
 |[],_::_,_,_,_,h,_=>h.elim
 |_::_,[],_,_,_,h,_=>h.elim
def zn:∀{new:List (cv D)}{f:List af}{b:List (cv D)}{e:List af}(a:Nat),bP (ed X.G z vs) b e->bP (ed X.G z vs) new f->bP (ed X.G z vs) (xy b a new) (eY e a f)
 |[],[],b,e,a,h,_=>h
 |c::new,d::f,b,e,a,h,⟨i,g⟩=>zn (a+1) (h.set a i) g
 |[],_::_,_,_,_,_,h=>h.elim
 |_::_,[],_,_,_,_,h=>h.elim
def Cg{a b:Nat}(h:a<=b):iJ a b=aa:=by simp_all
def pA{ob:ba D}{a:bc D}{v w:af}(f:b9 X.G O z e m k vs)(g:dL z e m' k)(s:gl m m' ae)(j:∀p,(∀b,p=J b->b<m.next)->e6 p (dQ v))(l:K a (O++[ob])=J r)(i:hf X.G z e m' k (vs++[v]) ob v)(d:rel X.G z (vs++[v]) a w):dH X O z e k vs K r w m':=
 ⟨z,vs++[v],a,O++[ob],Inv.push O ob,dT.refl z,j0,f.push s g (λ_ _ _ _ _ _=>e6.qg) i λp h _=>j p h,d,l⟩
def BW{i:Nat}{ob a:ba D}{v:af}(f:b9 X.G O z e m k vs)(p:K .undef (O.set i a)=J r)(n:O[i]?=J ob)(b:vs[i]?=J v)(g:ob.live=aa)(d:a.nd=aa)(s:gl m m' (dQ v))(j:dL z e m' k)(l:hf X.G z e m' k vs a v):dH X O z e k vs K r undef m':=
 ⟨z,vs,.undef,_,Inv.set O i (.inr d),dT.refl z,λ_ _ h=>h,f.pF n b g s j l,rfl,p⟩
def Cb(a:b9 X.G O z e m k vs)(v:af):(vs++[v])[O.length]?=J v:=by
 rw[<-a.len];simp
def oi{v:af}{l:Nat}(d:b9 X.G O z e m k vs)(b:∃a c,v=.slice a l c):rel X.G z (vs++[v]) (.c (.own O.length)) v:=by
 obtain⟨a,c,rfl⟩:=b;exact⟨Cb d _,rfl,rfl⟩
def acr{i j bX t1:Nat}(eG:vO P X.G bX t1){up:Option (List (D t1)->D bX)}{eh:List (List (D t1))}{hole:Option (Int×Nat)}{dX ix:Bool}{xs:List (D t1)}{dx:Int}(aM:o.op=.store bX x y)(aN:b9 X.G O z e m k vs)(hO:O[i]?=J (.nest bX t1 up eh hole dX))(bn:O[j]?=J (.bh t1 xs ak ix))(bl:rel X.G z vs (.el i bX dx 0) (bk fr x))(aw:rel X.G z vs (.c (.own j)) (bk fr y))(cp:∀p,hole=J p->p.1=dx)
  (h:(ab (al eh dx) λ_=>K .undef ((O.set i (.nest bX t1 up (eh.set dx.toNat xs) ae aa)).set j .dead))=J r):cH P (bk fr) o m λ_ v m'=>dH X O z e k vs K r v m':=by
 obtain⟨a,bs,h⟩:=bind_some h;obtain⟨b,f0,l,c,aD,an⟩:=bl;obtain⟨hu,fb,kK⟩:=aw;obtain⟨hb,ws,cG⟩:=aN.obj i _ _ hO aD;obtain⟨g0,g1,g2⟩:=o3 bs;have cF:dx.toNat<ws.length:=by rw[cG.len];grind
 have hw:=mm cF;have wm:al ws dx=J ws[dx.toNat]:=by
  grind[al]
 obtain⟨cs,e0,_,ay⟩:=cG.bT.elem rfl wm;have tc:dU (X.G.T t1) z e m k xs (bk fr y):=aN.obj j _ _ bn hu;generalize tj:bk fr y=u at*;have gT:i≠j:=λcp=>by grind
 have rY:∀r,pr (J ⟨b,f0,ae⟩) l c≠.map r:=λr cp=>by grind
 have Bg:dQ u=da u:=hi (by obtain⟨a,c,rfl⟩:=tc.bT.len;grind);have fP:=aN.fD j i _ _ u _ (λcp=>gT cp.symm) bn hO rfl rfl hu aD;rw[Bg] at fP;rw[eG.cN] at an;have yN:u.cells.toList=[u]:=by grind
 refine J8 (T:=rD bX) (f:=0) (n:=dx.toNat) aM eG.az an rfl tj fb yN (by rw[eG.h1];rfl) cG.bT rfl hw e0 ay (a':=u) ⟨rfl,fb,kK⟩ (by rw[e0.1];rfl) (by rw[e0.1];rfl) aN.aS λm' fc tt gI=>?_;have VB:dU (X.G.T t1) z e m' k xs u:=tc.same gI fP;obtain⟨z',fv,fQ,kb,nb⟩:=W6 cG fc tt rfl cF (λp bb=>by grind) VB fP;have Bc:=aN.kill j;have UP:(O.set j .dead)[i]?=J (.nest bX t1 up eh hole dX):=by grind
 have Bd:=Bc.Hr (o':=.nest bX t1 up (eh.set dx.toNat xs) ae aa) (p:=da u) UP aD rfl rY fv.le gI fQ (λa q pH bl bm aR hw=>?_) (λb aw=>(tc.bT.lt b aw).2) (λb _ bb _=>?_) ⟨hb,_,kb⟩
 ·have aoQ:(O.set i (.nest bX t1 up (eh.set dx.toNat xs) ae aa)).set j .dead=(O.set j .dead).set i (.nest bX t1 up (eh.set dx.toNat xs) ae aa):=List.set_comm _ _ gT;exact⟨z',vs,.undef,_,(Inv.set O i (.inr rfl)).trans (Inv.set _ j (.inl rfl)),fv,λ_ _ h=>h,by grind,rfl,h⟩
 ·rw[ll] at bm;split at bm
  ·split at bm
   ·cases bm;cases aR
   grind
  ·rename_i Vc;have:=aN.fD a j q _ pH u (λcp=>Vc cp.symm) bm bn aR rfl hw hu
   grind
 grind
def acs{i bX t1:Nat}(eG:vO P X.G bX t1){up:Option (List (D t1)->D bX)}{eh:List (List (D t1))}{hole:Option (Int×Nat)}{dX:Bool}{dx:Int}(aM:o.op=.store bX x y)(aN:b9 X.G O z e m k vs)(hO:O[i]?=J (.nest bX t1 up eh hole dX))(bl:rel X.G z vs (.el i bX dx 0) (bk fr x))(aw:rel X.G z vs (.c .gE) (bk fr y))(cp:∀p,hole=J p->p.1=dx)
  (h:(ab (al eh dx) λ_=>K .undef (O.set i (.nest bX t1 up (eh.set dx.toNat []) ae aa)))=J r):cH P (bk fr) o m λ_ v m'=>dH X O z e k vs K r v m':=by
 obtain⟨a,bs,h⟩:=bind_some h;obtain⟨b,f0,l,c,aD,an⟩:=bl;obtain⟨hb,ws,cG⟩:=aN.obj i _ _ hO aD;obtain⟨g0,g1,g2⟩:=o3 bs;have cF:dx.toNat<ws.length:=by rw[cG.len];grind
 have hw:=mm cF;have wm:al ws dx=J ws[dx.toNat]:=by
  grind[al]
 obtain⟨cs,e0,_,ay⟩:=cG.bT.elem rfl wm;have aw:bk fr y=.slice ae 0 0:=aw;have tc:dU (X.G.T t1) z e m k ([]:List (D t1)) (.slice ae 0 0):=⟨.inl ⟨rfl,rfl⟩,λb aw=>by cases aw⟩
 have rY:∀r,pr (J ⟨b,f0,ae⟩) l c≠.map r:=λr cp=>by grind
 have fP:e6 (da (.slice ae 0 0)) (da (pr (J ⟨b,f0,ae⟩) l c)):=λb aw=>by cases aw
 rw[eG.cN] at an;refine J8 (T:=rD bX) (f:=0) (n:=dx.toNat) aM eG.az an rfl aw rfl (a':=.slice ae 0 0) rfl (by rw[eG.h1];rfl) cG.bT rfl hw e0 ay ⟨rfl,rfl,rfl⟩ (by rw[e0.1];rfl) (by rw[e0.1];rfl) aN.aS λm' fc tt gI=>?_;have VB:dU (X.G.T t1) z e m' k ([]:List (D t1)) (.slice ae 0 0):=⟨.inl ⟨rfl,rfl⟩,λb aw=>by cases aw⟩
 obtain⟨z',fv,fQ,kb,nb⟩:=W6 cG fc tt rfl cF (λp bb=>by grind) VB fP;have Bd:=aN.Hr (o':=.nest bX t1 up (eh.set dx.toNat []) ae aa) (p:=ae) hO aD rfl rY fv.le gI fQ (λa q pH bl bm aR hw=>λb aw e5=>by grind) (λb aw=>by grind) (λb _ bb _=>?_) ⟨hb,_,kb⟩
 ·exact⟨z',vs,.undef,_,Inv.set O i (.inr rfl),fv,λ_ _ h=>h,Bd,rfl,h⟩
 ·rcases nb b with ay|ay
  ·grind
  ·cases ay
theorem aqe{i C:Nat}{F:Int}{g:Nat}{b:bc D}(l:o.op=.store t x y)(n:b9 X.G O z e m k vs)(w:rel X.G z vs (.el i C F g) (bk fr x))(s:rel X.G z vs b (bk fr y))(h:Wx X t i C F g b O K=J r):cH P (bk fr) o m λ_ v Q=>dH X O z e k vs K r v Q:=by
 unfold Wx at h;split at h
 ·rename_i j;split at h
  ·rename_i L S T N f I V Y U d E;split at h
   ·rename_i a R;split at h
    ·rename_i M;subst M;split at h
     ·rename_i B;obtain⟨rfl,rfl,rfl⟩:=B;split at h
      ·exact acr a l n d E w s (λp A=>by grind) h
      ·split at h
       ·rename_i p A;exact acr a l n d E w s (λq H=>by grind) h
       grind
     grind
    grind
   grind
  grind
 ·split at h
  ·rename_i L S T N f I d;split at h
   ·rename_i a R;split at h
    ·rename_i B;obtain⟨rfl,rfl,rfl⟩:=B;split at h
     ·exact acs a l n d w s (λp A=>by grind) h
     ·split at h
      ·rename_i p A;exact acs a l n d w s (λq H=>by grind) h
      grind
    grind
   grind
  grind
 grind
def aqG{a b:bc D}(U:o.op=.store t x y)(s:b9 X.G O z e m k vs)(bl:rel X.G z vs a (bk fr x))(aw:rel X.G z vs b (bk fr y))(h:Xd X t a b O K=J r):cH P (bk fr) o m λ_ v Q=>dH X O z e k vs K r v Q:=by
 unfold Xd at h;split at h
 ·grind
 ·rename_i i V;split at h
  ·rename_i j p;split at h
   ·grind
   ·rename_i new bB;obtain⟨M,g⟩:=KA bB aw;split at h
    ·rename_i cN;have R:(bk fr y).cells.toList.length=i.size:=by rw[<-g.length];grind
     obtain⟨js,q,E⟩:=bl;split at h
     ·rename_i u H dX f;split at h
      ·rename_i B;obtain⟨jR,ds,N,n2,hU,d⟩:=s.obj j _ _ f q;cases N;refine abd U V E rfl M rfl R n2 (Cg (by rw[<-d.length,<-g.length];grind)) _ rfl s.aS λQ w Z A=>?_;exact BW s h f q rfl rfl A w ⟨js,_,rfl,Z,hU,zn p d g⟩
      grind
     ·rename_i u H dX f;split at h
      ·rename_i B;obtain⟨jR,ds,N,n2,d⟩:=s.obj j _ _ f q;cases N;refine abd U V E rfl M rfl R n2 (Cg (by rw[<-d.length,<-g.length];grind)) _ rfl s.aS λQ w Z A=>?_;exact BW s h f q rfl rfl A w ⟨js,_,rfl,Z,zn p d g⟩
      grind
     grind
    grind
  ·rename_i j bX dx p;split at h
   ·grind[aqe]
   split at h
   ·grind
   ·rename_i new cu bB;obtain⟨I,kL,qc,C,M,g⟩:=adM s bB aw;obtain⟨js,f0,l,c,q,E⟩:=bl;split at h
    ·rename_i cN;have R:(bk fr y).cells.toList.length=i.size:=by rw[<-g.length];grind
     split at h
     ·rename_i Y xs dX S f iE;split at h
      ·rename_i eB;subst eB;obtain⟨a,bs,h⟩:=bind_some h;split at h
       ·rename_i B;obtain⟨a',bb,h⟩:=bind_some h;have F:dU (X.G.T Y) I e m k xs _:=C.obj j _ _ f q;obtain⟨H,L,uU,ay⟩:=F.elem rfl bs;have d:=S.rc I vs a H L;refine J8 (T:=X.G.T Y) U V E rfl rfl M rfl R F rfl uU L ay (S.r6 I vs _ a' _ bb (zn p d g)) rfl (Cg (by rw[<-d.length,<-g.length];grind)) C.aS λQ w tt A=>?_;exact dH.from kL qc (BW C h f q rfl rfl A w tt)
       grind
      grind
     ·rename_i Y u n xs dX S f iE;split at h
      ·rename_i eB;subst eB;obtain⟨a,bs,h⟩:=bind_some h;split at h
       ·rename_i B;obtain⟨a',bb,h⟩:=bind_some h;obtain⟨⟨jR,N⟩,F⟩:=C.obj j _ _ f q;obtain⟨H,L,uU,ay⟩:=F.elem rfl bs;have d:=S.rc I vs a H L;refine J8 (T:=(X.G.T Y).as u) U V E rfl rfl M rfl R F rfl uU L ay (S.r6 I vs _ a' _ bb (zn p d g)) rfl (Cg (by rw[<-d.length,<-g.length];grind)) C.aS λQ w tt A=>?_;exact dH.from kL qc (BW C h f q rfl rfl A w ⟨⟨jR,N⟩,tt⟩)
       grind
      grind
     grind
    grind
  grind
def aqy(p:o.op=.alloc t)(f:b9 X.G O z e m k vs)
  (h:(match X.A t with
  |some a=>K (.arr O.length) (O++[.arr a.e t a.n (gb a.n a.ti.x0) ak])
  |none=>match X.I t with|some d=>K (.box O.length 0) (O++[.box t d.rk ak ak])|none=>ae)=J r):cH P (bk fr) o m λ_ v l=>dH X O z e k vs K r v l:=by
 split at h
 ·rename_i a w;refine as3 (T:=X.G.T a.e) (x0:=a.ti.x0) p a.az a.bx a.dw a.et a.qX (a.ti.GX z) a.bB f.aS λb l i s j g=>?_;exact pA (v:=.slice (J ⟨b,0,ae⟩) a.n a.n) f i j g h ⟨⟨b,rfl⟩,s⟩ ⟨b,a.n,Cb f _,rfl⟩
 ·split at h
  ·rename_i d x;refine as4 p d.az d.bx d.dw d.et _ rfl f.aS λb l q i bL j g=>?_;exact pA (v:=.pointer (J ⟨b,0,ae⟩)) f i j g h ⟨b,_,rfl,bL,q,d.qX _ _⟩ ⟨b,Cb f _,rfl⟩
  grind
def arH{i:TypeInfo}{d:List (cv D)}(j:o.op=.box t x)(a:b9 X.G O z e m k vs)(q:rel X.G z vs (dp E x) (bk fr x))(n:P.info? t=J i)(l:xg (dp E x)=J d)(B:d.length=i.size)
  (h:K (.box O.length 0) (O++[.box t d ak ak])=J r):cH P (bk fr) o m λ_ v g=>dH X O z e k vs K r v g:=by
 obtain⟨w,f⟩:=KA l q;refine ave j n rfl w _ rfl (by rw[<-f.length];grind) a.aS λb g p y bL A s=>?_;exact pA (v:=.pointer (J ⟨b,0,ae⟩)) a y A s h ⟨b,_,rfl,bL,p,pb.mono f (fl.refl z) j0⟩ ⟨b,Cb a _,rfl⟩
def ads{kk:aG}{n:Int}(h:CH x y=aa)(e:bk fr x=.int kk n):∃d,bk fr y=.int d n:=by
 unfold CH at h;split at h
 ·simp_all
 ·rename_i f a d b;have g:mu f a=.int kk n:=e;cases g;have:n=b:=by grind
  subst this;exact⟨d,rfl⟩
 grind
def aqF{q:Nat}{kk:aG}{n:Int}(C:o.op=.makeSlice t x y)(B:P.underlying t=J (.slice q))(d:b9 X.G O z e m k vs)(s:bk fr x=.int kk n)(h:Xc X q x y n O K=J r):cH P (bk fr) o m λ_ v A=>dH X O z e k vs K r v A:=by
 unfold Xc at h;split at h
 ·rename_i t1 hu;split at h
  ·rename_i b oM M;obtain⟨S,L,h⟩:=bind_some h;obtain⟨R,E⟩:=ads M s;obtain⟨U,tp,rfl⟩:=B3 L;have g:hy (pr ae 0 0) n=J (gb n.toNat (pr ae 0 0)):=by
    grind[hy]
   refine ae7 (T:=rD q) (x0:=pr ae 0 0) C B b.az b.bx rfl (by rw[b.h1];rfl) (by rw[b.h1];rfl) b.hp ⟨rfl,rfl,rfl⟩ s E d.aS g λl A H i I V=>?_;have N:dQ l=da l:=hi (by obtain⟨a,c,rfl⟩:=i.bT.len;grind);refine pA (v:=l) d H I (by grind) h ⟨λf F=>by cases F;exact⟨b.cN,b.tid,b.aV⟩,_,i,by simp,λj w xs Y Z _=>.inl ?_,λp Q=>by grind⟩ (oi d i.bT.len)
   grind
  grind
 grind
def arm{d:Nat}{b:dP P X.G d}{kk:aG}{n:Int}(q:o.op=.makeSlice t x y)(C:P.underlying t=J (.slice d))(f:b9 X.G O z e m k vs)(l:bk fr x=.int kk n)(B:CH x y=aa)
  (h:(ab (hy b.x0 n) λr=>K (.c (.own O.length)) (O++[.bh d r ak ak]))=J r):cH P (bk fr) o m λ_ v p=>dH X O z e k vs K r v p:=by
 obtain⟨I,A,h⟩:=bind_some h;have g:=ads B l;obtain⟨F,g⟩:=g;refine ae7 (T:=X.G.T d) q (by rw[b.tid];grind) (by rw[b.tid];exact b.az) b.bx b.dw b.et b.cN b.hp (b.GX z) l g f.aS A λj p s i w H=>?_;have E:dQ j=da j:=hi (by obtain⟨a,c,rfl⟩:=i.bT.len;grind);exact pA (v:=j) f s w (by grind) h i (oi f i.bT.len)
def ac6{d:Nat}{w:dP P X.G d}:∀{i:List (Nat×bS)}{n:Nat}{O:List (ba D)}{z:Nat->bW}{K:List (D d)->List (ba D)->Option ap},b9 X.G O z e m k vs->(∀x,rel X.G z vs (dp E x) (bk fr x))->CK X w E n i O K=J r->
  ∃q l b p,Inv O l/\dT e.next z q/\b9 X.G l q e m k vs/\wZ (X.G.T d) q (bk fr) i n b p/\K b l=J r
 |[],n,O,z,K,f,g,h=>⟨z,O,[],[],Inv.refl O,dT.refl z,f,trivial,h⟩
 |(j,x)::i,n,O,z,K,f,g,h=>by
  unfold CK at h;split at h
  ·rename_i C;split at h
   ·rename_i U V A;obtain⟨a,B,h⟩:=bind_some h;obtain⟨Y,R,t,Q,H,y⟩:=adM f A (g x);obtain⟨S,F,b,p,I,s,L,M,N⟩:=ac6 Q (λx=>(g x).mono t.le λ_ _ h=>h) h;exact⟨S,F,a::b,(bk fr x).cells.toList::p,R.trans I,t.trans s,L,⟨C,H,rfl,(X.G.T d).mono _ _ s.le _ _ (w.r6 _ _ _ _ _ B y),M⟩,N⟩
   grind
  grind
def aqB{d l:Nat}{b:dP P X.G d}{p:Array (Nat×bS)}(w:o.op=.buildSlice t l p)(Q:P.underlying t=J (.slice d))(y:b9 X.G O z e m k vs)(B:∀x,rel X.G z vs (dp E x) (bk fr x))
  (h:(CK X b E 0 p.toList O λf O=>if f.length=l/\iJ (l*(X.G.T d).bM) 16777216=aa then K (.c (.own O.length)) (O++[.bh d f ak ak]) else ae)=J r):cH P (bk fr) o m λ_ v s=>dH X O z e k vs K r v s:=by
 obtain⟨V,U,f,N,F,H,n,I,q⟩:=ac6 y B h;split at q
 ·rename_i g;have M:0<(X.G.T d).bM:=Nat.pos_of_ne_zero λS=>by have:=b.hh;grind
  have Z:=pk g.2;have A:l<=l*(X.G.T d).bM:=Nat.le_mul_of_pos_right _ M;refine Xn (T:=X.G.T d) w (by rw[b.tid];grind) (by rw[b.tid];exact b.az) b.bx b.dw b.et b.cN f N g.1 g.2 (Cg (show l+1<=9223372036854775808 by omega)) I n.aS λj s C i L Y=>?_;have R:dQ j=da j:=hi (by obtain⟨a,c,rfl⟩:=i.bT.len;grind);exact dH.from F H (pA (v:=j) n C L (by grind) q i (oi n i.bT.len))
 grind
def WV{q:List (Option (Nat×Nat))}(m:∀x,rel X.G z vs (dp E x) (bk fr x)):∀{j:List (Nat×bS)}{f a:List (cv D)}{b:List af},xi q E j f=J a->bP (ed X.G z vs) f b->
  ∃g,k5 (λk=>(q[k]?).join) b (j.map λp=>(p.1,bk fr p.2))=J g/\bP (ed X.G z vs) a g
 |[],f,a,b,h,e=>by cases h;exact⟨b,rfl,e⟩
 |(i,x)::j,f,a,b,h,e=>by
  unfold xi at h;split at h
  ·rename_i l d new t s;split at h
   ·rename_i r;obtain⟨y,n⟩:=KA s (m x);obtain⟨g,B,A⟩:=WV m h (zn l e n);refine⟨g,?_,A⟩;have w:(bk fr x).cells.size=d:=by
     have C:new.length=(bk fr x).cells.toList.length:=n.length
     grind
    simp only[rA,k5,t];rw[if_pos ⟨y,w,by rw[<-e.length];grind⟩]
    grind
   grind
  grind
def adg{n s:Nat}:∀{a:List (Nat×af)}{b d:List af},k5 (λk=>(((mN n).map λj=>J (j*s,s))[k]?).join) b a=J d->k5 (λj=>J (j*s,s)) b a=J d
 |[],_,_,h=>h
 |(i,v)::a,b,d,h=>by
  simp only[k5] at h⊢;by_cases f:i<n
  ·rw[sH,List.getElem?_range f] at h;simp only[Option.map_some,Option.join_some] at h;split at h
   ·rename_i e;rw[if_pos e];exact adg h
   grind
  grind
def aqA{a:dP P X.G t}{n b:Nat}{kk:TypeInfo}{d:Array (Nat×bS)}{f:List (cv D)}(p:o.op=.build t d)(l:P.underlying t=J (.array n b))(B:P.info? b=J kk)(q:b9 X.G O z e m k vs)(w:∀x,rel X.G z vs (dp E x) (bk fr x))
  (s:xi ((mN n).map λj=>J (j*kk.size,kk.size)) E d.toList a.rk=J f) (h:K (.agg t f) O=J r):cH P (bk fr) o m λ_ v C=>dH X O z e k vs K r v C:=by
 obtain⟨g,y,A⟩:=WV w s (a.qX z vs);exact cH.pure (.Jg t d n b a.i kk a.c0 g p l a.az a.bx a.dw B (adg y)) (dH.here (dR:=.agg t f) q ⟨g,rfl,A⟩ h)
def aqf{a:dP P X.G t}{b:Array Field}{f:Array (Nat×bS)}{d:List (cv D)}(j:o.op=.build t f)(i:P.underlying t=J (.struct b))(l:b9 X.G O z e m k vs)(q:∀x,rel X.G z vs (dp E x) (bk fr x))(p:(pC P b).all Y2=aa)
  (n:xi (pC P b) E f.toList a.rk=J d) (h:K (.agg t d) O=J r):cH P (bk fr) o m λ_ v y=>dH X O z e k vs K r v y:=by
 obtain⟨g,s,w⟩:=WV q n (a.qX z vs);exact as5 _ g j i a.az a.bx a.dw rfl p rfl s (dH.here (dR:=.agg t d) l ⟨g,rfl,w⟩ h)
end
end
end Go.aF