/- A part of the proof of YardOrders; no condition of our own. -/
import Derived.Test.YtekkhljfkiojiaaGreatDoorRows
import Derived.WalkKit
import Derived.ProofKit
import Derived.OpenShut
import Derived.ShutString
import Derived.ChangeOld
import Derived.Below
import Derived.Deep.DeepHandedRow
import Derived.Lib.LaidTab
import Derived.Stop.LaidErr
import Derived.Shelf.Vars
import Derived.Test.YtekkhljfkiojiaaGreatDoorMi
set_option linter.defProp false
set_option linter.unusedSimpArgs false
set_option linter.unusedVariables false
set_option linter.unusedSectionVars false
open And renaming intro->oE
open Bool renaming false->ak,true->aa
open Go renaming TypeId->bV,Value->af
open Go.DataW renaming trod->ua
open Go.OpenSpec renaming ofChange->Y1
open List renaming drop_eq_nil_of_le->aPk,eq_nil_of_length_eq_zero->yl,filter_cons->aI9,filter_eq_self->aES,getElem?_eq_getElem->mm,getElem?_map->sH,length->aN8,map_append->aIG,mem_append->kU,mem_cons->ha,mem_filter->aIv,mem_flatten->AD,mem_map->l2,nil_append->aLD,pairwise_append->aPD,pairwise_iff_getElem->af3,replicate->gb,sublist_flatten_of_mem->af4
open Option renaming some->kB,none->ae,some->J
namespace Go.W
set_option maxHeartbeats 2000000
open Go.aF
section
def aNa{l:List Int}(h:∀i t,0<=i->al l i=J t->t∉l.take i.toNat):l.Nodup:=by
 rw[List.nodup_iff_pairwise_ne,af3];intro a b f d g e;refine h b l[b] (by omega) (by unfold al;rw[if_pos (by omega),show(b:Int).toNat=b by omega];exact mm d) ?_;rw[<-e,show(b:Int).toNat=b by omega];rw[List.mem_take_iff_getElem];exact⟨a,by omega,rfl⟩
def aQq{l:List (List UInt8)}{d:List UInt8}{k:Int}(h:0<=az5 l d k):d∈l:=by
 induction l generalizing k with
 |nil=>simp[az5] at h
 |cons a l b=>
  unfold az5 at h;split at h
  ·rename_i e;simp[e]
  ·exact List.mem_cons_of_mem _ (b h)
def aR0{f:List b7}{k:Int}{o:b7}{d:List UInt8}(D:aPw f)(e:al f k=J o)(h:0<=az5 o.c7 d 0):az6 f d 0=(k,az5 o.c7 d 0):=by
 rcases aPO (os:=f) (d:=d) (k:=0) with⟨_,m⟩|⟨i,p,w,m,n,s,t⟩
 ·have:=m o (lP e);omega
 ·have q:i=k:=by
   have x:=ku m;have r:=ku e;have g {j:Int} {o:b7} (e:al f j=J o) (l:j.toNat<aN8 f):f[j.toNat]=o:=by have a:=ku e;unfold al at e;rw[if_pos a.1,mm l] at e;exact kB.inj e
   have D:=af3.mp D;by_cases a:i<k
   ·have:=D i.toNat k.toNat (by omega) (by omega) (by omega);rw[g m,g e] at this;exact absurd (aQq h) (this d (aQq s))
   ·by_cases b:k<i
    ·have:=t k o b e;omega
    ·omega
  subst q;rw[m] at e;cases e;ext<;>simp[w,n]
def aRQ{q:List Int}{f:Int->Int}(P:q.Pairwise λu v=>f u<=f v){v:Int}(e:al q (aN8 q-1)=J v){u:Int}(m:u∈q):f u<=f v:=by
 obtain⟨i,g⟩:=uL m;have a:=ku g;have b:=ku e;have P:=af3.mp P;unfold al at e g;rw[if_pos b.1,mm (by omega)] at e;rw[if_pos a.1,mm (by omega)] at g;by_cases z:i=aN8 q-1
 ·subst z;rw[e] at g;cases g;omega
 ·have:=P i.toNat ((aN8 q:Int)-1).toNat (by omega) (by omega) (by omega);rw[kB.inj e,kB.inj g] at this;exact this
def aQp{a:List Int}(N:a.Nodup):a.Pairwise λu v=>aIK a u 0<aIK a v 0:=by
 rw[af3];intro i j b d l;have g {i:Nat} (h:i<aN8 a):al a i=J a[i]:=by unfold al;rw[if_pos (by omega),show(i:Int).toNat=i by omega];exact mm h
 rw[aM9 N (g b),aM9 N (g d)];omega
def aPK{y:bq}{u k:Int}{o:b7}{w:bC}(b:al y.bD u=J w)(a:al y.b2 k=J o)(t:(az6 y.b2 w.aOl 0).1=k):aOp y o u=(az6 y.b2 w.aOl 0).2:=by
 unfold aOp;rw[b];dsimp only;rcases aPO (os:=y.b2) (d:=w.aOl) (k:=0) with⟨f,e⟩|⟨i,p,f,e,g,_⟩
 ·rw[f] at t;have:=ku a;dsimp only at t;omega
 ·have:i=k:=by omega
  subst this;rw[a] at e;cases e;exact g.symm
def aIP(x:Step)(a:List Int)(j:b8)(z:Step):Prop:=
 z.y=bq.mk x.y.bD x.y.aH x.y.b2 aa (eR.mk a j z.y.bo.aOc x.e.cq z.y.bo.aH 0) ak/\z.y.bo.aH=x.e.aH.take z.y.bo.aOc.e9.aOm.toNat/\(aN8 z.y.bo.aH:Int)=z.y.bo.aOc.e9.aOm/\aPn j z.y.bo.aOc.e9
def aMg{x z y':Step}{d:List Int}{j:b8}{s:List (List Int)}{p:List Int}(B:aIP x d j z)(N:d.Nodup)(I:azO x.y j.aN' d)(l:aN8 j.aN'=aN8 d)(hw:∀i∈d,0<=i/\i<aN8 x.y.bD)(A:x.e.aH.Nodup/\(∀t∈x.e.aH,t≠x.e.cq/\∀o∈x.y.b2,o.cq≠t)/\∀o∈x.y.b2,o.cq≠x.e.cq)
  (g:al s x.e.cq=J p) (bb:∀w∈d,w∈p) (aM:p.Pairwise λu v=>u∈d->v∈d->aIK d u 0<aIK d v 0) (r5:s.flatten.Nodup)
  (Q:∀k o q,al x.y.b2 k=J o->al s o.cq=J q->(∀u∈q,0<=aOp x.y o u)/\q.Pairwise (λu v=>aOp x.y o u<=aOp x.y o v)/\∀u∈q,∀w∈d,aIw x.y w=k->aOp x.y o u<=aOp x.y o w):Yw x.c (bq.mk z.y.bD s z.y.b2 z.y.aOb z.y.bo z.y.cE)/\aPp (bq.mk z.y.bD s z.y.b2 z.y.aOb z.y.bo z.y.cE):=by
 obtain⟨js,jR,Jc,K⟩:=B;generalize aN6:z.y.bo.aOc=P at*;have M:z.y.bo=eR.mk d j P x.e.cq z.y.bo.aH 0:=by rw[js]
 have L:z.y.bD=x.y.bD:=by rw[js]
 have F:z.y.b2=x.y.b2:=by rw[js]
 have T:∀t∈z.y.bo.aH,t∈x.e.aH:=λt m=>by rw[jR] at m;exact List.mem_of_mem_take m
 have C:z.y.bo.bD=d:=by rw[M]
 have Z:z.y.bo.h9=0:=by rw[M]
 have BF:z.y.bo.aOs=x.e.cq:=by rw[M]
 have aRB:z.y.bo.aOc=P:=by rw[M]
 have O:∀w∈d,∃a i v c,al d a=J w/\aIK d w 0=a/\al j.aN' a=J i/\al x.y.bD w=J v/\i=aAE x.y.b2 v/\al P.e9.fW a=J c/\aIA z.y.bo w=c:=λw m=>by obtain⟨a,e⟩:=uL m;have hr:=ku e;obtain⟨i,R⟩:=hT (xs:=j.aN') (i:=a) hr.1 (by omega);have r:=hw w m;obtain⟨v,bk⟩:=hT (xs:=x.y.bD) r.1 r.2;obtain⟨c,E⟩:=hT (xs:=P.e9.fW) (i:=a) hr.1 (by have:=K.1;omega);have U:=aM9 N e (j:=0);refine⟨a,i,v,c,e,by omega,R,bk,I a i w v R e bk,E,?_⟩;unfold aIA;rw[C,aRB,U,show 0+a=a by omega,E];rfl
 have bT:∀t q,al s t=J q->(∃w∈q,w∈d)->t=x.e.cq:=λt q e ⟨w,m,k⟩=>aHm r5 e g m (bb w k);refine⟨⟨?_,⟨?_,?_,?_⟩,?_⟩,?_,?_,?_,?_,?_,?_⟩<;>try dsimp only
 ·rw[C];exact N
 ·rw[jR];exact A.1.sublist (List.take_sublist _ _)
 ·intro m;have:=(A.2.1 _ (T _ m)).1;exact this BF
 ·intro o m;rw[F] at m;refine⟨?_,λk=>(A.2.1 _ (T _ k)).2 o m rfl⟩;rw[BF];exact A.2.2 o m
 ·intro w m;rw[C] at m;refine⟨p,?_,bb w m⟩;unfold aIC;dsimp only;rw[if_pos Z,BF];exact g
 ·intro w m;dsimp only at m⊢;rw[C] at m;obtain⟨a,i,v,c,_,_,_,_,_,E,e⟩:=O w m;have:=K.2.1 c (lP E);rw[e];omega
 ·intro u S v u5 k o H V n aw;dsimp only at S u5 n⊢;rw[C] at S u5⊢;rw[F] at n;obtain⟨a,i,w,c,aM1,U,R,X,az,E,e⟩:=O u S;obtain⟨a',aO9,w',c3,aSm,aRO,aO8,Y,fm,aRE,cz⟩:=O v u5;rw[e,cz,U,aRO];unfold aIw at H V;dsimp only at H V;rw[L,F,X] at H;rw[L,F,Y] at V;dsimp only at H V;have aAC:aOp (bq.mk z.y.bD s z.y.b2 z.y.aOb z.y.bo z.y.cE) o=aOp x.y o:=by funext w;unfold aOp;dsimp only;rw[L]
  rw[aAC,aPK X n H,aPK Y n V] at aw;exact K.2.2.1 a a' i aO9 c c3 R aO8 E aRE (by rw[az,fm];exact H.trans V.symm) (by rw[az,fm];exact aw)
 ·intro t q e;rw[Z];have k:∀u v,aIK d u 0<aIK d v 0->aOT (bq.mk z.y.bD s z.y.b2 z.y.aOb z.y.bo z.y.cE) ((0:Int)-1).toNat u v:=λu v h=>by
   unfold aOT aOC;dsimp only;rw[C];right;exact⟨by rw[show((0:Int)-1).toNat=0 from rfl,Nat.pow_zero,Nat.mod_one,Nat.mod_one],h⟩
  dsimp only;rw[C];by_cases z:t=x.e.cq
  ·subst z;rw[g] at e;cases e;exact aM.imp λ{u v} h a b=>k u v (h a b)
  ·have D:q.Nodup:=r5.sublist (af4 (lP e));exact D.imp_of_mem λ{u v} hu aD _ a b=>absurd (bT t q e ⟨u,hu,a⟩) z
 ·intro k o q n eq;dsimp only at n eq⊢;rw[F] at n;have e:aOp (bq.mk z.y.bD s z.y.b2 z.y.aOb z.y.bo z.y.cE) o=aOp x.y o:=by funext w;unfold aOp;dsimp only;rw[L]
  have f:∀w,aIw (bq.mk z.y.bD s z.y.b2 z.y.aOb z.y.bo z.y.cE) w=aIw x.y w:=λw=>by unfold aIw;dsimp only;rw[L,F]
  have h:=Q k o q n eq;have jZ:∀u∈q,u∉d:=λu m k=>A.2.2 o (lP n) (bT _ q eq ⟨u,m,k⟩);rw[e,C];refine⟨h.1,h.2.1.imp_of_mem λ{u v} hu aD h=>⟨λk=>absurd k (jZ u hu),λ_=>h⟩,λu m _ w k t=>h.2.2 u m w k (by rw[<-f];exact t),λu m k=>absurd k (jZ u m)⟩
 ·have:=K.2.2.2.2.1;omega
 ·intro w m;rw[C] at m;obtain⟨a,i,v,c,_,_,_,_,_,E,e⟩:=O w m;have:=(aRh K.2.2.2 K.2.1 (lP E)).2;rw[e,show aN8 z.y.bo.aH=P.e9.aOm.toNat by omega];exact this
theorem aQ6{j:b8}{p:dF}(h:aPn j p):aN8 p.fW=aN8 j.aN'/\nT p.fW/\0<=p.aOm/\p.aOm<=13:=⟨h.1,h.2.1,h.2.2.2.1,h.2.2.2.2.1⟩
attribute [grind->] aQ6
def aPB(y:bq)(a:c4):Prop:=∀o q v w,al y.b2 a.dS=J o->al y.aH o.cq=J q->al q (aN8 q-1)=J v->al y.bD v=J w->(az6 y.b2 w.aOl 0).2<=a.pZ
variable {N:Nat}[gM N]
instance (priority:=high){d U e n b}:au (CI d U e n b) (aN9 d/\aOi d b e n) λr=>iX r (λ_=>∀o∈d.drop b.toNat,o.cq≠U)/\fh r λa=>0<=a:=by induction n generalizing b;exact bJ;exact⟨by rw[CI];exact aC⟩
instance (priority:=high){a U}:au (Qn N a U) (aN9 a) λr=>r<0->∀o∈a,o.cq≠U:=⟨by rw[Qn];exact aC⟩
instance (priority:=high){a U}:au (Qm N a U) (aN9 a) λr=>r=ak->∀o∈a,o.cq≠U:=⟨by rw[Qm];exact aC⟩
instance (priority:=high){a U}:au (R2 N a U) (aN9 a.y.b2) λr=>r=ak->∀o∈a.y.b2,o.cq≠U:=⟨by rw[R2];exact aC⟩
instance (priority:=high){a b d}:au (aAh N a b d) (aN9 a.y.b2/\0<=b/\b<=aN8 a.e.aH/\aN9 a.e.aH) λr=>r=ak->d≠a.e.cq/\(∀o∈a.y.b2,o.cq≠d)/\d∉a.e.aH.take b.toNat:=⟨by rw[aAh];exact aC⟩
instance (priority:=high){d b g n f}:au (Fg N d b g n f) (aN9 d.y.b2/\b=d.e.aH/\aN9 d.e.aH/\aN9 b/\aOi b f g n) λr=>iX r (λ_=>(∀t∈b.drop f.toNat,t≠d.e.cq/\(∀o∈d.y.b2,o.cq≠t))/\∀i t,f<=i->al b i=J t->t∉b.take i.toNat)/\fh r λa=>a≠0:=by induction n generalizing f;exact bJ;exact⟨by rw[Fg];exact aC⟩
instance (priority:=high){a}:au (SH N a) (aN9 a.y.b2/\aN9 a.e.aH) λr=>r=0->a.e.aH.Nodup/\(∀t∈a.e.aH,t≠a.e.cq/\(∀o∈a.y.b2,o.cq≠t))/\(∀o∈a.y.b2,o.cq≠a.e.cq):=⟨by rw[SH];(repeat' with_reducible first|intro _|apply dq|apply dh|refine dj (by omega) ?_|apply di|apply dk|apply df|apply eC|apply dr|apply dg)<;>first|grind -mbtc|(obtain⟨d,b⟩:=And.left ‹(_/\_)/\fh (Sum.inl _) _›;(try intro _);exact⟨aNa b,by simpa[Jn] using d,by grind -mbtc⟩)⟩
instance (priority:=high){d b e}:au (aKu N d b e) (jr d.c d.y/\aOa e b/\(∀i∈b,aOa i.dS d.y.b2)/\aN9 b) λr=>iX r (λ_=>∀f,al b e=J f->aPB d.y f)/\fh r λa=>a≠0:=⟨by rw[aKu];exact aOr @aPB.eq_1⟩
instance (priority:=high){f d g n b}:au (aJh N f d g n b) (jr f.c f.y/\(∀i∈d,0<=i.dS/\i.dS<aN8 f.y.b2)/\aN9 d/\g=aN8 d/\0<=b/\b<=g/\g-b<n) λr=>iX r (λ_=>∀h∈d.drop b.toNat,aPB f.y h)/\fh r λa=>a≠0:=by induction n generalizing b with|zero=>exact bJ|succ n j=>exact⟨by rw[aJh];(repeat' with_reducible first|intro _|apply dq|apply dh|refine dj (by omega) ?_|apply di|apply dk|apply df|apply eC|apply dr|apply dg)<;>first|grind -mbtc|(obtain⟨h,e⟩:=hT (xs:=d) (i:=b) (by omega) (by omega);grind -mbtc)⟩
instance (priority:=high){a U b}:au (x3 N a U b) (jr a.c a.y/\aN8 a.e.aH<=100/\aOa a.e.cq a.c.aH/\(∀t∈a.e.aH,aOa t a.c.aH)/\aN8 b.aN'=aN8 U/\aN8 U<=1000/\(∀i∈b.aN',aOa i.dS a.y.b2)/\(∀i∈U,nV a.y i)/\(∀i∈b.aN',i.round=0)) λr=>(r.1=0->r.2.c=a.c/\r.2.r.vv=a.r.vv/\r.2.y.bD=a.y.bD/\r.2.y.aH=a.y.aH/\r.2.y.b2=a.y.b2/\kC r.2.y/\r.2.y.bo.bD=U/\r.2.y.bo.aOs=a.e.cq/\(∀t∈r.2.y.bo.aH,t∈a.e.aH)/\nW r.2.y/\nq r.2.y.bo)/\(r.1=0->aIP a U b r.2):=⟨λd=>azU (au.ok (e:=x3 N a U b) (by grind -mbtc)) (by revert d;rw[x3];exact aOr @aIP.eq_1)⟩
instance (priority:=high){a U b d}:au (x1 N a U b d) (jr a.c a.y/\aN8 a.e.aH<=100/\aOa a.e.cq a.c.aH/\(∀t∈a.e.aH,aOa t a.c.aH)/\aN8 b.aN'=aN8 U/\aN8 U<=1000/\(∀i∈b.aN',aOa i.dS a.y.b2)/\(∀i∈U,nV a.y i)/\aN9 d/\(∀i∈b.aN',i.round=0)) λr=>(r.1=0->r.2.c=a.c/\r.2.e=a.e/\r.2.r.vv=a.r.vv/\r.2.y.bD=a.y.bD/\r.2.y.aH=a.y.aH/\r.2.y.b2=a.y.b2/\kC r.2.y/\r.2.y.bo.bD=U/\r.2.y.bo.aOs=a.e.cq/\(∀t∈r.2.y.bo.aH,t∈a.e.aH)/\nW r.2.y/\nq r.2.y.bo)/\(r.1=0->aIP a U b r.2):=⟨λf=>azU (au.ok (e:=x1 N a U b d) (by grind -mbtc)) (by revert f;rw[x1];exact aOr @aIP.eq_1)⟩
end
section
attribute [grind->] aER
def aNM{x z:Step}{C:List Int}{j:b8}(P:jr x.c x.y)(Y:aIt x.c x.y)(b:x.y.aOb=ak)(B:aIP x C j z)(I:azO x.y j.aN' C)(l:aN8 j.aN'=aN8 C)(A:x.e.aH.Nodup/\(∀t∈x.e.aH,t≠x.e.cq/\∀o∈x.y.b2,o.cq≠t)/\∀o∈x.y.b2,o.cq≠x.e.cq)(g:al x.y.aH x.e.cq=J C)(L:∀it∈j.aN',aPB x.y it):aIt x.c z.y:=by
 have V:=P.2.2.1;have e:z.y.aH=x.y.aH:=by rw[B.1]
 have D:=V.1.2.2.1.1;have N:C.Nodup:=D.sublist (af4 (lP g));have X:∀{t:Int}{q:List Int},al x.y.aH t=J q->∀i∈q,0<=i/\i<aN8 x.y.bD:=λh i m=>by have:=ZC V.1 h m;simpa[lens] using this
 refine⟨aLF Y.1 (by rw[B.1]),(by rw[show z.y.b2=x.y.b2 by rw[B.1]];exact Y.2.1),(λh=>by rw[B.1] at h;cases h),λ_ _=>?_⟩;refine aMg (y':=z) (s:=z.y.aH) (p:=C) B N I l (X g) A (by rw[e];exact g) (λw m=>m) ((aQp N).imp λh _ _=>h) (by rw[e];exact D) λk o q d S=>?_;rw[e] at S;have h:=Y.2.2.1 b o (lP d) q S;refine⟨h.1,h.2,λu m w E f=>?_⟩;obtain⟨a,F⟩:=uL E;have hr:=ku F;obtain⟨i,Q⟩:=hT (xs:=j.aN') (i:=a) hr.1 (by omega);have H:=X g w E;obtain⟨v,U⟩:=hT (xs:=x.y.bD) H.1 H.2;have ii:=I a i w v Q F U;have lW:(az6 x.y.b2 v.aOl 0).1=k:=by unfold aIw at f;rw[U] at f;exact f
 have BE:0<aN8 q:=List.length_pos_of_mem m;obtain⟨n,T⟩:=hT (xs:=q) (i:=aN8 q-1) (by omega) (by omega);have O:=X S n (lP T);obtain⟨r,M⟩:=hT (xs:=x.y.bD) O.1 O.2;have R:=L i (lP Q) o q n r (by rw[ii,show(aAE x.y.b2 v).dS=k from lW];exact d) S T M;have Z:=h.1 n (lP T);have K:aOp x.y o n=az5 o.c7 r.aOl 0:=by unfold aOp;rw[M]
 rw[K] at Z;rw[aR0 Y.2.1 d Z,ii] at R;have R:az5 o.c7 r.aOl 0<=(az6 x.y.b2 v.aOl 0).2:=R;have le:=aRQ h.2 T m;rw[aPK U d lW];rw[K] at le;exact Int.le_trans le R
variable {N:Nat}[gM N]
instance (priority:=high){a}:au (Sj N a) (jr a.c a.y/\iW a.e/\a.r.vv=[]/\aIt a.c a.y) λr=>(r.1=0->rr a r.2)/\(r.1=0->aIt a.c r.2.y):=⟨λd=>azU (au.ok (e:=Sj N a) (by grind -mbtc)) (by revert d;rw[Sj];(repeat' with_reducible first|intro _|apply dq|apply dh|refine dj (by omega) ?_|apply di|apply dk|apply df|apply eC|apply dr|apply dg)<;>first|grind -mbtc|grind -mbtc[azO]|(rename_i g b f z;have B:=f.2 z;exact aNM (by grind -mbtc) (by grind -mbtc) (by grind -mbtc) B (by grind -mbtc) (by grind -mbtc) (by grind -mbtc) (by grind -mbtc) (by grind -mbtc)))⟩
end
section
def aRi{n:Nat}{m:cn}{s u:List (List Int)}(h:aAq n m s u){t:Int}{p:List Int}(e:al s t=J p)(a:t≠m.aOt)(b:t≠m.to):al u t=J p:=by
 obtain⟨l,_,_,i,f,_,j,g⟩:=h;have k:al f t=J p/\aN8 f=aN8 s:=by
  by_cases z:m.aOt<0
  ·rw[j.1 z];exact⟨e,rfl⟩
  ·obtain⟨q,d⟩:=hT (xs:=s) (i:=m.aOt) (by omega) (by omega);rw[j.2 (by omega) q d,rM (by omega) (by omega),if_neg a];exact⟨e,by simp⟩
 by_cases z:m.to<0
 ·rw[g.1 z];exact k.1
 ·obtain⟨q,d⟩:=hT (xs:=f) (i:=m.to) (by omega) (by omega);rw[g.2 (by omega) q d,rM (by omega) (by omega),if_neg b];exact k.1
def aPY{T:List eE}{b:List Int}{q:List (List Int)}{t:Int}{p:List Int}:∀{l:List cn}{s:List (List Int)},aAe T b l s q->(∀m∈l,t≠m.aOt/\t≠m.to)->al s t=J p->al q t=J p
 |[],s,R,h,e=>(R:s=q)▸e
 |m::l,s,⟨u,F,a,R⟩,h,e=>aPY R (λd z=>h d (by simp[z])) (aRi F e (h m (by simp)).1 (h m (by simp)).2)
def aM5{d:Type}{a b:List d}{i:Int}{v:d}(e:al a i=J v):al (a++b) i=J v:=by
 have l:=ku e;unfold al at e⊢;rw[if_pos l.1] at e⊢;rw[List.getElem?_append_left (by omega)];exact e
def aRp{y:bq}{w m:Int}(a:0<=m)(H:nV y w):aIu y w m∈y.bo.aH\/∃o∈y.b2,aIu y w m=o.cq:=by
 unfold aIu;cases g:aIy (y.bo.aH.drop m.toNat) (aIA y.bo w) m with
 |some t=>obtain⟨b,_,e,_⟩:=aLv a g;exact .inl (lP e)
 |none=>obtain⟨o,e,h⟩:=aJa H;exact .inr ⟨o,lP e,h⟩
def aR5{y:bq}{w:Int}(a:0<=y.bo.h9)(H:nV y w):aIC y w=y.bo.aOs\/aIC y w∈y.bo.aH\/∃o∈y.b2,aIC y w=o.cq:=by
 unfold aIC;split
 ·exact .inl rfl
 ·exact .inr (aRp (by omega) H)
def aQf{y z:bq}{a:List b7}{s q:List (List Int)}(h:aOR y a s)(d:∀o∈a,∀r,al q o.cq=J r->al s o.cq=J r)(e:∀o∈a,∀r,al s o.cq=J r->∀u∈r,aOp z o u=aOp y o u):aOR z a q:=λo m r g=>by
 have g:=d o m r g;have:=h o m r g;refine⟨λu k=>by rw[e o m r g u k];exact this.1 u k,this.2.imp_of_mem λ{u v} f b i=>?_⟩;rw[e o m r g u f,e o m r g v b];exact i
def aMZ{c:c8}{y:bq}{b:List bC}{s:List (List Int)}{l:List cn}{t:Int}(P:jr c y)(Y:aIt c y)(M:az1 c.aH (lens (y.bD++b)) l y.aH s)(N:iY c.aH (lens (y.bD++b)) s)(aR:∀m∈l,m.to=t/\m.aOt= -1)(aM:∀o∈y.b2,o.cq≠t)(X:y.aOb=aa->y.cE=ak->t≠y.bo.aOs/\t∉y.bo.aH):aIt c (bq.mk (y.bD++b) s y.b2 y.aOb y.bo y.cE):=by
 have V:=P.2.2.1;have D:=N.1.2.2.1.1;have R:=(aEV M).2;have lt:aN8 s=aN8 y.aH:=N.1.1.trans V.1.1.symm;have rg:∀{t:Int}{q:List Int},al y.aH t=J q->∀i∈q,0<=i/\i<aN8 y.bD:=λh i m=>by have:=ZC V.1 h m;simpa[lens] using this
 have hg:∀d p,al y.aH d=J p->d≠t->al s d=J p:=λd p e n=>aPY R (λm k=>⟨by have:=ku e;rw[(aR m k).2];omega,by rw[(aR m k).1];exact n⟩) e;have K:∀d p,al s d=J p->d≠t->al y.aH d=J p:=λd p e n=>by have le:=ku e;obtain⟨q,Z⟩:=hT (xs:=y.aH) (i:=d) le.1 (by omega);have:=hg d q Z n;rw[e] at this;cases this;exact Z
 have F:∀(o:b7)(u:Int),0<=u->u<aN8 y.bD->aOp (bq.mk (y.bD++b) s y.b2 y.aOb y.bo y.cE) o u=aOp y o u:=λo u bR h1=>by obtain⟨v,e⟩:=hT (xs:=y.bD) bR h1;unfold aOp;dsimp only;rw[aM5 e,e]
 have T:∀o t q,al y.aH t=J q->∀u∈q,aOp (bq.mk (y.bD++b) s y.b2 y.aOb y.bo y.cE) o u=aOp y o u:=λo t q e u m=>F o u (rg e u m).1 (rg e u m).2;refine⟨aLF Y.1 rfl,Y.2.1,λoX=>aQf (Y.2.2.1 oX) (λo m r g=>K _ r g (aM o m)) λo m r g=>T o _ r g,λnZ C=>?_⟩;obtain⟨B,Q⟩:=Y.2.2.2 nZ C;have H:=(P.2.2.2.2.2.2.1 nZ C).2;have I:=(P.2.2.2.2.2.2.1 nZ C).1;have X:=X nZ C;have j:∀w∈y.bo.bD,aIw (bq.mk (y.bD++b) s y.b2 y.aOb y.bo y.cE) w=aIw y w:=λw m=>by obtain⟨v,e,_⟩:=H w m;unfold aIw;dsimp only;rw[aM5 e,e]
 have L:∀w∈y.bo.bD,0<=w/\w<aN8 y.bD:=λw m=>by obtain⟨v,e,_⟩:=H w m;exact ku e
 have aP7:∀w∈y.bo.bD,aIC (bq.mk (y.bD++b) s y.b2 y.aOb y.bo y.cE) w=aIC y w:=λw m=>by unfold aIC aIu aIB;dsimp only;rw[j w m]
 have U:∀w∈y.bo.bD,aIC y w≠t:=λw m z=>by
  rcases aR5 I.1 (H w m) with h|h|⟨o,k,h⟩
  ·exact X.1 (z.symm.trans h)
  ·exact X.2 (z▸h)
  ·exact aM o k (h.symm.trans z)
 have Jc:∀w∈y.bo.bD,∃q,al s (aIC y w)=J q/\w∈q:=λw m=>by obtain⟨p,e,k⟩:=B.2.2 w m;exact⟨p,hg _ p e (U w m),k⟩
 obtain⟨aQ',aRa,aRb,aRc,aRd,aRe⟩:=Q;refine⟨⟨B.1,B.2.1,λw m=>by rw[aP7 w m];exact Jc w m⟩,aQ',λu E v u5 k o S lW x aw=>?_,λd q e=>?_,λk o q x Z=>?_,aRd,aRe⟩
 ·rw[j u E] at S;rw[j v u5] at lW;rw[F o u (L u E).1 (L u E).2,F o v (L v u5).1 (L v u5).2] at aw;exact aRa u E v u5 k o S lW x aw
 ·by_cases z:d=t
  ·have r5:q.Nodup:=D.sublist (af4 (lP e));refine r5.imp_of_mem λ{u v} hu aD _ a _=>?_;obtain⟨p,cz,m⟩:=Jc u a;exact absurd ((aHm D cz e m hu).trans z) (U u a)
  ·exact aRb d q (K d q e z)
 ·have g:=K _ q Z (aM o (lP x));obtain⟨ec,a2,a3,a4⟩:=aRc k o q x g;have f:=T o _ q g;refine⟨λu m=>by rw[f u m];exact ec u m,a2.imp_of_mem λ{u v} hu aD h=>⟨h.1,λn=>by rw[f u hu,f v aD];exact h.2 n⟩,λu m aOv w A O=>?_,λu m k=>by rw[j u k];exact a4 u m k⟩;rw[j w A] at O;rw[f u m,F o w (L w A).1 (L w A).2];exact a3 u m aOv w A O
variable {N:Nat}[gM N]
instance (priority:=high){f e d n a b}:au (aCT f e d n a b) (0<=f/\d<=1000/\0<=e/\e<=1000/\aOf b d n/\aN8 a<=b) λr=>aN8 r<=1000/\lo r=lo a+(d-b)/\∀s∈r,s∈a\/(s.front=ak/\s.to=f/\s.aOt= -1):=by induction n generalizing a b;exact bJ;exact⟨by rw[aCT];exact aC⟩
instance (priority:=high){a d l}:au (Aa N a d l) (jr a.c (bq.mk d a.y.aH a.y.b2 a.y.aOb a.y.bo a.y.cE)/\aN9 a.e.data/\aIt a.c (bq.mk d a.y.aH a.y.b2 a.y.aOb a.y.bo a.y.cE)/\aN9 d/\aN9 l) λr=>(r.1=0->rr (Step.mk a.c (bq.mk d a.y.aH a.y.b2 a.y.aOb a.y.bo a.y.cE) a.e a.r) r.2)/\(r.1=0->aIt a.c r.2.y):=⟨λf=>azU (au.ok (e:=Aa N a d l) (by grind -mbtc)) (by revert f;rw[Aa];(repeat' with_reducible first|intro _|apply dq|apply dh|refine dj (by omega) ?_|apply di|apply dk|apply df|apply eC|apply dr|apply dg)<;>first|grind -mbtc|(rename_i f O S h1 P Z mX Q x w n R B H k F C T n5 X L M V j I U E h Y A i ef p g z;have g:=g z;subst h j;rw[g.2.2.1];exact aMZ (b:=F.1) (t:=a.e.cq) f.1 f.2.2.1 g.2.2.2.2.2.2 g.2.2.2.2.1 (λs m=>by rcases i.2.2 s m with q|q;exact absurd q (by simp);exact⟨q.2.1,q.2.2⟩) (H (by simpa using k)) (λK _=>(w (by simpa using n)).2 K)))⟩
end
section
def aPh(a b:Int)(s:cn):Prop:=GT s/\s.aOt=a/\s.to=b
theorem aQN{a b:Int}{s:cn}(h:aPh a b s):GT s/\s.aOt=a/\s.to=b:=h
attribute [grind->] aQN
def aQD{c:c8}{y:bq}{s:List (List Int)}{l:List cn}{t:Int}{r:List Int}(P:jr c y)(M:az1 c.aH (lens y.bD) l y.aH s)(n:aN8 s=aN8 y.aH)(b:∀m∈l,t≠m.aOt/\t≠m.to)(e:al s t=J r):al y.aH t=J r:=by
 have d:=ku e;obtain⟨q,a⟩:=hT (xs:=y.aH) (i:=t) d.1 (by omega);have:=aPY (aEV M).2 b a;rw[e] at this;cases this;exact a
def aRX{c:c8}{y:bq}{s:List (List Int)}{l:List cn}{a b:Int}(P:jr c y)(Y:aIt c y)(h:y.aOb=ak)(M:az1 c.aH (lens y.bD) l y.aH s)(d:iY c.aH (lens y.bD) s)(e:∀m∈l,m.aOt=a/\m.to=b)(j:∀o∈y.b2,o.cq≠a)(i:∀o∈y.b2,o.cq≠b):aIt c (bq.mk y.bD s y.b2 y.aOb y.bo y.cE):=by
 have n:aN8 s=aN8 y.aH:=d.1.1.trans P.2.2.1.1.1.symm;refine⟨aLF Y.1 rfl,Y.2.1,λ_=>aQf (Y.2.2.1 h) (λo m r g=>aQD P M n (λf k=>⟨by rw[(e f k).1];exact j o m,by rw[(e f k).2];exact i o m⟩) g) λ_ _ _ _ _ _=>rfl,λp=>absurd (h.symm.trans p) (by decide)⟩
def aRC{c:c8}{y:bq}{s:List (List Int)}{l:List cn}{k:Int}{o:b7}{h:List b7}(P:jr c y)(Y:aIt c y)(w:y.aOb=ak)(a:al y.b2 k=J o)(j:h=y.b2.eraseIdx k.toNat)(M:az1 c.aH (lens y.bD) l y.aH s)(e:iY c.aH (lens y.bD) s)(q:∀m∈l,m.aOt=o.cq/\m.to= -1):aIt c (bq.mk y.bD s h y.aOb y.bo y.cE):=by
 have n:aN8 s=aN8 y.aH:=e.1.1.trans P.2.2.1.1.1.symm;have d:h.Sublist y.b2:=by rw[j];exact List.eraseIdx_sublist _ _
 have A:=ku a;refine⟨Y.1.sublist (d.map _),Y.2.1.sublist d,λ_ p m r g=>?_,λC=>absurd (w.symm.trans C) (by decide)⟩;rw[j,List.mem_eraseIdx_iff_getElem?] at m;obtain⟨i,E,f⟩:=m;have b:al y.b2 i=J p:=by unfold al;rw[if_pos (by omega)];exact f
 have B:p.cq≠o.cq:=λz=>by have:=aNc Y.1 b a z;omega
 have x:=ku g;exact Y.2.2.1 w p (lP b) r (aQD P M n (λt k=>⟨by rw[(q t k).1];exact B,by rw[(q t k).2];omega⟩) g)
def aPG(o x:b7):Prop:=x.cq≠o.cq/\∀d∈o.c7,d∉x.c7
def aR1{c:c8}{y:bq}{o:b7}(Y:aIt c y)(i:y.aOb=ak)(h:∀x∈y.b2,aPG o x)(e:al y.aH o.cq=J []):aIt c (bq.mk y.bD y.aH (y.b2++[o]) y.aOb y.bo y.cE):=by
 refine⟨?_,?_,λ_ p m r g=>?_,λn=>absurd (i.symm.trans n) (by decide)⟩
 ·unfold aID;rw[aIG,List.nodup_append];refine⟨Y.1,by simp,λa m b k z=>?_⟩;obtain⟨x,l,rfl⟩:=l2.mp m;simp at k;exact(h x l).1 (z.trans k)
 ·unfold aPw;rw[aPD];refine⟨Y.2.1,by simp,λx m p k d j=>?_⟩;simp at k;subst k;exactλz=>(h x m).2 d z j
 ·rcases kU.mp m with m|m
  ·exact Y.2.2.1 i p m r g
  ·simp at m;subst m;have f:al y.aH p.cq=J r:=g;rw[e] at f;cases f;exact⟨by simp,by simp⟩
variable {N:Nat}[gM N]
instance (priority:=high){a U}:au (Hh N a U) (aN9 a) λr=>r=ak->U∉a:=⟨by rw[Hh];exact aC⟩
instance (priority:=high){a U}:au (QY N a U) (aN9 U.c7) λr=>r=ak->a∉U.c7:=⟨by rw[QY];exact aC⟩
instance (priority:=high){e U f n b}:au (Cy N e U f n b) (aN9 e/\f=aN8 e/\aN9 U.c7/\aOf b f n) λr=>iX r (λ_=>∀d∈e.drop b.toNat,d∉U.c7)/\fh r λa=>0<=a:=by induction n generalizing b;exact bJ;exact⟨by rw[Cy];exact aC⟩
instance (priority:=high){a U}:au (Qv N a U) (aN9 a/\aN9 U.c7) λr=>r<0->∀d∈a,d∉U.c7:=⟨by rw[Qv];exact aC⟩
instance (priority:=high){a U}:au (Qs N a U) (aN9 a/\aN9 U.c7) λr=>r=ak->∀d∈a,d∉U.c7:=⟨by rw[Qs];exact aC⟩
instance (priority:=high){b a d}:au (aD1 b a d) (True) λr=>r=ak->d=ak/\a.cq≠b.cq:=⟨by rw[aD1];exact aC⟩
instance (priority:=high){e b f n d}:au (aBY N e b f n d) (aN9 e.c7/\(∀o∈b,aN9 o.c7)/\aN9 b/\aOi b d f n) λr=>iX r (λ_=>∀o∈b.drop d.toNat,aPG e o)/\fh r λa=>a≠0:=by induction n generalizing d;exact bJ;exact⟨by rw[aBY];exact aOr @aPG.eq_1⟩
instance (priority:=high){a d}:au (R1 N a d) (jr a.c (bq.mk a.y.bD a.y.aH d a.y.aOb a.y.bo a.y.cE)/\iW a.e/\aIt a.c (bq.mk a.y.bD a.y.aH d a.y.aOb a.y.bo a.y.cE)/\aN9 d) λr=>(r.2.2=vz a/\(r.1=0->jr a.c (bq.mk a.y.bD a.y.aH r.2.1 a.y.aOb a.y.bo a.y.cE)))/\(r.1=0->aIt a.c (bq.mk a.y.bD a.y.aH r.2.1 a.y.aOb a.y.bo a.y.cE)):=⟨λh=>azU (au.ok (e:=R1 N a d) (by grind -mbtc)) (by revert h;rw[R1];(repeat' with_reducible first|intro _|apply dq|apply dh|refine dj (by omega) ?_|apply di|apply dk|apply df|apply eC|apply dr|apply dg)<;>first|grind -mbtc|(rename_i h p s A E I t C g F i f H q w j l B k n z;have b:i=[]:=yl (by omega);have g:∀o∈List.drop (Int.toNat 0) d,aPG a.e.aOo o:=g.1;subst n l b;exact aR1 h.2.2.1 (show a.y.aOb=ak by simpa using p) (λx m=>g x (by simpa using m)) f))⟩
instance (priority:=high){U b f d n a e}:au (aAX U b d f n a e) (0<=U/\0<=b/\aN9 d/\aOi d e f n/\aN8 a<=e/\(∀s∈a,aPh U b s)) λr=>aN8 r<=aN8 d/\∀s∈r,aPh U b s:=by induction n generalizing a e;exact bJ;exact⟨by rw[aAX];exact aOr (oE @aPh.eq_1 @GT.eq_1)⟩
instance (priority:=high){a U b d}:au (Q8 N a U b d) ((∀t∈a,aN9 t)/\aN9 a) λr=>r.2=0->aN9 r.1/\∀s∈r.1,aPh U b s:=⟨by rw[Q8];exact aC⟩
instance (priority:=high){a b d e}:au (FA N a b d e) (aN9 a.y.b2/\aN9 e) λr=>r=ak->(∀o∈a.y.b2,o.cq≠b)/\∀o∈a.y.b2,o.cq≠d:=⟨by rw[FA];exact aC⟩
instance (priority:=high){d j}:au (Si N d j) (jr d.c d.y/\aIt d.c d.y/\aN9 j) λr=>(r.1=0->rr d r.2)/\(r.1=0->aIt d.c r.2.y):=⟨λf=>azU (au.ok (e:=Si N d j) (by grind -mbtc)) (by revert f;rw[Si];(repeat' with_reducible first|intro _|apply dq|apply dh|refine dj (by omega) ?_|apply di|apply dk|apply df|apply eC|apply dr|apply dg)<;>first|grind -mbtc|(rename_i f x B n H s I t h w E q K F p l i C A g z;have g:=g z;have l:=l (by simpa using i);have h:=h (by simpa using w);rw[g.2.2.1];exact aRX (y:=d.y) (a:=d.e.cq) (b:=d.e.to) f.1 f.2.1 (show d.y.aOb=ak by simpa using x) g.2.2.2.2.2.2 g.2.2.2.2.1 (λm k=>(l.2 m k).2) h.1 h.2))⟩
end
section
def aOX(s:er)(x:Int):Bool:=match al s.at_ x,al s.d.aN' x with
 |some p,J i=>(match al s.d.aOq i.dS with|some h=>p.cq==h|none=>ak)
 |_,_=>ak
def aOE(s:er)(y x:Int):Bool:=match al s.d.aN' y,al s.d.aN' x with
 |some a,J b=>a.dS==b.dS&&decide (a.pZ<b.pZ)
 |_,_=>ak
def aOH(s:er)(x y:Int):Bool:=match al s.at_ x,al s.at_ y with
 |some p,J q=>p.cq==q.cq&&decide (q.aOe<p.aOe)
 |_,_=>ak
def aON(s:er)(y n:Int):Bool:=match al s.round y with
 |some r=>decide (0<=r)&&decide (r<n)
 |none=>ak
def aOL(s:er)(x k y n:Int):Bool:=if k=3 then(if n=0 then aOX s x&&aOE s y x&&aOH s y x else aOE s y x&&aON s y n) else aOH s x y&&aON s y n
def aOJ(s:er)(x n:Int):Prop:=(n=0->aOX s x=aa)/\∀y:Int,0<=y->y<aN8 s.d.aN'->aOL s x 3 y n=ak/\(n≠0->aOL s x 2 y n=ak)
variable {N:Nat}[gM N]
instance (priority:=high){a U}:au (SG a U) (l5 a/\aOa U a.d.aN') λr=>r=aOX a U:=⟨by rw[SG];exact aOr @aOX.eq_1⟩
instance (priority:=high){a U b}:au (xm a U b) (l5 a/\aOa U a.d.aN'/\aOa b a.d.aN') λr=>r=aOE a U b:=⟨by rw[xm];exact aOr @aOE.eq_1⟩
instance (priority:=high){a U b}:au (qz a U b) (l5 a/\aOa U a.d.aN'/\aOa b a.d.aN') λr=>r=aOE a U b:=⟨by rw[qz];exact aC⟩
instance (priority:=high){a U b}:au (Ec a U b) (l5 a/\aOa U a.d.aN'/\aOa b a.d.aN') λr=>r=aOH a U b:=⟨by rw[Ec];exact aOr @aOH.eq_1⟩
instance (priority:=high){a U b}:au (RY a U b) (l5 a/\aOa U a.d.aN'/\aOa b a.d.aN') λr=>r=aOH a U b:=⟨by rw[RY];exact aC⟩
instance (priority:=high){a U b}:au (Eg a U b) (l5 a/\aOa U a.d.aN') λr=>r=aON a U b:=⟨by rw[Eg];exact aOr @aON.eq_1⟩
instance (priority:=high){a U b}:au (RZ a U b) (l5 a/\aOa U a.d.aN') λr=>r=aON a U b:=⟨by rw[RZ];exact aC⟩
instance (priority:=high){b a}:au (aPb b a) (aN9 b.d.aN') λr=>(r=aa->a<0\/aN8 b.d.aN'<=a)/\(r=ak->aOa a b.d.aN'):=⟨by rw[aPb];exact aC⟩
instance (priority:=high){a b}:au (aPc a b) (True) λr=>r=aa↔a=3/\b=0:=⟨by rw[aPc];exact aC⟩
instance (priority:=high){a U b}:au (aPd a U b) (l5 a/\aOa U a.d.aN'/\aOa b a.d.aN') λr=>r=(aOX a U&&aOE a b U&&aOH a b U):=⟨by rw[aPd];exact aC⟩
instance (priority:=high){a U b e}:au (aPe a U b e) (l5 a/\aOa U a.d.aN'/\aOa b a.d.aN') λr=>r=(aOE a b U&&aON a b e):=⟨by rw[aPe];exact aC⟩
instance (priority:=high){a U b e}:au (aPf a U b e) (l5 a/\aOa U a.d.aN'/\aOa b a.d.aN') λr=>r=(aOH a U b&&aON a b e):=⟨by rw[aPf];exact aC⟩
instance (priority:=high){a U b e f}:au (Rh a U b e f) (l5 a/\aOa U a.d.aN') λr=>(b=2\/b=3)->0<=e->e<aN8 a.d.aN'->r=aOL a U b e f:=⟨by rw[Rh];exact aOr @aOL.eq_1⟩
instance (priority:=high){b U g e f}:au (F1 b U g e f) (l5 b/\aOa U b.d.aN'/\e=[2,3]/\aN9 e) λr=>iX r (λa=>aN8 a.2<=1000/\(f=aa->aOX b U=aa/\a.2=[3])/\(f=ak->a.2=[2,3]))/\fh r λa=>a.2=aa/\a.1.aOk=U/\a.1.ib<aN8 b.d.aN':=⟨by rw[F1];exact aC⟩
instance (priority:=high){b U h e g n i f}:au (aJO b U h e g n i f) (l5 b/\aOa U b.d.aN'/\g=aN8 b.d.aN'/\(e=2\/e=3)/\aOf f g n) λr=>iX r (λ_=>∀y:Int,f<=y->y<g->aOL b U e y h=ak)/\fh r λa=>a.2=aa/\a.1.aOk=U/\a.1.ib<aN8 b.d.aN':=by induction n generalizing i f;exact bJ;exact⟨by rw[aJO];exact aC⟩
instance (priority:=high){b U h g e n i f}:au (O2 N b U h e g n i f) (l5 b/\aOa U b.d.aN'/\aN8 e<=1000/\g=aN8 e/\(∀k∈e,k=2\/k=3)/\aOf f g n) λr=>iX r (λ_=>∀k∈e.drop f.toNat,∀y:Int,0<=y->y<aN8 b.d.aN'->aOL b U k y h=ak)/\fh r λa=>a.2=aa/\a.1.aOk=U/\a.1.ib<aN8 b.d.aN':=by induction n generalizing i f;exact bJ;exact⟨by rw[O2];exact aC⟩
instance (priority:=high){a U b}:au (S4 N a U b) (l5 a/\aOa U a.d.aN') λr=>(r.2=aa->r.1.aOk=U/\r.1.ib<aN8 a.d.aN')/\(r.2=ak->aOJ a U b):=⟨by rw[S4];exact aOr @aOJ.eq_1⟩
end
section
def aOu(a:List b6)(x:Int):Prop:=∃p∈a,p.aOk=x
def aOD(d:ct)(a:List hx)(e:List Int)(b:List b6)(x n:Int):Prop:=aOu b x\/(∃v,al e x=J v/\0<=v)\/aOJ (er.mk d a e) x n
theorem aRt{d:ct}{f:List hx}{g:List Int}{a b:List b6}{x n:Int}(h:aOD d f g a x n)(k:rp g a b):aOD d f g b x n:=by
 obtain⟨q,rfl,_⟩:=k;exact h.imp_left λ⟨p,m,e⟩=>⟨p,kU.mpr (.inl m),e⟩
def aRw{d:ct}{b:List hx}{f:List Int}{a:List b6}{x n v:Int}(e:al f x=J v)(h:0<=v):aOD d b f a x n:=.inr (.inl ⟨v,e,h⟩)
def aRu{d:ct}{b:List hx}{e:List Int}{a:List b6}{x n:Int}(h:aOJ (er.mk d b e) x n):aOD d b e a x n:=.inr (.inr h)
def aRv{d:ct}{b:List hx}{e:List Int}{a:List b6}{x n:Int}{p:b6}(h:p.aOk=x):aOD d b e (a++[p]) x n:=.inl ⟨p,by simp,h⟩
attribute [grind->] aRt
def aO5(a:List b6)(k n:Int)(b r:List Int):Prop:=∀x v,al r x=J v->(aOu (a.drop k.toNat) x/\v=n)\/(¬aOu (a.drop k.toNat) x/\al b x=J v)
def aRf{a:List b6}{k n:Int}{b:List Int}(h:(aN8 a:Int)<=k):aO5 a k n b b:=λx v e=>.inr ⟨by rw[aPk (by omega)];rintro⟨p,m,_⟩;simp at m,e⟩
def aRg{d:List b6}{k n:Int}{g r:List Int}{p:b6}(e:al d k=J p)(i:0<=p.aOk)(j:p.aOk<aN8 g)(h:aO5 d (k+1) n (g.set p.aOk.toNat n) r):aO5 d k n g r:=λx v f=>by
 rw[sT e];rcases h x v f with⟨⟨q,m,a⟩,b⟩|⟨a,b⟩
 ·exact .inl ⟨⟨q,by simp[m],a⟩,b⟩
 ·rw[rM i j] at b;by_cases z:x=p.aOk
  ·rw[if_pos z] at b;cases b;exact .inl ⟨⟨p,by simp,z.symm⟩,rfl⟩
  ·rw[if_neg z] at b;refine .inr ⟨?_,b⟩;rintro⟨q,m,c⟩;rcases ha.mp m with rfl|m
   ·exact z c.symm
   ·exact a ⟨q,m,c⟩
def aPi(d:ct)(b:List hx)(a:List b6)(e:List Int)(n:Int):Prop:=(∀x v,al e x=J v->(0<=v/\v<n/\aOu a x)\/(v<0/\¬aOu a x))/\(1<=n->∀x:Int,0<=x->x<aN8 d.aN'->aOu a x\/aOJ (er.mk d b []) x 0)
def aPx(d:ct)(a:List hx)(r:List b6):Prop:=∀x:Int,0<=x->x<aN8 d.aN'->aOu r x\/(aOJ (er.mk d a []) x 0/\∀y:Int,0<=y->y<aN8 d.aN'->aOu r y->aOE (er.mk d a []) y x=ak/\aOH (er.mk d a []) x y=ak)
def aQ3{d:ct}{e:List hx}{g f:List Int}{x:Int}(h:aOJ (er.mk d e g) x 0):aOJ (er.mk d e f) x 0:=by
 refine⟨h.1,λy a b=>⟨?_,λz=>absurd rfl z⟩⟩;have:=(h.2 y a b).1;unfold aOL at*;rw[if_pos rfl,if_pos rfl] at*;exact this
def aQa{d:List Int}{a b:List b6}(h:rp d a b){x:Int}(k:aOu a x):aOu b x:=by
 obtain⟨q,rfl,_⟩:=h;obtain⟨p,m,e⟩:=k;exact⟨p,kU.mpr (.inl m),e⟩
def aQS{d:ct}{h:List hx}{a b:List b6}{l r:List Int}{n:Int}(I:aPi d h a l n)(B:0<=n)(E:rp l a b)(W:∀x:Int,0<=x->x<aN8 d.aN'->aOD d h l b x n)(R:aO5 b (aN8 a) n l r):aPi d h b r (n+1):=by
 refine⟨λx v e=>?_,λ_ x y t=>?_⟩
 ·obtain⟨q,rfl,_⟩:=id E;rcases R x v e with⟨⟨p,m,i⟩,rfl⟩|⟨k,f⟩
  ·exact .inl ⟨B,by omega,p,List.mem_of_mem_drop m,i⟩
  ·rcases I.1 x v f with⟨j,s,A⟩|⟨j,s⟩
   ·exact .inl ⟨j,by omega,aQa E A⟩
   ·refine .inr ⟨j,?_⟩;rintro⟨p,m,i⟩;rcases kU.mp m with m|m
    ·exact s ⟨p,m,i⟩
    ·exact k ⟨p,by simpa using m,i⟩
 ·by_cases z:1<=n
  ·exact(I.2 z x y t).imp_left (aQa E)
  ·have:n=0:=by omega
   subst this;rcases W x y t with w|⟨v,f,g⟩|w
   ·exact .inl w
   ·rcases I.1 x v f with⟨_,s,_⟩|⟨j,_⟩<;>omega
   ·exact .inr (aQ3 w)
def aQQ{d:ct}{h:List hx}{a b:List b6}{k:List Int}{n:Int}(I:aPi d h a k n)(M:0<n)(l:aN8 k=aN8 d.aN')(E:rp k a b)(W:∀x:Int,0<=x->x<aN8 d.aN'->aOD d h k b x n)(e:aN8 b=aN8 a):aPx d h b:=λx A t=>by
 have K:b=a:=by
  obtain⟨q,rfl,_⟩:=E;have:q=[]:=by simpa using e
  simp[this]
 subst K;rcases I.2 (by omega) x A t with i|i
 ·exact .inl i
 ·rcases W x A t with w|⟨v,f,g⟩|w
  ·exact .inl w
  ·rcases I.1 x v f with⟨_,_,H⟩|⟨C,_⟩
   ·exact .inl H
   ·omega
  ·refine .inr ⟨i,λy z L p=>?_⟩;obtain⟨v,B⟩:=hT (xs:=k) (i:=y) z (by omega);have F:aON (er.mk d h k) y n=aa:=by
    rcases I.1 y v B with⟨C,m,_⟩|⟨_,m⟩
    ·unfold aON;dsimp only;rw[B];simp[C,m]
    ·exact absurd p m
   have j:=w.2 y z L;have r:=j.1;have s:=j.2 (by omega);unfold aOL at r s;rw[if_pos rfl,if_neg (by omega),F,Bool.and_true] at r;rw[if_neg (by decide),F,Bool.and_true] at s;exact⟨r,s⟩
variable {N:Nat}[gM N]
instance (priority:=high){a b i g h f}:au (aKQ N a b i g h f) (gu a.d/\aN8 h=aN8 a.d.aN'/\aN8 f=aN8 a.d.aN'/\aN8 b<=2000000/\aOa g a.d.aN') λr=>(rp f b r/\aN8 r<=aN8 b+1)/\aOD a.d h f r g i:=⟨λj=>azU (au.ok (e:=aKQ N a b i g h f) (by grind -mbtc)) (by revert j;rw[aKQ];exact aOr (oE @aRv (oE @aRw @aRu)))⟩
instance (priority:=high){b k f j i n h a}:au (aJu N b k f j i n h a) (gu b.d/\aN8 j=aN8 b.d.aN'/\aN8 i=aN8 b.d.aN'/\f=aN8 b.d.aN'/\0<=a/\a<=f/\f-a<n/\aN8 h<=1000000+a) λr=>(rp i h r/\aN8 r<=aN8 h+(f-a))/\∀x:Int,a<=x->x<f->aOD b.d j i r x k:=by induction n generalizing h a with|zero=>exact bJ|succ n p=>exact⟨λm=>azU (au.ok (e:=aJu N b k f j i (n+1) h a) (by grind -mbtc)) (by revert m;rw[aJu];(repeat' with_reducible first|intro _|apply dq|apply dh|refine dj (by omega) ?_|apply di|apply dk|apply df|apply eC|apply dr|apply dg)<;>first|grind -mbtc|(rename_i g;intro x q l;by_cases z:x=a;(subst z;grind -mbtc);exact g.2 x (by rw[Qb (by omega) (by omega)];omega) l))⟩
instance (priority:=high){d j i f n a b}:au (aJv d j f i n a b) (0<=j/\f.1<=aN8 d/\f.2=aN8 d/\i=aN8 d-f.1/\aN9 d/\0<=a/\a<=i/\i-a<n/\aN9 b/\kV (aN8 b) d) λr=>(aN8 r=aN8 b/\ky r<=ky b/\∀p c,a<i->al d (f.1+a)=J p->al b p.aOk=J c->c<0->ky r+1<=ky b)/\aO5 d (f.1+a) j b r:=by induction n generalizing a b with|zero=>exact bJ|succ n w=>exact⟨λt=>azU (au.ok (e:=aJv d j f i (n+1) a b) (by grind -mbtc)) (by revert t;rw[aJv];(repeat' with_reducible first|intro _|apply dq|apply dh|refine dj (by omega) ?_|apply di|apply dk|apply df|apply eC|apply dr|apply dg)<;>first|grind -mbtc|exact aRf (by omega)|(rename_i h c x A C m l E y q F z s H B k r g;have P:=h.2.2.2.2.2.2.2.2.2 m (lP l);subst k;refine aRg l P.1 P.2.1 ?_;have g:=g.2;rw[Qb (by omega) (by omega),show(f.1:Int)+(a+1)=f.1+a+1 by omega] at g;exact g))⟩
instance (priority:=high){U f k n j g i}:au (Nb N U f k n j g i) (gu f.d/\U=f.d/\aN8 k=aN8 f.d.aN'/\aN8 i=aN8 f.d.aN'/\0<=g/\g+ky i<=97/\((g=0->ky i<=96))/\ky i+(if g=0 then 1 else 0)<n/\aN8 j<=100*g/\kV (aN8 f.d.aN') j/\aPi f.d k j i g) λr=>(aN8 r<=100000/\kV (aN8 f.d.aN') r)/\aPx f.d k r:=by induction n generalizing j g i with|zero=>exact bJ|succ n B=>exact⟨λL=>azU (au.ok (e:=Nb N U f k (n+1) j g i) (by grind -mbtc)) (by revert L;rw[Nb];(repeat' with_reducible first|intro _|apply dq|apply dh|refine dj (by omega) ?_|apply di|apply dk|apply df|apply eC|apply dr|apply dg)<;>first|grind -mbtc|(rename_i h y E m M l I s t C w A K z P Q;clear B;have W:∀x:Int,0<=x->x<aN8 f.d.aN'->aOD f.d k i m x g:=(λx a b=>l.2 x a (by grind -mbtc));exact aQQ h.2.2.2.2.2.2.2.2.2.2 (by grind -mbtc) (by grind -mbtc) l.1.1 W (by grind -mbtc))|(rename_i h y E m M l I s t C w A K z P Q;subst E;clear B;have W:∀x:Int,0<=x->x<aN8 f.d.aN'->aOD f.d k i m x g:=(λx a b=>l.2 x a (by grind -mbtc));have R:aO5 m (aN8 j) g i C:=(by have:=A.2;simpa using this);have S:=aQS h.2.2.2.2.2.2.2.2.2.2 (by grind -mbtc) l.1.1 W R;clear W R;rcases Nat.lt_or_ge (aN8 j) (aN8 m) with q|q<;>first|(obtain⟨p,c,O,F,H⟩:=afR l.1.1 q;have:=A.1.2.2 p c (by simp only[List.length_drop,List.length_take,Int.toNat_natCast];omega) (by simpa using O) F H;grind -mbtc)|grind -mbtc))⟩
end
section
def aOQ(x:List hx)(s:List Bool)(a:List hx):Prop:=∀i,al s i=J aa->al a i=al x i
def aPj(s b:List Bool):Prop:=∀i,al s i=J aa->al b i=J aa
def aPm(t:Int)(l:List Int)(b:Int)(a:List hx):Prop:=∀k i,b<=k->al l k=J i->al a i=J (hx.mk t k)
def aPl(l:List Int)(a:Int)(b:List Bool):Prop:=∀k i,a<=k->al l k=J i->al b i=J aa
def aRo{t h d:Int}{l:List Int}{x a:List hx}{s b:List Bool}(e:al l h=J d)(f:al s d=J ak)(n:aN8 s=aN8 x)(p:aOQ (x.set d.toNat (hx.mk t h)) (s.set d.toNat aa) a)(j:aPj (s.set d.toNat aa) b)(w:aPm t l (h+1) a)(y:aPl l (h+1) b):aOQ x s a/\aPj s b/\aPm t l h a/\aPl l h b:=by
 have r:=ku f;have z:al (s.set d.toNat aa) d=J aa:=by rw[rM r.1 r.2,if_pos rfl]
 have ne:∀i,al s i=J aa->i≠d:=λi g q=>by rw[q,f] at g;cases g
 have m:∀i,al s i=J aa->al (s.set d.toNat aa) i=J aa:=λi g=>by rw[rM r.1 r.2,if_neg (ne i g)];exact g
 refine⟨λi g=>?_,λi g=>j i (m i g),λk i A g=>?_,λk i A g=>?_⟩
 ·rw[p i (m i g),rM r.1 (by omega),if_neg (ne i g)]
 ·by_cases q:k=h
  ·subst q;rw[e] at g;cases g;rw[p _ z,rM r.1 (by omega),if_pos rfl]
  ·exact w k i (by omega) g
 ·by_cases q:k=h
  ·subst q;rw[e] at g;cases g;exact j _ z
  ·exact y k i (by omega) g
def aOI(b:List (List Int))(d:Int)(a:List hx):Prop:=∀t l k i,d<=t->al b t=J l->al l k=J i->al a i=J (hx.mk t k)
def aRl{d:List (List Int)}{t:Int}{l:List Int}{x a:List hx}{s b c:List Bool}{r:List hx}(e:al d t=J l)(y:aOQ x s a)(n:aPj s b)(m:aPm t l 0 a)(p:aPl l 0 b)(h:aOQ a b r)(w:aOI d (t+1) r):aOQ x s r/\aOI d t r:=by
 refine⟨λi g=>(h i (n i g)).trans (y i g),λj z k i A g f=>?_⟩;by_cases q:j=t
 ·subst q;rw[e] at g;cases g;have:=(ku f).1;rw[h i (p k i this f)];exact m k i this f
 ·exact w j z k i (by omega) g f
theorem aQU{x:List hx}{s:List Bool}:aOQ x s x:=λi _=>rfl
theorem aQV{s:List Bool}:aPj s s:=λi g=>g
theorem aQ4{t d:Int}{l:List Int}{a:List hx}{b:List Bool}(h:(aN8 l:Int)<=d):aPm t l d a/\aPl l d b:=⟨λk i e g=>by have:=ku g;omega,λk i e g=>by have:=ku g;omega⟩
theorem aQG{b:List (List Int)}{t:Int}{a:List hx}(h:(aN8 b:Int)<=t):aOI b t a:=λe l k i d g=>by have:=ku g;omega
attribute [grind .] aQU aQV
def aPo(d:ct)(b:List b6):Prop:=∃a,aOI d.aH 0 a/\aPx d a b
def aQe{a b:List b6}(h:a.Perm b){x:Int}:aOu a x↔aOu b x:=⟨λ⟨p,m,e⟩=>⟨p,h.mem_iff.mp m,e⟩,λ⟨p,m,e⟩=>⟨p,h.mem_iff.mpr m,e⟩⟩
def aQ7{d:ct}{e:List hx}{a b:List b6}(A:aOI d.aH 0 e)(F:aPx d e a)(h:b.Perm a):aPo d b:=⟨e,A,λx i f=>(F x i f).imp (aQe h).mpr λ⟨n,k⟩=>⟨n,λy g j p=>k y g j ((aQe h).mp p)⟩⟩
def aQR{d:ct}{a:List hx}{b:List Int}(h:∀v∈b,v<0):aPi d a [] b 0:=⟨λx v e=>.inr ⟨h v (lP e),by rintro⟨p,m,_⟩;simp at m⟩,λh=>by omega⟩
variable {N:Nat}[gM N]
instance (priority:=high){b d a}:au (MG b d a) (aN8 d=aN8 b/\aN9 b) λr=>r=ak->0<=a/\a<aN8 b/\al d a=J ak:=⟨by rw[MG];exact aC⟩
instance (priority:=high){m l f n d j k b}:au (Ea m f l n d j k b) (aN9 f/\l=aN8 f/\0<=b/\b<=l/\l-b<n/\aN8 j=aN8 d/\aN9 d/\0<=k/\k<=100000000+b) λr=>(iX r (λa=>aN8 a.1=aN8 d/\aN8 a.2.1=aN8 d/\0<=a.2.2/\a.2.2<=k+(aN8 f-b)/\∀i∈f.drop b.toNat,aOa i d)/\fh r λa=>a=ak)/\iX r λa=>aOQ d j a.1/\aPj j a.2.1/\aPm m f b a.1/\aPl f b a.2.1:=by induction n generalizing d j k b with|zero=>exact bJ|succ n H=>exact⟨λA=>azU (au.ok (e:=Ea m f l (n+1) d j k b) (by grind -mbtc)) (by revert A;rw[Ea];(repeat' with_reducible first|intro _|apply dq|apply dh|refine dj (by omega) ?_|apply di|apply dk|apply df|apply eC|apply dr|apply dg)<;>first|grind -mbtc|grind -mbtc[aQ4]|(rename_i h c Q e t M z q B K y R L x S I s P F C O w E N p r g;subst s p;have q:=q (by simpa using B);have g:=g.2;rw[Qb (by omega) (by omega)] at g;exact aRo e q.2.2 (by grind -mbtc) g.1 g.2.1 g.2.2.1 g.2.2.2))⟩
instance (priority:=high){f p n d j m b}:au (Nh N f p n d j m b) (aN8 f<=24/\(∀t∈f,aN9 t)/\p=aN8 f/\0<=b/\b<=p/\p-b<n/\aN8 j=aN8 d/\aN9 d/\0<=m/\m<=1000000*b) λr=>(iX r (λa=>aN8 a.1=aN8 d/\∀t∈f.drop b.toNat,∀i∈t,aOa i d)/\fh r λa=>a=ak)/\iX r λa=>aOQ d j a.1/\aOI f b a.1:=by induction n generalizing d j m b with|zero=>exact bJ|succ n x=>exact⟨λs=>azU (au.ok (e:=Nh N f p (n+1) d j m b) (by grind -mbtc)) (by revert s;rw[Nh];(repeat' with_reducible first|intro _|apply dq|apply dh|refine dj (by omega) ?_|apply di|apply dk|apply df|apply eC|apply dr|apply dg)<;>first|grind -mbtc|grind -mbtc[aQG]|(rename_i h c l e t y w q r g;have g:=g.2;have k:=q.2;rw[Qb (by omega) (by omega)] at g;exact aRl (c:=[]) e k.1 k.2.1 k.2.2.1 k.2.2.2 g.1 g.2))⟩
instance (priority:=high){a}:au (HD N a) (aN8 a.aN'<=96/\aN8 a.aH<=24/\(∀t∈a.aH,aN8 t<=40000)) λr=>(r.2=aa->aN8 r.1=aN8 a.aN'/\∀t∈a.aH,∀i∈t,aOa i a.aN')/\(r.2=aa->aOI a.aH 0 r.1):=⟨λb=>azU (au.ok (e:=HD N a) (by grind -mbtc)) (by revert b;rw[HD];exact aC)⟩
instance (priority:=high){b n a d}:au (Oz b n a d) (b<=1000000/\0<=a/\a<=b/\b-a<n/\b=aN8 d/\(∀k v,k<a->al d k=J v->v<0)) λr=>aN8 r=aN8 d/\∀v∈r,v<0:=by induction n generalizing a d with|zero=>exact bJ|succ n f=>exact⟨by rw[Oz];(repeat' with_reducible first|intro _|apply dq|apply dh|refine dj (by omega) ?_|apply di|apply dk|apply df|apply eC|apply dr|apply dg)<;>first|grind -mbtc|(refine⟨by grind -mbtc,λv m=>?_⟩;obtain⟨i,e⟩:=uL m;grind -mbtc)⟩
instance (priority:=high){a}:au (Sg N a) (gu a/\vV N a) λr=>r.1.d=a/\aN8 r.2.1=aN8 a.aN'/\aN8 r.2.2=aN8 a.aN'/\aOI a.aH 0 r.2.1/\∀v∈r.2.2,v<0:=⟨by rw[Sg];exact aOr (oE @vV.eq_1 @gu.eq_1)⟩
instance (priority:=high){a}:au (RU N a) (∀t∈a.aH,aN8 t<=40000) λr=>(r.2=0->aN8 r.1<=100000/\kV (aN8 a.aN') r.1/\gu a/\vV N a)/\(r.2=0->aPo a r.1):=⟨λb=>azU (au.ok (e:=RU N a) (by grind -mbtc)) (by revert b;rw[RU];exact aOr (oE @aQR (oE @VT @aQ7)))⟩
end
section
def aOw(a l:List Int):List (Option Int):=l.map λi=>al a i
def aOy(a q:List Int):List (Option Int):=(q.filter λw=>decide (w∈a)).map J
def aRT{d a b:List Int}:aOw d (a++b)=aOw d a++aOw d b:=by simp[aOw]
def aRS{a:List Int}{i w:Int}(e:al a i=J w):aOw a [i]=aOy a [w]:=by
 unfold aOw aOy;rw[aI9,if_pos (by simpa using lP e)];simp[e]
def aRG{a:List Int}{w:Int}(h:w∉a):aOy a [w]=[]:=by unfold aOy;rw[aI9,if_neg (by simpa using h)];rfl
def aRH{a q:List Int}{k w:Int}(e:al q k=J w):aOy a (q.drop k.toNat)=aOy a [w]++aOy a (q.drop (k+1).toNat):=by
 rw[sT e,show w::q.drop (k+1).toNat=[w]++q.drop (k+1).toNat from rfl];unfold aOy;rw[List.filter_append,aIG]
theorem aRI{a q:List Int}{k:Int}(h:(aN8 q:Int)<=k):aOy a (q.drop k.toNat)=[]:=by rw[aPk (by omega)];rfl
def aO0(a:List Int)(s d:List (List Int))(b:Int):Prop:=∀t q,b<=t->al s t=J q->∃l,al d t=J l/\aOw a l=aOy a q
def aPI(a b:List (List Int)):Prop:=∀t l,al a t=J l->al b t=J l
def aQL{b q l:List Int}{s a d:List (List Int)}{t:Int}(e:al s t=J q)(n:(aN8 a:Int)=t)(h:aOw b l=aOy b q)(p:aPI (a++[l]) d)(k:aO0 b s d (t+1)):aPI a d/\aO0 b s d t:=by
 refine⟨λu m f=>p u m (aM5 f),λu r g f=>?_⟩;by_cases z:u=t
 ·subst z;rw[e] at f;cases f;refine⟨l,p _ _ ?_,h⟩;rw[<-n];unfold al;rw[if_pos (by omega)];simp
 ·exact k u r (by omega) f
theorem aQM{a:List Int}{s d:List (List Int)}{t:Int}(h:(aN8 s:Int)<=t):aO0 a s d t:=λu q b f=>by have:=ku f;omega
def aO2(a:List Int)(s:List (List Int))(b:Int)(r:List Int):Prop:=∀t l,b<=t->t∈a->al s t=J l->∀w∈l,w∈r
def aQO{b:List Int}{s:List (List Int)}{t:Int}{l a r:List Int}(e:al s t=J l)(h:t∈b->∀w∈l,w∈a)(m:∀i∈a,i∈r)(k:aO2 b s (t+1) r):aO2 b s t r:=λu q j d f w g=>by
 by_cases z:u=t
 ·subst z;rw[e] at f;cases f;exact m w (h d w g)
 ·exact k u q (by omega) d f w g
theorem aQP{a:List Int}{s:List (List Int)}{t:Int}{r:List Int}(h:(aN8 s:Int)<=t):aO2 a s t r:=λu q b _ f=>by have:=ku f;omega
def aO1(y:bq)(d:ct)(a:List Int):Prop:=d.aOq=y.b2.map (λo=>o.cq)/\aO2 d.aOq y.aH 0 a/\aO0 a y.aH d.aH 0
def aQK{y:bq}{d:ct}{a b:List Int}(h:d.aOq=y.b2.map λo=>o.cq)(H:aO2 d.aOq y.aH 0 a)(p:∀i∈a,i∈b)(D:aO0 b y.aH d.aH 0):aO1 y d b:=⟨h,λt l g e f w j=>p w (H t l g e f w j),D⟩
variable {N:Nat}[gM N]
instance (priority:=high){b f n e a d}:au (NI b f n e a d) (aN9 b/\aOi b a f n/\aN8 d=a) λr=>r.2=d++(b.drop a.toNat).map λo=>o.cq:=by induction n generalizing e a d;exact bJ;exact⟨by rw[NI];exact aC⟩
instance (priority:=high){U b d a}:au (aKK N U b d a) (aN8 U.bo.bD<=1000/\aN9 a) λr=>b∈a->r=aa:=⟨by rw[aKK];exact aC⟩
instance (priority:=high){U g d b f a}:au (aKJ N U g b d f a) (aN8 U.bo.bD<=1000/\aOa d b/\aN8 a<=100000000/\aN9 b/\aN9 f) λr=>((∀i∈r.2,i∈a\/i∈b)/\aN8 r.2<=aN8 a+1)/\(∀i∈a,i∈r.2)/\(g∈f->∀w,al b d=J w->w∈r.2):=⟨λh=>azU (au.ok (e:=aKJ N U g b d f a) (by grind -mbtc)) (by revert h;rw[aKJ];exact aC)⟩
instance (priority:=high){U j f d g n h a b}:au (MQ N U j d f g n h a b) (aN8 U.bo.bD<=1000/\aN9 d/\aN9 g/\f=aN8 d/\0<=a/\a<=f/\f-a<n/\aN8 b<=90000000+a) λr=>((∀i∈r.2,i∈b\/i∈d)/\aN8 r.2<=aN8 b+(f-a))/\(∀i∈b,i∈r.2)/\(j∈g->∀w∈d.drop a.toNat,w∈r.2):=by induction n generalizing h a b with|zero=>exact bJ|succ n l=>exact⟨λk=>azU (au.ok (e:=MQ N U j d f g (n+1) h a b) (by grind -mbtc)) (by revert k;rw[MQ];(repeat' with_reducible first|intro _|apply dq|apply dh|refine dj (by omega) ?_|apply di|apply dk|apply df|apply eC|apply dr|apply dg)<;>first|grind -mbtc|(obtain⟨w,e⟩:=hT (xs:=d) (i:=a) (by omega) (by omega);grind -mbtc))⟩
instance (priority:=high){U b f j n p a d}:au (EE N U b f j n p a d) (aN8 U.bo.bD<=1000/\aN8 b<=24/\(∀t∈b,aN8 t<=40000)/\aN9 j/\f=aN8 b/\0<=a/\a<=f/\f-a<n/\aN8 d<=40000*a) λr=>((∀i∈r.2,i∈d\/∃u∈b,i∈u)/\aN8 r.2<=960000)/\(∀i∈d,i∈r.2)/\aO2 j b a r.2:=by induction n generalizing p a d with|zero=>exact bJ|succ n z=>exact⟨λx=>azU (au.ok (e:=EE N U b f j (n+1) p a d) (by grind -mbtc)) (by revert x;rw[EE];(repeat' with_reducible first|intro _|apply dq|apply dh|refine dj (by omega) ?_|apply di|apply dk|apply df|apply eC|apply dr|apply dg)<;>first|grind -mbtc|grind -mbtc[aQP]|(rename_i h c l e t y A s r g;have g:=g.2;have k:=s.2;rw[Qb (by omega) (by omega)] at g;exact⟨λi m=>g.1 i (k.1 i m),aQO e (λq w m=>k.2 q w (by simpa using m)) g.1 g.2⟩))⟩
instance (priority:=high){b d a f}:au (aI3 N b d f a) (aOa f d/\aN9 b/\aN9 d/\aN9 a) λr=>(aN8 r<=aN8 b+1/\∀p w,al d f=J w->azP a b p->azP a r (p++[w]))/\∀w,al d f=J w->aOw a r=aOw a b++aOy a [w]:=⟨λg=>azU (au.ok (e:=aI3 N b d f a) (by grind -mbtc)) (by revert g;rw[aI3];exact aOr (oE @aRT (oE @aRS @aRG)))⟩
instance (priority:=high){d b l n f a}:au (aIU N d l b n f a) (aN9 d/\aN9 b/\l=aN8 d/\0<=a/\a<=l/\l-a<n/\aN8 f<=a) λr=>(aN8 r<=aN8 d/\∀p,azP b f p->azP b r (p++d.drop a.toNat))/\aOw b r=aOw b f++aOy b (d.drop a.toNat):=by induction n generalizing f a with|zero=>exact bJ|succ n q=>exact⟨λm=>azU (au.ok (e:=aIU N d l b (n+1) f a) (by grind -mbtc)) (by revert m;rw[aIU];(repeat' with_reducible first|intro _|apply dq|apply dh|refine dj (by omega) ?_|apply di|apply dk|apply df|apply eC|apply dr|apply dg)<;>first|grind -mbtc|grind -mbtc[aRI]|(rename_i h c y e k r g;obtain⟨w,j⟩:=hT (xs:=d) (i:=a) (by omega) (by omega);have g:=g.2;rw[Qb (by omega) (by omega)] at g;rw[g,k.2 w j,aRH j,List.append_assoc]))⟩
instance (priority:=high){b i f n j a d}:au (aIT N b i f n j a d) (aN8 b<=24/\(∀t∈b,aN8 t<=40000)/\aN9 f/\i=aN8 b/\0<=a/\a<=i/\i-a<n/\aN8 d=a/\(∀t∈d,aN8 t<=40000)) λr=>(aN8 r.2<=24/\(∀t∈r.2,aN8 t<=40000)/\∀p,azP f d.flatten p->azP f r.2.flatten (p++(b.drop a.toNat).flatten))/\aPI d r.2/\aO0 f b r.2 a:=by induction n generalizing j a d with|zero=>exact bJ|succ n w=>exact⟨λm=>azU (au.ok (e:=aIT N b i f (n+1) j a d) (by grind -mbtc)) (by revert m;rw[aIT];(repeat' with_reducible first|intro _|apply dq|apply dh|refine dj (by omega) ?_|apply di|apply dk|apply df|apply eC|apply dr|apply dg)<;>first|grind -mbtc|grind -mbtc[aQM,aPI]|(rename_i h c q e t x z s y A l r g;have g:=g.2;have k:=s.2;subst l;rw[Qb (by omega) (by omega)] at g;exact aQL e (by omega) (by simpa[aOw] using k) g.1 g.2))⟩
instance (priority:=high){b}:au (RI N b) (aN8 b.aH<=24/\(∀t∈b.aH,aN8 t<=40000/\∀i∈t,0<=i/\i<aN8 b.bD)/\aN8 b.bo.bD<=1000/\aN8 b.b2<=8/\(∀o∈b.b2,aN9 o.c7)) λr=>((r.2.2=0->aN8 r.1.aN'=aN8 r.2.1/\aN8 r.1.aOq=aN8 b.b2/\(∀t∈r.1.aH,aN8 t<=40000)/\(∀w∈r.2.1,(∃u∈b.aH,w∈u)/\aOa w b.bD)/\yk b r.1.aN' r.2.1/\azO b r.1.aN' r.2.1)/\(r.2.2=0->azP r.2.1 r.1.aH.flatten b.aH.flatten))/\(r.2.2=0->aO1 b r.1 r.2.1):=⟨λx=>azU (au.ok (e:=RI N b) (by grind -mbtc)) (by revert x;rw[RI];(repeat' with_reducible first|intro _|apply dq|apply dh|refine dj (by omega) ?_|apply di|apply dk|apply df|apply eC|apply dr|apply dg)<;>first|grind -mbtc|(rename_i h f B l k s m g C q A n E p y F j d z;exact aQK (a:=s.2) (by simpa using k) (by have:=g.2.2;simpa using this) (by grind -mbtc) d.2.2)|grind -mbtc[yk,azO])⟩
end
section
def aP4{a b:Type}{f:a->b}{l:List a}{k:Int}{v:a}(e:al l k=J v):al (l.map f) k=J (f v):=by
 have r:=ku e;unfold al at e⊢;rw[if_pos r.1] at e⊢;rw[sH,e];rfl
def aR4{y:bq}{d:ct}{b q:List Int}{k a u:Int}{o:b7}{e:List hx}(X:aO1 y d b)(A:aOI d.aH 0 e)(j:al y.b2 k=J o)(t:al y.aH o.cq=J q)(n:al q a=J u):∃x,al b x=J u/\al e x=J (hx.mk o.cq a)/\x∈d.aH.flatten:=by
 have s:=ku t;obtain⟨l,el,h⟩:=X.2.2 o.cq q s.1 t;have E:o.cq∈d.aOq:=by rw[X.1];exact l2.mpr ⟨o,lP j,rfl⟩
 have r:∀w∈q,w∈b:=X.2.1 o.cq q s.1 E t;have f:aOy b q=q.map J:=by unfold aOy;rw[aES.mpr λw m=>by simpa using r w m]
 rw[f] at h;have g:al (aOw b l) a=J (J u):=by rw[h];exact aP4 n
 have p:=ku g;have C:aN8 (aOw b l)=aN8 l:=by simp[aOw]
 obtain⟨x,z⟩:=hT (xs:=l) (i:=a) p.1 (by omega);have B:al (aOw b l) a=J (al b x):=aP4 z;rw[g] at B;exact⟨x,(kB.inj B).symm,A o.cq l a x s.1 el z,AD.mpr ⟨l,lP el,lP z⟩⟩
def aQA{y:bq}{d:ct}{S q:List Int}{R:List b6}{k:Int}{o:b7}{pu:Int->Prop}(Y:aID y)(X:aO1 y d S)(I:azO y d.aN' S)(aR:aN8 d.aN'=aN8 S)(hw:∀w∈S,0<=w/\w<aN8 y.bD)(P:aPo d R)(K:al y.b2 k=J o)(eq:al y.aH o.cq=J q)(bb:∀u x,¬pu u->x∈d.aH.flatten->al S x=J u->¬aOu R x):
  (∀u∈q,¬pu u->0<=aOp y o u)/\(q.Pairwise λu v=>¬pu u->¬pu v->aOp y o u<=aOp y o v)/\∀u∈q,¬pu u->∀w x,al S x=J w->aOu R x->aIw y w=k->aOp y o u<=aOp y o w:=by
 obtain⟨O,A,F⟩:=P;have it:∀x w,al S x=J w->∃i v,al d.aN' x=J i/\al y.bD w=J v/\i=aAE y.b2 v:=λx w e=>by have n:=ku e;obtain⟨i,l⟩:=hT (xs:=d.aN') (i:=x) n.1 (by omega);have r:=hw w (lP e);obtain⟨v,E⟩:=hT (xs:=y.bD) r.1 r.2;exact⟨i,v,l,E,I x i w v l e E⟩
 have Q:∀a u,al q a=J u->¬pu u->∃x i v,al S x=J u/\al O x=J (hx.mk o.cq a)/\al d.aN' x=J i/\al y.bD u=J v/\i=aAE y.b2 v/\i.dS=k/\0<=x/\x<aN8 d.aN'/\(aOJ (er.mk d O []) x 0/\∀y:Int,0<=y->y<aN8 d.aN'->aOu R y->aOE (er.mk d O []) y x=ak/\aOH (er.mk d O []) x y=ak):=λa u H z=>by
  obtain⟨x,V,B,aP9⟩:=aR4 X A K eq H;obtain⟨i,v,l,E,C⟩:=it x u V;have n:=ku l;rcases F x n.1 n.2 with f|f
  ·exact absurd f (bb u x z aP9 V)
  ·refine⟨x,i,v,V,B,l,E,C,?_,n.1,n.2,f⟩;have h:=f.1.1 rfl;unfold aOX at h;dsimp only at h;rw[B,l] at h;dsimp only at h;cases e:al d.aOq i.dS with
   |none=>rw[e] at h;cases h
   |some t=>
    rw[e] at h;have s:o.cq=t:=by simpa using h
    have lt:=ku e;have hlen:aN8 d.aOq=aN8 y.b2:=by rw[X.1];simp
    obtain⟨p,aad⟩:=hT (xs:=y.b2) (i:=i.dS) lt.1 (by omega);have:=aP4 (f:=λo:b7=>o.cq) aad;rw[<-X.1,e] at this;exact aNc Y aad K ((kB.inj this).symm.trans s.symm)
 have nZ:∀u v i,al y.bD u=J v->i=aAE y.b2 v->i.dS=k->aOp y o u=i.pZ:=λu v i E C s=>by rw[aPK E K (by rw[C] at s;exact s),C];rfl
 refine⟨λu m z=>?_,?_,λu m z w x V aR7 T=>?_⟩
 ·obtain⟨a,H⟩:=uL m;obtain⟨x,i,v,V,B,l,E,C,s,_⟩:=Q a u H z;rw[nZ u v i E C s,C];rcases aPO (os:=y.b2) (d:=v.aOl) (k:=0) with⟨h1,_⟩|⟨j,p,_,_,aT,br,_⟩
  ·rw[C] at s;have:=ku K;unfold aAE at s;rw[h1] at s;dsimp only at s;omega
  ·unfold aAE;dsimp only;rw[aT];exact br
 ·rw[af3];intro a b bl aw aSk z ep;have g {i:Nat} (h:i<aN8 q):al q i=J q[i]:=by unfold al;rw[if_pos (by omega),show(i:Int).toNat=i by omega];exact mm h
  obtain⟨x,i,v,V,B,l,E,C,s,x0,U,Z,_⟩:=Q a _ (g bl) z;obtain⟨jL,M,cc,aRF,aRx,L,N,fm,oc,tP,aA,_⟩:=Q b _ (g aw) ep;rw[nZ _ v i E C s,nZ _ cc M N fm oc];have j:=(Z.2 jL tP aA).1;unfold aOL at j;rw[if_pos rfl,if_pos rfl,Z.1 rfl] at j;unfold aOE aOH at j;dsimp only at j;rw[L,l,aRx,B] at j;simp[s,oc] at j;omega
 ·obtain⟨a,H⟩:=uL m;obtain⟨jL,i,v,aRF,B,l,E,C,s,x0,U,_,f⟩:=Q a u H z;obtain⟨M,cc,L,N,fm⟩:=it x w V;have n:=ku L;have j:=(f x n.1 n.2 aR7).1;have oc:M.dS=k:=by unfold aIw at T;rw[N] at T;rw[fm];exact T
  unfold aOE at j;dsimp only at j;rw[L,l] at j;simp[s,oc] at j;rw[nZ u v i E C s,nZ w cc M N fm oc];omega
end
section
def aOK(a:List b6)(x:List (List Int))(l:List Int)(r:List (List Int)):Prop:=∀i,i∈r.flatten↔i∈x.flatten\/(i∈l/\aOu a i)
def aQg{a:List b6}{x:List (List Int)}{l:List Int}(h:l=[]):aOK a x l x:=λi=>by simp[h]
def aQh{d:List b6}{x y r:List (List Int)}{a b:List Int}(h:aOK d x a y)(k:aOK d y b r):aOK d x (a++b) r:=λi=>by
 rw[k i,h i,kU];constructor
 ·rintro((h|h)|h)
  ·exact .inl h
  ·exact .inr ⟨.inl h.1,h.2⟩
  ·exact .inr ⟨.inr h.1,h.2⟩
 ·rintro(h|⟨h|h,k⟩)
  ·exact .inl (.inl h)
  ·exact .inl (.inr ⟨h,k⟩)
  ·exact .inr ⟨h,k⟩
def aRm{a:List b6}{x:List (List Int)}{w:Int}(h:¬aOu a w):aOK a x [w] x:=λi=>by
 constructor
 ·exact .inl
 ·rintro(k|⟨m,k⟩)
  ·exact k
  ·simp at m;subst m;exact absurd k h
def aRn{g:List b6}{x:List (List Int)}{w t:Int}{q:List Int}(h:aOu g w)(e:al x t=J q):aOK g x [w] (x.set t.toNat (q++[w])):=λi=>by
 have d:=ku e;have f:∀{s:List (List Int)},i∈s.flatten↔∃k r,al s k=J r/\i∈r:=λ{s}=>by
  constructor
  ·intro m;obtain⟨r,j,b⟩:=AD.mp m;obtain⟨k,a⟩:=uL j;exact⟨k,r,a,b⟩
  ·rintro⟨k,r,a,b⟩;exact AD.mpr ⟨r,lP a,b⟩
 rw[f,f];constructor
 ·rintro⟨k,r,a,b⟩;rw[rM d.1 d.2] at a;split at a
  ·cases a;rcases kU.mp b with m|m
   ·exact .inl ⟨t,q,e,m⟩
   ·simp at m;exact .inr ⟨by simp[m],m▸h⟩
  ·exact .inl ⟨k,r,a,b⟩
 ·rintro(⟨k,r,a,b⟩|⟨m,_⟩)
  ·by_cases z:k=t
   ·subst z;rw[e] at a;cases a;exact⟨k,_,by rw[rM d.1 d.2,if_pos rfl],by simp[b]⟩
   ·exact⟨k,r,by rw[rM d.1 d.2,if_neg z];exact a,b⟩
  ·simp at m;subst m;exact⟨t,_,by rw[rM d.1 d.2,if_pos rfl],by simp⟩
def aQ8{a:List b6}{p:b6}{k x:Int}(e:al a k=J p)(h:p.aOk=x):aOu a x:=⟨p,lP e,h⟩
def aQ9{a:List b6}{x:Int}(h:∀p∈a,p.aOk≠x):¬aOu a x:=λ⟨p,m,e⟩=>h p m e
variable {N:Nat}[gM N]
instance (priority:=high){a U}:au (Hp a U) (True) λr=>r=aa↔a.aOk=U:=⟨by rw[Hp];exact aC⟩
instance (priority:=high){b U e n d}:au (Cx b U e n d) (aN9 b/\aOi b d e n) λr=>iX r (λ_=>∀p∈b.drop d.toNat,p.aOk≠U)/\fh r λa=>0<=a/\aOu b U:=by induction n generalizing d;exact bJ;exact⟨by rw[Cx];exact aOr @aQ8⟩
instance (priority:=high){a U}:au (Qu N a U) (aN9 a) λr=>(r<0->¬aOu a U)/\(0<=r->aOu a U):=⟨by rw[Qu];exact aOr @aQ9⟩
instance (priority:=high){a U}:au (Qr N a U) (aN9 a) λr=>r=aa↔aOu a U:=⟨by rw[Qr];exact aC⟩
instance (priority:=high){U g a d f b}:au (Nf N U g a d b f) (aOa d a/\aOa f b/\aN8 a.flatten<=100000000/\az3 a (d+1)/\aN9 U/\aN9 a/\aN9 b) λr=>((aN8 r=aN8 a/\aN8 r.flatten<=aN8 a.flatten+1/\∀i∈r.flatten,i∈a.flatten\/i∈b)/\az3 r (d+1)/\∀w,al b f=J w->r.flatten=a.flatten\/r.flatten=a.flatten++[w])/\(g=ak->∀w,al b f=J w->aOK U a [w] r):=⟨λh=>azU (au.ok (e:=Nf N U g a d b f) (by grind -mbtc)) (by revert h;rw[Nf];exact aOr (oE @aRm @aRn))⟩
instance (priority:=high){U m f j d n a b}:au (D8 N U m f d j n a b) (0<=f/\aN9 U/\aN9 d/\j=aN8 d/\0<=b/\b<=j/\j-b<n/\f<aN8 a/\aN8 a.flatten<=90000000+b/\aN9 a/\az3 a (f+1)) λr=>((aN8 r=aN8 a/\aN8 r.flatten<=aN8 a.flatten+(j-b)/\∀i∈r.flatten,i∈a.flatten\/i∈d)/\az3 r (f+1)/\∀p,a.flatten.Sublist p->r.flatten.Sublist (p++d.drop b.toNat))/\(m=ak->aOK U a (d.drop b.toNat) r):=by induction n generalizing a b with|zero=>exact bJ|succ n s=>exact⟨λq=>azU (au.ok (e:=D8 N U m f d j (n+1) a b) (by grind -mbtc)) (by revert q;rw[D8];(repeat' with_reducible first|intro _|apply dq|apply dh|refine dj (by omega) ?_|apply di|apply dk|apply df|apply eC|apply dr|apply dg)<;>first|grind -mbtc|(exact aQg (aPk (by omega)))|(rename_i h c y e k r g z;obtain⟨w,l⟩:=hT (xs:=d) (i:=b) (by omega) (by omega);have g:=g.2 z;rw[Qb (by omega) (by omega)] at g;rw[sT l,<-List.singleton_append];exact aQh (k.2 z w l) g))⟩
instance (priority:=high){U j a f n d b}:au (D7 N U j a f n d b) (aN8 a<=24/\(∀t∈a,aN8 t<=40000)/\aN9 U/\f=aN8 a/\0<=b/\b<=f/\f-b<n/\aN8 d=aN8 a/\aN8 d.flatten<=40000*b/\az3 d b) λr=>((aN8 r=aN8 a/\aN8 r.flatten<=960000/\∀i∈r.flatten,i∈d.flatten\/i∈a.flatten)/\∀p,d.flatten.Sublist p->r.flatten.Sublist (p++(a.drop b.toNat).flatten))/\(j=ak->aOK U d (a.drop b.toNat).flatten r):=by induction n generalizing d b with|zero=>exact bJ|succ n m=>exact⟨λl=>azU (au.ok (e:=D7 N U j a f (n+1) d b) (by grind -mbtc)) (by revert l;rw[D7];(repeat' with_reducible first|intro _|apply dq|apply dh|refine dj (by omega) ?_|apply di|apply dk|apply df|apply eC|apply dr|apply dg)<;>first|grind -mbtc|grind -mbtc[aGN]|(exact aQg (by rw[aPk (by omega)];rfl))|(rename_i h c q e t y s k r g z;have g:=g.2 z;rw[Qb (by omega) (by omega)] at g;rw[aFd e];exact aQh (by have:=k.2 z;simpa using this) g))⟩
instance (priority:=high){a U b}:au (RX N a U b) (aN8 a.aH<=24/\(∀t∈a.aH,aN8 t<=40000)/\aN9 U) λr=>((aN8 r<=24/\aN8 r.flatten<=960000/\∀i∈r.flatten,i∈a.aH.flatten)/\r.flatten.Sublist a.aH.flatten)/\(b=ak->∀i,i∈r.flatten↔i∈a.aH.flatten/\aOu U i):=⟨λd=>azU (au.ok (e:=RX N a U b) (by grind -mbtc)) (by revert d;rw[RX];(repeat' with_reducible first|intro _|apply dq|apply dh|refine dj (by omega) ?_|apply di|apply dk|apply df|apply eC|apply dr|apply dg)<;>first|grind -mbtc|grind -mbtc[aGO]|(rename_i g k f j l h z i;subst f;have:=h.2 z i;simpa using this))⟩
instance (priority:=high){a U b}:au (SF N a U b) ((∀t∈a.aH,aN8 t<=40000)/\aN9 U) λr=>((r.2.2=0->aN8 r.1.aN'=aN8 r.2.1/\aN8 r.2.1<=96/\(∀i∈r.2.1,aOa i a.aN')/\(∀i∈r.1.aN',aOa i.dS a.aOq)/\gu a/\az8 a.aN' r.1.aN' r.2.1/\r.1.dO=b)/\(r.2.2=0->r.2.1.Sublist a.aH.flatten))/\(r.2.2=0->∀i,i∈r.2.1↔i∈a.aH.flatten/\aOu U i):=⟨λd=>azU (au.ok (e:=SF N a U b) (by grind -mbtc)) (by revert d;rw[SF];simp only[List.map_id'];(repeat' with_reducible first|intro _|apply dq|apply dh|refine dj (by omega) ?_|apply di|apply dk|apply df|apply eC|apply dr|apply dg)<;>first|grind -mbtc|grind -mbtc[AD]|((with_reducible repeat' apply oE)<;>first|grind -mbtc|grind -mbtc[AD]|grind -mbtc[az8]))⟩
end
section
def aGW{a x:List Int}:az' a x []:=λk w i e=>by simp[al] at e
def aH8{c:c8}{y:bq}{d:ct}{f b a:List Int}{j:b8}{e:Int}(P:jr c y)
  (D:aN8 d.aN'=aN8 f/\aN8 d.aOq=aN8 y.b2/\(∀t∈d.aH,aN8 t<=40000)/\(∀w∈f,(∃u∈y.aH,w∈u)/\0<=w/\w<aN8 y.bD)/\yk y d.aN' f/\azO y d.aN' f) (S:azP f d.aH.flatten y.aH.flatten)
  (g:aN8 j.aN'=aN8 b/\aN8 b<=96/\(∀i∈b,0<=i/\i<aN8 d.aN')/\(∀i∈j.aN',0<=i.dS/\i.dS<aN8 d.aOq)/\gu d/\az8 d.aN' j.aN' b/\j.dO=e) (K:b.Sublist d.aH.flatten)
  (G:(aN8 a=aN8 b/\(∀w∈a,w∈f)/\az' f b a)/\a=[]++(b.drop (0:Int).toNat).map (ayE f)):
  aN8 j.aN'=aN8 a/\aN8 a<=96/\(∀i∈j.aN',0<=i.dS/\i.dS<aN8 y.b2)/\(∀i∈j.aN',i.round=0)/\(∀i∈a,(∃u∈y.aH,i∈u)/\0<=i/\i<aN8 y.bD)/\a.Nodup/\azO y j.aN' a/\j.dO=e:=by
 have l:aN8 j.aN'=aN8 a:=by omega
 have I:azO y j.aN' a:=aGm D.2.2.2.2.2 g.2.2.2.2.2.1 G.1.2.2 g.1;have h:∀i∈a,(∃u∈y.aH,i∈u)/\0<=i/\i<aN8 y.bD:=λi m=>D.2.2.2.1 i (G.1.2.1 i m);refine⟨l,by omega,λi m=>?_,aER I l λi m=>(h i m).2,h,?_,I,g.2.2.2.2.2.2⟩
 ·rw[<-D.2.1];exact g.2.2.2.1 i m
 ·have:=G.2;rw[Jn,aLD] at this;rw[this];exact P.2.2.1.1.2.2.1.1.sublist ((K.map _).trans S)
def aPZ(y:bq)(a:List Int):Prop:=∀k o q,al y.b2 k=J o->al y.aH o.cq=J q->(∀u∈q,u∉a->0<=aOp y o u)/\(q.Pairwise λu v=>u∉a->v∉a->aOp y o u<=aOp y o v)/\∀u∈q,u∉a->∀w∈a,aIw y w=k->aOp y o u<=aOp y o w
def aNx{x z:Step}{b:List Int}{j:b8}{l:List cn}{q:List (List Int)}(P:jr x.c x.y)(Y:aIt x.c x.y)(B:aIP x b j z)(I:azO x.y j.aN' b)(aR:aN8 j.aN'=aN8 b)(N:b.Nodup)(hw:∀i∈b,0<=i/\i<aN8 x.y.bD)(A:x.e.aH.Nodup/\(∀t∈x.e.aH,t≠x.e.cq/\∀o∈x.y.b2,o.cq≠t)/\∀o∈x.y.b2,o.cq≠x.e.cq)(kW:aPZ x.y b)
  (R:aAe x.c.aH (lens x.y.bD) l x.y.aH q) (K:iY x.c.aH (lens x.y.bD) q) (Q:0<=x.e.cq/\x.e.cq<aN8 x.y.aH) (d:(l.map λm=>m.hX)=b) (T:∀m∈l,m.to=x.e.cq) {y:bq} (yG:y=bq.mk z.y.bD q z.y.b2 z.y.aOb z.y.bo z.y.cE):aIt x.c y:=by
 have V:=P.2.2.1;have S:aIJ x.y.aH l q:=aLH (l1:=[]) R V aLG (by rw[aLD,d];exact N) λm k=>by rw[T m k];exact Q.1
 have M:z.y.aOb=aa:=by rw[B.1]
 have r:z.y.b2=x.y.b2:=by rw[B.1]
 subst yG;refine⟨aLF Y.1 r,(by dsimp only;rw[r];exact Y.2.1),(λh=>absurd (M.symm.trans h) (by decide)),λ_ _=>?_⟩;obtain⟨p,C⟩:=hT Q.1 Q.2;have L:((l.filter λm=>decide (m.to=x.e.cq)).map λm=>m.hX)=b:=by rw[aES.mpr λm k=>by simpa using T m k];exact d
 have g:=S _ _ C;rw[L,d] at g;refine aMg (y':=z) B N I aR hw A g (λw m=>kU.mpr (.inr m)) ?_ K.1.2.2.1.1 λk o fv n h=>?_
 ·rw[aPD];have r5:p.Nodup:=V.1.2.2.1.1.sublist (af4 (lP C));have f:∀u∈p.filter (λi=>decide (i∉b)),u∉b:=λu m=>by simpa using(aIv.mp m).2
  exact⟨(r5.filter _).imp_of_mem λ{u v} F _ _ a=>absurd a (f u F),(aQp N).imp λh _ _=>h,λu F v _ a=>absurd a (f u F)⟩
 ·have E:=P.2.2.2.2.2.1 o (lP n);obtain⟨U,X⟩:=hT (xs:=x.y.aH) E.1 E.2.1;rw[S _ _ X] at h;have z:(l.filter λm=>decide (m.to=o.cq))=[]:=by
   rw[List.filter_eq_nil_iff];intro s k;simp only[decide_eq_true_eq];rw[T s k];exactλg=>A.2.2 o (lP n) g.symm
  rw[z,d] at h;simp only[List.map_nil,List.append_nil,kB.injEq] at h;subst h;obtain⟨oq,o9,O⟩:=kW k o U n X;have f:∀u∈U.filter (λi=>decide (i∉b)),u∈U/\u∉b:=λu m=>⟨(aIv.mp m).1,by simpa using(aIv.mp m).2⟩
  exact⟨λu m=>oq u (f u m).1 (f u m).2,(o9.sublist List.filter_sublist).imp_of_mem λ{u v} F Z h=>h (f u F).2 (f v Z).2,λu m w H t=>O u (f u m).1 (f u m).2 w H t⟩
variable {N:Nat}[gM N]
instance (priority:=high){b a g n d f}:au (aIN N b a g n d f) ((∀i∈a,i∈b.y.aH.flatten)/\0<=b.e.cq/\aN8 b.y.aH<=24/\(∀t∈b.y.aH,aN9 t)/\aN9 a/\aOi a f g n/\aN8 d<=f/\(∀s∈d,uc a s)/\(∀s∈d,s.to=b.e.cq)) λr=>(aN8 r<=aN8 a/\∀s∈r,uc a s)/\(∀s∈r,s.to=b.e.cq)/\(r.map λm=>m.hX)=(d.map λm=>m.hX)++a.drop f.toNat:=by induction n generalizing d f with|zero=>exact bJ|succ n j=>exact⟨λh=>azU (au.ok (e:=aIN N b a g (n+1) d f) (by grind -mbtc)) (by revert h;rw[aIN];exact aOr @uc.eq_1)⟩
instance (priority:=high){d U w P}:au (HE N d U w P) (jr d.c d.y/\aN8 d.e.aH<=100/\0<=d.e.cq/\d.e.cq<aN8 d.c.aH/\(∀t∈d.e.aH,0<=t/\t<aN8 d.c.aH)/\aN8 w.aN'=aN8 U/\aN8 U<=1000/\(∀i∈w.aN',0<=i.dS/\i.dS<aN8 d.y.b2)/\(∀i∈U,nV d.y i)/\(∀i∈U,(∃u∈d.y.aH,i∈u)/\0<=i/\i<aN8 d.y.bD)/\U.Nodup/\azO d.y w.aN' U/\((d.e.aH.Nodup/\(∀t∈d.e.aH,t≠d.e.cq/\∀o∈d.y.b2,o.cq≠t)/\∀o∈d.y.b2,o.cq≠d.e.cq))/\aIt d.c d.y/\aPZ d.y U/\aN9 P) λr=>(r.1=0->rr d r.2)/\(r.1=0->aIt d.c r.2.y):=⟨λcp=>azU (au.ok (e:=HE N d U w P) (by grind -mbtc)) (by revert cp;rw[HE];(repeat' with_reducible first|intro _|apply dq|apply dh|refine dj (by omega) ?_|apply di|apply dk|apply df|apply eC|apply dr|apply dg)<;>first|grind -mbtc|((with_reducible repeat' apply oE)<;>first|grind -mbtc|(rename_i h y yG aZ O n hu L el aR M R aJ K cC T A f;obtain⟨g,hV,V,h1,C,l,I,rS,E,Q,x,j,X,Y,k,_⟩:=h;have a:=A.1 (by simpa using f);dsimp only at a;intro i m;rw[a.2.2.2.2.1];exact AD.mpr (Q i m).1))|(rename_i h y yG aZ O n hu L el aR M R aJ K cC T A f cy F S du H p z;obtain⟨g,hV,V,h1,C,l,I,rS,E,Q,x,j,X,Y,k,_⟩:=h;have a:=A.1 (by simpa using f);have B:=A.2 (by simpa using f);have b:=p z;clear A p T F H el R n;dsimp only at a b;have m:=b.2.2.2.2.2.2;have Z:=b.2.2.2.2.1;rw[a.1,a.2.2.2.1,a.2.2.2.2.1] at m;rw[a.1,a.2.2.2.1] at Z;have t2:aN8 d.y.aH=aN8 d.c.aH:=g.2.2.1.1.1;exact aNx g Y B j l x (λi m=>(Q i m).2) X k (aEV m).2 Z ⟨V,by omega⟩ (by have:=S.2.2;simpa[Jn] using this) (λs q=>by rw[S.2.1 s q,a.2.1]) b.2.2.1))⟩
end
section
def aSg{y:bq}{d:ct}{f a b:List Int}{j:List b6}(Y:aID y)(X:aO1 y d f)(I:azO y d.aN' f)(E:aN8 d.aN'=aN8 f)(M:∀w∈f,0<=w/\w<aN8 y.bD)(P:aPo d j)(A:∀i,i∈a↔i∈d.aH.flatten/\aOu j i)(s:∀i∈a,0<=i/\i<aN8 d.aN')(L:b=[]++(a.drop (0:Int).toNat).map (ayE f)):aPZ y b:=λk o q l H=>by
 have L:b=a.map (ayE f):=by rw[L,Jn,aLD]
 obtain⟨F,B,C⟩:=aQA (pu:=(·∈b)) Y X I E M P l H λu x e n K p=>e (by rw[L];exact l2.mpr ⟨x,(A x).mpr ⟨n,p⟩,eI K⟩);refine⟨F,B,λu m e w g h=>?_⟩;rw[L] at g;obtain⟨x,z,rfl⟩:=l2.mp g;have r:=s x z;obtain⟨v,t⟩:=hT (xs:=f) (i:=x) r.1 (by omega);rw[eI t] at h⊢;exact C u m e v x t ((A x).mp z).2 h
def aRJ{c:c8}{y:bq}{d:ct}{b:List Int}{p:eR}{a:List b6}(Y:aIt c y)(X:aO1 y d b)(I:azO y d.aN' b)(j:aN8 d.aN'=aN8 b)(n:∀w∈b,0<=w/\w<aN8 y.bD)(P:aPo d a)(e:a=[]):aIt c (bq.mk y.bD y.aH y.b2 ak p ak):=by
 refine⟨Y.1,Y.2.1,λ_ o m q g=>?_,nofun⟩;obtain⟨k,f⟩:=uL m;obtain⟨l,i,_⟩:=aQA (pu:=λ_=>False) Y.1 X I j n P f g λu x _ _ _ ⟨z,h,_⟩=>by subst e;simp at h
 exact⟨λu m=>l u m id,i.imp λh=>h id id⟩
variable {N:Nat}[gM N]
instance (priority:=high){b x H}:au (Rz N b x H) (jr b.c b.y/\iW b.e/\aN8 H<=1000/\x=[]/\b.r.vv=[]/\aIt b.c b.y/\aN9 x) λr=>(r.1=0->rr b r.2)/\(r.1=0->aIt b.c r.2.y):=⟨λcp=>azU (au.ok (e:=Rz N b x H) (by grind -mbtc)) (by revert cp;rw[Rz];(repeat' with_reducible first|intro _|apply dq|apply dh|refine dj (by omega) ?_|apply di|apply dk|apply df|apply eC|apply dr|apply dg)<;>first|grind -mbtc|(rename_i h C y e Y n O I h1 tp P L f k T q t B M U s j z;have a:=f.1.1 (by simpa using k);subst j;exact aRJ h.2.2.2.2.2.1 (f.2 (by simpa using k)) a.2.2.2.2.2 a.1 (λw m=>(a.2.2.2.1 w m).2) (t.2 (by simpa using B)) (yl (by simpa using M)))|((with_reducible repeat' apply oE)<;>first|grind -mbtc|exact aGW)|(rename_i h C y e Y n O I h1 tp P L f k T q t B M U s j g bd E Z V F A;have a:=f.1.1 (by simpa using k);have X:=f.2 (by simpa using k);have d:=j.1.1 (by simpa using g);have l:=j.2 (by simpa using g);have p:=t.2 (by simpa using B);have Q:=aSg h.2.2.2.2.2.1.1 X a.2.2.2.2.2 a.1 (λw m=>(a.2.2.2.1 w m).2) p l d.2.2.1 A.2;have R:=aH8 h.1 a (f.1.2 (by simpa using k)) d (j.1.2 (by simpa using g)) A;have K:=afY a.2.2.2.2.1 a.1 (λi m=>(d.2.2.2.2.1.2.2.2.1 i m).1);have S:∀i∈V,nV b.y i:=λi m=>K i (A.1.2.1 i m);clear e I L q s E F t l p X;rw[Z.1];clear f j A;dsimp only[He] at*;(with_reducible repeat' apply oE)<;>grind -mbtc))⟩
end
section
def bL(o:b7)(w:bC):Int:=az5 o.c7 w.aOl 0
def aOP(o:b7)(l:List bC):Prop:=(∀w∈l,0<=bL o w)/\l.Pairwise λa b=>bL o a<=bL o b
theorem aQH{o:b7}{l:List bC}{k:Int}{w:bC}(h:aOP o l)(e:al l k=J w):0<=az5 o.c7 w.aOl 0:=h.1 w (lP e)
theorem aRY{o:b7}{l:List bC}{k:Int}{w:bC}(e:al l k=J w):(l.drop k.toNat).map (bL o)=bL o w::(l.drop (k+1).toNat).map (bL o):=by rw[sT e,List.map_cons]
def aPE(l:List Int):Prop:=l.Pairwise (·<=·)
theorem aQ2{o:b7}{l:List bC}(h:aOP o l):aPE (l.map (bL o)):=List.pairwise_map.mpr h.2
theorem aR6{l:List Int}{k a b:Int}(P:aPE l)(e:al l k=J b)(f:al l (k-1)=J a):a<=b:=by
 have g:=ku e;have d:=ku f;have P:=af3.mp P;unfold al at e f;rw[if_pos g.1,mm (by omega)] at e;rw[if_pos d.1,mm (by omega)] at f;have:=P (k-1).toNat k.toNat (by omega) (by omega) (by omega);rw[kB.inj e,kB.inj f] at this;exact this
attribute [grind->] aQH aR6 aQ2
variable {N:Nat}[gM N]
instance (priority:=high){h d f n j b}:au (CW N h d f n j b) (aN9 h.c7/\aN9 d/\f=aN8 d/\aOP h d/\0<=b/\b<=f/\f-b<n/\aN8 j=b) λr=>∃a,r=.inl a/\a=j++(d.drop b.toNat).map (bL h):=by induction n generalizing j b with|zero=>exact bJ|succ n k=>exact⟨by rw[CW];(repeat' with_reducible first|intro _|apply dq|apply dh|refine dj (by omega) ?_|apply di|apply dk|apply df|apply eC|apply dr|apply dg)<;>first|grind -mbtc|(rename_i g;obtain⟨w,e⟩:=hT (xs:=d) (i:=b) (by omega) (by omega);rw[aRY e];grind -mbtc[bL])⟩
instance (priority:=high){a U}:au (Q1 N a U) (aN9 a.c7/\aN9 U/\aOP a U) λr=>r.2.2=0/\r.1=U.map (bL a):=⟨by rw[Q1];exact aC⟩
instance (priority:=high){a b}:au (LY a b) (aOa b a/\aN9 a/\aPE a) λr=>r=ak:=⟨by rw[LY];exact aC⟩
instance (priority:=high){a d n b}:au (DH a d n b) (aN9 a/\d=aN8 a/\aPE a/\aOf b d n) λr=>r=.inl ():=by induction n generalizing b;exact bJ;exact⟨by rw[DH];exact aC⟩
instance (priority:=high){a U}:au (QW N a U) (aN9 a.c7/\aN9 U/\aOP a U) λr=>r.2.2=0/\aN8 r.1=aN8 U:=⟨by rw[QW];exact aC⟩
end
section
variable {N:Nat}[gM N]
instance (priority:=high){b U a}:au (Hn N b U a) (oF b/\aN9 U.aOg/\aN9 U.c7/\(∀d∈U.c7,aN9 d)/\(∀w∈a,aN9 w.aOj/\aN9 w.aOl)/\aN8 a<=1000/\aOF a/\aOP U a) λr=>(r.2.2.2=0->aN8 r.1.bD=aN8 a)/\r.2.2.2≠7/\r.2.2.2≠12:=⟨λf=>azU (au.ok (e:=Hn N b U a) (by grind -mbtc)) (by revert f;rw[Hn];exact aC)⟩
end
section
def aQj{y:bq}{o:b7}{u:Int}{v:bC}(e:al y.bD u=J v):aOp y o u=az5 o.c7 v.aOl 0:=by unfold aOp;rw[e]
def aRs{y:bq}{o:b7}{l:List bC}{q:List Int}(h:aOW y.bD l q)(r:aN8 l=aN8 q)(a:∀u∈q,0<=aOp y o u)(b:q.Pairwise λu v=>aOp y o u<=aOp y o v):aOP o l:=by
 have g {n:Type} {s:List n} {i:Nat} (z:i<aN8 s):al s i=J s[i]:=by unfold al;rw[if_pos (by omega),show(i:Int).toNat=i by omega];exact mm z
 have f:∀(i:Nat)(d:i<aN8 l)(k:i<aN8 q),bL o l[i]=aOp y o q[i]:=λi d k=>(aQj (h i _ _ (g k) (g d))).symm;refine⟨λw m=>?_,?_⟩
 ·obtain⟨i,d,rfl⟩:=List.getElem_of_mem m;rw[f i d (by omega)];exact a _ (List.getElem_mem _)
 ·rw[af3];intro i j d p e;rw[f i d (by omega),f j p (by omega)];exact af3.mp b i j (by omega) (by omega) e
def aO3(l:List b7)(s:List UInt8):Prop:=∃o∈l,o.aOg=s
def aQT{l:List b7}{s:List UInt8}(h:aO3 l s)(k:∀o∈l,o.aOg≠s):False:=by obtain⟨o,m,e⟩:=h;exact k o m e
def aRD{c:c8}{y:bq}{o:b7}{l:List bC}{q:List Int}(P:jr c y)(Y:aIt c y)(d:y.aOb=ak)(m:o∈y.b2)(b:al y.aH o.cq=J q)(a:aN8 l=aN8 q)(g:aOW y.bD l q)(w:∀v∈l,v∈y.bD):aOF l/\aOP o l:=by
 have h:=Y.2.2.1 d o m q b;exact⟨λv k=>by have:=P.2.2.2.1 v (w v k);unfold pY at this;exact this.2.2.2.2.2.2.2.2.2.2,aRs g a h.1 h.2⟩
variable {N:Nat}[gM N]
instance (priority:=high){a f q}:au (Rx N a f q) (jr a.c (bq.mk a.y.bD a.y.aH f a.y.aOb a.y.bo a.y.cE)/\oF a.c/\a.r.aOd.bD=[]/\aIt a.c (bq.mk a.y.bD a.y.aH f a.y.aOb a.y.bo a.y.cE)/\aN9 f/\aN9 q) λr=>(r.1=0->rr (Step.mk a.c (bq.mk a.y.bD a.y.aH f a.y.aOb a.y.bo a.y.cE) a.e a.r) r.2)/\(r.1=0->aIt a.c r.2.y/\r.2.r.err=a.r.err)/\r.1≠12/\(aO3 f a.e.aOg->r.1≠7):=⟨λb=>azU (au.ok (e:=Rx N a f q) (by grind -mbtc)) (by revert b;rw[Rx];(repeat' with_reducible first|intro _|apply dq|apply dh|refine dj (by omega) ?_|apply di|apply dk|apply df|apply eC|apply dr|apply dg)<;>first|grind -mbtc|(rename_i b m t j w x;exact⟨λz=>absurd z (by simp),by simp,λk=>(aQT k (w.2 (by simpa using x))).elim⟩)|(rename_i b m t j w x E p K s d I C i H A n h;have B:=aRD (o:=s) (l:=A.1) b.1 b.2.2.2.1 (show a.y.aOb=ak by simpa using m) (lP d) i h.1 h.2.2.2.2.2.2 h.2.2.1;grind -mbtc)|(rename_i b m t j w x E p K s d I C i H A n h M Q O S L P F T R g;refine⟨λz=>?_,g.2.2,λ_=>g.2.1⟩;have g:=g.1 z;refine⟨?_,g.2.2.2.2.2.2.2⟩;rw[g.2.2.1];have Z:=aRC (k:=t) (o:=s) b.1 b.2.2.2.1 (show a.y.aOb=ak by simpa using m) d F g.2.2.2.2.2.2.1 g.2.2.2.2.1 h.2.2.2.2.2.1;exact Z))⟩
instance (priority:=high){a d b f g}:au (S5 N a d b f g) (jr a.c (bq.mk d a.y.aH b a.y.aOb a.y.bo a.y.cE)/\oF a.c/\iW a.e/\a.r.aOd.bD=[]/\a.r.vv=[]/\f=[]/\g=[]/\aIt a.c (bq.mk d a.y.aH b a.y.aOb a.y.bo a.y.cE)/\aN9 d/\aN9 b/\aN9 f/\aN9 g) λr=>(r.1=0->rr (Step.mk a.c (bq.mk d a.y.aH b a.y.aOb a.y.bo a.y.cE) a.e a.r) r.2)/\(r.1=0->aIt a.c r.2.y)/\(a.e.aOn=7->(r.1=0->r.2.r.err=a.r.err)/\r.1≠12/\(aO3 b a.e.aOg->r.1≠7)):=⟨λh=>azU (au.ok (e:=S5 N a d b f g) (by grind -mbtc)) (by revert h;rw[S5];(repeat' with_reducible first|intro _|apply dq|apply dh|refine dj (by omega) ?_|apply di|apply dk|apply df|apply eC|apply dr|apply dg)<;>first|grind -mbtc|((with_reducible repeat' apply oE)<;>grind -mbtc))⟩
instance (priority:=high){d U f}:au (rl N d U f) (jr d U/\oF d/\iW f/\aIt d U) λr=>Ts d U r/\aIt d r.1/\(f.aOn=7->r.2.err≠12/\(aO3 U.b2 f.aOg->r.2.err≠7)):=⟨λl=>azU (au.ok (e:=rl N d U f) (by grind -mbtc)) (by revert l;rw[rl];(repeat' with_reducible first|intro _|apply dq|apply dh|refine dj (by omega) ?_|apply di|apply dk|apply df|apply eC|apply dr|apply dg)<;>first|grind -mbtc|((with_reducible repeat' apply oE)<;>first|grind -mbtc|(rename_i g y e h;obtain⟨j,i,k⟩:=h;dsimp only;rw[j,i,k];first|exact g.1|exact g.2.2.2)|(rename_i g y e h m q j n p s i;obtain⟨a,b,c⟩:=i;dsimp only;rw[a,b,c];exact g.2.2.2)))⟩
end
section
set_option maxRecDepth 100000
def afg:S8 5000000001=J aa:=by kernel_rfl
end
section
def aPF(y:bq)(k:Int)(q:List Int)(a i:Int):Prop:=∀o,al y.b2 k=J o->(∀u∈q.drop i.toNat,a<=aOp y o u)/\(q.drop i.toNat).Pairwise λu v=>aOp y o u<=aOp y o v
theorem aQc{y:bq}{k a i u:Int}{q:List Int}{o:b7}{v:bC}(h:aPF y k q a i)(b:al y.b2 k=J o)(e:al q i=J u)(j:al y.bD u=J v):a<=az5 o.c7 v.aOl 0/\aPF y k q (az5 o.c7 v.aOl 0) (i+1):=by
 obtain⟨g,f⟩:=h o b;rw[sT e] at g f;rw[<-aQj j];refine⟨g u (by simp),λp d=>?_⟩;rw[b] at d;cases d;rw[List.pairwise_cons] at f;exact f
def aP0(y:bq):Prop:=y.aOb=ak->aOR y y.b2 y.aH
theorem aRj{c:c8}{y:bq}(Y:aIt c y):aP0 y:=Y.2.2.1
attribute [grind->] aRj
def aQ5{y:bq}{k:Int}{o:b7}{q:List Int}(Y:aP0 y)(e:y.aOb=ak)(a:al y.b2 k=J o)(d:al y.aH o.cq=J q):aPF y k q 0 0:=λp b=>by
 rw[a] at b;cases b;rw[Jn];exact Y e o (lP a) q d
attribute [grind->] aQc
attribute [grind->] afO
def Y7{c:c8}{y:bq}{p:eR}(h:oF c)(e:y=bq.mk [] (gb (aN8 c.aH) []) [] ak p ak)(k:nq p):jr c y:=by
 subst e;obtain⟨f,j,_,_,_,_,a,_⟩:=h;have n:∀{k:Int}{t:List Int},al (gb (aN8 c.aH) ([]:List Int)) k=J t->t=[]:=λg=>List.eq_of_mem_replicate (lP g);refine⟨λt m=>?_,f,⟨⟨by simp,by omega,⟨by simp,by simp⟩,λk x t d b=>?_⟩,by simp[lens],by simp[lens]⟩,by simp,by simp,by simp,nofun,nofun,k⟩
 ·obtain⟨i,g⟩:=uL m;exact(a i t g).2
 ·rw[n b,YS];have:=(a k x d).2.1;omega
instance :gM 5000000001:=⟨by omega⟩
instance :au (S8 5000000001) True λr=>r=aa:=⟨λ_=>⟨by rw[afg];nofun,λr e=>by rw[afg] at e;exact(kB.inj e).symm⟩⟩
def aMK{c:c8}{y:bq}{p:eR}{s:List (List Int)}(e:y=bq.mk [] s [] ak p ak):aIt c y:=by
 subst e;exact⟨by simp[aID],by simp[aPw],λ_ o m=>absurd m (by simp),nofun⟩
def aO4(l:List b7)(x:List eb)(i:Int):Prop:=∃e,al x i=J e/\aO3 l e.aOg
theorem aQX{l:List b7}{x:List eb}{i k:Int}{e:eb}{o:b7}(h:al x i=J e)(m:al l k=J o)(n:o.aOg=e.aOg):aO4 l x i:=⟨e,h,o,lP m,n⟩
theorem aQW{l:List b7}{x:List eb}{i:Int}{e:eb}(K:aO4 l x i)(h:al x i=J e):aO3 l e.aOg:=by obtain⟨f,g,k⟩:=K;rw[h] at g;cases g;exact k
attribute [grind->] aQX aQW
variable {N:Nat}[gM N]
instance {a}:au (Al a) (aN8 a=aN8 a) λr=>r.n=0:=⟨by rw[Al];exact aC⟩
instance {a b}:au (aPU a b) (aN9 a.b2) λr=>r=aa->b<aN8 a.b2/\a.aOb=ak:=⟨by rw[aPU];exact aC⟩
instance {a f b n e d}:au (aPs N a f b n e d) (aOa f a.b2/\(∀u∈b,aOa u a.bD)/\aN9 b/\(∀o∈a.b2,aN9 o.c7)/\aOf d (aN8 b) n/\aPF a f b e d) λr=>r=.inl ():=by induction n generalizing e d;exact bJ;exact⟨by rw[aPs];exact aOr @aQc⟩
instance {a n b}:au (aPr N a n b) (aP0 a/\aN8 a.b2<=8/\(∀o∈a.b2,vR (aN8 a.aH) o)/\(∀t∈a.aH,aN9 t/\∀i∈t,aOa i a.bD)/\0<=b/\b<=9/\9-b<n/\b<=aN8 a.b2) λr=>r=.inl ():=by induction n generalizing b;exact bJ;exact⟨by rw[aPr];exact aOr @aQ5⟩
instance {a b d f e}:au (aPS a b d e f) (aOa d a/\aOa f b.b2/\(e=aa->aO4 b.b2 a d)/\aN9 a) λr=>r=aa->aO4 b.b2 a d:=⟨by rw[aPS];exact aC⟩
instance {a b d n e f}:au (aPq a b d n e f) (aOa d a/\aN8 b.b2<=8/\aN9 a/\aOf f (aN8 b.b2) n/\(e=aa->aO4 b.b2 a d)) λr=>r=aa->aO4 b.b2 a d:=by induction n generalizing e f;exact bJ;exact⟨by rw[aPq];exact aC⟩
instance {a d b f}:au (aPT a d b f) (aOa d a/\(∀e,al a d=J e->e.aOn=7->b.err≠12/\(f=aa->b.err≠7))/\aN9 a) λr=>r=ak:=⟨by rw[aPT];exact aC⟩
instance {d a n b f}:au (Nj N d a n b f) (oF d/\(∀e∈a,iW e)/\aN8 a<=1000/\aOf f (aN8 a) n/\jr d b/\aIt d b) λr=>r=.inl ():=by induction n generalizing b f;exact bJ;exact⟨by rw[Nj];exact aC⟩
instance {a:List Int}:au (Rl 5000000001 a) (aN8 a=aN8 a) λr=>r=aa:=⟨by rw[Rl];(repeat' with_reducible first|intro _|apply dq|apply dh|refine dj (by omega) ?_|apply di|apply dk|apply df|apply eC|apply dr|apply dg)<;>first|grind -mbtc|((with_reducible repeat' apply oE)<;>first|grind -mbtc[nq]|(rename_i h _;first|exact Y7 (by grind -mbtc) h.2 (by simp[nq])|exact aMK h.2|trace_state))⟩
def aR3(x:List Int):Rl 5000000001 x=J aa:=by
 obtain⟨a,b⟩:=au.ok (e:=Rl 5000000001 x) (by trivial);cases h:Rl 5000000001 x with
 |none=>exact absurd h a
 |some r=>rw[b r h]
def aR2(x:List Int):∃N,Rl N x=J aa:=⟨_,aR3 x⟩
end
end Go.W
section
namespace Go.Proofs.YtekkhljfkiojiaaGreatDoor.yardOrdersDone
open Go.ChangeShapes Go.WideShapes Go.ChangeAt Go.RowKit
open Go.ChangeMaps (open_string shut_string)
set_option maxRecDepth 20000
def own:ownKnob Tryz.prog.godebug=ae:=by kernel_rfl
def as8:laidOutB Tryz.prog=aa:=by kernel_rfl
def aqY{H:Type}{l:bV×af->H}{P:Program}{w:World}{a:Nat}{O:Nat->Bool}{d:Bool}{m:Nat}{t e:bV}{n:Nat}{k:List af}{zs:List (List UInt8)}{p:List MemPlace}
  (A:P.underlying t=J (.array n e)) (N:P.underlying e=J .string) (j:P.cellsOf e=1) (g:P.cellsOf t=n)
  (h:ua l P w a O d m t k=J (.agg (zs.map λz=>.lit (.string z)),p)) (i:Nat) (s:List UInt8) (r:zs[i]?=J s):k[i]?=J (.string ⟨s.toArray⟩):=by
 cases m with
 |zero=>simp[ua] at h
 |succ m=>
  simp only[ua,A,j,g,Nat.mul_one] at h;split at h
  ·obtain⟨q,x,C⟩:=Option.map_eq_some_iff.1 h;have y:q.map (·.1)=zs.map λz=>(DataW.lit (.string z):DataW H):=by
    have:=congrArg Prod.fst C;simpa using this
   have E:q.length=n:=by simpa using Lib.mapM_length x
   have B:zs.length=n:=by have:=congrArg aN8 y;simp at this;omega
   have K:i<n:=by have:=(List.getElem?_eq_some_iff.1 r).1;omega
   obtain⟨b,F,L⟩:=Lib.mapM_at x i i (by simp[K]);obtain⟨z,I,rfl,_⟩:=DataW.trod_string N L;have M:k[i]?=J (.string z):=by have:=congrArg (·[0]?) I;simpa[List.getElem?_take,List.getElem?_drop] using this
   have f:(q.map (·.1))[i]?=J (DataW.lit (.string z.data.toList):DataW H):=by simp[F]
   rw[y,sH,r] at f;simp only[Option.map_some,kB.injEq,DataW.lit.injEq,Lit.string.injEq] at f;rw[M,f]
  ·cases h
def avJ{W:World}(h:laidMetH Tryz.prog Rows.yardOrdersRow.laid W):aF.rE Tryz.prog W where
 len:=λg bs=>by
  have s5 : Tryz.prog.globalNamed "internal/bytealg.MaxLen" = ae := by kernel_rfl
  rw[s5] at bs;cases bs
 pow:=λg bs=>by
  have s5 : Tryz.prog.globalNamed "internal/strconv.uint64pow10" = ae := by kernel_rfl
  rw[s5] at bs;cases bs
 P8:=λg bs n s bB=>by
  obtain⟨cQ,⟨A5,eu,cs,lp,p,q,U7,oc,ao1,bg,_,_⟩,_⟩:=(h:laidMet Tryz.prog Rows.yardOrdersRow.laid W)
  obtain rfl:=kB.inj (bs.symm.trans U7);have bR : Tryz.prog.globalNamed "humpyard/yardgen.dests" = J 0 := by kernel_rfl
  obtain rfl:=kB.inj (bR.symm.trans bs);have aoW:(Tryz.prog.globals[0]?).map (·.type)=J 160:=by kernel_rfl
  obtain rfl:=kB.inj (aoW.symm.trans oc);have:=aqY (t:=160) (e:=9) (n:=6) (zs:=aF.p2) (by kernel_rfl) Tryz.underlying9 (by kernel_rfl) (by kernel_rfl) bg n s bB;exact World.var?_cell bs ao1 n|>.symm▸(by simpa using this)
noncomputable def Wm(d:Os):World:=
 let b:=World.holding Tryz.prog d ⟨#[],#[],[]⟩
 {b with heap:=b.heap.modify 0 fun
  |.cells _ t a=>.cells (aF.p2.map λs=>af.string ⟨s.toArray⟩).toArray t a
  |o=>o}
def ar2(a:Os):laidMet Tryz.prog Rows.yardOrdersRow.laid ((Wm a).forCall (λ_ _=>0) ⟨#[],#[.slice ae 0 0],[]⟩).memory:=
 laidMet_of_run' 8 (by kernel_rfl) (by kernel_rfl)
def reads(b:Os){H:Type}(a:bV×af->H):∃d,DataW.whole a Tryz.prog ((Wm b).forCall (λ_ _=>0) ⟨#[],#[.slice ae 0 0],[]⟩).memory Tryz.f7.params.toList Rows.yardOrdersSpec.vars ak #[.slice ae 0 0].toList 8=J ([.nil],[],d):=
 ⟨[],by kernel_rfl⟩
set_option maxRecDepth 100000 in
def atj(r:Os)(f:r.Started)(H:Type)(d:bV×af->H)(F:Stop.Interp):
  ReturnsInHanded {} Tryz.checked r 7 .any ((Y1 Rows.yardOrdersSpec).preRow d Tryz.prog Tryz.f7 Rows.yardOrdersRow.domain ak Rows.yardOrdersRow.laid) (((Y1 Rows.yardOrdersSpec).at F).post d Tryz.prog Tryz.f7 ak aa ak ak):=by
 obtain⟨pC,an⟩:=reads r d;refine returnsInHanded_of_row (C:=Tryz.checked) (s:=Y1 Rows.yardOrdersSpec) own f (by kernel_rfl) Tryz.func7
  (witness_row_at (enc:=d) (C:=Tryz.checked) ak (Wm r) #[.slice ae 0 0] rfl (by kernel_rfl) (by kernel_rfl) (by kernel_rfl)
   (OpenSpec.preRow_of_cond 8 an (by kernel_rfl) (λk hk=>by cases hk) (by kernel_rfl) (ar2 r))) ?_
 intro W n b ds gs w g S _ _ _ B axG _;have Y:∀(j:Nat) t v,Tryz.f7.params[j]?=J t->b[j]?=J v->af.okWide Tryz.prog W .any n t v:=g;have I:=S;obtain⟨p,q,l,E,rfl,wj,aye⟩:=S;have U:DataW.TrodAll d Tryz.prog W 0 (λ_=>aa) aa Tryz.f7.params.toList b.toList ds p:=l;rw[Tryz.params7] at U Y;obtain⟨O,dB,d0,yD,u9,r7,uQ,rfl,rfl,Q,L⟩:=trodAll_cons U;obtain⟨rfl,rfl,rfl⟩:=trodAll_nil L;obtain rfl:b=#[O]:=by cases b;simp_all
 obtain⟨rfl,rfl⟩:=trodVars_none E;have V:=Q;have K:∀x∈u9,x.block<W.heap.size:=by obtain⟨m,hm⟩:=V;exact DataW.trod_lt m _ _ _ hm
 obtain⟨M,A,Z,ez⟩:=aF.asn (T:=Go.W.iq) (aF.po.conv (AN:=Go.W.iq) (aF.asD Tryz.underlying3 Tryz.type3 rfl) rfl rfl λz x cs h=>by obtain rfl:cs=[_]:=h;exact⟨rfl,trivial⟩) Tryz.underlying22 (Y 0 22 O rfl rfl) Q;clear l g;obtain⟨N,oM⟩:=Go.W.aR2 A;have i:Go.W.aPM.call Go.W.cT (Go.W.aPz N) [.c (.bh 3 A)] [] (λdR _=>J dR)=Option.bind (Go.W.Rl N A) λy=>J (.c (.bool y)):=by kernel_rfl
 rw[oM] at i;have dE:aF.bP (aF.rel Go.W.cT.G (aF.ig W).blk []) [.c (.bh 3 A)] [O]:=⟨Z,trivial⟩
 refine((aF.aqc (by kernel_rfl) (avJ B) ?_ (aF.gL.law (X:=Go.W.cT) (F:=Go.W.aPz N) (Go.W.aQE N) (aF.as' W) (aF.acB W) dE i))).mono λe TX ⟨he,P⟩=>?_
 ·intro a R;simp only[ha,List.not_mem_nil,or_false] at R;rcases R with rfl
  ·exact M
 ·subst he;exact⟨_,rfl,_,_,_,[],_,[],I,trodAll_mk1 (shut_bool Tryz.underlying4 _),(trodAll_cons_mk (Below.trod as8 (by kernel_rfl) (of_decide_eq_true (by kernel_rfl)) V P K) trodAll_mk0),rfl,P.frame _,λh=>by cases h⟩
end Go.Proofs.YtekkhljfkiojiaaGreatDoor.yardOrdersDone
end