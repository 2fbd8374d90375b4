/- A part of the proof of YardOrders; no condition of our own. -/
import Derived.Test.YtekkhljfkiojiaaGreatDoorMh
set_option linter.defProp false
set_option linter.unusedSimpArgs false
set_option linter.unusedVariables false
set_option linter.unusedSectionVars false
open And renaming intro->oE
open Bool renaming false->ak,true->aa
open Go renaming IntKind->aG
open Go.IntKind renaming i64->Aw,wrap->aO,wrap_i64->vN
open Int renaming fdiv->sE,toNat_natCast->sG
open List renaming Perm->Az,append_assoc->IH,append_nil->aI1,eq_of_mem_replicate->ym,filter_append->aLC,filter_cons->aI9,filter_eq_self->aES,filter_sublist->aPC,flatten_append->aET,getElem?_append_left->kS,getElem?_append_right->kT,getElem?_drop->aIQ,getElem?_eq_none->Tz,getElem?_eq_some_iff->fq,length->aN8,length_replicate->IL,map_append->aIG,map_id'->yo,mem_append->kU,mem_cons->ha,mem_filter->aIv,mem_flatten->AD,mem_map->l2,mem_of_getElem?->mM,mem_or_eq_of_mem_set->aFt,nil_append->aLD,nodup_append->aEU,nodup_cons->TB,not_mem_nil->IN,pairwise_append->aPD,prefix_refl->YY,replicate->gb,sublist_append_left->aAB,sublist_flatten_of_mem->af4,take_append_drop->aFu
open List.Sublist renaming refl->aGr
open Nat renaming beq->fi,eq_of_beq_eq_true->kA,two_pow_pos->aPX
open Option renaming getD_none->aL',getD_some->IV,some->J
namespace Go.W
set_option maxHeartbeats 2000000
open Go.aF
section
def ID(i:c4):Prop:=0<=i.dS/\i.dS<=15/\0<=i.pZ/\i.pZ<=31/\0<=i.round/\i.round<=12/\1<=i.aOh/\i.aOh<=400
def ue(j:b8):Prop:=aN8 j.aN'<=96/\0<=j.dO/\j.dO<=12/\∀i∈j.aN',ID i
def nT(l:List Int):Prop:=∀v∈l,0<=v/\v<4096
attribute [grind] ID ue nT
attribute [grind->] List.Perm.length_eq
variable {N:Nat}[gM N]
instance {a}:au (Rc a) (aN9 a.e9.fW/\aN9 a.chain) λr=>r=a:=⟨by rw[Rc];(repeat' with_reducible first|intro _|apply dq|apply dh|refine dj (by omega) ?_|apply di|apply dk|apply df|apply eC|apply dr|apply dg)<;>first|grind -mbtc|simp_all⟩
instance {U f e b n d}:au (aIV N U e b f n d) (aOa U e.bD/\(∀o∈b,aN9 o.c7)/\aN9 b/\aOi b d f n) λr=>iX r (λ_=>∀w,al e.bD U=J w->∀o∈b.drop d.toNat,w.aOl∉o.c7)/\fh r λa=>0<=a.1/\a.1<aN8 b/\∃w,al e.bD U=J w/\∃o∈b,w.aOl∈o.c7:=by induction n generalizing d;exact bJ;exact⟨by rw[aIV];exact aC⟩
instance {a U}:au (R5 N a U) (aN9 a.b2/\(∀o∈a.b2,aN9 o.c7)/\aOa U a.bD) λr=>(r.1= -1/\¬nV a U)\/(0<=r.1/\r.1<aN8 a.b2/\nV a U):=⟨by rw[R5];exact aOr @nV.eq_1⟩
instance {a U}:au (S6 N a U) (aN9 a.b2/\(∀o∈a.b2,aN9 o.c7)/\aOa U a.bD) λr=>(0<=r.1.dS->r.1.dS<aN8 a.b2/\nV a U)/\(r.2=aa->0<=r.1.dS):=⟨by rw[S6];exact aC⟩
instance {a U b}:au (FU a U b) (True) λr=>r=aa↔U<=a/\a<=b:=⟨by rw[FU];exact aC⟩
instance {a U b}:au (Ie a U b) (True) λr=>r=aa↔U<=a/\a<=b:=⟨by rw[Ie];exact aC⟩
instance {a}:au (NQ a) (True) λr=>r=ak->ID a:=⟨by rw[NQ];exact aC⟩
instance {U a b}:au (NR U a b) (a<=aN8 U.aN'/\0<=a/\aN9 U.aN') λr=>True:=⟨by rw[NR];exact aC⟩
instance {U b e n d}:au (Fk U b e n d) (b=U.aN'/\aN8 U.aN'<=96/\e=aN8 b/\aN9 b/\aOf d e n) λr=>iX r (λ_=>∀i∈b.drop d.toNat,ID i)/\fh r λa=>a≠0:=by induction n generalizing d;exact bJ;exact⟨by rw[Fk];exact aC⟩
instance {a}:au (SJ N a) (True) λr=>r=0->ue a:=⟨by rw[SJ];exact aC⟩
instance {a U b}:au (Gj a U b) (True) λr=>r=aa↔U<=a/\a<=b:=⟨by rw[Gj];exact aC⟩
instance {a U b}:au (H7 a U b) (True) λr=>r=aa↔U<=a/\a<=b:=⟨by rw[H7];exact aC⟩
instance {a U}:au (Fi a U) (True) λr=>r=aa->0<=a/\a<=12/\0<=U/\U<=12:=⟨by rw[Fi];exact aC⟩
instance {a U}:au (HU a U) (True) λr=>r=aa->0<=a/\a<=12/\0<=U/\U<=12:=⟨by rw[HU];exact aC⟩
instance {a}:au (HI a) (0<=a/\a<=12) λr=>0<=r/\r<4096:=⟨by rw[HI];exact aC⟩
instance {n a b}:au (Fj n a b) (0<=a/\a<=1000000/\a<n/\0<=b/\b+a<=1000000) λr=>0<=r/\(a=0->r=b):=by induction n generalizing a b;exact bJ;exact⟨by rw[Fj];exact aC⟩
instance {a}:au (HV N a) (0<=a/\a<=500000) λr=>0<=r/\(a=0->r=0):=⟨by rw[HV];exact aC⟩
instance {b U a}:au (aBz b U a) (True) λr=>r=ak->0<=b/\0<=U/\U<=12/\0<=a/\a<=12:=⟨by rw[aBz];exact aC⟩
instance {e U g d i}:au (aDM e U g d i) (0<=e/\e<4096/\0<=U/\U<=12/\0<=d/\d<4096/\i=decide (d<e)/\g=0) λr=>0<=r/\r<=8192:=⟨by rw[aDM];(repeat' with_reducible first|intro _|apply dq|apply dh|refine dj (by omega) ?_|apply di|apply dk|apply df|apply eC|apply dr|apply dg)<;>first|grind -mbtc|(rename_i h j y k _ z l _ v f;have p:=VZ (y:=y) (by have:=P2 k;omega);have q:=VZ (y:=z) (by have:=P2 l;omega);have m:d<e:=(by simpa[h.2.2.2.2.2.2.1] using j);have w:aO .i64 (aO .i64 (aO .i64 (e-d)+aO .i64 (1*((2 ^ y:Nat):Int)))-1)=e-d+((2 ^ y:Nat):Int)-1:=(by simp only[vN];omega);rw[f,w];have:=aaf (a:=e-d+((2 ^ y:Nat):Int)-1) (b:=((2 ^ z:Nat):Int)) (by omega) q.1;omega)⟩
instance {d n b}:au (aDN N d n b) (0<=d/\0<=b/\b<=8192/\8192-b<n) λr=>iX r (λa=>0<=a/\a<=8192)/\fh r λa=>a.2≠0:=by induction n generalizing b;exact bJ;exact⟨by rw[aDN];exact aC⟩
instance {f U k}:au (vD N f U k) (f<=100000) λr=>r.2=0->0<=r.1/\r.1<4096:=⟨by rw[vD];(repeat' with_reducible first|intro _|apply dq|apply dh|refine dj (by omega) ?_|apply di|apply dk|apply df|apply eC|apply dr|apply dg)<;>first|grind -mbtc|(rename_i d l h e i _ t n g w j q s;have p:=VZ (y:=e) (by have:=P2 i;grind);have a:0<=d/\d<=8192:=h.1;have m:=aby (a:=d) (b:=((2 ^ e:Nat):Int)) a.1 a.2 p.1 p.2;rw[Qb (by omega) (by omega)] at j;have:=abM m.1 (by omega) g.1 (by omega);dsimp only;omega)⟩
instance {n a b}:au (E0 n a b) (0<=a/\a<4096/\a<n/\0<=b/\b+a<=10000) λr=>b<=r/\r<=10000:=by induction n generalizing a b;exact bJ;exact⟨by rw[E0];exact aC⟩
instance {a}:au (HQ N a) (True) λr=>0<=r.1/\r.1<=10000:=⟨by rw[HQ];exact aC⟩
instance {a}:au (MF a) (a=ak) λr=>True:=⟨by rw[MF];exact aC⟩
instance {a n b d}:au (DG a n b d) (aN9 a/\aOf d (aN8 a) n/\b∈a) λr=>r∈a:=by induction n generalizing b d;exact bJ;exact⟨by rw[DG];exact aC⟩
instance {a}:au (QV N a) (0<aN8 a/\aN9 a) λr=>r∈a:=⟨by rw[QV];exact aC⟩
instance {n d a b}:au (Dy n d a b) (aN9 d/\0<=a/\b<aN8 d/\a<=b+1/\b+1-a<n) λr=>aN8 r=aN8 d:=by induction n generalizing d a b;exact bJ;exact⟨by rw[Dy];exact aC⟩
instance {a}:au (QI N a) (aN9 a) λr=>aN8 r=aN8 a:=⟨by rw[QI];exact aC⟩
end
section
def Ik(j:b8)(a b:Int):Prop:=∀p q,al j.aN' a=J p->al j.aN' b=J q->p.pZ<q.pZ
def kW(j:b8)(k:Int)(M:List (List Int)):Prop:=aN8 M=aN8 j.aN'/\∀a d,al M a=J d->(a<k->aN8 d=aN8 j.aN')/\∀b v,al d b=J v->0<=v/\v<=2/\(0<v->Ik j a b)
def agx{j:b8}{k a b v:Int}{M:List (List Int)}{d:List Int}(h:kW j k M)(e:al M a=J d)(m:0<=b/\b<aN8 d)(i:0<=v/\v<=2)(p:Ik j a b):kW j k (M.set a.toNat (d.set b.toNat v)):=by
 have n:=ku e;refine⟨by simp[h.1],λx r g=>?_⟩;rw[rM n.1 n.2] at g;split at g
 ·cases g;subst x;refine⟨λl=>by simp[(h.2 _ _ e).1 l],λy w f=>?_⟩;rw[rM m.1 m.2] at f;split at f
  ·cases f;subst y;exact⟨i.1,i.2,λ_=>p⟩
  ·exact(h.2 _ _ e).2 _ _ f
 ·exact h.2 _ _ g
def agy{j:b8}{k:Int}{M:List (List Int)}(h:kW j k M)(l:0<=k/\k<aN8 M):kW j (k+1) (M.set k.toNat (gb (aN8 j.aN') 0)):=by
 refine⟨by simp[h.1],λx r b=>?_⟩;rw[rM l.1 l.2] at b;split at b
 ·cases b;refine⟨λ_=>by simp,λy w d=>?_⟩;have:=ym (lP d);omega
 ·have:=h.2 _ _ b;exact⟨λa=>this.1 (by omega),this.2⟩
theorem agv{j:b8}:kW j 0 (gb (aN8 j.aN') []):=by
 refine⟨by simp,λa d e=>?_⟩;have:=ym (lP e);subst this;exact⟨λh=>by have:=ku e;omega,λb v e=>by have:=ku e;simp at this;omega⟩
theorem Zc{j:b8}{k a:Int}{M:List (List Int)}{b:List Int}(h:kW j k M)(e:al M a=J b):aN8 M=aN8 j.aN'/\(a<k->aN8 b=aN8 j.aN'):=⟨h.1,(h.2 _ _ e).1⟩
theorem AK{j:b8}{k a b v:Int}{M:List (List Int)}{d:List Int}(h:kW j k M)(e:al M a=J d)(f:al d b=J v):0<=v/\v<=2/\(0<v->Ik j a b):=(h.2 _ _ e).2 _ _ f
theorem agw{j:b8}{k:Int}{M:List (List Int)}(h:kW j k M):aN8 M=aN8 j.aN':=h.1
attribute [grind->] Zc AK agw
def yx(M:List (List Int))(C:List Int)(i l a:Int):Prop:=∃b v c,al M a=J b/\al b i=J v/\0<v/\al C a=J c/\c+v-1=l
def yv(M:List (List Int))(C:List Int)(i l:Int):Prop:=∃a,yx M C i l a
def ru(M:List (List Int))(C L:List Int):Prop:=∀i l,al L i=J l->0<l->yv M C i l
variable {N:Nat}[gM N]
instance {b a}:au (MC b a) (True) λr=>r=ak->b.pZ<a.pZ:=⟨by rw[MC];exact aC⟩
instance {U b a d}:au (MB U b a d) (aN9 U.aN'/\kW U (a+1) b/\aOa a U.aN'/\aOa d U.aN'/\aN9 b) λr=>kW U (a+1) r:=⟨by rw[MB];exact aOr (oE @agx @Ik.eq_1)⟩
instance {U a e n b d}:au (DF U a e n b d) (aN9 U.aN'/\e=aN8 U.aN'/\aOa a U.aN'/\aOf d e n/\kW U (a+1) b) λr=>kW U (a+1) r:=by induction n generalizing b d;exact bJ;exact⟨by rw[DF];exact aC⟩
instance {U d n b a}:au (DE N U d n b a) (aN9 U.aN'/\aOi U.aN' a d n/\kW U a b) λr=>kW U d r:=by induction n generalizing b a;exact bJ;exact⟨by rw[DE];exact aOr @agy⟩
instance {a}:au (Hk N a) (aN9 a.aN') λr=>kW a (aN8 a.aN') r:=⟨by rw[Hk];(repeat' with_reducible first|intro _|apply dq|apply dh|refine dj (by omega) ?_|apply di|apply dk|apply df|apply eC|apply dr|apply dg)<;>first|grind -mbtc|(subst_vars;simp only[sG,IL] at*;grind -mbtc[agv])⟩
end
section
def uj(n:Nat)(M:List (List Int)):Prop:=aN8 M=n/\∀a d,al M a=J d->aN8 d=n/\∀b v,al d b=J v->0<=v/\v<=2
theorem Zd{j:b8}{M:List (List Int)}(h:kW j (aN8 j.aN') M):uj (aN8 j.aN') M:=⟨h.1,λa d e=>⟨(h.2 _ _ e).1 (by have:=ku e;have:=h.1;omega),λb v f=>by have:=AK h e f;omega⟩⟩
theorem af6{n:Nat}{M:List (List Int)}{a:Int}{b:List Int}(h:uj n M)(e:al M a=J b):aN8 b=n:=(h.2 _ _ e).1
theorem af8{n:Nat}{M:List (List Int)}{a b v:Int}{d:List Int}(h:uj n M)(e:al M a=J d)(f:al d b=J v):0<=v/\v<=2:=(h.2 _ _ e).2 _ _ f
theorem af7{n:Nat}{M:List (List Int)}(h:uj n M):aN8 M=n:=h.1
attribute [grind->] af6 af8 af7 Zd
def IC(y:List Int):Prop:=∀i v,al y i=J v->v=i
theorem YN{y:List Int}(h:IC y):(∀x∈y,0<=x/\x<aN8 y)/\y.Nodup/\∀i:Int,0<=i->i<aN8 y->i∈y:=by
 refine⟨λx m=>?_,?_,λi a b=>?_⟩
 ·obtain⟨i,e⟩:=uL m;have:=h _ _ e;have:=ku e;omega
 ·rw[List.nodup_iff_pairwise_ne,List.pairwise_iff_getElem];intro a b g f k e;have j:=h a y[a] (by simp[al]);have d:=h b y[b] (by simp[al]);omega
 ·obtain⟨v,e⟩:=hT a b;have:=h _ _ e;subst this;exact lP e
def uu(j:b8)(b:List Int):Prop:=aN8 b=aN8 j.aN'/\b.Nodup/\(∀i:Int,i∈b↔0<=i/\i<aN8 j.aN')/\b.Pairwise λx y=>(j.aN'.map λa=>a.pZ).getD x.toNat 0<=(j.aN'.map λa=>a.pZ).getD y.toNat 0
theorem agG{j:b8}{e d:List Int}(h:IC e)(l:aN8 e=aN8 j.aN')(p:d.Perm e)(q:d.Pairwise λx y=>(j.aN'.map λa=>a.pZ).getD x.toNat 0<=(j.aN'.map λa=>a.pZ).getD y.toNat 0):uu j d:=by
 obtain⟨a,b,c⟩:=YN h;refine⟨p.length_eq.trans l,p.nodup_iff.mpr b,λi=>?_,q⟩;rw[p.mem_iff];exact⟨λm=>by have:=a i m;omega,λm=>c i m.1 (by omega)⟩
theorem agH{j:b8}{a:List Int}(h:uu j a):aN8 a=aN8 j.aN':=h.1
theorem Zh{j:b8}{a:List Int}{k y:Int}(h:uu j a)(e:al a k=J y):0<=y/\y<aN8 j.aN':=(h.2.2.1 y).mp (lP e)
attribute [grind->] agH Zh
def Zi{j:b8}{d:List Int}{k y:Int}(h:uu j d)(e:al d k=J y):y∉d.drop (k+1).toNat/\∀i:Int,0<=i->i<aN8 j.aN'->i∉d.drop k.toNat->∀p q,al j.aN' y=J p->al j.aN' i=J q->q.pZ<=p.pZ:=by
 have A:=ku e;have t:=sT e;have n:=aFu k.toNat d;obtain⟨E,r,z,w⟩:=h;refine⟨?_,λi a b m p q s f=>?_⟩
 ·rw[<-n,aEU,t,TB] at r;exact r.2.1.1
 ·have x:i∈d:=(z i).mpr ⟨a,b⟩;rw[<-n] at x;have B:i∈d.take k.toNat:=(kU.mp x).resolve_right m;rw[<-n,aPD] at w;have:=w.2.2 i B y (by rw[t];simp);have C:=ku s;have g (i:Int) (q:c4) (f:al j.aN' i=J q):(j.aN'.map λa=>a.pZ).getD i.toNat 0=q.pZ:=by
   have l:=ku f;have:j.aN'[i.toNat]?=J q:=by simpa[al,l.1] using f
   simp[this]
  rw[g _ _ f,g _ _ s] at this;exact this
def YT{j:b8}{M:List (List Int)}{C L L' b4:List Int}{k y c:Int}(h:uu j b4)(e:al b4 k=J y)(R:kW j (aN8 j.aN') M)(A:∀i∈b4.drop k.toNat,∀l,al L i=J l->l=0)(W:ru M C L)(cW:aN8 C=aN8 j.aN')
  (B:∀i,i≠y->al L' i=al L i) (D:∀l,al L' y=J l->0<l->yv M C y l):ru M (C.set y.toNat c) L':=by
 have X4:=Zh h e;obtain⟨ayW,yG⟩:=hT (xs:=j.aN') X4.1 X4.2;have key (i l a:Int) (w:yx M C i l a) (n:a≠y):∃a,yx M (C.set y.toNat c) i l a:=by obtain⟨row,v,d,dX,ix,pH,G8,Yg⟩:=w;exact⟨a,row,v,d,dX,ix,pH,by rw[rM X4.1 (by omega),if_neg n];exact G8,Yg⟩
 intro i l az aR;by_cases q:i=y
 ·subst q;obtain⟨a,w⟩:=D l az aR;refine key _ _ a w λq=>?_;subst q;obtain⟨row,v,d,dX,ix,pH,G8,Yg⟩:=w;have:=(AK R dX ix).2.2 pH _ _ yG yG;omega
 ·rw[B i q] at az;obtain⟨a,w⟩:=W i l az aR;refine key _ _ a w λz=>?_;subst z;obtain⟨row,v,d,dX,ix,pH,G8,Yg⟩:=w;have li:=ku ix;have VM:=(Zc R dX).2 (by omega);obtain⟨pi,aac⟩:=hT (xs:=j.aN') (i:=i) li.1 (by omega);have lt:=(AK R dX ix).2.2 pH _ _ yG aac;have apy:i∉b4.drop k.toNat:=λm=>by have:=A i m l az;omega
  have:=(Zi h e).2 i li.1 (by omega) apy _ _ yG aac;omega
def alH{M:List (List Int)}{C b:List Int}{i l a v c:Int}(h:al M a=J b)(k:al b i=J v)(e:al C a=J c)(z:0<v)(q:l=c+v-1):yv M C i l:=⟨a,b,v,c,h,k,z,e,q.symm⟩
theorem azz{M:List (List Int)}{C b:List Int}{i l a v c x y:Int}(z:0<v)(q:l=c+v-1)(f:x=a)(d:y=i)(e:al C a=J c)(k:al b y=J v)(h:al M x=J b):yv M C i l:=alH (f▸h) (d▸k) e z q
attribute [grind<=] azz
theorem agI{j:b8}{a:List Int}{k y:Int}(h:uu j a)(e:al a k=J y):y∉a.drop (k+1).toNat:=(Zi h e).1
attribute [grind->] agI YN
theorem azw{j:b8}{M:List (List Int)}{C L a b:List Int}{k y c:Int}(A:∀i∈b.drop k.toNat,∀l,al L i=J l->l=0)(d:aN8 C=aN8 j.aN')
  (B:∀i,i≠y->al a i=al L i) (D:∀l,al a y=J l->0<l->yv M C y l) (h:uu j b) (e:al b k=J y) (R:kW j (aN8 j.aN') M) (W:ru M C L):ru M (C.set y.toNat c) a:=YT h e R A W d B D
attribute [grind<=] azw
def af2{M:List (List Int)}{C:List Int}{n:Nat}:ru M C (gb n 0):=λi l e h=>by
 have:=ym (lP e);omega
variable {N:Nat}[gM N]
instance {a n b d}:au (Mf a n b d) (a<=1000000/\aOf d a n/\aN8 b=a/\(∀i v,i<d->al b i=J v->v=i)) λr=>aN8 r=a/\IC r:=by induction n generalizing b d;exact bJ;exact⟨by rw[Mf];exact aOr @IC.eq_1⟩
instance {U a k b w}:au (aPa U a k b w) (uj (aN8 a) U/\aN8 k=aN8 a/\aN9 a/\nT k/\0<=b/\b<aN8 a/\(∀l,al a b=J l->0<=l/\l<=5000)/\0<=w/\w<aN8 a/\aN9 U) λr=>aN8 r=aN8 a/\(∀i,i≠b->al r i=al a i)/\∀l,al r b=J l->(al a b=J l\/yv U k b l)/\0<=l/\l<=5000:=⟨by rw[aPa];(repeat' with_reducible first|intro _|apply dq|apply dh|refine dj (by omega) ?_|apply di|apply dk|apply df|apply eC|apply dr|apply dg)<;>first|grind -mbtc|(rename_i h y E _ e F _ c H x _ f g _ I z _ d t _ L C _ M A _ K j;have B:0<=d/\d+e-1<=5000/\Aw.wrap (Aw.wrap (d+e)-1)=d+e-1:=(by grind -mbtc);rw[B.2.2] at j;have Z:(al a b=J (max f (d+e-1))\/yv U k b (max f (d+e-1)))/\0<=max f (d+e-1)/\max f (d+e-1)<=5000:=(by have v:=h.2.2.2.2.2.2.1 f g;refine⟨?_,by omega,by omega⟩;by_cases p:d+e-1<=f;(exact .inl (by rw[g,Int.max_eq_left p]));exact .inr (alH E F t c (by omega)));generalize max f (d+e-1)=m at Z j;have s:=ku g;subst j;refine⟨by simp,λi n=>by rw[rM s.1 (by omega),if_neg n],λl q=>?_⟩;rw[rM s.1 (by omega),if_pos rfl] at q;cases q;exact Z)⟩
instance {U d b f n a e}:au (aOZ U d b f n a e) (aN9 U/\aN9 d/\aOi d e f n/\uj (aN8 a) U/\aN8 d=aN8 a/\aN9 a/\nT d/\aOa b a/\(∀l,al a b=J l->0<=l/\l<=5000)) λr=>aN8 r=aN8 a/\(∀i,i≠b->al r i=al a i)/\∀l,al r b=J l->(al a b=J l\/yv U d b l)/\0<=l/\l<=5000:=by induction n generalizing a e;exact bJ;exact⟨by rw[aOZ];exact aC⟩
instance {U b g h n d f e}:au (aOY N U b g h n d f e) (kW b (aN8 b.aN') U/\ue b/\uu b g/\h=aN8 g/\aN9 U/\aN9 g/\0<=e/\e<=h/\h-e<n/\aN8 d=aN8 b.aN'/\aN8 f=aN8 b.aN'/\nT f/\(∀i∈g.drop e.toNat,∀l,al d i=J l->l=0)/\ru U f d/\(∀i l,al d i=J l->0<=l/\l<=5000)) λr=>iX r (λa=>aN8 a.1=aN8 b.aN'/\aN8 a.2=aN8 b.aN'/\nT a.2/\ru U a.2 a.1)/\fh r λa=>a≠0:=by induction n generalizing d f e with|zero=>exact bJ|succ n k=>exact⟨by rintro⟨R,q,S,_,_,_,_,_,_,p,j,C,A,W,V⟩;rw[aOY];(repeat' with_reducible first|intro _|apply dq|apply dh|refine dj (by omega) ?_|apply di|apply dk|apply df|apply eC|apply dr|apply dg)<;>clear k<;>first|grind -mbtc|((with_reducible repeat' apply oE)<;>first|assumption|omega|grind -mbtc|(subst_vars;intro v m;rcases aFt m with m|m<;>grind -mbtc)|(subst_vars;exact YT S (by assumption) R A W j (by grind -mbtc) (by grind -mbtc))|(clear W R;grind -mbtc))⟩
instance {a U}:au (Rf N a U) (kW a (aN8 a.aN') U/\ue a/\aN9 U) λr=>r.2.2=0->aN8 r.1=aN8 a.aN'/\aN8 r.2.1=aN8 a.aN'/\nT r.2.1/\ru U r.2.1 r.1:=⟨by rw[Rf];(repeat' with_reducible first|intro _|apply dq|apply dh|refine dj (by omega) ?_|apply di|apply dk|apply df|apply eC|apply dr|apply dg)<;>first|grind -mbtc|((with_reducible repeat' apply oE)<;>first|grind -mbtc|grind -mbtc[agG]|(subst_vars;simp[af2,nT,List.getElem?_replicate,al]<;>grind -mbtc))⟩
end
section
theorem alM{M:List (List Int)}{C:List Int}{i l a:Int}(h:yx M C i l a):∃b v c,al M a=J b/\al b i=J v/\0<v/\al C a=J c/\c+v-1=l:=h
attribute [grind->] alM
def yw(n:Nat)(M:List (List Int))(C L:List Int)(i k:Int):Prop:=∃j,kW j (aN8 j.aN') M/\ue j/\aN8 C=aN8 j.aN'/\aN8 L=aN8 j.aN'/\nT C/\ru M C L/\0<=i/\i<aN8 j.aN'/\∀p,al j.aN' i=J p->p.pZ<n/\k+p.pZ<=200
def alI{M:List (List Int)}{C L:List Int}{i k:Int}(h:yw 0 M C L i k):False:=by
 obtain⟨j,_,d,_,_,_,_,a,b,c⟩:=h;obtain⟨p,e⟩:=hT a b;have:=(d.2.2.2 p (lP e)).2.2.1;have:=c p e;omega
theorem alJ{n:Nat}{M:List (List Int)}{C L:List Int}{i k:Int}(h:yw n M C L i k):uj (aN8 C) M/\aN8 L=aN8 C/\aN8 C<=96/\aN8 M=aN8 C/\nT C/\0<=i/\i<aN8 C/\k<=200/\∀l,al L i=J l->0<l->∃a,0<=a/\yx M C i l a:=by
 obtain⟨j,R,s,c,d,e,W,a,b,f⟩:=h;obtain⟨p,g⟩:=hT a b;have:=(s.2.2.2 p (lP g)).2.2.1;have:=f p g;have:=s.1;refine⟨by rw[c];exact Zd R,by omega,by omega,by rw[c];exact R.1,e,a,by omega,by omega,λl y t=>?_⟩;obtain⟨x,w⟩:=W _ _ y t;obtain⟨m,v,q,r,z⟩:=w;exact⟨x,(ku r).1,m,v,q,r,z⟩
def IQ(M:List (List Int))(r i:Int):Prop:=∃a v,al M r=J a/\al a i=J v/\0<v
def af9{M:List (List Int)}{r i v:Int}{a:List Int}(e:al M r=J a)(f:al a i=J v)(g:0<v):IQ M r i:=⟨a,v,e,f,g⟩
theorem azx{M:List (List Int)}{r i v x y:Int}{a:List Int}(g:0<v)(d:x=r)(b:y=i)(f:al a y=J v)(e:al M x=J a):IQ M r i:=af9 (d▸e) (b▸f) g
attribute [grind<=] azx
def alL{n:Nat}{M:List (List Int)}{C L:List Int}{i k A r:Int}(h:yw (n+1) M C L i k)(m:IQ M r i)(B:A=k+1):yw n M C L r A:=by
 subst B;obtain⟨F,v,e,f,g⟩:=m;obtain⟨j,R,E,c,d,z,W,a,b,q⟩:=h;have x:=ku e;have H:=R.1;obtain⟨p,l⟩:=hT (xs:=j.aN') x.1 (by omega);obtain⟨s,y⟩:=hT a b;have:=(AK R e f).2.2 g _ _ l y;have:=q s y;refine⟨j,R,E,c,d,z,W,x.1,by omega,λt w=>?_⟩;rw[l] at w;cases w;omega
def alK{j:b8}{n:Nat}{M:List (List Int)}{C L:List Int}{i:Int}(R:kW j (aN8 j.aN') M)(f:ue j)(c:aN8 C=aN8 j.aN')(d:aN8 L=aN8 j.aN')(e:nT C)(W:ru M C L)(a:0<=i)(b:i<aN8 j.aN')(h:5000000000<n){k:Int}(g:k=1):yw n M C L i k:=
 g▸⟨j,R,f,c,d,e,W,a,b,λp q=>by have:=(f.2.2.2 p (lP q)).2.2.2.1;omega⟩
attribute [grind->] alJ
variable {N:Nat}[gM N]
instance {d e n a b}:au (aA2 N d e n a b) (aN9 d/\aOi d b e n/\0<=a.aOm/\a.aOm<=10000) λr=>r.fW=[]/\0<=r.aOm/\r.aOm<=10000:=by induction n generalizing a b;exact bJ;exact⟨by rw[aA2];exact aC⟩
instance {a}:au (z7 N a) (aN9 a.aN') λr=>r.2=0->aN8 r.1.fW=aN8 a.aN'/\nT r.1.fW/\0<=r.1.aOm/\r.1.aOm<=10000/\ue a:=⟨by rw[z7];simp only[yo];exact aC⟩
instance {b a e d f}:au (L3 b a e d f) (aOa e b/\aOa d a/\aN9 b/\aN9 a) λr=>r=aa↔0<f/\∀c l,al a d=J c->al b e=J l->aO .i64 (aO .i64 (c+f)-1)=l:=⟨by rw[L3];exact aC⟩
instance {g h b j n d f}:au (L2 g h b j n d f) (uj (aN8 b) g/\nT b/\j=aN8 b/\aN8 h=aN8 b/\aN9 g/\aN9 b/\0<=f/\f<=j/\j-f<n/\0<=d/\d<aN8 b/\(∀l,al h d=J l->∃a,f<=a/\yx g b d l a)) λr=>0<=r/\r<aN8 b/\IQ g r d:=by induction n generalizing d f with|zero=>exact bJ|succ n k=>exact⟨by rw[L2];(repeat' with_reducible first|intro _|apply dq|apply dh|refine dj (by omega) ?_|apply di|apply dk|apply df|apply eC|apply dr|apply dg)<;>first|grind -mbtc|(obtain⟨l,e⟩:=hT (xs:=h) (i:=d) (by grind -mbtc) (by grind -mbtc);grind -mbtc)⟩
instance {d f e n b a}:au (L1 N d f e n b a) (aN9 d/\aN9 f/\aN9 e/\yw n d e f b (aN8 a)) λr=>aN8 r<=200:=by induction n generalizing b a with|zero=>exact⟨λh=>(alI h.2.2.2).elim⟩|succ n g=>exact⟨by rw[L1];(repeat' with_reducible first|intro _|apply dq|apply dh|refine dj (by omega) ?_|apply di|apply dk|apply df|apply eC|apply dr|apply dg)<;>first|grind -mbtc|exact⟨by grind -mbtc,by grind -mbtc,by grind -mbtc,alL (i:=b) (k:=aN8 a) (by grind -mbtc) (by grind -mbtc) (by grind -mbtc)⟩⟩
instance {a}:au (Q0 N a) (aN9 a.aN') λr=>aN8 r.1<=200:=⟨by rw[Q0];simp only[yo];(repeat' with_reducible first|intro _|apply dq|apply dh|refine dj (by omega) ?_|apply di|apply dk|apply df|apply eC|apply dr|apply dg)<;>first|grind -mbtc|exact⟨by grind -mbtc,by grind -mbtc,by grind -mbtc,alK (j:=a) (by grind -mbtc) (by grind -mbtc) (by grind -mbtc) (by grind -mbtc) (by grind -mbtc) (by grind -mbtc) (by grind -mbtc) (by grind -mbtc) (by grind -mbtc) (by grind -mbtc)⟩⟩
instance {a}:au (Q7 N a) (aN9 a.aN') λr=>r.2=0->aN8 r.1.e9.fW=aN8 a.aN'/\nT r.1.e9.fW/\0<=r.1.e9.aOm/\r.1.e9.aOm<=10000/\aN8 r.1.chain<=200/\ue a:=⟨by rw[Q7];exact aC⟩
end
section
variable {N:Nat}[gM N]
instance :au (Q4) (True) λr=>True:=⟨by rw[Q4];exact aC⟩
instance {d b f e a}:au (Mr d b f a e) (aN8 d.fW=aN8 a/\0<=b/\aOa e a/\aN9 a) λr=>True:=⟨by rw[Mr];exact aC⟩
instance {g f d a n e b}:au (Dt g f a d n e b) (aN8 g.fW=aN8 a/\0<=f/\d=aN8 a/\aN9 a/\aOf b d n) λr=>True:=by induction n generalizing e b;exact bJ;exact⟨by rw[Dt];exact aC⟩
instance {d f h b n g}:au (Ds N d f h b n g) (aN8 h.fW=aN8 f.aN'/\aN9 f.aN'/\b<=aN8 d.e.aH/\b<=1000000/\0<=b/\(∀t∈d.e.aH,aOa t d.c.aH)/\aOf g b n) λr=>fh r λa=>a≠0:=by induction n generalizing g;exact bJ;exact⟨by rw[Ds];exact aC⟩
instance {d e b a}:au (Ms d e a b) (aOa b a/\aN9 a) λr=>True:=⟨by rw[Ms];exact aC⟩
instance {f e b n d a}:au (Dv f b e n d a) (aN9 b/\aOi b a e n) λr=>True:=by induction n generalizing d a;exact bJ;exact⟨by rw[Dv];exact aC⟩
instance {d e b a}:au (Mt d e a b) (aOa b a/\(∀i∈a,aOa i d.y.bD)/\aN9 a) λr=>True:=⟨by rw[Mt];exact aC⟩
instance {f a e n d b}:au (Dw f a e n d b) ((∀i∈a,aOa i f.y.bD)/\aN9 a/\aOi a b e n) λr=>True:=by induction n generalizing d b;exact bJ;exact⟨by rw[Dw];exact aC⟩
instance {d g b e n f}:au (Du N d g b e n f) (jr d.c d.y/\b=d.y.b2/\e=aN8 b/\aN8 b<=100/\aN9 g.aN'/\aOf f e n) λr=>fh r λa=>a≠0:=by induction n generalizing f;exact bJ;exact⟨by rw[Du];exact aC⟩
instance {a U b}:au (QG N a U b) (jr a.c a.y/\aN8 b.fW=aN8 U.aN'/\aN9 U.aN'/\0<=b.aOm/\b.aOm<=10000/\(∀t∈a.e.aH,aOa t a.c.aH)) λr=>r=0->b.aOm<=aN8 a.e.aH:=⟨by rw[QG];exact aC⟩
instance {a U b}:au (x3 N a U b) (jr a.c a.y/\aN8 a.e.aH<=100/\aOa a.e.cq a.c.aH/\(∀t∈a.e.aH,aOa t a.c.aH)/\aN8 b.aN'=aN8 U/\aN8 U<=1000/\(∀i∈b.aN',aOa i.dS a.y.b2)/\(∀i∈U,nV a.y i)) λr=>r.1=0->r.2.c=a.c/\r.2.r.vv=a.r.vv/\r.2.y.bD=a.y.bD/\r.2.y.aH=a.y.aH/\r.2.y.b2=a.y.b2/\kC r.2.y/\r.2.y.bo.bD=U/\r.2.y.bo.aOs=a.e.cq/\(∀t∈r.2.y.bo.aH,t∈a.e.aH)/\nW r.2.y/\nq r.2.y.bo:=⟨by rw[x3];exact aOr @nW.eq_1⟩
instance {e b f n d}:au (OG e b f n d) ((∀t∈b,aOa t e.y.aH)/\aN9 b/\aOi b d f n) λr=>iX r (λ_=>∀t∈b.drop d.toNat,al e.y.aH t=J [])/\fh r λa=>a≠0:=by induction n generalizing d;exact bJ;exact⟨by rw[OG];exact aOr @BF⟩
instance {b d g n h e f}:au (aEe N b d g n h e f) (jr b.c b.y/\(∀i∈d,aOa i b.y.bD)/\g=aN8 d/\aN9 d/\aOf e g n/\aN8 f=e/\(∀i∈f,aOa i.dS b.y.b2)) λr=>iX r (λa=>aN8 a.2=aN8 d/\(∀i∈d.drop e.toNat,nV b.y i)/\∀i∈a.2,aOa i.dS b.y.b2)/\fh r λa=>a≠0:=by induction n generalizing h e f;exact bJ;exact⟨by rw[aEe];exact aC⟩
instance {d b e}:au (aKu N d b e) (jr d.c d.y/\aOa e b/\(∀i∈b,aOa i.dS d.y.b2)/\aN9 b) λr=>fh r λa=>a≠0:=⟨by rw[aKu];exact aC⟩
instance {d b f n e}:au (aJh N d b f n e) (jr d.c d.y/\(∀i∈b,aOa i.dS d.y.b2)/\aN9 b/\aOi b e f n) λr=>fh r λa=>a≠0:=by induction n generalizing e;exact bJ;exact⟨by rw[aJh];exact aC⟩
instance {a}:au (Sj N a) (jr a.c a.y/\iW a.e/\a.r.vv=[]) λr=>r.1=0->rr a r.2:=⟨by rw[Sj];(repeat' with_reducible first|intro _|apply dq|apply dh|refine dj (by omega) ?_|apply di|apply dk|apply df|apply eC|apply dr|apply dg)<;>first|grind -mbtc|(rename_i g z;have g:=g z;refine⟨g.1,IX ?_ ?_ ?_ ?_ ?_ ?_ ?_ ?_ ?_,?_,?_⟩<;>first|grind -mbtc|grind -mbtc[gH,AG,l3])⟩
end
section
def uc(W:List Int)(s:cn):Prop:=s.front=ak/\s.aOt≠ -1/\s.to≠ -1/\s.hX∈W
theorem afW{W:List Int}{s:cn}(h:uc W s):s.front=ak/\s.hX∈W:=⟨h.1,h.2.2.2⟩
attribute [grind->] afW
theorem azH{o:Option Int}:o.getD 0=match o with|some v=>v|none=>0:=by cases o<;>rfl
attribute [grind=] azH
def agl{y:bq}{t i:Int}{q:List Int}(h:gH y)(b:y.aOb=aa)(f:y.cE=ak)(a:t=y.bo.aOs\/t∈y.bo.aH)(e:al y.aH t=J q)(m:i∈q):i∈y.bo.bD:=h b f t a q e i m
theorem azy{y:bq}{t i:Int}{q:List Int}(h:gH y)(e:al y.aH t=J q)(m:i∈q)(b:y.aOb=aa)(f:y.cE=ak)(a:t=y.bo.aOs\/t∈y.bo.aH):i∈y.bo.bD:=agl h b f a e m
attribute [grind->] azy
def Y6{y z:bq}{l:List cn}(h:gH y)(m:mO l y.aH z.aH)(k:z.aOb=aa->z.cE=ak->y.aOb=aa/\y.cE=ak/\z.bo.bD=y.bo.bD/\z.bo.aOs=y.bo.aOs/\z.bo.aH=y.bo.aH/\∀s∈l,s.hX∈y.bo.bD\/(s.to≠y.bo.aOs/\s.to∉y.bo.aH)):gH z:=λa b=>by
 obtain⟨f,e,g,i,j,d⟩:=k a b;exact Y5 h m (by rw[a,f]) (λ_=>e) ⟨g,i,j⟩ (λ_ _=>d) a b
def IG{x z:Step}(P:jr x.c x.y)(c:z.c=x.c)(w:z.y.bD=x.y.bD)(o:z.y.b2=x.y.b2)(R:aCq x.c.aH (lens x.y.bD) z.r.vv x.y.aH z.y.aH)(V:iY x.c.aH (lens x.y.bD) z.y.aH)
  (q:z.y.aOb=aa->z.y.cE=ak->kC z.y/\nW z.y) (s:gH z.y) (k:nq z.y.bo):rr x z:=by
 obtain⟨j,i,l,d,a,b,f,g,h⟩:=P;have e:aN8 z.y.aH=aN8 x.y.aH:=V.1.1.trans l.1.1.symm;exact⟨c,⟨j,i,by rw[w];exact V,by rw[w];exact d,by rw[o];exact a,by rw[o,e];exact b,q,s,k⟩,by rw[w];exact YY _,by rw[w];exact R⟩
variable {N:Nat}[gM N]
instance {a}:au (Su a) (0<=a.h9/\a.h9<=aN8 a.aH/\aN9 a.aH) λr=>r=a.aOs\/r∈a.aH:=⟨by rw[Su];exact aC⟩
instance {b U a}:au (aKG b U a) (True) λr=>r=ak->aOa a.cq b.c.aH:=⟨by rw[aKG];exact aC⟩
instance {f U e b n d}:au (aAT f U b e n d) (aN9 b/\aOi b d e n) λr=>iX r (λ_=>∀s∈b.drop d.toNat,aOa s.cq f.c.aH)/\fh r λa=>a≠0:=by induction n generalizing d;exact bJ;exact⟨by rw[aAT];exact aC⟩
instance {b f n d e}:au (aIL b f n d e) ((∀s∈b,0<=s.cq)/\aN9 b/\aOi b e f n/\(∀k v,jv d k=J v->0<=v)) λr=>iX r (λa=>∀k v,jv a k=J v->0<=v)/\fh r λa=>a≠0:=by induction n generalizing d e;exact bJ;exact⟨by rw[aIL];exact aC⟩
instance {f e b n d}:au (aIM f b e n d) (aN9 b/\aOi b d e n) λr=>fh r λa=>a≠0:=by induction n generalizing d;exact bJ;exact⟨by rw[aIM];exact aC⟩
instance {a U b}:au (RB N a U b) (aN9 a.e.hD) λr=>r.2=0->∀k v,jv r.1 k=J v->0<=v:=⟨by rw[RB];exact aC⟩
instance {d e n b}:au (FJ d e n b) (aN9 d.aH/\(∀t∈d.aH,0<=t)/\0<=b/\b<=1000001/\1000001-b<n) λr=>fh r λa=>0<=a:=by induction n generalizing b;exact bJ;exact⟨by rw[FJ];exact aC⟩
instance {a U}:au (Sv N a U) (kC a/\nW a/\U∈a.bo.bD/\aN8 a.b2<=8/\(∀o∈a.b2,vR (aN8 a.aH) o)/\aOa U a.bD) λr=>0<=r:=⟨by rw[Sv];exact aOr @nW.eq_1⟩
instance {d e n b a}:au (aJC d e n b a) (e=aN8 d/\aN9 d/\aOf a e n/\aN8 b<=a) λr=>r=b++lens (d.drop a.toNat):=by induction n generalizing b a;exact bJ;exact⟨by rw[aJC];exact aC⟩
instance {a U}:au (HT N a U) (mQ a.c.aH/\oJ a.c.aH (lens a.y.bD) a.y.aH/\aN8 a.y.bD<=1000/\aN9 U/\(∀s∈U,s.front=ak)) λr=>r.1=0->r.2.c=a.c/\r.2.e=a.e/\r.2.y=bq.mk a.y.bD r.2.y.aH a.y.b2 a.y.aOb a.y.bo a.y.cE/\r.2.r.vv=U/\iY a.c.aH (lens a.y.bD) r.2.y.aH/\aN8 r.2.y.aH.flatten=aN8 a.y.aH.flatten+lo U/\az1 a.c.aH (lens a.y.bD) U a.y.aH r.2.y.aH:=⟨by rw[HT];exact aC⟩
instance {a}:au (x4 a) (True) λr=>r=Step.mk a.c (bq.mk a.y.bD a.y.aH a.y.b2 ak (eR.mk [] (b8.mk [] 0) (e8.mk (dF.mk 0 []) []) 0 [] 0) ak) a.e a.r:=⟨by rw[x4];exact aC⟩
instance {b d a}:au (aAf b d a) (True) λr=>r=aa->a=aa:=⟨by rw[aAf];exact aC⟩
instance {e d a b}:au (aB8 e a b d) (0<=a/\(d=aa->0<=b)) λr=>0<=r.2:=⟨by rw[aB8];exact aC⟩
instance {a g j f d n h b e}:au (aB7 N a g f d j n h b e) (kC a.y/\nW a.y/\aN8 a.y.b2<=8/\(∀o∈a.y.b2,vR (aN8 a.y.aH) o)/\(∀i∈d,i∈a.y.bo.bD/\aOa i a.y.bD)/\(∀k v,jv f k=J v->0<=v)/\0<=g/\aN8 d<=1000/\aOi d e j n/\aN8 b<=e/\(∀s∈b,uc a.y.bo.bD s)) λr=>aN8 r.2<=1000/\∀s∈r.2,uc a.y.bo.bD s:=by induction n generalizing h b e;exact bJ;exact⟨by rw[aB7];exact aOr @uc.eq_1⟩
instance {a b}:au (aEf a b) (True) λr=>r.c=a.c/\r.r=a.r/\r.y.bD=a.y.bD/\r.y.aH=a.y.aH/\r.y.b2=a.y.b2/\(nq a.y.bo->nq r.y.bo)/\(r.y.aOb=aa->r.y.cE=ak->r.y=a.y/\a.y.bo.h9<=a.y.bo.aOc.e9.aOm):=⟨by rw[aEf];exact aC⟩
instance {a k}:au (Sk N a k) (jr a.c a.y/\iW a.e/\aN9 k) λr=>r.1=0->rr a r.2:=⟨by rw[Sk];(repeat' with_reducible first|intro _|apply dq|apply dh|refine dj (by omega) ?_|apply di|apply dk|apply df|apply eC|apply dr|apply dg)<;>first|grind -mbtc|(rename_i h b f _ _ _ _ _ _ _ _ _ _ q m s w d j i t n p _;have g:=j (by simpa using i);clear j n m d;dsimp only at g s p;refine IG h.1 ?_ ?_ ?_ ?_ ?_ ?_ ?_ ?_<;>first|grind -mbtc|exact Y6 (y:=a.y) (l:=q.2) (by grind -mbtc) (by grind -mbtc) (by grind -mbtc))⟩
end
section
instance {a:List Int}:au (ve a) (aN9 a) λr=>r.Perm a:=⟨λh=>by
 rw[show ve a=_ from if_pos (by omega)];exact⟨nofun,λr e=>by cases e;first|exact List.mergeSort_perm .. |(split<;>first|exact .refl _|exact List.mergeSort_perm ..)⟩⟩
instance {i:Inhabited b6}{f:b6->Int}{d:List b6}:au (@G6 b6 i (λa b=>p1 (f a) (f b)) d) (aN9 d) λr=>r.Perm d:=⟨λh=>by
 rw[show @G6 b6 i (λa b=>p1 (f a) (f b)) d=_ from if_pos (by omega)];exact⟨nofun,λr e=>by cases e;exact acL _ (W0 f) d⟩⟩
def agj{n:Nat}{x y:List b6}(h:kV n x)(p:y.Perm x):kV n y:=λq m=>h q (p.mem_iff.mp m)
theorem agp{b:Type}{x y:List b}{a:b}(h:x.Perm y)(m:a∈x):a∈y:=h.mem_iff.mp m
attribute [grind->] agp
def l5(s:er):Prop:=gu s.d/\aN8 s.at_=aN8 s.d.aN'/\aN8 s.round=aN8 s.d.aN'
theorem agD{s:er}(h:l5 s):gu s.d/\aN8 s.at_=aN8 s.d.aN'/\aN8 s.round=aN8 s.d.aN':=h
attribute [grind->] agD
theorem agE{s:er}(h:gu s.d)(a:aN8 s.at_=aN8 s.d.aN')(b:aN8 s.round=aN8 s.d.aN'):l5 s:=⟨h,a,b⟩
attribute [grind <-] agE
def apx{l:List Int}{i c v:Int}(e:al l i=J c)(b:0<=v):ky (l.set i.toNat v)<=ky l:=by
 by_cases a:c<0
 ·have:=Kg e a b;omega
 ·have l1:=ku e;have d:l[i.toNat]?=J c:=by simpa[al,l1.1] using e
  obtain⟨h,f⟩:=fq.mp d;unfold ky;rw[List.countP_set h,f];simp[a,show¬v<0 by omega]
def vV(N:Nat)(d:ct):Prop:=∃s,HD N d=J (s,aa)
variable {N:Nat}[gM N]
instance {a d b}:au (MG a d b) (aN8 d=aN8 a/\aN9 a) λr=>r=ak->aOa b a:=⟨by rw[MG];exact aC⟩
instance {j h f n b g e d}:au (Ea j f h n b g e d) (aN9 f/\aOi f d h n/\aN8 g=aN8 b/\aN9 b/\0<=e/\e<=100000000+d) λr=>iX r (λa=>aN8 a.1=aN8 b/\aN8 a.2.1=aN8 b/\0<=a.2.2/\a.2.2<=e+(aN8 f-d)/\∀i∈f.drop d.toNat,aOa i b)/\fh r λa=>a=ak:=by induction n generalizing b g e d;exact bJ;exact⟨by rw[Ea];exact aC⟩
instance {d h n b g f e}:au (Nh N d h n b g f e) (aN8 d<=24/\(∀t∈d,aN9 t)/\aOi d e h n/\aN8 g=aN8 b/\aN9 b/\0<=f/\f<=1000000*e) λr=>iX r (λa=>aN8 a.1=aN8 b/\∀t∈d.drop e.toNat,∀i∈t,aOa i b)/\fh r λa=>a=ak:=by induction n generalizing b g f e;exact bJ;exact⟨by rw[Nh];exact aC⟩
instance {a}:au (HD N a) (aN8 a.aN'<=96/\aN8 a.aH<=24/\(∀t∈a.aH,aN8 t<=40000)) λr=>(r.2=aa->aN8 r.1=aN8 a.aN'/\∀t∈a.aH,∀i∈t,aOa i a.aN'):=⟨by rw[HD];exact aC⟩
instance {U}:au (D6 U) (True) λr=>r=ak->aN8 U.aN'<=96/\aN8 U.aOq<=16/\aN8 U.aH<=24:=⟨by rw[D6];exact aC⟩
instance {U a b}:au (Nd N U a b) (0<=a/\a<=aN8 U.aOq/\aN8 U.aOq<=1000) λr=>r=ak->aOa b U.aH:=⟨by rw[Nd];exact aC⟩
instance {U b e n d}:au (Nc N U b e n d) (b=U.aOq/\aN8 U.aOq<=1000/\aN9 b/\aOi b d e n) λr=>fh r λa=>a=ak:=by induction n generalizing d;exact bJ;exact⟨by rw[Nc];exact aC⟩
instance {U a}:au (aCD U a) (True) λr=>r=ak->aOa a.dS U.aOq:=⟨by rw[aCD];exact aC⟩
instance {U d e n b}:au (aBU U d e n b) (aN9 d/\aOi d b e n) λr=>iX r (λ_=>∀i∈d.drop b.toNat,aOa i.dS U.aOq)/\fh r λa=>a=ak:=by induction n generalizing b;exact bJ;exact⟨by rw[aBU];exact aC⟩
instance {a}:au (RV N a) (∀t∈a.aH,aN8 t<=40000) λr=>r=aa->gu a/\vV N a:=⟨by rw[RV];exact aOr @vV.eq_1⟩
instance {b n d a}:au (Oz b n d a) (aOf d b n/\b=aN8 a/\aN9 a) λr=>aN8 r=aN8 a:=by induction n generalizing d a;exact bJ;exact⟨by rw[Oz];exact aC⟩
instance {a}:au (Sg N a) (gu a/\vV N a) λr=>r.1.d=a/\aN8 r.2.1=aN8 a.aN'/\aN8 r.2.2=aN8 a.aN':=⟨by rw[Sg];exact aOr @vV.eq_1⟩
instance {a U}:au (SG a U) (l5 a/\aOa U a.d.aN') λr=>True:=⟨by rw[SG];exact aC⟩
instance {a U b}:au (xm a U b) (l5 a/\aOa U a.d.aN'/\aOa b a.d.aN') λr=>True:=⟨by rw[xm];exact aC⟩
instance {a U b}:au (qz a U b) (l5 a/\aOa U a.d.aN'/\aOa b a.d.aN') λr=>True:=⟨by rw[qz];exact aC⟩
instance {a U b}:au (Ec a U b) (l5 a/\aOa U a.d.aN'/\aOa b a.d.aN') λr=>True:=⟨by rw[Ec];exact aC⟩
instance {a U b}:au (RY a U b) (l5 a/\aOa U a.d.aN'/\aOa b a.d.aN') λr=>True:=⟨by rw[RY];exact aC⟩
instance {a U b}:au (Eg a U b) (l5 a/\aOa U a.d.aN') λr=>True:=⟨by rw[Eg];exact aC⟩
instance {a U b}:au (RZ a U b) (l5 a/\aOa U a.d.aN') λr=>True:=⟨by rw[RZ];exact aC⟩
instance {a U b}:au (C7 a U b) (l5 a/\aOa U a.d.aN') λr=>True:=⟨by rw[C7];exact aC⟩
instance {b a}:au (aPb b a) (True) λr=>r=ak->aOa a b.d.aN':=⟨by rw[aPb];exact aC⟩
instance {a b}:au (aPc a b) (True) λr=>True:=⟨by rw[aPc];exact aC⟩
instance {a U b}:au (aPd a U b) (l5 a/\aOa U a.d.aN'/\aOa b a.d.aN') λr=>True:=⟨by rw[aPd];exact aC⟩
instance {a U b e}:au (aPe a U b e) (l5 a/\aOa U a.d.aN'/\aOa b a.d.aN') λr=>True:=⟨by rw[aPe];exact aC⟩
instance {a U b e}:au (aPf a U b e) (l5 a/\aOa U a.d.aN'/\aOa b a.d.aN') λr=>True:=⟨by rw[aPf];exact aC⟩
instance {a U b e f}:au (Rh a U b e f) (l5 a/\aOa U a.d.aN') λr=>True:=⟨by rw[Rh];exact aC⟩
instance {b U f e g}:au (F1 b U f e g) (l5 b/\aOa U b.d.aN'/\1<=aN8 e/\aN8 e<=1000) λr=>iX r (λa=>aN8 a.2<=1000)/\fh r λa=>a.1.aOk=U/\a.1.ib<aN8 b.d.aN':=⟨by rw[F1];exact aC⟩
instance {b U i h g n f e}:au (aJO b U i h g n f e) (l5 b/\aOa U b.d.aN'/\aOi b.d.aN' e g n) λr=>fh r λa=>a.1.aOk=U/\a.1.ib<aN8 b.d.aN':=by induction n generalizing f e;exact bJ;exact⟨by rw[aJO];exact aC⟩
instance {b U i h f n g e}:au (O2 N b U i f h n g e) (l5 b/\aOa U b.d.aN'/\aN8 f<=1000/\aOi f e h n) λr=>fh r λa=>a.1.aOk=U/\a.1.ib<aN8 b.d.aN':=by induction n generalizing g e;exact bJ;exact⟨by rw[O2];exact aC⟩
instance {a U b}:au (S4 N a U b) (l5 a/\aOa U a.d.aN') λr=>r.2=aa->r.1.aOk=U/\r.1.ib<aN8 a.d.aN':=⟨by rw[S4];exact aC⟩
end
section
def TG(a:List Int)(p:b6):Prop:=0<=p.aOk/\p.aOk<aN8 a/\p.ib<aN8 a/\∀c,al a p.aOk=J c->c<0
def rp(a:List Int)(x r:List b6):Prop:=∃q,r=x++q/\∀p∈q,TG a p
theorem afS{a:List Int}{x:List b6}:rp a x x:=⟨[],by simp⟩
theorem afT{a:List Int}{x:List b6}{p:b6}(h:TG a p):rp a x (x++[p]):=⟨[p],rfl,by simpa using h⟩
theorem afU{d:List Int}{x y z:List b6}(h:rp d x y)(k:rp d y z):rp d x z:=by
 obtain⟨q,rfl,a⟩:=h;obtain⟨s,rfl,b⟩:=k;exact⟨q++s,by simp,λp m=>(kU.mp m).elim (a p) (b p)⟩
theorem afQ{b:List Int}{x r:List b6}(h:rp b x r):aN8 x<=aN8 r/\(kV (aN8 b) x->kV (aN8 b) r)/\∀k p,(aN8 x:Int)<=k->al r k=J p->∀c,al b p.aOk=J c->c<0:=by
 obtain⟨q,rfl,a⟩:=h;refine⟨by simp,λh p m=>(kU.mp m).elim (h p) λm=>⟨(a p m).1,(a p m).2.1,(a p m).2.2.1⟩,λk p l e=>?_⟩;have:p∈q:=by unfold al at e;rw[if_pos (by omega),kT (by omega)] at e;exact mM e
 exact(a p this).2.2.2
def afR{b:List Int}{x r:List b6}(h:rp b x r)(l:aN8 x<aN8 r):∃p c,al r (aN8 x)=J p/\al b p.aOk=J c/\c<0:=by
 obtain⟨p,e⟩:=hT (xs:=r) (i:=aN8 x) (by omega) (by omega);obtain⟨q,rfl,a⟩:=h;have:p∈q:=by unfold al at e;rw[if_pos (by omega),kT (by omega)] at e;exact mM e
 have n:=a p this;obtain⟨c,f⟩:=hT n.1 n.2.1;exact⟨p,c,e,f,n.2.2.2 c f⟩
attribute [grind .] afS
attribute [grind->] afU afQ
attribute [grind <-] afT
variable {N:Nat}[gM N]
instance {a b h f g e}:au (aKQ N a b h f g e) (gu a.d/\aN8 g=aN8 a.d.aN'/\aN8 e=aN8 a.d.aN'/\aN8 b<=2000000/\aOa f a.d.aN') λr=>rp e b r/\aN8 r<=aN8 b+1:=⟨by rw[aKQ];exact aOr @TG.eq_1⟩
instance {b i f h g n a e}:au (aJu N b i f h g n a e) (gu b.d/\aN8 h=aN8 b.d.aN'/\aN8 g=aN8 b.d.aN'/\aOi b.d.aN' e f n/\aN8 a<=1000000+e) λr=>rp g a r/\aN8 r<=aN8 a+(f-e):=by induction n generalizing a e;exact bJ;exact⟨by rw[aJu];exact aC⟩
instance {b g f d n e a}:au (aJv b g d f n e a) (0<=g/\d.1<=aN8 b/\d.2=aN8 b/\f=aN8 b-d.1/\aN9 b/\aOf e f n/\aN9 a/\kV (aN8 a) b) λr=>aN8 r=aN8 a/\ky r<=ky a/\∀p c,e<f->al b (d.1+e)=J p->al a p.aOk=J c->c<0->ky r+1<=ky a:=by induction n generalizing e a;exact bJ;exact⟨by rw[aJv];exact aOr (oE @apx @Kg)⟩
instance {a d b}:au (aKR a d b) (aN9 a) λr=>r=aa↔0<d/\aN8 a=b:=⟨by rw[aKR];exact aC⟩
instance {U b g n f a e}:au (Nb N U b g n f a e) (gu b.d/\U=b.d/\aN8 g=aN8 b.d.aN'/\aN8 e=aN8 b.d.aN'/\0<=a/\a+ky e<=97/\((a=0->ky e<=96))/\ky e+(if a=0 then 1 else 0)<n/\aN8 f<=100*a/\kV (aN8 b.d.aN') f) λr=>aN8 r<=100000/\kV (aN8 b.d.aN') r:=by induction n generalizing f a e with|zero=>exact bJ|succ n i=>exact⟨by rw[Nb];(repeat' with_reducible first|intro _|apply dq|apply dh|refine dj (by omega) ?_|apply di|apply dk|apply df|apply eC|apply dr|apply dg)<;>first|grind -mbtc|(rename_i h y z l H m C s t E w B F x I K;subst z;clear i;rcases Nat.lt_or_ge (aN8 f) (aN8 l) with q|q<;>first|(obtain⟨p,c,A,j,k⟩:=afR m.1 q;have:=B.2.2 p c (by simp only[List.length_drop,List.length_take,sG];omega) (by simpa using A) j k;grind -mbtc)|grind -mbtc)⟩
instance {a}:au (RU N a) (∀t∈a.aH,aN8 t<=40000) λr=>r.2=0->aN8 r.1<=100000/\kV (aN8 a.aN') r.1/\gu a/\vV N a:=⟨by rw[RU];exact aOr (oE @agj @VT)⟩
instance {a b d}:au (aBV a b d) (aN8 d=aN8 a.aN') λr=>r=ak->aOa b.aOk a.aN':=⟨by rw[aBV];exact aC⟩
instance {b d g n e f}:au (aCE b d g n e f) (aN9 d/\aOi d e g n/\aN8 f=aN8 b.aN') λr=>iX r (λa=>aN8 a=aN8 b.aN'/\∀p∈d.drop e.toNat,aOa p.aOk b.aN')/\fh r λa=>a=ak:=by induction n generalizing e f;exact bJ;exact⟨by rw[aCE];exact aC⟩
instance {b e i g h n f}:au (aDW b e i g h n f) (gu b.d/\aN8 g=aN8 b.d.aN'/\aN8 h=aN8 b.d.aN'/\(∀p∈e,aOa p.aOk b.d.aN')/\aN9 e/\aOi e f i n) λr=>fh r λa=>a=ak:=by induction n generalizing f;exact bJ;exact⟨by rw[aDW];exact aC⟩
instance {a b e f g}:au (aKS a b e f g) (gu a.d/\aN8 g=aN8 a.d.aN'/\aN8 f=aN8 a.d.aN'/\aOa b a.d.aN'/\aOa e a.d.aN') λr=>True:=⟨by rw[aKS];exact aC⟩
instance {a b e h f g}:au (aKT a b e h f g) (gu a.d/\aN8 g=aN8 a.d.aN'/\aN8 f=aN8 a.d.aN'/\aOa b a.d.aN'/\aOa e a.d.aN') λr=>True:=⟨by rw[aKT];exact aC⟩
instance {b f i g h n e}:au (aJw b f g i h n e) (gu b.d/\aN8 h=aN8 b.d.aN'/\aN8 g=aN8 b.d.aN'/\aOa f b.d.aN'/\aOi b.d.aN' e i n) λr=>fh r λa=>a=ak:=by induction n generalizing e;exact bJ;exact⟨by rw[aJw];exact aC⟩
instance {e b f g h}:au (aDX N e b f g h) (gu b.d/\aN8 h=aN8 b.d.aN'/\e=b.d/\aN8 f=aN8 b.d.aN'/\aOa g b.d.aN') λr=>fh r λa=>a=ak:=⟨by rw[aDX];exact aC⟩
instance {g b e h i n f}:au (aBW N g b e h i n f) (gu b.d/\aN8 i=aN8 b.d.aN'/\g=b.d/\aN8 e=aN8 b.d.aN'/\aOi e f h n) λr=>fh r λa=>a=ak:=by induction n generalizing f;exact bJ;exact⟨by rw[aBW];exact aC⟩
instance {a U}:au (RW N a U) (gu a/\vV N a/\aN9 U) λr=>True:=⟨by rw[RW];exact aC⟩
instance {a U}:au (RT N a U) ((∀t∈a.aH,aN8 t<=40000)/\aN9 U) λr=>r.2=0->gu a/\vV N a:=⟨by rw[RT];exact aC⟩
end
section
@[grind=] theorem axw{d:Type}{b:List d}{a:d}{k:Int}:al (b++[a]) k=if k=aN8 b then J a else al b k:=by
 unfold al;by_cases h:0<=k
 ·rw[if_pos h,if_pos h];by_cases e:k=aN8 b
  ·subst e;simp
  ·rw[if_neg e];by_cases l:k<aN8 b
   ·rw[kS (by omega)]
   ·rw[Tz (by simp;omega),Tz (by omega)]
 ·rw[if_neg h,if_neg h,if_neg (by omega)]
theorem amN{s:List (List Int)}{t:List Int}(h:t∈s):aN8 t<=aN8 s.flatten:=(af4 h).length_le
theorem amO{s:List (List Int)}{t:List Int}{i:Int}(h:t∈s)(k:i∈t):i∈s.flatten:=AD.mpr ⟨t,h,k⟩
attribute [grind->] amN
attribute [grind<=] amO
theorem azK{s:List (List Int)}{a w:Int}{t:List Int}(h:al s a=J t):aN8 (s.set a.toNat (t++[w])).flatten=aN8 s.flatten+1:=by simpa using(afw (w:=w) h).length_eq
theorem azL{s:List (List Int)}{a w i:Int}{t:List Int}(h:al s a=J t):i∈(s.set a.toNat (t++[w])).flatten↔i=w\/i∈s.flatten:=by rw[(afw (w:=w) h).mem_iff];exact ha
attribute [grind=] azK azL
theorem amP{n:Nat}:(gb n ([]:List Int)).flatten=[]:=by simp
attribute [grind=] amP
def yk(y:bq)(b:List c4)(d:List Int):Prop:=∀k a w,al b k=J a->al d k=J w->0<=a.dS->a.dS<aN8 y.b2/\nV y w
variable {N:Nat}[gM N]
instance {b f n e a d}:au (NI b f n e a d) (aN9 b/\aOi b a f n/\aN8 d=a) λr=>aN8 r.2=aN8 b:=by induction n generalizing e a d;exact bJ;exact⟨by rw[NI];exact aC⟩
instance {U d b a}:au (aKK N U d b a) (aN8 U.bo.bD<=1000/\aN9 a) λr=>True:=⟨by rw[aKK];exact aC⟩
instance {U f d b e a}:au (aKJ N U f b d e a) (aN8 U.bo.bD<=1000/\aOa d b/\aN8 a<=100000000/\aN9 b/\aN9 e) λr=>(∀i∈r.2,i∈a\/i∈b)/\aN8 r.2<=aN8 a+1:=⟨by rw[aKJ];exact aC⟩
instance {U h e d g n f b a}:au (MQ N U h d e g n f b a) (aN8 U.bo.bD<=1000/\aN9 d/\aN9 g/\aOi d b e n/\aN8 a<=90000000+b) λr=>(∀i∈r.2,i∈a\/i∈d)/\aN8 r.2<=aN8 a+(e-b):=by induction n generalizing f b a;exact bJ;exact⟨by rw[MQ];exact aC⟩
instance {U a f g n e d b}:au (EE N U a f g n e d b) (aN8 U.bo.bD<=1000/\aN8 a<=24/\(∀t∈a,aN8 t<=40000)/\aN9 g/\aOi a d f n/\aN8 b<=40000*d) λr=>(∀i∈r.2,i∈b\/∃u∈a,i∈u)/\aN8 r.2<=960000:=by induction n generalizing e d b;exact bJ;exact⟨by rw[EE];exact aC⟩
instance {U a f n e b d}:au (aIS N U a f n e b d) (aN8 U.b2<=8/\(∀o∈U.b2,aN9 o.c7)/\(∀i∈a,aOa i U.bD)/\aN9 a/\aOi a b f n/\aN8 d=b/\yk U d a) λr=>aN8 r.2=aN8 a/\yk U r.2 a:=by induction n generalizing e b d;exact bJ;exact⟨by rw[aIS];exact aOr @yk.eq_1⟩
instance {a b d e}:au (aI3 N a b e d) (aOa e b/\aN9 a/\aN9 b/\aN9 d) λr=>aN8 r<=aN8 a+1:=⟨by rw[aI3];exact aC⟩
instance {b e f n d a}:au (aIU N b f e n d a) (aN9 b/\aN9 e/\aOi b a f n/\aN8 d<=a) λr=>aN8 r<=aN8 b:=by induction n generalizing d a;exact bJ;exact⟨by rw[aIU];exact aC⟩
instance {a g f n e b d}:au (aIT N a g f n e b d) (aN8 a<=24/\(∀t∈a,aN8 t<=40000)/\aN9 f/\aOi a b g n/\aN8 d<=b/\(∀t∈d,aN8 t<=40000)) λr=>aN8 r.2<=24/\∀t∈r.2,aN8 t<=40000:=by induction n generalizing e b d;exact bJ;exact⟨by rw[aIT];exact aC⟩
instance {a}:au (RI N a) (aN8 a.aH<=24/\(∀t∈a.aH,aN8 t<=40000/\∀i∈t,aOa i a.bD)/\aN8 a.bo.bD<=1000/\aN8 a.b2<=8/\(∀o∈a.b2,aN9 o.c7)) λr=>r.2.2=0->aN8 r.1.aN'=aN8 r.2.1/\aN8 r.1.aOq=aN8 a.b2/\(∀t∈r.1.aH,aN8 t<=40000)/\(∀w∈r.2.1,(∃u∈a.aH,w∈u)/\aOa w a.bD)/\yk a r.1.aN' r.2.1:=⟨by rw[RI];exact aOr @yk.eq_1⟩
instance {a U}:au (Hp a U) (True) λr=>True:=⟨by rw[Hp];exact aC⟩
instance {b U d n a}:au (Cx b U d n a) (aN9 b/\aOi b a d n) λr=>True:=by induction n generalizing a;exact bJ;exact⟨by rw[Cx];exact aC⟩
instance {a U}:au (Qu N a U) (aN9 a) λr=>True:=⟨by rw[Qu];exact aC⟩
instance {a U}:au (Qr N a U) (aN9 a) λr=>True:=⟨by rw[Qr];exact aC⟩
instance {U f a d e b}:au (Nf N U f a d b e) (aOa d a/\aOa e b/\aN8 a.flatten<=100000000/\aN9 U/\aN9 a/\aN9 b) λr=>aN8 r=aN8 a/\aN8 r.flatten<=aN8 a.flatten+1/\∀i∈r.flatten,i∈a.flatten\/i∈b:=⟨by rw[Nf];exact aC⟩
instance {U g e f d n a b}:au (D8 N U g e d f n a b) (0<=e/\aN9 U/\aN9 d/\aOi d b f n/\e<aN8 a/\aN8 a.flatten<=90000000+b/\aN9 a) λr=>aN8 r=aN8 a/\aN8 r.flatten<=aN8 a.flatten+(f-b)/\∀i∈r.flatten,i∈a.flatten\/i∈d:=by induction n generalizing a b;exact bJ;exact⟨by rw[D8];exact aC⟩
instance {U f a e n b d}:au (D7 N U f a e n b d) (aN8 a<=24/\(∀t∈a,aN8 t<=40000)/\aN9 U/\aOi a d e n/\aN8 b=aN8 a/\aN8 b.flatten<=40000*d) λr=>aN8 r=aN8 a/\aN8 r.flatten<=960000/\∀i∈r.flatten,i∈b.flatten\/i∈a.flatten:=by induction n generalizing b d;exact bJ;exact⟨by rw[D7];exact aC⟩
instance {a U b}:au (RX N a U b) (aN8 a.aH<=24/\(∀t∈a.aH,aN8 t<=40000)/\aN9 U) λr=>aN8 r<=24/\aN8 r.flatten<=960000/\∀i∈r.flatten,i∈a.aH.flatten:=⟨by rw[RX];exact aC⟩
instance {a}:au (MD a) (a=ak) λr=>True:=⟨by rw[MD];exact aC⟩
instance {U a}:au (ME U a) (a=decide (0<U)/\U<=100000000) λr=>r=[]:=⟨by rw[ME];(repeat' with_reducible first|intro _|apply dq|apply dh|refine dj (by omega) ?_|apply di|apply dk|apply df|apply eC|apply dr|apply dg)<;>first|grind -mbtc|(subst_vars;simp)⟩
instance {U}:au (QT U) (0<=U/\U<=100000000) λr=>r=[]:=⟨by rw[QT];exact aC⟩
instance {b d a}:au (My b a d) (aOa d a/\0<=b/\b<=100000000/\(∀t∈a,aN8 t<=3000000)/\aN9 a) λr=>0<=r/\r<=b+3000000:=⟨by rw[My];exact aC⟩
instance {b e n d a}:au (DA b e n d a) ((∀t∈b,aN8 t<=3000000)/\aN8 b<=24/\aOi b a e n/\0<=d/\d<=3000000*a) λr=>0<=r/\r<=72000000:=by induction n generalizing d a;exact bJ;exact⟨by rw[DA];exact aC⟩
instance {a e n d b}:au (DB a e n d b) ((∀t∈a,aN8 t<=3000000)/\aN8 a<=24/\aOi a b e n/\aN8 d<=3000000*b) λr=>aN8 r<=72000000/\r=d++(a.drop b.toNat).flatten:=by induction n generalizing d b;exact bJ;exact⟨by rw[DB];exact aC⟩
instance {a}:au (QQ N a) ((∀t∈a,aN8 t<=3000000)/\aN8 a<=24) λr=>aN8 r<=72000000/\r=a.flatten:=⟨by rw[QQ];exact aC⟩
instance {a}:au (Fe a) (True) λr=>True:=⟨by rw[Fe];exact aC⟩
instance {b a g n f d e}:au (aIW b a g n f d e) ((∀i∈a,aOa i b.aN')/\aN8 a<=100000000/\aOi a d g n/\aN8 e=d/\(∀i∈e,i∈b.aN')) λr=>aN8 r.2=aN8 a/\∀i∈r.2,i∈b.aN':=by induction n generalizing f d e;exact bJ;exact⟨by rw[aIW];exact aC⟩
instance {a U b}:au (SF N a U b) ((∀t∈a.aH,aN8 t<=40000)/\aN8 U<=1000000) λr=>r.2.2=0->aN8 r.1.aN'=aN8 r.2.1/\aN8 r.2.1<=96/\(∀i∈r.2.1,0<=i/\i<aN8 a.aN')/\(∀i∈r.1.aN',0<=i.dS/\i.dS<aN8 a.aOq)/\gu a:=⟨by rw[SF];simp only[yo];(repeat' with_reducible first|intro _|apply dq|apply dh|refine dj (by omega) ?_|apply di|apply dk|apply df|apply eC|apply dr|apply dg)<;>first|grind -mbtc|grind -mbtc[AD]⟩
end
section
def GT(s:cn):Prop:=s.front=ak/\s.aOt≠ -1/\s.to≠ -1
theorem afX{s:cn}(h:GT s):s.front=ak:=h.1
theorem afY{y:bq}{a:List c4}{d:List Int}(h:yk y a d)(l:aN8 a=aN8 d)(k:∀i∈a,0<=i.dS):∀w∈d,nV y w:=λw m=>by
 obtain⟨i,e⟩:=uL m;have b:=ku e;obtain⟨g,f⟩:=hT (xs:=a) (i:=i) b.1 (by omega);exact(h i g w f e (k g (lP f))).2
def agk{y z:bq}(h:kC y)(p:z.bo=y.bo)(t:aN8 z.aH=aN8 y.aH)(o:z.b2=y.b2):kC z:=by
 unfold kC at*;rw[p,t,o];exact h
attribute [grind->] afX
variable {N:Nat}[gM N]
instance {a}:au (Ry a) (True) λr=>r=Step.mk a.c (bq.mk a.y.bD a.y.aH a.y.b2 ak (eR.mk [] (b8.mk [] 0) (e8.mk (dF.mk 0 []) []) 0 [] 0) ak) a.e a.r:=⟨by rw[Ry];exact aC⟩
instance {a U}:au (Hl N a U) (aN9 U) λr=>r=aa↔a∈U:=⟨by rw[Hl];exact aC⟩
instance {f a d n e b}:au (OC f a d n e b) ((∀i∈a,aOa i f.y.bD)/\aN9 a/\aOi a b d n) λr=>True:=by induction n generalizing e b;exact bJ;exact⟨by rw[OC];exact aC⟩
instance {a U}:au (Sh N a U) ((∀i∈U,aOa i a.y.bD)/\aN9 U) λr=>True:=⟨by rw[Sh];exact aC⟩
instance {d b f e a}:au (Mo d b f a e) (aN8 d.fW=aN8 a/\0<=b/\aOa e a/\aN9 a) λr=>True:=⟨by rw[Mo];exact aC⟩
instance {g f d a n e b}:au (Dn g f a d n e b) (aN8 g.fW=aN8 a/\0<=f/\d=aN8 a/\aN9 a/\aOf b d n) λr=>True:=by induction n generalizing e b;exact bJ;exact⟨by rw[Dn];exact aC⟩
instance {d f h b n g}:au (Dm N d f h b n g) (aN8 h.fW=aN8 f.aN'/\aN9 f.aN'/\b<=aN8 d.e.aH/\b<=1000000/\0<=b/\(∀t∈d.e.aH,aOa t d.c.aH)/\aOf g b n) λr=>fh r λa=>a≠0:=by induction n generalizing g;exact bJ;exact⟨by rw[Dm];exact aC⟩
instance {d e b a}:au (Mp d e a b) (aOa b a/\aN9 a) λr=>True:=⟨by rw[Mp];exact aC⟩
instance {f e b n d a}:au (Dq f b e n d a) (aN9 b/\aOi b a e n) λr=>True:=by induction n generalizing d a;exact bJ;exact⟨by rw[Dq];exact aC⟩
instance {e b f d a}:au (Mq N e b f a d) (aOa d a/\(∀i∈a,aOa i e.y.bD)/\aN9 b/\aN9 a) λr=>True:=⟨by rw[Mq];exact aC⟩
instance {g d a f n e b}:au (Dr N g d a f n e b) ((∀i∈a,aOa i g.y.bD)/\aN9 d/\aN9 a/\aOi a b f n) λr=>True:=by induction n generalizing e b;exact bJ;exact⟨by rw[Dr];exact aC⟩
instance {d h g b e n f}:au (Dp N d h g b e n f) (jr d.c d.y/\b=d.y.b2/\e=aN8 b/\aN8 b<=100/\aN9 g.aN'/\aN9 h/\aOf f e n) λr=>fh r λa=>a≠0:=by induction n generalizing f;exact bJ;exact⟨by rw[Dp];exact aC⟩
instance {a U b d}:au (QF N a U b d) (jr a.c a.y/\aN8 b.fW=aN8 U.aN'/\aN9 U.aN'/\0<=b.aOm/\b.aOm<=10000/\(∀t∈a.e.aH,aOa t a.c.aH)/\aN9 d) λr=>r=0->b.aOm<=aN8 a.e.aH:=⟨by rw[QF];exact aC⟩
instance {a U b d}:au (x1 N a U b d) (jr a.c a.y/\aN8 a.e.aH<=100/\aOa a.e.cq a.c.aH/\(∀t∈a.e.aH,aOa t a.c.aH)/\aN8 b.aN'=aN8 U/\aN8 U<=1000/\(∀i∈b.aN',aOa i.dS a.y.b2)/\(∀i∈U,nV a.y i)/\aN9 d) λr=>r.1=0->r.2.c=a.c/\r.2.e=a.e/\r.2.r.vv=a.r.vv/\r.2.y.bD=a.y.bD/\r.2.y.aH=a.y.aH/\r.2.y.b2=a.y.b2/\kC r.2.y/\r.2.y.bo.bD=U/\r.2.y.bo.aOs=a.e.cq/\(∀t∈r.2.y.bo.aH,t∈a.e.aH)/\nW r.2.y/\nq r.2.y.bo:=⟨by rw[x1];exact aOr @nW.eq_1⟩
instance {e d f n b}:au (aJx N e d f n b) (aN9 e/\aN9 d/\aOi d b f n) λr=>iX r (λ_=>∀i∈d.drop b.toNat,i∈e)/\fh r λa=>a≠0:=by induction n generalizing b;exact bJ;exact⟨by rw[aJx];exact aC⟩
instance {e f b g n d}:au (MP N e f b g n d) ((∀t∈b,aOa t e.y.aH)/\(∀t∈e.y.aH,aN9 t)/\aN9 f/\aN9 b/\aOi b d g n) λr=>iX r (λ_=>∀t∈b.drop d.toNat,∀q,al e.y.aH t=J q->∀i∈q,i∈f)/\fh r λa=>a≠0:=by induction n generalizing d;exact bJ;exact⟨by rw[MP];exact aC⟩
instance {b a g n d f}:au (aIN N b a g n d f) ((∀i∈a,i∈b.y.aH.flatten)/\0<=b.e.cq/\aN8 b.y.aH<=24/\(∀t∈b.y.aH,aN9 t)/\aN9 a/\aOi a f g n/\aN8 d<=f/\(∀s∈d,uc a s)) λr=>aN8 r<=aN8 a/\∀s∈r,uc a s:=by induction n generalizing d f;exact bJ;exact⟨by rw[aIN];exact aOr @uc.eq_1⟩
instance {d U w L}:au (HE N d U w L) (jr d.c d.y/\aN8 d.e.aH<=100/\0<=d.e.cq/\d.e.cq<aN8 d.c.aH/\(∀t∈d.e.aH,0<=t/\t<aN8 d.c.aH)/\aN8 w.aN'=aN8 U/\aN8 U<=1000/\(∀i∈w.aN',0<=i.dS/\i.dS<aN8 d.y.b2)/\(∀i∈U,nV d.y i)/\(∀i∈U,(∃u∈d.y.aH,i∈u)/\0<=i/\i<aN8 d.y.bD)/\aN9 L) λr=>r.1=0->rr d r.2:=⟨by rw[HE];(repeat' with_reducible first|intro _|apply dq|apply dh|refine dj (by omega) ?_|apply di|apply dk|apply df|apply eC|apply dr|apply dg)<;>first|grind -mbtc|((with_reducible repeat' apply oE)<;>first|grind -mbtc|(rename_i h y R K F k j C el O E H f B p I s g;have a:=s (by simpa using g);dsimp only at a;intro i m;rw[a.2.2.2.2.1];exact AD.mpr (h.2.2.2.2.2.2.2.2.2.1 i m).1))|(rename_i h y R K F k j C el O E H f B p I s g Q x M S A n z;have a:=s (by simpa using g);have b:=n z;have j:=j.1;clear s n I x A el H k;subst K;simp only[Jn,List.cons_append,aLD] at j;dsimp only[zZ] at a b M j;have P:gH p.2.y:=(by intro _ _ t f q e i m;rw[a.2.2.2.2.1] at e;rw[a.2.2.2.2.2.2.2.1];refine j t ?_ q e i m;rw[a.2.2.2.2.2.2.2.2.1] at f;rcases f with f|f;exact ha.mpr (.inl f);exact ha.mpr (.inr (a.2.2.2.2.2.2.2.2.2.1 t f)));refine IG h.1 ?_ ?_ ?_ ?_ ?_ ?_ ?_ ?_<;>first|grind -mbtc|(have m:=b.2.2.2.2.2.2.2;rw[a.1,a.2.2.2.1,a.2.2.2.2.1,<-b.2.2.2.1] at m;refine⟨m,?_⟩;rw[b.2.2.2.1];grind -mbtc)|(intro _ _;exact⟨agk (y:=p.2.y) a.2.2.2.2.2.2.1 (by rw[b.2.2.1]) b.2.2.2.2.2.2.1.1 (by rw[b.2.2.1]),YM (y:=p.2.y) a.2.2.2.2.2.2.2.2.2.2.1 (by rw[b.2.2.1]) (by rw[b.2.2.1]) (by rw[b.2.2.1];exact YY _)⟩)|exact Y6 (y:=p.2.y) (l:=Q) P (by grind -mbtc) (by grind -mbtc))⟩
instance {a d b}:au (aKF a d b) ((b=aa->aOa d.ib a)/\aN9 a) λr=>True:=⟨by rw[aKF];exact aC⟩
instance {d b g n f a e}:au (aJo d b g n f a e) (kV (aN8 d) b/\aN9 d/\aN9 b/\aOi b a g n/\aN8 e<=1000000+a) λr=>r.1=He f/\aN8 r.2<=3000000:=by induction n generalizing f a e;exact bJ;exact⟨by rw[aJo];exact aC⟩
instance {a b f n d e}:au (aIF a b f n d e) ((∀i∈b,aOa i a)/\aN9 a/\aN9 b/\aOi b e f n/\aN8 d=e/\(∀w∈d,w∈a)) λr=>aN8 r=aN8 b/\∀w∈r,w∈a:=by induction n generalizing d e;exact bJ;exact⟨by rw[aIF];exact aC⟩
instance {a b d}:au (Rz N a b d) (jr a.c a.y/\iW a.e/\aN8 d<=1000/\b=[]/\a.r.vv=[]/\aN9 b) λr=>r.1=0->rr a r.2:=⟨by rw[Rz];(repeat' with_reducible first|intro _|apply dq|apply dh|refine dj (by omega) ?_|apply di|apply dk|apply df|apply eC|apply dr|apply dg)<;>first|grind -mbtc|((with_reducible repeat' apply oE)<;>first|grind -mbtc|grind -mbtc[->afY])|(rename_i i f h _;subst h;refine IG (by grind -mbtc) rfl rfl rfl ?_ ?_ ?_ ?_ ?_<;>first|grind -mbtc|(intro g;cases g))⟩
instance {a U b}:au (aC' a U b) (aN9 a) λr=>r=ak->0<=U/\U<aN8 a/\aOa b a:=⟨by rw[aC'];exact aC⟩
instance {b a}:au (aDa b a) (aN9 a) λr=>r=ak->0<=b/\b<=aN8 a:=⟨by rw[aDa];exact aC⟩
instance {U e f b n a d}:au (aAX U e b f n a d) (0<=U/\0<=e/\aN9 b/\aOi b d f n/\aN8 a<=d/\(∀s∈a,GT s)) λr=>aN8 r<=aN8 b/\∀s∈r,GT s:=by induction n generalizing a d;exact bJ;exact⟨by rw[aAX];exact aOr @GT.eq_1⟩
instance {a U b d}:au (Q8 N a U b d) ((∀t∈a,aN9 t)/\aN9 a) λr=>r.2=0->aN9 r.1/\∀s∈r.1,GT s:=⟨by rw[Q8];exact aC⟩
instance {e b d a}:au (Fz e b d a) (aN9 a) λr=>True:=⟨by rw[Fz];exact aC⟩
instance {b d e a}:au (FA N b d e a) (aN9 b.y.b2/\aN9 a) λr=>True:=⟨by rw[FA];exact aC⟩
instance {d f}:au (Si N d f) (jr d.c d.y/\aN9 f) λr=>r.1=0->rr d r.2:=⟨by rw[Si];(repeat' with_reducible first|intro _|apply dq|apply dh|refine dj (by omega) ?_|apply di|apply dk|apply df|apply eC|apply dr|apply dg)<;>first|grind -mbtc|(rename_i m j g e l i h z;have a:=g (by simpa using e);have b:=h z;clear h g i;refine IG (by grind -mbtc) ?_ ?_ ?_ ?_ ?_ ?_ ?_ ?_<;>first|grind -mbtc|(intro k;exfalso;grind -mbtc))⟩
end
section
def aOW(y l:List bC)(q:List Int):Prop:=∀k u w,al q k=J u->al l k=J w->al y u=J w
theorem aRr{y l:List bC}{q:List Int}{k u:Int}{w:bC}(h:aOW y l q)(n:(aN8 l:Int)=k)(e:al q k=J u)(f:al y u=J w):aOW y (l++[w]) q:=λi v x g z=>by
 by_cases c:i<aN8 l
 ·have r:=ku z;refine h i v x g ?_;unfold al at z⊢;rw[if_pos r.1] at z⊢;rw[kS (by omega)] at z;exact z
 ·have r:=ku z;have:i=k:=by simp at r;omega
  subst this;rw[e] at g;cases g;rw[<-n] at z;unfold al at z;rw[if_pos (by omega)] at z;simp at z;rw[f,z]
theorem aRq{y:List bC}{q:List Int}:aOW y [] q:=λk u w _ e=>by simp[al] at e
attribute [grind .] aRq
variable {N:Nat}[gM N]
instance {b d n f a e}:au (FH b d n f a e) (aN8 b<=24/\(∀t∈b,aN9 t)/\d=aN8 b/\0<=a/\a<=d/\d-a<n/\aN8 e<=a) λr=>r.1=qx f/\r.2=e++b.drop a.toNat:=by induction n generalizing f a e with|zero=>exact bJ|succ n g=>exact⟨by rw[FH];(repeat' with_reducible first|intro _|apply dq|apply dh|refine dj (by omega) ?_|apply di|apply dk|apply df|apply eC|apply dr|apply dg)<;>first|grind -mbtc|(simp_all[qx];done)⟩
instance {b d n f a e}:au (NV b d n f a e) (aN8 b<=24/\(∀o∈b,aN9 o.c7)/\d=aN8 b/\0<=a/\a<=d/\d-a<n/\aN8 e<=a) λr=>r.1=qx f/\r.2=e++b.drop a.toNat:=by induction n generalizing f a e with|zero=>exact bJ|succ n g=>exact⟨by rw[NV];(repeat' with_reducible first|intro _|apply dq|apply dh|refine dj (by omega) ?_|apply di|apply dk|apply df|apply eC|apply dr|apply dg)<;>first|grind -mbtc|(simp_all[qx];done)⟩
instance {a}:au (Ss N a) (aN8 a.bD<=1000/\aN8 a.aH<=24/\(∀t∈a.aH,aN9 t)/\aN8 a.b2<=8/\(∀o∈a.b2,aN9 o.c7)/\nq a.bo) λr=>r.1=bq.mk [] a.aH [] a.aOb a.bo a.cE/\r.2.1=a.bD/\r.2.2=a.b2:=⟨by rw[Ss];(repeat' with_reducible first|intro _|apply dq|apply dh|refine dj (by omega) ?_|apply di|apply dk|apply df|apply eC|apply dr|apply dg)<;>first|grind -mbtc|(simp_all[qx];done)⟩
instance {a b}:au (QR a b) (True) λr=>r=ak->b.aOg≠a.e.aOg:=⟨by rw[QR];exact aC⟩
instance {g b f n d}:au (Cz g b f n d) (aN9 b/\aOi b d f n) λr=>iX r (λ_=>∀o∈b.drop d.toNat,o.aOg≠g.e.aOg)/\fh r λa=>aOa a b:=by induction n generalizing d;exact bJ;exact⟨by rw[Cz];exact aC⟩
instance {b a}:au (Qw N b a) (aN9 a) λr=>r<aN8 a/\(r<0->∀o∈a,o.aOg≠b.e.aOg):=⟨by rw[Qw];exact aC⟩
instance {d e n b a}:au (Er d e n b a) (e=aN8 d/\aN9 d/\aOf a e n/\aN8 b<=a) λr=>r=b++lens (d.drop a.toNat):=by induction n generalizing b a;exact bJ;exact⟨by rw[Er];exact aC⟩
instance {a U b}:au (RA N a U b) (mQ a.c.aH/\oJ a.c.aH (lens a.y.bD) a.y.aH/\aN8 a.y.bD<=1000/\aN9 U/\(∀s∈U,s.front=ak)/\aN9 b) λr=>(r.1=0->r.2.c=a.c/\r.2.e=a.e/\r.2.y=bq.mk a.y.bD r.2.y.aH a.y.b2 a.y.aOb a.y.bo a.y.cE/\r.2.r.vv=U/\iY a.c.aH (lens a.y.bD) r.2.y.aH/\aN8 r.2.y.aH.flatten=aN8 a.y.aH.flatten+lo U/\az1 a.c.aH (lens a.y.bD) U a.y.aH r.2.y.aH/\r.2.r.err=a.r.err)/\r.1≠7/\r.1≠12:=⟨by rw[RA];exact aC⟩
instance {e g a h n f d b}:au (Nz e g a h n f d b) ((∀i∈a,0<=i/\i<aN8 e.y.bD)/\0<=g.cq/\aN8 a<=1000000/\h=aN8 a/\0<=b/\b<=h/\h-b<n/\aN8 f=b/\aN8 d=b/\(∀w∈f,w∈e.y.bD)/\(∀s∈d,s.front=ak)/\lo d= -b/\(∀s∈d,s.aOt=g.cq/\s.to= -1)/\aOW e.y.bD f a) λr=>aN8 r.1=aN8 a/\aN8 r.2=aN8 a/\(∀w∈r.1,w∈e.y.bD)/\(∀s∈r.2,s.front=ak)/\lo r.2= -aN8 a/\(∀s∈r.2,s.aOt=g.cq/\s.to= -1)/\aOW e.y.bD r.1 a:=by induction n generalizing f d b with|zero=>exact bJ|succ n j=>exact⟨by rw[Nz];(repeat' with_reducible first|intro _|apply dq|apply dh|refine dj (by omega) ?_|apply di|apply dk|apply df|apply eC|apply dr|apply dg)<;>first|grind -mbtc|grind -mbtc[aRr]⟩
end
section
def yp(a:List Bool)(R:List Int):Prop:=R.Nodup/\∀i∈R,al a i=J ak
theorem age{d:List Bool}{R:List Int}{w:Int}(h:yp d (w::R)):yp (d.set w.toNat aa) R/\al d w=J ak:=by
 obtain⟨a,b⟩:=h;rw[TB] at a;have e:=b w (by simp);have l:=ku e;refine⟨⟨a.2,λi m=>?_⟩,e⟩;rw[rM l.1 l.2,if_neg (by rintro rfl;exact a.1 m)];exact b i (by simp[m])
theorem alG{T:List eE}{b:List Int}{s:List (List Int)}(V:iY T b s){k:Int}{a:eE}{t:List Int}(e:al T k=J a)(f:al s k=J t):km b t<=a.aOh:=V.1.2.2.2 k a t e f
theorem agf{T:List eE}{a:List Int}{s:List (List Int)}(V:iY T a s):yp (gb (aN8 a) ak) s.flatten:=⟨V.1.2.2.1.1,λi m=>by
 have:=V.1.2.2.1.2 i m;obtain⟨b,e⟩:=hT (xs:=gb (aN8 a) ak) this.1 (by simp;omega);rw[e,ym (lP e)]⟩
attribute [grind->] age alG agf
variable {N:Nat}[gM N]
end
section
@[grind->] theorem axs{s:List (List Int)}{i:Int}{t:List Int}(e:al s i=J t):aN8 (s.drop i.toNat).flatten=aN8 t+aN8 (s.drop (i+1).toNat).flatten:=by rw[sT e];simp
variable {N:Nat}[gM N]
end
section
def apz{i:Int}(h:0<=i/\i<10):Ac i=J (pj i):=by
 rcases IS h.1 h.2 with rfl|rfl|rfl|rfl|rfl|rfl|rfl|rfl|rfl|rfl<;>rfl
theorem afO{c:c8}(h:oF c):qE c:=by
 obtain⟨g,f,_,_,_,_,b,d,_,a,_⟩:=h;refine⟨⟨by omega,by omega,λt m=>?_⟩,by omega⟩;obtain⟨i,e⟩:=uL m;rw[(b i t e).1];simp[pj]
variable {N:Nat}[gM N]
instance {a}:au (Ac a) (0<=a/\a<10) λr=>r=pj a:=⟨λh=>by rw[apz h];exact⟨nofun,λr e=>(Option.some.inj e).symm⟩⟩
instance {n d e a}:au (MX n d e a) (0<=a/\a<n/\0<=d.n/\d.n+3*a<=20000000/\aN8 e+a<=60/\(∀b∈e,tX b)) λr=>d.n<=r.1.n/\r.1.n<=d.n+3*a/\aN8 r.2<=60/\∀b∈r.2,tX b:=by induction n generalizing d e a with|zero=>exact bJ|succ n f=>exact⟨by rw[MX];(repeat' with_reducible first|intro _|apply dq|apply dh|refine dj (by omega) ?_|apply di|apply dk|apply df|apply eC|apply dr|apply dg)<;>clear f<;>first|grind -mbtc|((with_reducible repeat' apply oE)<;>first|grind -mbtc|grind -mbtc (splits:=60) (ematch:=12)|(simp only[ha,IN,or_false] at*;grind -mbtc (splits:=60)))⟩
instance {a}:au (HC N a) (0<=a.n/\a.n<=10000000) λr=>a.n<=r.2.n/\r.2.n<=a.n+50/\aN8 r.1<=60/\∀b∈r.1,tX b:=⟨by rw[HC];exact aC⟩
instance {e d f}:au (DR e d f) (0<=e.n/\e.n<=20000001/\0<=d.a/\d.a<=1000000/\0<=d.b/\d.b<=1000000/\0<=d.c/\d.c<=1000000) λr=>e.n<=r.1.n/\r.1.n<=e.n+3/\r.2.aOj=d.aOj/\r.2.aOn=d.aOn/\0<=r.2.a/\r.2.a<=1000000/\0<=r.2.b/\r.2.b<=1000000/\0<=r.2.c/\r.2.c<=1000000:=⟨by rw[DR];(repeat' with_reducible first|intro _|apply dq|apply dh|refine dj (by omega) ?_|apply di|apply dk|apply df|apply eC|apply dr|apply dg)<;>first|grind -mbtc|grind -mbtc (gen:=20) (ematch:=20)⟩
instance {a U}:au (R6 a U) (0<=a.n/\a.n<=20000000/\1<=U/\U<=9999) λr=>a.n<=r.2.n/\r.2.n<=a.n+4/\r.1.aOj=U/\pV r.1:=⟨by rw[R6];exact aC⟩
instance {n b d a}:au (EL n b d a) (0<=a/\a<n/\0<=b.n/\b.n+5*a<=20000000/\aN8 d+a<=9/\(∀i r,al d i=J r->10*i+1<=r.aOj/\r.aOj<=10*i+9/\pV r)) λr=>b.n<=r.1.n/\r.1.n<=b.n+5*a/\aN8 r.2<=9/\∀i q,al r.2 i=J q->10*i+1<=q.aOj/\q.aOj<=10*i+9/\pV q:=by induction n generalizing b d a with|zero=>exact bJ|succ n e=>exact⟨by rw[EL];(repeat' with_reducible first|intro _|apply dq|apply dh|refine dj (by omega) ?_|apply di|apply dk|apply df|apply eC|apply dr|apply dg)<;>clear e<;>first|grind -mbtc|grind -mbtc (gen:=20) (ematch:=20)|((with_reducible repeat' apply oE)<;>grind -mbtc (gen:=20) (ematch:=20))⟩
instance {a U}:au (HB N a U) (0<=a.n/\a.n<=10000000/\0<=U/\U<=8) λr=>a.n<=r.2.n/\r.2.n<=a.n+5000/\aN8 r.1<=9/\∀i q,al r.1 i=J q->10*i+1<=q.aOj/\q.aOj<=10*i+9/\pV q:=⟨by rw[HB];exact aC⟩
instance {n b d a e}:au (CN n b d a e) (0<=a/\a<n/\0<=b.n/\b.n+a<=20000000/\aN8 e+a<=9/\(∀i t,al e i=J t->t.aOg=pj i/\1<=t.aOh/\t.aOh<=100000)) λr=>b.n<=r.1.n/\r.1.n<=b.n+a/\aN8 r.2.2=aN8 e+a/\r.2.1.rules=d.rules/\r.2.1.speed=d.speed/\r.2.1.iZ=d.iZ/\∀i t,al r.2.2 i=J t->t.aOg=pj i/\1<=t.aOh/\t.aOh<=100000:=by induction n generalizing b d a e with|zero=>exact bJ|succ n f=>exact⟨by rw[CN];(repeat' with_reducible first|intro _|apply dq|apply dh|refine dj (by omega) ?_|apply di|apply dk|apply df|apply eC|apply dr|apply dg)<;>clear f<;>first|grind -mbtc|((with_reducible repeat' apply oE)<;>first|grind -mbtc|grind -mbtc (splits:=60) (ematch:=12)|(simp only[ha,IN,or_false] at*;grind -mbtc (splits:=60)))⟩
instance {a U}:au (Nr a U) (0<=a.n/\a.n<=10000000) λr=>a.n<=r.1.n/\r.1.n<=a.n+1:=⟨by rw[Nr];exact aC⟩
instance {a b f e d}:au (Ns N a b f e d) (0<=a.n/\a.n<=10000000/\b.rules=[]) λr=>a.n<=r.1.n/\r.1.n<=a.n+5000/\aN8 r.2.1.rules<=9/\r.2.1.speed=b.speed/\r.2.1.iZ=b.iZ/\r.2.2.1=e/\r.2.2.2=d/\∀i q,al r.2.1.rules i=J q->10*i+1<=q.aOj/\q.aOj<=10*i+9/\pV q:=⟨by rw[Ns];exact aC⟩
instance {a U}:au (Rp N a U) (0<=a.n/\a.n<=1000) λr=>a.n<=r.2.n/\r.2.n<=a.n+10000/\oF r.1:=⟨by rw[Rp];(repeat' with_reducible first|intro _|apply dq|apply dh|refine dj (by omega) ?_|apply di|apply dk|apply df|apply eC|apply dr|apply dg)<;>first|grind -mbtc|((with_reducible repeat' apply oE)<;>first|grind -mbtc|(unfold oF;(with_reducible repeat' apply oE)<;>first|grind -mbtc|grind -mbtc (splits:=60) (ematch:=12)))⟩
end
section
variable {N:Nat}[gM N]
instance {b U a}:au (pM N b U a) (oF b/\aN9 U.aOg/\aN9 U.c7/\(∀d∈U.c7,aN9 d)/\(∀w∈a,aN9 w.aOj/\aN9 w.aOl)/\aN9 a) λr=>(r=0->aN8 a<=96/\∀w∈a,pY w)/\r≠12/\(aOF a->r≠7):=⟨by rw[pM];exact aC⟩
instance {g b f n e d}:au (CW N g b f n e d) (aN9 g.c7/\aN9 b/\aOi b d f n/\aN8 e=d) λr=>iX r (λa=>aN8 a=aN8 b)/\fh r λa=>a.2≠0:=by induction n generalizing e d;exact bJ;exact⟨by rw[CW];exact aC⟩
instance {a U}:au (Q1 N a U) (aN9 a.c7/\aN9 U) λr=>r.2.2=0->aN8 r.1=aN8 U:=⟨by rw[Q1];exact aC⟩
instance {a b}:au (LY a b) (aOa b a/\aN9 a) λr=>True:=⟨by rw[LY];exact aC⟩
instance {b e n d}:au (DH b e n d) (aN9 b/\aOi b d e n) λr=>fh r λa=>a.2≠0:=by induction n generalizing d;exact bJ;exact⟨by rw[DH];exact aC⟩
instance {a U}:au (QW N a U) (aN9 a.c7/\aN9 U) λr=>r.2.2=0->aN8 r.1=aN8 U:=⟨by rw[QW];exact aC⟩
instance {a}:au (RP a) (True) λr=>True:=⟨by rw[RP];exact aC⟩
instance {e d g n f b}:au (aJc e d g n f b) (aN9 e/\aN9 d/\aOi d b g n) λr=>iX r (λ_=>∀i∈d.drop b.toNat,aOa i e)/\fh r λa=>a.2≠0/\a.2≠7/\a.2≠12:=by induction n generalizing f b;exact bJ;exact⟨by rw[aJc];exact aC⟩
instance {d g n f b e}:au (aJd d g n f b e) (aN9 d/\aOi d e g n/\(∀i∈d,aOa i b)) λr=>iX r (λa=>aN8 a.2=aN8 b)/\fh r λa=>a.2≠0/\a.2≠7/\a.2≠12:=by induction n generalizing f b e;exact bJ;exact⟨by rw[aJd];exact aC⟩
instance {b e a d}:au (aKo b e a d) (aOa d a/\aN8 b=aN8 a/\aN9 a) λr=>True:=⟨by rw[aKo];exact aC⟩
instance {d a f n e b}:au (aJe d a f n e b) (aN8 d=aN8 a/\aN9 a/\aOi a b f n) λr=>True:=by induction n generalizing e b;exact bJ;exact⟨by rw[aJe];exact aC⟩
instance {a d b}:au (aKp a d b) (b=decide (0<a)) λr=>True:=⟨by rw[aKp];exact aC⟩
instance {a U}:au (Sb N a U) ((∀w∈a,aN9 w.aOj/\aN9 w.aOl)/\aN9 a/\aN9 U) λr=>r.2≠12/\(aOF a->r.2≠7):=⟨by rw[Sb];exact aC⟩
instance {U d e b a}:au (LX U d e b a) (True) λr=>True:=⟨by rw[LX];exact aC⟩
instance {U e f b d a}:au (LW U e f d a b) (aOa b a/\aN9 a) λr=>True:=⟨by rw[LW];exact aC⟩
instance {U g f a n e d b}:au (Dd U g a f n e d b) (aN9 a/\aOi a b f n) λr=>True:=by induction n generalizing e d b;exact bJ;exact⟨by rw[Dd];exact aC⟩
instance {a U b}:au (z8 N a U b) (aN9 a) λr=>True:=⟨by rw[z8];exact aC⟩
instance {U a}:au (LP U a) (True) λr=>True:=⟨by rw[LP];exact aC⟩
instance {a U b}:au (Hs N a U b) (aN9 a) λr=>r.2≠7/\r.2≠12:=⟨by rw[Hs];exact aC⟩
instance {a U b d e}:au (Sa N a U b d e) ((∀w∈a,aN9 w.aOj/\aN9 w.aOl)/\aN9 a/\aN9 U/\aN9 b) λr=>r.2≠12/\(aOF a->r.2≠7):=⟨by rw[Sa];exact aC⟩
end
section
variable {N:Nat}[gM N]
instance {U a}:au (Ej U a) (True) λr=>True:=⟨by rw[Ej];exact aC⟩
instance {U e b n d}:au (Ei U b e n d) (aN9 b/\aOi b d e n) λr=>fh r λa=>a≠0/\a≠7/\a≠12:=by induction n generalizing d;exact bJ;exact⟨by rw[Ei];exact aC⟩
instance {a U}:au (Ab N a U) (aN9 a) λr=>r≠7/\r≠12:=⟨by rw[Ab];exact aC⟩
instance {b d a}:au (aKs b d a) (0<=a/\a<=aN8 b/\aN9 b) λr=>True:=⟨by rw[aKs];exact aC⟩
instance {d b a f e g}:au (OA d f g b a e) (a=d/\aOa e a/\aN9 d/\aN9 b/\aN9 a) λr=>aN8 r.2<=aN8 b+1:=⟨by rw[OA];exact aC⟩
instance {e a h g n f d b}:au (Fx e h a g n f d b) (a=e/\aN9 e/\aN9 a/\aOi a b g n/\aN8 d<=b) λr=>aN8 r.2<=aN8 a:=by induction n generalizing f d b;exact bJ;exact⟨by rw[Fx];exact aC⟩
instance {a b d}:au (aKt a b d) (aN9 a) λr=>aN8 r<=aN8 a+1:=⟨by rw[aKt];exact aC⟩
instance {e n b d a}:au (Fw N e n b d a) (e<=16/\aOf a e n/\aN8 b<=a/\aN9 d) λr=>True:=by induction n generalizing b d a;exact bJ;exact⟨by rw[Fw];exact aC⟩
instance {a U}:au (HL N a U) (0<=U/\U<=16/\aN9 a) λr=>True:=⟨by rw[HL];exact aC⟩
instance {U}:au (Fv U) (True) λr=>r=ak->0<=U/\U<=16:=⟨by rw[Fv];exact aC⟩
instance {a U}:au (sz N a U) (aN9 a) λr=>r.2≠7/\r.2≠12:=⟨by rw[sz];exact aC⟩
instance {f a e n b d}:au (aAY f a e n b d) (aN9 a/\aOi a d e n/\aN8 b=aN8 a) λr=>aN8 r=aN8 a:=by induction n generalizing b d;exact bJ;exact⟨by rw[aAY];exact aC⟩
end
section
variable {N:Nat}[gM N]
instance {a}:au (QJ a) (True) λr=>True:=⟨by rw[QJ];exact aC⟩
instance {U d a n e b}:au (CA U a d n e b) (aN9 a/\aOi a b d n) λr=>True:=by induction n generalizing e b;exact bJ;exact⟨by rw[CA];exact aC⟩
instance {a U}:au (Qx N a U) (aN8 a.l<=1000) λr=>True:=⟨by rw[Qx];exact aC⟩
instance {a}:au (QK a) (True) λr=>True:=⟨by rw[QK];exact aC⟩
instance {U d a n e b}:au (CB U a d n e b) (aN9 a/\aOi a b d n) λr=>True:=by induction n generalizing e b;exact bJ;exact⟨by rw[CB];exact aC⟩
instance {a U}:au (Qy N a U) (aN8 a.l<=1000) λr=>True:=⟨by rw[Qy];exact aC⟩
instance {a}:au (QL a) (True) λr=>True:=⟨by rw[QL];exact aC⟩
instance {U d a n e b}:au (CC U a d n e b) (aN9 a/\aOi a b d n) λr=>True:=by induction n generalizing e b;exact bJ;exact⟨by rw[CC];exact aC⟩
instance {a U}:au (Qz N a U) (aN8 a.l<=1000) λr=>True:=⟨by rw[Qz];exact aC⟩
instance {a U}:au (vF a U) (True) λr=>True:=⟨by rw[vF];exact aC⟩
instance {b d f a e}:au (aEg b e d f a) (True) λr=>True:=⟨by rw[aEg];exact aC⟩
instance {d b e f n a}:au (FB d e f b n a) (aN8 e.l<=1000/\aOa d e.l/\b=d/\aOf a b n) λr=>True:=by induction n generalizing a;exact bJ;exact⟨by rw[FB];exact aC⟩
instance {a U b}:au (Sl N a U b) (aN8 a.l<=1000/\aOa b a.l) λr=>True:=⟨by rw[Sl];exact aC⟩
instance {b a d}:au (QM N b a d) (aN8 a.l<=1000/\aOa b a.l) λr=>True:=⟨by rw[QM];exact aC⟩
instance {U a d n b}:au (CD N U a d n b) (a=U.1.l/\aN8 a<=1000/\aOi a b d n) λr=>True:=by induction n generalizing b;exact bJ;exact⟨by rw[CD];exact aC⟩
instance {a U}:au (QA N a U) (aN8 a.l<=1000/\U.1=a) λr=>True:=⟨by rw[QA];exact aC⟩
instance {d a b}:au (Mu d a b) (True) λr=>True:=⟨by rw[Mu];exact aC⟩
instance {b U a}:au (QN b U a) (True) λr=>True:=⟨by rw[QN];exact aC⟩
instance {U b d n a}:au (CE U b d n a) (aN9 b/\aOi b a d n) λr=>True:=by induction n generalizing a;exact bJ;exact⟨by rw[CE];exact aC⟩
instance {a U}:au (QB N a U) (aN8 a.l<=1000) λr=>True:=⟨by rw[QB];exact aC⟩
instance {a b}:au (aLg N a b) (aOa b a.l/\aN9 a.off) λr=>True:=⟨by rw[aLg];exact aC⟩
instance {a d b}:au (aLf N a d b) (aOa b a.l/\aN9 a.off) λr=>True:=⟨by rw[aLf];exact aC⟩
instance {a n d b}:au (aBy N a n d b) (aN8 a.l<=1000/\aN9 a.off/\aOf b (aN8 a.l) n) λr=>True:=by induction n generalizing d b;exact bJ;exact⟨by rw[aBy];exact aC⟩
instance {b U}:au (x8 N b U) (aN8 b.l<=1000/\aN9 b.off/\0<=U.a) λr=>True:=⟨by rw[x8];exact aC⟩
instance {U a}:au (QO U a) (True) λr=>True:=⟨by rw[QO];exact aC⟩
instance {U b d n a}:au (CF U b d n a) (aN9 b/\aOi b a d n) λr=>True:=by induction n generalizing a;exact bJ;exact⟨by rw[CF];exact aC⟩
instance {a U}:au (QC N a U) (aN8 a.l<=1000) λr=>True:=⟨by rw[QC];exact aC⟩
instance {a e n d b}:au (DP a e n d b) (aN9 a/\aOi a b e n) λr=>True:=by induction n generalizing d b;exact bJ;exact⟨by rw[DP];exact aC⟩
instance {a U}:au (R3 N a U) (aN8 a.l<=1000/\aOa U a.l) λr=>True:=⟨by rw[R3];exact aC⟩
instance {b d a e}:au (Mv N b d a e) (aN8 a.l<=1000/\aOa b a.l) λr=>True:=⟨by rw[Mv];exact aC⟩
instance {b U d a}:au (QP N b U d a) (aN8 a.l<=1000/\aOa b a.l) λr=>True:=⟨by rw[QP];exact aC⟩
instance {U a d n b}:au (Dl N U a d n b) (a=U.2.l/\aN8 a<=1000/\aOi a b d n) λr=>True:=by induction n generalizing b;exact bJ;exact⟨by rw[Dl];exact aC⟩
instance {a U}:au (QD N a U) (aN8 a.l<=1000/\U.2=a) λr=>True:=⟨by rw[QD];exact aC⟩
instance {a b}:au (OH a b) (True) λr=>True:=⟨by rw[OH];exact aC⟩
instance {b U}:au (Sm N b U) (aN8 b.l<=1000/\aN9 b.off/\0<=U.a) λr=>True:=⟨by rw[Sm];exact aC⟩
instance {d b f n e}:au (Dh N d b f n e) (aN8 d.l<=1000/\aN9 d.off/\(∀r∈b,0<=r.a)/\aN9 b/\aOi b e f n) λr=>fh r λa=>a.2.2≠7/\a.2.2≠12:=by induction n generalizing e;exact bJ;exact⟨by rw[Dh];exact aC⟩
instance {a U b}:au (Ht N a U b) (aN8 a<=32/\(∀i r,al a i=J r->10*i+1<=r.aOj/\r.aOj<=10*i+9/\pV r)/\aN8 U<=1000/\(∀w∈U,aN9 w.aOj/\aN9 w.aOl)/\aN9 b) λr=>r.2.2≠12/\(aOF U->r.2.2≠7):=⟨by rw[Ht];(repeat' with_reducible first|intro _|apply dq|apply dh|refine dj (by omega) ?_|apply di|apply dk|apply df|apply eC|apply dr|apply dg)<;>first|grind -mbtc|grind -mbtc[uL]|((with_reducible repeat' apply oE)<;>first|grind -mbtc|(intro r m;obtain⟨i,e⟩:=uL m;grind -mbtc))⟩
instance {b U a}:au (Hn N b U a) (oF b/\aN9 U.aOg/\aN9 U.c7/\(∀d∈U.c7,aN9 d)/\(∀w∈a,aN9 w.aOj/\aN9 w.aOl)/\aN8 a<=1000) λr=>r.2.2.2=0->aN8 r.1.bD=aN8 a:=⟨by rw[Hn];exact aC⟩
end
section
attribute [grind->] List.mem_of_mem_eraseIdx
variable {N:Nat}[gM N]
instance {a b d}:au (Rx N a b d) (jr a.c (bq.mk a.y.bD a.y.aH b a.y.aOb a.y.bo a.y.cE)/\oF a.c/\a.r.aOd.bD=[]/\aN9 b/\aN9 d) λr=>r.1=0->rr (Step.mk a.c (bq.mk a.y.bD a.y.aH b a.y.aOb a.y.bo a.y.cE) a.e a.r) r.2:=⟨by rw[Rx];(repeat' with_reducible first|intro _|apply dq|apply dh|refine dj (by omega) ?_|apply di|apply dk|apply df|apply eC|apply dr|apply dg)<;>first|grind -mbtc|((with_reducible repeat' apply oE)<;>grind -mbtc)|(rename_i g z;have g:=g.1 z;dsimp only at g;refine⟨?_,IX ?_ ?_ ?_ ?_ ?_ ?_ ?_ ?_ ?_,?_,?_⟩<;>first|grind -mbtc|grind -mbtc[gH]|grind -mbtc[pY])⟩
end
section
def Ts(c:c8)(y:bq)(p:bq×cI):Prop:=jr c p.1/\y.bD<+:p.1.bD/\aCq c.aH (lens p.1.bD) p.2.vv y.aH p.1.aH
attribute [grind] Ts
variable {N:Nat}[gM N]
instance {a d b f g}:au (S5 N a d b f g) (jr a.c (bq.mk d a.y.aH b a.y.aOb a.y.bo a.y.cE)/\oF a.c/\iW a.e/\a.r.aOd.bD=[]/\a.r.vv=[]/\f=[]/\aN8 g<=1000/\aN9 d/\aN9 b/\aN9 f) λr=>r.1=0->rr (Step.mk a.c (bq.mk d a.y.aH b a.y.aOb a.y.bo a.y.cE) a.e a.r) r.2:=⟨by rw[S5];exact aC⟩
instance {d U l}:au (rl N d U l) (jr d U/\oF d/\iW l) λr=>Ts d U r:=⟨by rw[rl];(repeat' with_reducible first|intro _|apply dq|apply dh|refine dj (by omega) ?_|apply di|apply dk|apply df|apply eC|apply dr|apply dg)<;>first|(rename_i g _ _ _ _ _ _ _ y e h;obtain⟨f,a,b⟩:=h;(try dsimp only);rw[f,a,b];exact⟨g.1,ap1,aFx,by simp⟩)|(rename_i g y e h z n a b;obtain⟨m,i,j⟩:=h;(try dsimp only at a);(try dsimp only at b);rw[m,i,j] at a;have k:=a (by simpa using b);clear a e n m i j;grind -mbtc)|grind -mbtc|((with_reducible repeat' apply oE)<;>first|grind -mbtc|(rename_i g y e h;obtain⟨f,a,b⟩:=h;dsimp only;rw[f,a,b];exact g.1))⟩
end
section
def azU{a:Type}{e:Option a}{P Q:a->Prop}(h:Ok e P)(k:Ok e Q):Ok e λr=>P r/\Q r:=⟨h.1,λr x=>⟨h.2 r x,k.2 r x⟩⟩
def az5:List (List UInt8)->List UInt8->Int->Int
 |[],_,_=> -1
 |a::l,d,k=>if a=d then k else az5 l d (k+1)
def az6:List b7->List UInt8->Int->Int×Int
 |[],_,_=>(-1, -1)
 |o::l,d,k=>if 0<=az5 o.c7 d 0 then(k,az5 o.c7 d 0) else az6 l d (k+1)
attribute [grind=] az5 az6
def aAE(a:List b7)(w:bC):c4:=c4.mk (az6 a w.aOl 0).1 (az6 a w.aOl 0).2 0 w.aOh
def azO(y:bq)(b:List c4)(d:List Int):Prop:=∀k a i w,al b k=J a->al d k=J i->al y.bD i=J w->a=aAE y.b2 w
def az8(a r:List c4)(x:List Int):Prop:=∀k b i,al r k=J b->al x k=J i->al a i=J b
def az'(a x r:List Int):Prop:=∀k w i,al r k=J w->al x k=J i->al a i=J w
def aGm{y:bq}{a r:List c4}{m x l:List Int}(h:azO y a m)(j:az8 a r x)(w:az' m x l)(e:aN8 r=aN8 x):azO y r l:=λk d i v f g o=>by
 have q:=ku f;obtain⟨z,b⟩:=hT (xs:=x) (i:=k) q.1 (by omega);exact h z d i v (j k d z f b) (w k i z g b) o
theorem aER{y:bq}{g:List c4}{d:List Int}(h:azO y g d)(l:aN8 g=aN8 d)(r:∀i∈d,0<=i/\i<aN8 y.bD):∀i∈g,i.round=0:=λj m=>by
 obtain⟨k,e⟩:=uL m;have q:=ku e;obtain⟨i,b⟩:=hT (xs:=d) (i:=k) q.1 (by omega);have a:=r i (lP b);obtain⟨w,f⟩:=hT (xs:=y.bD) (i:=i) a.1 a.2;rw[h k j i w e b f];rfl
variable {N:Nat}[gM N]
instance (priority:=high){d U e n b}:au (Dx d U e n b) (aN9 d/\aOi d b e n) λr=>iX r (λ_=>az5 (d.drop b.toNat) U b= -1/\U∉d.drop b.toNat)/\fh r λa=>az5 (d.drop b.toNat) U b=a/\al d a=J U:=by induction n generalizing b;exact bJ;exact⟨by rw[Dx];exact aC⟩
instance (priority:=high){a U}:au (z6 N a U) (aN9 a) λr=>((r= -1/\U∉a)\/al a r=J U)/\r=az5 a U 0:=⟨by rw[z6];exact aC⟩
instance (priority:=high){U d n b}:au (GG U d n b) (aN9 d.c7/\aOf b (aN8 d.c7) n) λr=>iX r (λ_=>az5 (d.c7.drop b.toNat) U b= -1)/\fh r λa=>az5 (d.c7.drop b.toNat) U b=a:=by induction n generalizing b;exact bJ;exact⟨by rw[GG];exact aC⟩
instance (priority:=high){a U}:au (SZ N a U) (aN9 a.c7) λr=>r=az5 a.c7 U 0:=⟨by rw[SZ];exact aC⟩
instance (priority:=high){U f e b n d}:au (aIV N U e b f n d) (aOa U e.bD/\(∀o∈b,aN9 o.c7)/\aN9 b/\aOi b d f n) λr=>iX r (λ_=>∀w,al e.bD U=J w->(∀o∈b.drop d.toNat,w.aOl∉o.c7)/\az6 (b.drop d.toNat) w.aOl d=(-1, -1))/\fh r λa=>0<=a.1/\a.1<aN8 b/\(∃w,al e.bD U=J w/\∃o∈b,w.aOl∈o.c7)/\∀w,al e.bD U=J w->az6 (b.drop d.toNat) w.aOl d=a:=by induction n generalizing d;exact bJ;exact⟨by rw[aIV];exact aC⟩
instance (priority:=high){a U}:au (R5 N a U) (aN9 a.b2/\(∀o∈a.b2,aN9 o.c7)/\aOa U a.bD) λr=>((r.1= -1/\¬nV a U)\/(0<=r.1/\r.1<aN8 a.b2/\nV a U))/\∀w,al a.bD U=J w->r=az6 a.b2 w.aOl 0:=⟨by rw[R5];exact aOr @nV.eq_1⟩
instance (priority:=high){a U}:au (S6 N a U) (aN9 a.b2/\(∀o∈a.b2,aN9 o.c7)/\0<=U/\U<aN8 a.bD) λr=>(0<=r.1.dS->r.1.dS<aN8 a.b2/\nV a U)/\(r.2=aa->0<=r.1.dS)/\∀w,al a.bD U=J w->r.1=aAE a.b2 w:=⟨by rw[S6];(repeat' with_reducible first|intro _|apply dq|apply dh|refine dj (by omega) ?_|apply di|apply dk|apply df|apply eC|apply dr|apply dg)<;>first|grind -mbtc|grind -mbtc[aAE]⟩
instance (priority:=high){b d h n g e f}:au (aEe N b d h n g e f) (jr b.c b.y/\(∀i∈d,aOa i b.y.bD)/\h=aN8 d/\aN9 d/\aOf e h n/\aN8 f=e/\(∀i∈f,aOa i.dS b.y.b2)/\azO b.y f d) λr=>iX r (λa=>aN8 a.2=aN8 d/\(∀i∈d.drop e.toNat,nV b.y i)/\(∀i∈a.2,aOa i.dS b.y.b2)/\azO b.y a.2 d/\a.1.dO=g.dO)/\fh r λa=>a≠0:=by induction n generalizing g e f;exact bJ;exact⟨by rw[aEe];exact aOr @azO.eq_1⟩
instance (priority:=high){U a e n f b d}:au (aIS N U a e n f b d) (aN8 U.b2<=8/\(∀o∈U.b2,aN9 o.c7)/\(∀i∈a,0<=i/\i<aN8 U.bD)/\aN9 a/\e=aN8 a/\0<=b/\b<=e/\e-b<n/\aN8 d=b/\yk U d a/\azO U d a) λr=>aN8 r.2=aN8 a/\yk U r.2 a/\azO U r.2 a:=by induction n generalizing f b d with|zero=>exact bJ|succ n g=>exact⟨by rw[aIS];(repeat' with_reducible first|intro _|apply dq|apply dh|refine dj (by omega) ?_|apply di|apply dk|apply df|apply eC|apply dr|apply dg)<;>first|grind -mbtc|((with_reducible repeat' apply oE)<;>first|grind -mbtc|grind -mbtc[yk]|grind -mbtc[azO])⟩
instance (priority:=high){b a g n f e d}:au (aIW b a g n f e d) ((∀i∈a,aOa i b.aN')/\aN8 a<=100000000/\aOi a e g n/\aN8 d=e/\(∀i∈d,i∈b.aN')/\az8 b.aN' d a) λr=>aN8 r.2=aN8 a/\(∀i∈r.2,i∈b.aN')/\az8 b.aN' r.2 a/\r.1.dO=f.dO:=by induction n generalizing f e d;exact bJ;exact⟨by rw[aIW];exact aOr @az8.eq_1⟩
instance (priority:=high){a b f n d e}:au (aIF a b f n d e) ((∀i∈b,aOa i a)/\aN9 a/\aN9 b/\aOi b e f n/\aN8 d=e/\(∀w∈d,w∈a)/\az' a b d) λr=>aN8 r=aN8 b/\(∀w∈r,w∈a)/\az' a b r:=by induction n generalizing d e;exact bJ;exact⟨by rw[aIF];exact aOr @az'.eq_1⟩
instance (priority:=high){a}:au (RI N a) (aN8 a.aH<=24/\(∀t∈a.aH,aN8 t<=40000/\∀i∈t,aOa i a.bD)/\aN8 a.bo.bD<=1000/\aN8 a.b2<=8/\(∀o∈a.b2,aN9 o.c7)) λr=>r.2.2=0->aN8 r.1.aN'=aN8 r.2.1/\aN8 r.1.aOq=aN8 a.b2/\(∀t∈r.1.aH,aN8 t<=40000)/\(∀w∈r.2.1,(∃u∈a.aH,w∈u)/\aOa w a.bD)/\yk a r.1.aN' r.2.1/\azO a r.1.aN' r.2.1:=⟨by rw[RI];exact aOr (oE @yk.eq_1 @azO.eq_1)⟩
instance (priority:=high){a U b}:au (SF N a U b) ((∀t∈a.aH,aN8 t<=40000)/\aN9 U) λr=>r.2.2=0->aN8 r.1.aN'=aN8 r.2.1/\aN8 r.2.1<=96/\(∀i∈r.2.1,aOa i a.aN')/\(∀i∈r.1.aN',aOa i.dS a.aOq)/\gu a/\az8 a.aN' r.1.aN' r.2.1/\r.1.dO=b:=⟨by rw[SF];simp only[yo];(repeat' with_reducible first|intro _|apply dq|apply dh|refine dj (by omega) ?_|apply di|apply dk|apply df|apply eC|apply dr|apply dg)<;>first|grind -mbtc|grind -mbtc[AD]|((with_reducible repeat' apply oE)<;>first|grind -mbtc|grind -mbtc[AD]|grind -mbtc[az8])⟩
end
section
def ayE(a:List Int)(i:Int):Int:=(al a i).getD 0
theorem eI{a:List Int}{i w:Int}(e:al a i=J w):ayE a i=w:=by unfold ayE;rw[e];rfl
def azP(b r a:List Int):Prop:=(r.map (ayE b)).Sublist a
theorem aGJ{d r a b:List Int}(h:azP d r a)(k:a.Sublist b):azP d r b:=h.trans k
def aGK{a r p l:List Int}{k w:Int}(e:al l k=J w)(h:azP a r ((p++[w])++l.drop (k+1).toNat)):azP a r (p++l.drop k.toNat):=by
 rw[sT e];simpa using h
def aGG{a x p:List Int}{w:Int}(h:azP a x p):azP a x (p++[w]):=h.trans (aAB _ _)
def aGH{a x p:List Int}{w i:Int}(h:azP a x p)(e:al a i=J w):azP a (x++[i]) (p++[w]):=by
 unfold azP;rw[aIG,List.map_singleton,eI e];exact h.append_right [w]
theorem aGI{a x p l:List Int}{k:Int}(h:azP a x p):azP a x (p++l.drop k.toNat):=h.trans (aAB _ _)
def aGL{b p:List Int}{o:List (List Int)}{r l:List Int}{s:List (List Int)}{k:Int}(e:al s k=J l)(h:azP b o.flatten p)(g:∀p,azP b [] p->azP b r (p++l.drop (0:Int).toNat)):azP b (o++[r]).flatten (p++l):=by
 have a:=g [] (aGr _);simp at a;unfold azP at*;rw[aET,aIG];simpa using h.append a
theorem aFd{s:List (List Int)}{k:Int}{l:List Int}(e:al s k=J l):(s.drop k.toNat).flatten=l++(s.drop (k+1).toNat).flatten:=by rw[sT e];rfl
def az3(s:List (List Int))(t:Int):Prop:=∀k q,t<=k->al s k=J q->q=[]
def aHf{s:List (List Int)}(h:∀q∈s,q=[]):s.flatten=[]:=by
 rw[List.flatten_eq_nil_iff];exact h
def aH'{s:List (List Int)}{t:Int}{q:List Int}{i:Int}(e:al s t=J q)(h:az3 s (t+1)):(s.set t.toNat (q++[i])).flatten=s.flatten++[i]/\az3 (s.set t.toNat (q++[i])) (t+1):=by
 have l:=ku e;refine⟨?_,λk p j f=>?_⟩
 ·have d:(s.drop (t+1).toNat).flatten=[]:=aHf λp m=>by
   obtain⟨k,f⟩:=uL m;have g:=ku f;refine h (t+1+k) p (by omega) ?_;unfold al at f⊢;rw[if_pos g.1] at f;rw[if_pos (by omega),<-f,aIQ];congr 1;omega
  have a:s.flatten=(s.take t.toNat).flatten++q:=by
   conv=>lhs;rw[<-aFu t.toNat s,aET,aFd e,d,aI1]
  have b:s.set t.toNat (q++[i])=s.take t.toNat++(q++[i])::s.drop (t+1).toNat:=by rw[List.set_eq_take_append_cons_drop,if_pos (by omega),show(t+1).toNat=t.toNat+1 by omega]
  rw[b,aET,List.flatten_cons,d,a];simp
 ·rw[rM l.1 l.2,if_neg (by omega)] at f;exact h k p j f
theorem aGN{s:List (List Int)}{t u:Int}(h:az3 s t)(k:t<=u):az3 s u:=λa q l e=>h a q (by omega) e
theorem aGO{n:Nat}{t:Int}:az3 (gb n []) t:=λk q l e=>ym (lP e)
variable {N:Nat}[gM N]
instance (priority:=high){a d b e}:au (aI3 N a d e b) (aOa e d/\aN9 a/\aN9 d/\aN9 b) λr=>aN8 r<=aN8 a+1/\∀p w,al d e=J w->azP b a p->azP b r (p++[w]):=⟨by rw[aI3];exact aOr (oE @aGG @aGH)⟩
instance (priority:=high){b f g n d a}:au (aIU N b g f n d a) (aN9 b/\aN9 f/\g=aN8 b/\0<=a/\a<=g/\g-a<n/\aN8 d<=a) λr=>aN8 r<=aN8 b/\∀p,azP f d p->azP f r (p++b.drop a.toNat):=by induction n generalizing d a with|zero=>exact bJ|succ n k=>exact⟨by rw[aIU];(repeat' with_reducible first|intro _|apply dq|apply dh|refine dj (by omega) ?_|apply di|apply dk|apply df|apply eC|apply dr|apply dg)<;>first|grind -mbtc|grind -mbtc[j]|(refine⟨by grind -mbtc,λp h=>?_⟩;obtain⟨w,e⟩:=hT (xs:=b) (i:=a) (by omega) (by omega);refine aGK e ?_;grind -mbtc)⟩
instance (priority:=high){f j i n k d g}:au (aIT N f j i n k d g) (aN8 f<=24/\(∀t∈f,aN8 t<=40000)/\aN9 i/\j=aN8 f/\0<=d/\d<=j/\j-d<n/\aN8 g<=d/\(∀t∈g,aN8 t<=40000)) λr=>aN8 r.2<=24/\(∀t∈r.2,aN8 t<=40000)/\∀p,azP i g.flatten p->azP i r.2.flatten (p++(f.drop d.toNat).flatten):=by induction n generalizing k d g with|zero=>exact bJ|succ n m=>exact⟨by rw[aIT];(repeat' with_reducible first|intro _|apply dq|apply dh|refine dj (by omega) ?_|apply di|apply dk|apply df|apply eC|apply dr|apply dg)<;>first|grind -mbtc|grind -mbtc[aGJ]|(rename_i z e t s x h w y l r q;refine⟨by grind -mbtc,by grind -mbtc,λp a=>?_⟩;subst l;rw[aFd e,<-IH];have b:=q.2.2 _ (aGL e a h.2);rwa [Qb (by omega) (by omega)] at b)|(refine⟨by grind -mbtc,by grind -mbtc,λp a=>a.trans (aAB _ _)⟩)⟩
instance (priority:=high){a}:au (RI N a) (aN8 a.aH<=24/\(∀t∈a.aH,aN8 t<=40000/\∀i∈t,0<=i/\i<aN8 a.bD)/\aN8 a.bo.bD<=1000/\aN8 a.b2<=8/\(∀o∈a.b2,aN9 o.c7)) λr=>(r.2.2=0->aN8 r.1.aN'=aN8 r.2.1/\aN8 r.1.aOq=aN8 a.b2/\(∀t∈r.1.aH,aN8 t<=40000)/\(∀w∈r.2.1,(∃u∈a.aH,w∈u)/\aOa w a.bD)/\yk a r.1.aN' r.2.1/\azO a r.1.aN' r.2.1)/\(r.2.2=0->azP r.2.1 r.1.aH.flatten a.aH.flatten):=⟨λb=>azU (au.ok (e:=RI N a) (by grind -mbtc)) (by revert b;rw[RI];(repeat' with_reducible first|intro _|apply dq|apply dh|refine dj (by omega) ?_|apply di|apply dk|apply df|apply eC|apply dr|apply dg)<;>first|grind -mbtc|(rename_i h _;have:=h.2.2 [] (aGr _);simpa using this)|grind -mbtc[yk,azO])⟩
instance (priority:=high){U g a d f b}:au (Nf N U g a d b f) (aOa d a/\aOa f b/\aN8 a.flatten<=100000000/\az3 a (d+1)/\aN9 U/\aN9 a/\aN9 b) λr=>(aN8 r=aN8 a/\aN8 r.flatten<=aN8 a.flatten+1/\∀i∈r.flatten,i∈a.flatten\/i∈b)/\az3 r (d+1)/\∀w,al b f=J w->r.flatten=a.flatten\/r.flatten=a.flatten++[w]:=⟨λh=>azU (au.ok (e:=Nf N U g a d b f) (by grind -mbtc)) (by revert h;rw[Nf];exact aOr @aH')⟩
instance (priority:=high){U k g j f n a d}:au (D8 N U k g f j n a d) (0<=g/\aN9 U/\aN9 f/\j=aN8 f/\0<=d/\d<=j/\j-d<n/\g<aN8 a/\aN8 a.flatten<=90000000+d/\aN9 a/\az3 a (g+1)) λr=>(aN8 r=aN8 a/\aN8 r.flatten<=aN8 a.flatten+(j-d)/\∀i∈r.flatten,i∈a.flatten\/i∈f)/\az3 r (g+1)/\∀p,a.flatten.Sublist p->r.flatten.Sublist (p++f.drop d.toNat):=by induction n generalizing a d with|zero=>exact bJ|succ n t=>exact⟨λs=>azU (au.ok (e:=D8 N U k g f j (n+1) a d) (by grind -mbtc)) (by revert s;rw[D8];(repeat' with_reducible first|intro _|apply dq|apply dh|refine dj (by omega) ?_|apply di|apply dk|apply df|apply eC|apply dr|apply dg)<;>first|grind -mbtc|(refine⟨by grind -mbtc,λp h=>?_⟩;obtain⟨w,e⟩:=hT (xs:=f) (i:=d) (by omega) (by omega);rw[sT e,<-List.singleton_append,<-IH];rename_i y x m r l;have b:=l.2.2 (p++[w]) (by rcases m.2.2 w e with q|q<;>rw[q];exact h.trans (aAB _ _);exact h.append_right [w]);rwa [Qb (by omega) (by omega)] at b)|(refine⟨by grind -mbtc,λp h=>h.trans (aAB _ _)⟩))⟩
instance (priority:=high){U j a g n f d}:au (D7 N U j a g n f d) (aN8 a<=24/\(∀t∈a,aN8 t<=40000)/\aN9 U/\g=aN8 a/\0<=d/\d<=g/\g-d<n/\aN8 f=aN8 a/\aN8 f.flatten<=40000*d/\az3 f d) λr=>(aN8 r=aN8 a/\aN8 r.flatten<=960000/\∀i∈r.flatten,i∈f.flatten\/i∈a.flatten)/\∀p,f.flatten.Sublist p->r.flatten.Sublist (p++(a.drop d.toNat).flatten):=by induction n generalizing f d with|zero=>exact bJ|succ n q=>exact⟨λm=>azU (au.ok (e:=D7 N U j a g (n+1) f d) (by grind -mbtc)) (by revert m;rw[D7];(repeat' with_reducible first|intro _|apply dq|apply dh|refine dj (by omega) ?_|apply di|apply dk|apply df|apply eC|apply dr|apply dg)<;>first|grind -mbtc|grind -mbtc[aGN]|(rename_i e _ y s l r k;intro p h;rw[aFd e,<-IH];have b:=k.2 _ (l.2.2 p h);rw[Jn,Qb (by omega) (by omega)] at b;exact b)|(intro p h;exact h.trans (aAB _ _)))⟩
instance (priority:=high){a U b}:au (RX N a U b) (aN8 a.aH<=24/\(∀t∈a.aH,aN8 t<=40000)/\aN9 U) λr=>(aN8 r<=24/\aN8 r.flatten<=960000/\∀i∈r.flatten,i∈a.aH.flatten)/\r.flatten.Sublist a.aH.flatten:=⟨λd=>azU (au.ok (e:=RX N a U b) (by grind -mbtc)) (by revert d;rw[RX];(repeat' with_reducible first|intro _|apply dq|apply dh|refine dj (by omega) ?_|apply di|apply dk|apply df|apply eC|apply dr|apply dg)<;>first|grind -mbtc|grind -mbtc[aGO]|(rename_i h;have:=h.2 [] (by grind -mbtc);simpa[Jn] using this))⟩
instance (priority:=high){a U b}:au (SF N a U b) ((∀t∈a.aH,aN8 t<=40000)/\aN9 U) λr=>(r.2.2=0->aN8 r.1.aN'=aN8 r.2.1/\aN8 r.2.1<=96/\(∀i∈r.2.1,aOa i a.aN')/\(∀i∈r.1.aN',aOa i.dS a.aOq)/\gu a/\az8 a.aN' r.1.aN' r.2.1/\r.1.dO=b)/\(r.2.2=0->r.2.1.Sublist a.aH.flatten):=⟨λd=>azU (au.ok (e:=SF N a U b) (by grind -mbtc)) (by revert d;rw[SF];simp only[yo];(repeat' with_reducible first|intro _|apply dq|apply dh|refine dj (by omega) ?_|apply di|apply dk|apply df|apply eC|apply dr|apply dg)<;>first|grind -mbtc|grind -mbtc[AD]|((with_reducible repeat' apply oE)<;>first|grind -mbtc|grind -mbtc[AD]|grind -mbtc[az8]))⟩
instance (priority:=high){a b g n f d}:au (aIF a b g n f d) ((∀i∈b,0<=i/\i<aN8 a)/\aN9 a/\aN9 b/\g=aN8 b/\0<=d/\d<=g/\g-d<n/\aN8 f=d/\(∀w∈f,w∈a)/\az' a b f) λr=>(aN8 r=aN8 b/\(∀w∈r,w∈a)/\az' a b r)/\r=f++(b.drop d.toNat).map (ayE a):=by induction n generalizing f d with|zero=>exact bJ|succ n j=>exact⟨λh=>azU (au.ok (e:=aIF a b g (n+1) f d) (by grind -mbtc)) (by revert h;rw[aIF];(repeat' with_reducible first|intro _|apply dq|apply dh|refine dj (by omega) ?_|apply di|apply dk|apply df|apply eC|apply dr|apply dg)<;>first|grind -mbtc|((with_reducible repeat' apply oE)<;>first|grind -mbtc|grind -mbtc[az'])|grind -mbtc[eI])⟩
end
section
def aG3{a b:Int}(h:0<=a)(k:a<4611686018427387904)(l:0<=b)(m:b<4611686018427387904):ih .and .i64 a b=((a.toNat&&&b.toNat:Nat):Int):=by
 simp only[ih,BitVec.toNat_and,zc h k,zc l m];have p:=Nat.and_le_left (n:=a.toNat) (m:=b.toNat);rw[Yh (by omega)]
def azR(w n k:Int):Prop:=n<=k/\k<=8192
theorem aGv{w n k:Int}(h:azR w n k):n<=k:=h.1
attribute [grind->] aGv
def aFL{x z:Int}(p:0<x)(l:x<4096)(e:z=aO .i64 (x+ih .and .i64 x (aO .i64 (0-x)))):x+1<=z/\z<=2*x:=by
 have a:=qe p (by omega);rw[vN] at e;omega
def aFD:Nat->Nat->Nat
 |0,_=>0
 |f+1,k=>if k=0 then 0 else aFD f (k / 2)+1
def yz(k:Nat):Nat:=aFD 14 k
set_option maxRecDepth 100000 in
def aG9:(List.range 4097).all (λk=>fi k 0||(fi (yz k) (yz (k / 2)+1)&&(Nat.blt k (2 ^ yz k)&&Nat.ble (yz k) 13)))=aa:=by kernel_rfl
def aFz:yz 0=0:=by decide
def aFA{k:Nat}(h:k<=4096)(l:0<k):yz k=yz (k / 2)+1/\k<2 ^ yz k/\yz k<=13:=by
 have:=List.all_eq_true.mp aG9 k (List.mem_range.mpr (by omega));rcases Bool.or_eq_true_iff.mp this with h|h
 ·have:=kA h;omega
 ·simp only[Bool.and_eq_true] at h;exact⟨kA h.1,by simpa using h.2.1,Nat.le_of_ble_eq_true h.2.2⟩
def aFC{x:Int}(h:0<x)(l:x<=4096):(yz x.toNat:Int)=yz (x / 2).toNat+1:=by
 have:=(aFA (k:=x.toNat) (by omega) (by omega)).1;rw[show(x / 2).toNat=x.toNat / 2 by omega];omega
def aHn{a:Int}(h:0<=a)(k:a<4611686018427387904):ih .or .i64 a 0=a:=by
 simp only[ih,BitVec.toNat_or,zc h k];rw[show(BitVec.ofInt (aG.bits .i64) 0).toNat=0 from rfl,Nat.or_zero,Yh (by omega)];omega
def aFl{k:aG}{y:Nat}(h:j2 k 0=J y):y=0:=by have:=P2 h;omega
theorem aFI{x:Int}:x.fdiv 2=x / 2:=Int.fdiv_eq_ediv_of_nonneg _ (by decide)
def aFE{x:Int}(h:0<=x)(p:¬(0<x)):yz x.toNat=0:=by rw[show x=0 by omega];exact aFz
variable {N:Nat}[gM N]
instance (priority:=high){a}:au (HI a) (a=0) λr=>r=0:=⟨by rw[HI];exact aC⟩
instance (priority:=high){a U d b e}:au (aDM a U d b e) (0<=a/\a<4096/\U=0/\b=0/\e=decide (b<a)/\d=0) λr=>r=a:=⟨by rw[aDM];exact aC⟩
instance (priority:=high){e n b}:au (aDN N e n b) (0<=e/\0<=b/\b<=8192/\8192-b<n) λr=>iX r (λa=>azR e b a)/\fh r λa=>a.2≠0:=by induction n generalizing b with|zero=>exact bJ|succ n i=>exact⟨by rw[aDN];(repeat' with_reducible first|intro _|apply dq|apply dh|refine dj (by omega) ?_|apply di|apply dk|apply df|apply eC|apply dr|apply dg)<;>first|grind -mbtc[azR]|(clear i;rename_i h y g l k j d c;have a:=aFL (by grind -mbtc) (by grind -mbtc) d;clear d g;grind -mbtc[azR])|(clear i;rename_i h y g l k j d c r f;have a:=aFL (by grind -mbtc) (by grind -mbtc) d;clear d g;grind -mbtc[azR])⟩
instance (priority:=high){a U d}:au (vD N a U d) (a<=100000/\U=0) λr=>r.2=0->azR d a r.1/\r.1<4096:=⟨by rw[vD];(repeat' with_reducible first|intro _|apply dq|apply dh|refine dj (by omega) ?_|apply di|apply dk|apply df|apply eC|apply dr|apply dg)<;>first|grind -mbtc|(rename_i h _ _ _ _ _ _ _ _ k _ g b l i s j _ t m f w e p q;have x:0<=a:=(by grind -mbtc);obtain⟨-,rfl⟩:=h;have z:=aFl j;subst z f;have n:azR d k b:=i.1;rw[show aO .i64 (b*((2 ^ 0:Nat):Int))=b by rw[vN];have:=n.2;have:=n.1;simp;omega,aHn (by have:=n.1;omega) (by have:=n.2;omega)] at e;subst e g;exact⟨n,by first|omega|grind -mbtc⟩)⟩
instance (priority:=high){n b g}:au (E0 n b g) (0<=b/\b<=4096/\b<n/\0<=g/\g+b<=10000) λr=>r=g+yz b.toNat:=by induction n generalizing b g with|zero=>exact bJ|succ n i=>exact⟨by rw[E0];(repeat' with_reducible first|intro _|apply dq|apply dh|refine dj (by omega) ?_|apply di|apply dk|apply df|apply eC|apply dr|apply dg)<;>first|grind -mbtc|(clear i;rename_i h d y e r f;have d:0<b:=(by simpa using d);have a:=aFC (x:=b) d h.2.1;rw[aFI] at e;subst e;omega)|(clear i;rename_i h d y e;have d:0<b:=(by simpa using d);rw[aFI] at e;subst e;omega)|(rename_i h d;have d:¬(0<b):=(by simpa using d);have:=aFE h.1 d;omega)⟩
instance (priority:=high){a}:au (HQ N a) (True) λr=>0<=a->a<4096->r.1=yz a.toNat:=⟨by rw[HQ];exact aC⟩
end
section
def Ax(p q:c4)(a b:Int):Int:=if p.dS≠q.dS\/q.pZ<=p.pZ then 0 else if b<a then 2 else 1
def aCp:Option c4->Option c4->Int->Int->Int
 |some p,J q,a,b=>Ax p q a b
 |_,_,_,_=>0
def azQ(j:b8)(a b:Int):Int:=aCp (al j.aN' a) (al j.aN' b) a b
@[grind=] theorem aIp{j:b8}{a b:Int}:azQ j a b=aCp (al j.aN' a) (al j.aN' b) a b:=rfl
@[grind=] theorem aIr{p q:c4}{a b:Int}:aCp (J p) (J q) a b=Ax p q a b:=rfl
def aFr{j:b8}{a b:Int}{p q:c4}(e:al j.aN' a=J p)(f:al j.aN' b=J q):azQ j a b=Ax p q a b:=by unfold azQ;rw[e,f];rfl
def aGq{j:b8}{a b:Int}:0<=azQ j a b/\azQ j a b<=2:=by
 unfold azQ aCp;split
 ·unfold Ax;split
  ·omega
  ·split<;>omega
 ·omega
def aFq(j:b8)(a b:Int):Int:=azQ j a b
@[grind=] theorem aIq{j:b8}{a b:Int}:azQ j a b=min 2 (max 0 (aFq j a b)):=by
 have:=aGq (j:=j) (a:=a) (b:=b);unfold aFq;omega
def azW(j:b8)(k:Int)(M:List (List Int)):Prop:=aN8 M=aN8 j.aN'/\∀a d,al M a=J d->a<k->aN8 d=aN8 j.aN'/\∀b v,al d b=J v->v=azQ j a b
def az4(j:b8)(k y:Int)(M:List (List Int)):Prop:=azW j k M/\∀a,al M k=J a->aN8 a=aN8 j.aN'/\∀b v,al a b=J v->(b<y->v=azQ j k b)/\(y<=b->v=0)
theorem aG2{j:b8}{k y v:Int}{M:List (List Int)}{d:List Int}(h:az4 j k y M)(e:al M k=J d)(i:0<=y/\y<aN8 d)(m:v=azQ j k y):az4 j k (y+1) (M.set k.toNat (d.set y.toNat v)):=by
 have l:=ku e;refine⟨⟨by simp[h.1.1],λa r f g=>?_⟩,λr f=>?_⟩
 ·rw[rM l.1 l.2,if_neg (by omega)] at f;exact h.1.2 a r f g
 ·rw[rM l.1 l.2,if_pos rfl] at f;cases f;have q:=h.2 d e;refine⟨by simp[q.1],λb w f=>?_⟩;rw[rM i.1 i.2] at f;split at f
  ·cases f;exact⟨λ_=>by subst b;exact m,λ_=>by omega⟩
  ·have:=q.2 b w f;exact⟨λ_=>this.1 (by omega),λ_=>this.2 (by omega)⟩
theorem aG0{j:b8}{k y:Int}{M:List (List Int)}(h:az4 j k y M)(z:azQ j k y=0):az4 j k (y+1) M:=
 ⟨h.1,λa e=>⟨(h.2 a e).1,λb v f=>⟨λg=>by
  by_cases q:b=y
  ·subst q;rw[z];exact((h.2 a e).2 b v f).2 (by omega)
  ·exact((h.2 a e).2 b v f).1 (by omega),λg=>((h.2 a e).2 b v f).2 (by omega)⟩⟩⟩
def aGY{j:b8}{k:Int}{M:List (List Int)}(h:azW j k M)(l:0<=k/\k<aN8 M):az4 j k 0 (M.set k.toNat (gb (aN8 j.aN') 0)):=by
 refine⟨⟨by simp[h.1],λa r f g=>?_⟩,λr f=>?_⟩
 ·rw[rM l.1 l.2,if_neg (by omega)] at f;exact h.2 a r f g
 ·rw[rM l.1 l.2,if_pos rfl] at f;cases f;refine⟨by simp,λb w f=>⟨λg=>by have:=ku f;omega,λ_=>ym (lP f)⟩⟩
theorem aGZ{j:b8}{k y:Int}{M:List (List Int)}(h:az4 j k y M)(l:(aN8 j.aN':Int)<=y):azW j (k+1) M:=by
 refine⟨h.1.1,λa r f g=>?_⟩;by_cases q:a=k
 ·subst q;have p:=h.2 r f;exact⟨p.1,λb v e=>(p.2 b v e).1 (by have:=ku e;omega)⟩
 ·exact h.1.2 a r f (by omega)
theorem aFy{j:b8}{M:List (List Int)}(h:aN8 M=aN8 j.aN'):azW j 0 M:=⟨h,λa r f g=>by have:=ku f;omega⟩
theorem aG1{j:b8}{k y:Int}{M:List (List Int)}(h:az4 j k y M):aN8 M=aN8 j.aN'/\∀a,al M k=J a->aN8 a=aN8 j.aN':=⟨h.1.1,λa e=>(h.2 a e).1⟩
theorem aGX{j:b8}{k:Int}{M:List (List Int)}(h:azW j k M):aN8 M=aN8 j.aN':=h.1
attribute [grind->] aG1 aGX aGZ
variable {N:Nat}[gM N]
instance (priority:=high){b a}:au (MC b a) (True) λr=>r=aa↔b.dS≠a.dS\/a.pZ<=b.pZ:=⟨by rw[MC];exact aC⟩
instance (priority:=high){U d a b}:au (MB U d a b) (aN9 U.aN'/\az4 U a b d/\aOa a U.aN'/\aOa b U.aN'/\aN9 d) λr=>az4 U a (b+1) r:=⟨by rw[MB];(repeat' with_reducible first|intro _|apply dq|apply dh|refine dj (by omega) ?_|apply di|apply dk|apply df|apply eC|apply dr|apply dg)<;>first|grind -mbtc|grind -mbtc[aG0,Ax]|grind -mbtc[aG2,Ax]⟩
instance (priority:=high){U a e n d b}:au (DF U a e n d b) (aN9 U.aN'/\e=aN8 U.aN'/\aOa a U.aN'/\aOf b e n/\az4 U a b d) λr=>azW U (a+1) r:=by induction n generalizing d b;exact bJ;exact⟨by rw[DF];exact aC⟩
instance (priority:=high){U d n b a}:au (DE N U d n b a) (aN9 U.aN'/\aOi U.aN' a d n/\azW U a b) λr=>azW U d r:=by induction n generalizing b a;exact bJ;exact⟨by rw[DE];exact aOr @aGY⟩
instance (priority:=high){a}:au (Hk N a) (aN9 a.aN'/\ue a) λr=>kW a (aN8 a.aN') r/\azW a (aN8 a.aN') r:=⟨λb=>azU (au.ok (e:=Hk N a) (by grind -mbtc)) (by revert b;rw[Hk];(repeat' with_reducible first|intro _|apply dq|apply dh|refine dj (by omega) ?_|apply di|apply dk|apply df|apply eC|apply dr|apply dg)<;>first|grind -mbtc|grind -mbtc[aFy]|(subst_vars;simp only[sG,IL] at*;grind -mbtc[aFy]))⟩
end
section
def az2(M:List (List Int))(C:List Int)(i a l:Int):Prop:=∀b v c,al M a=J b->al b i=J v->0<v->al C a=J c->c+v-1<=l
def aGT{M:List (List Int)}{C:List Int}{i a l k:Int}(h:az2 M C i a l)(q:l<=k):az2 M C i a k:=λb v c e f g o=>by have:=h b v c e f g o;omega
def aAA(j:b8)(M:List (List Int))(C L b:List Int)(k:Int):Prop:=∀i:Int,i∉b.drop k.toNat->∀l c,al L i=J l->al C i=J c->azR j.dO l c/\∀a,az2 M C i a l
def aAz(j:b8)(M:List (List Int))(C L:List Int):Prop:=∀i l c,al L i=J l->al C i=J c->azR j.dO l c/\∀a,az2 M C i a l
def aCr{j:b8}{M:List (List Int)}{a b v:Int}{d:List Int}(Z:azW j (aN8 j.aN') M)(e:al M a=J d)(f:al d b=J v):aN8 d=aN8 j.aN'/\v=azQ j a b:=by
 have:=ku e;have:=Z.1;have z:=Z.2 a d e (by omega);exact⟨z.1,z.2 b v f⟩
def aFs{p q:c4}{a b:Int}(h:0<Ax p q a b):p.pZ<q.pZ:=by
 unfold Ax at h;split at h<;>omega
def aGl{j:b8}{M:List (List Int)}{C L I A:List Int}{k y c:Int}(S:uu j A)(e:al A k=J y)(Z:azW j (aN8 j.aN') M)(R:aN8 C=aN8 j.aN')(T:aN8 L=aN8 j.aN')(G:aAA j M C L A k)(B:∀i,i≠y->al I i=al L i)(D:∀l,al I y=J l->azR j.dO l c/\∀a,az2 M C y a l):aAA j M (C.set y.toNat c) I A (k+1):=by
 have s:=Zh S e;have P:=ku e;obtain⟨p,g⟩:=hT (xs:=j.aN') s.1 s.2;intro i Q l d H w;rw[rM s.1 (by omega)] at w;by_cases q:i=y
 ·subst q;rw[if_pos rfl] at w;cases w;obtain⟨n,u⟩:=D l H;refine⟨n,λa r v x E F h f=>?_⟩;rw[rM s.1 (by omega)] at f;split at f
  ·rename_i z;subst z;have:=(aCr Z E F).2;rw[aFr g g] at this;have:=aFs (p:=p) (q:=p) (a:=a) (b:=a) (by omega);omega
  ·exact u a r v x E F h f
 ·rw[if_neg q] at w;rw[B i q] at H;have O:i∉A.drop k.toNat:=by
   rw[sT e];intro m;rcases ha.mp m with m|m
   ·exact q m
   ·exact Q m
  obtain⟨n,u⟩:=G i O l d H w;refine⟨n,λa r v x E F h f=>?_⟩;rw[rM s.1 (by omega)] at f;split at f
  ·rename_i z;subst z;have N:=ku H;obtain⟨t,K⟩:=hT (xs:=j.aN') (i:=i) N.1 (by omega);have:=(aCr Z E F).2;rw[aFr g K] at this;have:=aFs (p:=p) (q:=t) (a:=a) (b:=i) (by omega);have:=(Zi S e).2 i N.1 (by omega) O p t g K;omega
  ·exact u a r v x E F h f
def aGj{j:b8}{M:List (List Int)}{C L a:List Int}(S:uu j a)(b:aN8 L=aN8 j.aN'):aAA j M C L a 0:=λi h l c e f=>by
 have:=ku e;exact absurd ((S.2.2.1 i).mpr ⟨this.1,by omega⟩) (by simpa using h)
def aGk{j:b8}{M:List (List Int)}{C L a:List Int}{k:Int}(G:aAA j M C L a k)(h:(aN8 a:Int)<=k):aAz j M C L:=λi l c e f=>G i (by rw[List.drop_eq_nil_of_le (by omega)];simp) l c e f
def aGU{M:List (List Int)}{C:List Int}{i l:Int}(h:∀a,0<=a->az2 M C i a l):∀a,az2 M C i a l:=λa b v c e f g o=>h a (ku e).1 b v c e f g o
def aGF{j:b8}{a L b:List Int}{k y:Int}(S:uu j a)(e:al a k=J y)(A:∀i∈a.drop k.toNat,∀l,al L i=J l->l=0)(B:∀i,i≠y->al b i=al L i):∀i∈a.drop (k+1).toNat,∀l,al b i=J l->l=0:=λi m l f=>by
 have n:=(Zi S e).1;rw[B i λq=>n (q▸m)] at f;exact A i (by rw[sT e];exact ha.mpr (.inr m)) l f
variable {N:Nat}[gM N]
instance (priority:=high){U b t a E}:au (aPa U b t a E) (uj (aN8 b) U/\aN8 t=aN8 b/\aN9 b/\nT t/\0<=a/\a<aN8 b/\(∀l,al b a=J l->0<=l/\l<=5000)/\0<=E/\E<aN8 b/\aN9 U) λr=>aN8 r=aN8 b/\(∀i,i≠a->al r i=al b i)/\∀l,al r a=J l->(al b a=J l\/yv U t a l)/\0<=l/\l<=5000/\(∀o,al b a=J o->o<=l)/\az2 U t a E l:=⟨by rw[aPa];(repeat' with_reducible first|intro _|apply dq|apply dh|refine dj (by omega) ?_|apply di|apply dk|apply df|apply eC|apply dr|apply dg)<;>first|grind -mbtc|grind -mbtc[az2]|(rename_i h y F _ j H _ c O I _ k s _ P K _ e A _ R M _ S L _ Q x;have B:0<=e/\e+j-1<=5000/\Aw.wrap (Aw.wrap (e+j)-1)=e+j-1:=(by grind -mbtc);rw[B.2.2] at x;have Z:(al b a=J (max k (e+j-1))\/yv U t a (max k (e+j-1)))/\0<=max k (e+j-1)/\max k (e+j-1)<=5000/\k<=max k (e+j-1)/\az2 U t a E (max k (e+j-1)):=(by have v:=h.2.2.2.2.2.2.1 k s;refine⟨?_,by omega,by omega,by omega,λN w d f g _ o=>?_⟩;(by_cases p:e+j-1<=k;(exact .inl (by rw[s,Int.max_eq_left p]));exact .inr (alH F H A c (by omega)));rw[F] at f;cases f;rw[H] at g;cases g;rw[A] at o;cases o;omega);generalize max k (e+j-1)=m at Z x;have C:=ku s;subst x;refine⟨by simp,λi n=>by rw[rM C.1 (by omega),if_neg n],λl q=>?_⟩;rw[rM C.1 (by omega),if_pos rfl] at q;cases q;exact⟨Z.1,Z.2.1,Z.2.2.1,λo z=>by rw[s] at z;cases z;exact Z.2.2.2.1,Z.2.2.2.2⟩)⟩
instance (priority:=high){U j d p n h k}:au (aOZ U j d p n h k) (aN9 U/\aN9 j/\p=aN8 j/\0<=k/\k<=p/\p-k<n/\uj (aN8 h) U/\aN8 j=aN8 h/\aN9 h/\nT j/\0<=d/\d<aN8 h/\(∀l,al h d=J l->0<=l/\l<=5000)) λr=>aN8 r=aN8 h/\(∀i,i≠d->al r i=al h i)/\∀l,al r d=J l->(al h d=J l\/yv U j d l)/\0<=l/\l<=5000/\(∀o,al h d=J o->o<=l)/\∀a,k<=a->az2 U j d a l:=by induction n generalizing h k with|zero=>exact bJ|succ n s=>exact⟨by rw[aOZ];(repeat' with_reducible first|intro _|apply dq|apply dh|refine dj (by omega) ?_|apply di|apply dk|apply df|apply eC|apply dr|apply dg)<;>first|grind -mbtc|(rename_i y e f r g;clear s;refine⟨by grind -mbtc,by grind -mbtc,λl t=>?_⟩;have a:=g.2.2 l t;obtain⟨o,m⟩:=hT (xs:=y) (i:=d) (by grind -mbtc) (by grind -mbtc);have b:=f.2.2 o m;have c:=a.2.2.2.1 o m;refine⟨by grind -mbtc,a.2.1,a.2.2.1,by grind -mbtc,λz w=>?_⟩;by_cases q:z=k;exact q▸aGT b.2.2.2.2 c;exact a.2.2.2.2 z (by rw[Qb (by omega) (by omega)];omega))|grind -mbtc[az2]⟩
instance (priority:=high){U b g j n d f e}:au (aOY N U b g j n d f e) (kW b (aN8 b.aN') U/\ue b/\uu b g/\j=aN8 g/\aN9 U/\aN9 g/\azW b (aN8 b.aN') U/\(∀i∈b.aN',i.round=0)/\0<=e/\e<=j/\j-e<n/\aN8 d=aN8 b.aN'/\aN8 f=aN8 b.aN'/\nT f/\(∀i∈g.drop e.toNat,∀l,al d i=J l->l=0)/\ru U f d/\(∀i l,al d i=J l->0<=l/\l<=5000)/\aAA b U f d g e) λr=>iX r (λa=>aN8 a.1=aN8 b.aN'/\aN8 a.2=aN8 b.aN'/\nT a.2/\ru U a.2 a.1/\aAz b U a.2 a.1/\∀i l,al a.1 i=J l->0<=l)/\fh r λa=>a≠0:=by induction n generalizing d f e with|zero=>exact bJ|succ n p=>exact⟨by rintro⟨R,s,S,_,_,_,Z,Q,_,_,_,k,h,C,A,W,V,G⟩;rw[aOY];(repeat' with_reducible first|intro _|apply dq|apply dh|refine dj (by omega) ?_|apply di|apply dk|apply df|apply eC|apply dr|apply dg)<;>clear p<;>first|grind -mbtc|((with_reducible repeat' apply oE)<;>first|assumption|omega|(clear G Z;grind -mbtc)|(clear G Z;subst_vars;intro v m;rcases aFt m with m|m<;>grind -mbtc)|(subst_vars;exact YT S (by assumption) R A W h (by grind -mbtc) (by grind -mbtc))|(rw[Qb (by omega) (by omega)];subst_vars;refine aGl S (by assumption) Z h k G (by clear G Z W R;grind -mbtc) (λl q=>⟨by clear G Z W R;grind -mbtc,aGU ?_⟩);clear G Z W R;grind -mbtc)|exact aGk G (by omega)|(rw[Qb (by omega) (by omega)];exact aGF S (by assumption) A (by clear G Z W R;grind -mbtc))|(clear W R G Z;grind -mbtc))⟩
end
section
def aHm{s:List (List Int)}(N:s.flatten.Nodup){a b w:Int}{t u:List Int}(e:al s a=J t)(d:al s b=J u)(f:w∈t)(h:w∈u):a=b:=by
 by_cases q:a=b
 ·exact q
 ·exfalso;have j:=ku e;have i:=ku d;have p:=aag e;have g:w∈(s.eraseIdx a.toNat).flatten:=by
   have m:u∈s.eraseIdx a.toNat:=by rw[List.mem_eraseIdx_iff_getElem?];refine⟨b.toNat,by omega,?_⟩;simpa[al,i.1] using d
   exact AD.mpr ⟨u,m,h⟩
  have:=p.1.nodup_iff.mp N;rw[aEU] at this;exact this.2.2 w f w g rfl
def aHe{t:List Int}{b:Nat}{w:Int}(N:t.Nodup)(h:b<aN8 t)(e:t[b]=w):t.eraseIdx b=t.filter λi=>i !=w:=by
 have p:t=t.take b++w::t.drop (b+1):=by have:=aFu b t;rw[List.drop_eq_getElem_cons h,e] at this;exact this.symm
 rw[List.eraseIdx_eq_take_drop_succ]
 conv=>rhs;rw[p]
 rw[p,aEU,TB] at N;have f (x:List Int) (q:w∉x):x.filter (λi=>i !=w)=x:=by rw[aES];intro a m;simp;rintro rfl;exact q m
 rw[aLC,aI9,if_neg (by simp),f _ λm=>N.2.2 w m w (by simp) rfl,f _ N.2.1.1]
def aGM{T:List eE}{B:List Int}{n:Nat}{m:cn}{s u:List (List Int)}(V:iY T B s)(h:aAq n m s u)(j:0<=m.to){t:Int}{p:List Int}(e:al s t=J p):al u t=J (p.filter (λi=>i !=m.hX)++if t=m.to then[m.hX] else[]):=by
 obtain⟨R,fn,E,b,w,W,x,y⟩:=h;have N:=V.1.2.2.1.1;have C {t:Int} {p:List Int} (e:al s t=J p):p.Nodup:=N.sublist (af4 (lP e));have f {p:List Int} (q:m.hX∉p):p.filter (λi=>i !=m.hX)=p:=by rw[aES];intro a k;simp;rintro rfl;exact q k
 have A:aN8 w=aN8 s/\∀t p,al s t=J p->al w t=J (p.filter λi=>i !=m.hX):=by
  rcases W with⟨a,k⟩|⟨q,a,k⟩
  ·rw[x.1 (by omega)];exact⟨rfl,λt p e=>by rw[e,f λg=>k (AD.mpr ⟨p,lP e,g⟩)]⟩
  ·have l:=ku a;have d:=ku k;rw[x.2 l.1 q a];refine⟨by simp,λt p e=>?_⟩;rw[rM l.1 l.2];split
   ·rename_i z;subst z;rw[a] at e;cases e;rw[aHe (C a) (by omega) (by
     have:q[b.toNat]?=J m.hX:=by simpa[al,d.1] using k
     exact(fq.mp this).2)]
   ·rename_i z;rw[e,f λg=>z (aHm N e a g (lP k))]
 have l:=ku e;obtain⟨q,r⟩:=hT (xs:=w) (i:=m.to) j (by omega);rw[y.2 j q r,rM j (by omega)];split
 ·rename_i z;subst z;rw[A.2 _ _ e] at r;cases r;rfl
 ·rw[A.2 _ _ e];simp
def aL0(b:Int):Nat:=(j2 .i64 b).getD 0
theorem aJ1{b:Int}{y:Nat}(e:j2 .i64 b=J y):aL0 b=y:=by unfold aL0;rw[e];rfl
def aIz(c b:Int):Bool:=ih .and .i64 (sE c ((2 ^ aL0 b:Nat):Int)) 1==1
def aLU{b:Type}{a:b}{l:List b}{k:Int}(h:0<k):al (a::l) k=al l (k-1):=by
 unfold al;rw[if_pos (by omega),if_pos (by omega),show k.toNat=(k-1).toNat+1 by omega,List.getElem?_cons_succ]
def aM6{a:Type}{l:List a}{m k:Int}(d:0<=m)(b:0<=k):al (l.drop m.toNat) k=al l (m+k):=by
 unfold al;rw[if_pos b,if_pos (by omega),aIQ];congr 1;omega
def aLV{l:List Int}{a b t:Int}(N:l.Nodup)(e:al l a=J t)(f:al l b=J t):a=b:=by
 have d:=ku e;have g:=ku f;unfold al at e f;rw[if_pos d.1] at e;rw[if_pos g.1] at f;have:=(List.getElem?_inj (i:=a.toNat) (j:=b.toNat) (by omega) N).mp (e.trans f.symm);omega
def aIK:List Int->Int->Int->Int
 |[],_,_=> -1
 |a::l,w,k=>if a=w then k else aIK l w (k+1)
attribute [grind=] aIK
def aM9{b:List Int}{k w j:Int}(N:b.Nodup)(e:al b k=J w):aIK b w j=j+k:=by
 induction b generalizing k j with
 |nil=>simp[al] at e
 |cons a l d=>
  rw[TB] at N;unfold aIK;have g:=ku e;by_cases q:k=0
  ·subst q;have:a=w:=by simpa[al] using e
   rw[if_pos this];omega
  ·have f:=e;rw[aLU (by omega)] at f;rw[if_neg (by rintro rfl;exact N.1 (lP f)),d N.2 f];omega
def aIw(y:bq)(w:Int):Int:=match al y.bD w with
 |some v=>(az6 y.b2 v.aOl 0).1
 |none=> -1
def aIB(y:bq)(w:Int):Int:=match al y.b2 (aIw y w) with
 |some o=>o.cq
 |none=> -1
def aIA(p:eR)(w:Int):Int:=(al p.aOc.e9.fW (aIK p.bD w 0)).getD 0
def aIy:List Int->Int->Int->Option Int
 |[],_,_=>none
 |t::l,c,m=>if aIz c m=aa then J t else aIy l c (m+1)
def aIu(y:bq)(w m:Int):Int:=(aIy (y.bo.aH.drop m.toNat) (aIA y.bo w) m).getD (aIB y w)
def aIC(y:bq)(w:Int):Int:=if y.bo.h9=0 then y.bo.aOs else aIu y w (y.bo.h9-1)
def aIx(y:bq):Int:=if y.bo.h9=0 then y.bo.aOs else(al y.bo.aH (y.bo.h9-1)).getD (-1)
def aNQ{l:List Int}{c m t:Int}(h:aIy l c m=J t):∃b,m<=b/\al l (b-m)=J t/\aIz c b=aa:=by
 induction l generalizing m with
 |nil=>simp[aIy] at h
 |cons a l d=>
  unfold aIy at h;split at h
  ·rename_i q;exact⟨m,by omega,by rw[show m-m=0 by omega];simpa[al] using h,q⟩
  ·obtain⟨b,g,f,e⟩:=d h;exact⟨b,by omega,by rw[aLU (by omega),show b-m-1=b-(m+1) by omega];exact f,e⟩
def aLv{d:List Int}{c m t:Int}(g:0<=m)(h:aIy (d.drop m.toNat) c m=J t):∃b,m<=b/\al d b=J t/\aIz c b=aa:=by
 obtain⟨b,f,a,e⟩:=aNQ h;rw[aM6 g (by omega),show m+(b-m)=b by omega] at a;exact⟨b,f,a,e⟩
def aMc{y:bq}{w m t:Int}(e:al y.bo.aH m=J t):aIu y w m=if aIz (aIA y.bo w) m=aa then t else aIu y w (m+1):=by
 unfold aIu;rw[sT e]
 conv=>lhs;unfold aIy
 split<;>rfl
def aNe{y:bq}{w:Int}(a:0<=y.bo.h9)(b:y.bo.h9<=aN8 y.bo.aH)(h:aIC y w≠aIx y):aIC y w=aIu y w y.bo.h9:=by
 unfold aIC aIx at*;split at h
 ·exact absurd rfl h
 ·rename_i z;rw[if_neg z];obtain⟨t,e⟩:=hT (xs:=y.bo.aH) (i:=y.bo.h9-1) (by omega) (by omega);rw[e,aMc e] at h;rw[aMc e,show y.bo.h9-1+1=y.bo.h9 by omega] at*;split
  ·rename_i q;rw[if_pos q] at h;exact absurd rfl h
  ·rfl
def aM'{l:List (List UInt8)}{d:List UInt8}{k:Int}(e:0<=k)(h:d∈l):0<=az5 l d k:=by
 induction l generalizing k with
 |nil=>simp at h
 |cons a l b=>
  unfold az5;split
  ·exact e
  ·rename_i q;rcases ha.mp h with rfl|h
   ·exact absurd rfl q
   ·exact b (by omega) h
def aNb{b:List b7}{d:List UInt8}{k:Int}(h:∃o∈b,d∈o.c7):∃i o,(az6 b d k).1=k+i/\al b i=J o:=by
 induction b generalizing k with
 |nil=>obtain⟨o,m,_⟩:=h;simp at m
 |cons a l f=>
  unfold az6;split
  ·exact⟨0,a,by simp,by simp[al]⟩
  ·rename_i q;obtain⟨o,m,g⟩:=h;rcases ha.mp m with rfl|m
   ·exact absurd (aM' (by omega) g) q
   ·obtain⟨i,o,j,e⟩:=f (k:=k+1) ⟨o,m,g⟩;have:=ku e;exact⟨i+1,o,by omega,by rw[aLU (by omega),show i+1-1=i by omega];exact e⟩
def aJa{y:bq}{w:Int}(h:nV y w):∃o,al y.b2 (aIw y w)=J o/\aIB y w=o.cq:=by
 obtain⟨v,e,h⟩:=h;obtain⟨i,o,b,a⟩:=aNb (k:=0) h;have g:al y.b2 (aIw y w)=J o:=by unfold aIw;rw[e];dsimp only;rw[b,show 0+i=i by omega];exact a
 exact⟨o,g,by unfold aIB;rw[g]⟩
def Yw(c:c8)(y:bq):Prop:=
 y.bo.bD.Nodup/\(y.bo.aH.Nodup/\y.bo.aOs∉y.bo.aH/\∀o∈y.b2,o.cq≠y.bo.aOs/\o.cq∉y.bo.aH)/\
 (∀w∈y.bo.bD,∃q,al y.aH (aIC y w)=J q/\w∈q)
def aID(y:bq):Prop:=(y.b2.map λo=>o.cq).Nodup
def aNc{y:bq}{a b:Int}{o p:b7}(N:aID y)(e:al y.b2 a=J o)(f:al y.b2 b=J p)(h:o.cq=p.cq):a=b:=by
 have g {i:Int} {o:b7} (e:al y.b2 i=J o):al (y.b2.map λo=>o.cq) i=J o.cq:=by have l:=ku e;unfold al at e⊢;rw[if_pos l.1] at e⊢;rw[List.getElem?_map,e];rfl
 exact aLV N (g e) (by rw[h];exact g f)
def aIH(c:c8)(y:bq):Prop:=iY c.aH (lens y.bD) y.aH/\Yw c y/\aID y/\nW y/\AG y.bo y.aH/\kC y/\∀o∈y.b2,0<=o.cq/\o.cq<aN8 y.aH
def aJ2{c:c8}{y:bq}(Z:aIH c y):(aIx y=y.bo.aOs\/aIx y∈y.bo.aH)/\∀w∈y.bo.bD,aIu y w y.bo.h9≠aIx y/\0<=aIu y w y.bo.h9/\aIu y w y.bo.h9<aN8 y.aH:=by
 obtain⟨V,B,N,H,P,I,O⟩:=Z;have l:=I.1;have n:=I.2.1;have s:aIx y=y.bo.aOs\/∃b,b<y.bo.h9/\al y.bo.aH b=J (aIx y):=by
  unfold aIx;split
  ·exact .inl rfl
  ·obtain⟨t,e⟩:=hT (xs:=y.bo.aH) (i:=y.bo.h9-1) (by omega) (by omega);exact .inr ⟨y.bo.h9-1,by omega,by rw[e];rfl⟩
 refine⟨s.imp id λ⟨b,_,e⟩=>lP e,λw k=>?_⟩;unfold aIu;cases g:aIy (y.bo.aH.drop y.bo.h9.toNat) (aIA y.bo w) y.bo.h9 with
 |some t=>
  obtain⟨b,m,a,_⟩:=aLv l g;simp only[IV];refine⟨?_,I.2.2.2.2.2.2.2.1 t (lP a)⟩;rcases s with s|⟨f,j,d⟩
  ·rw[s];rintro rfl;exact B.2.1.2.1 (lP a)
  ·rintro rfl;have:=aLV B.2.1.1 a d;omega
 |none=>
  simp only[aL'];obtain⟨o,e,h⟩:=aJa (H w k);rw[h];refine⟨?_,O o (lP e)⟩;rcases s with s|⟨f,j,d⟩
  ·rw[s];exact(B.2.1.2.2 o (lP e)).1
  ·intro q;exact(B.2.1.2.2 o (lP e)).2 (q▸lP d)
def aIJ(a:List (List Int))(l:List cn)(s:List (List Int)):Prop:=∀t p,al a t=J p->al s t=J (p.filter (λi=>decide (i∉l.map λm=>m.hX))++(l.filter λm=>decide (m.to=t)).map λm=>m.hX)
def aLG{s:List (List Int)}:aIJ s [] s:=λt p e=>by rw[e,aES.mpr (by simp)];simp
def aMb{T:List eE}{j:List Int}{n:Nat}{m:cn}{b s u:List (List Int)}{l:List cn}(V:iY T j s)(h:aIJ b l s)(F:aAq n m s u)(d:0<=m.to)(k:m.hX∉l.map λm=>m.hX):aIJ b (l++[m]) u:=λt p e=>by
 rw[aGM V F d (h t p e),aLC,List.filter_filter];have z:((l.filter λm=>decide (m.to=t)).map λm=>m.hX).filter (λi=>i !=m.hX)=(l.filter λm=>decide (m.to=t)).map λm=>m.hX:=by rw[aES];intro a q;obtain⟨r,f,rfl⟩:=l2.mp q;simp only[bne_iff_ne,ne_eq];intro g;exact k (g▸l2.mpr ⟨r,(aIv.mp f).1,rfl⟩)
 rw[z,aLC,aIG,IH];congr 2
 ·apply List.filter_congr;intro i _;simp only[aIG,List.map_cons,List.map_nil,kU,List.mem_singleton,not_or];by_cases g:i=m.hX<;>simp[g]
 ·congr 1;by_cases g:t=m.to
  ·rw[if_pos g,aI9,if_pos (by simpa using g.symm),aIG];rfl
  ·rw[if_neg g,aI9,if_neg (by simpa usingλq=>g q.symm)];simp
def aLH{T:List eE}{f:List Int}{d q:List (List Int)}:∀{a l1:List cn}{s:List (List Int)},aAe T f a s q->iY T f s->aIJ d l1 s->((l1++a).map λm=>m.hX).Nodup->(∀m∈a,0<=m.to)->aIJ d (l1++a) q
 |[],l1,s,R,V,h,N,k=>by rw[aI1];exact(R:s=q)▸h
 |m::a,l1,s,⟨u,F,b,R⟩,V,h,N,k=>by
  have e:l1++m::a=(l1++[m])++a:=by simp
  rw[e] at N⊢;have i:m.hX∉l1.map λm=>m.hX:=λz=>by rw[aIG,aIG,aEU] at N;exact(aEU.mp N.1).2.2 _ z _ (by simp) rfl
  exact aLH R b (aMb V h F (k m (by simp)) i) N λg z=>k g (by simp[z])
def aRA{c b:Int}(h:0<=c)(k:c<4611686018427387904)(a:0<=b)(f:b<64):aIz c b=aa↔c.toNat / 2 ^ b.toNat%2=1:=by
 have e:aL0 b=b.toNat:=by unfold aL0;rw[show j2 .i64 b=J (min b.toNat 64) from if_pos a];simp;omega
 unfold aIz;rw[e];obtain⟨n,rfl⟩:=Int.eq_ofNat_of_zero_le h;have d:sE (n:Int) ((2 ^ b.toNat:Nat):Int)=((n / 2 ^ b.toNat:Nat):Int):=(Int.ofNat_fdiv n _).symm;have l:n / 2 ^ b.toNat<=n:=Nat.div_le_self _ _;rw[d,sG];generalize n / 2 ^ b.toNat=x at*;rw[aG3 (by omega) (by omega) (by omega) (by omega)];simp only[sG,beq_iff_eq];rw[show(1:Int).toNat=1 from rfl,Nat.and_one_is_mod];omega
def aOC(y:bq)(w:Int)(e:Nat):Nat:=(aIA y.bo w).toNat%2 ^ e
def aRV{y:bq}{w:Int}{e:Nat}:aOC y w (e+1)=aOC y w e+2 ^ e*((aIA y.bo w).toNat / 2 ^ e%2):=by unfold aOC;rw[Nat.pow_succ,Nat.mod_mul]
def aRU{y:bq}{w:Int}{e:Nat}:aOC y w e<2 ^ e:=Nat.mod_lt _ (aPX _)
def aOT(y:bq)(e:Nat)(u v:Int):Prop:=aOC y u e<aOC y v e\/aOC y u e=aOC y v e/\aIK y.bo.bD u 0<aIK y.bo.bD v 0
def aPA(y:bq)(e:Nat)(s:List (List Int)):Prop:=∀t q,al s t=J q->q.Pairwise λu v=>u∈y.bo.bD->v∈y.bo.bD->aOT y e u v
def aPV(y:bq):Prop:=∀w∈y.bo.bD,0<=aIA y.bo w/\aIA y.bo w<=8192
def aO7{c:c8}{y:bq}{a:List Int}{w:Int}(Z:aIH c y)(G:aPV y)(n:al y.aH (aIx y)=J a)(h:w∈y.bo.bD)(l:y.bo.h9<=64):(y.bo.h9=0->w∈a)/\(0<y.bo.h9->aOC y w y.bo.h9.toNat=aOC y w (y.bo.h9-1).toNat+if w∈a then 2 ^ (y.bo.h9-1).toNat else 0):=by
 have T:=aJ2 Z;have r:=Z.1.1.2.2.1.1;obtain⟨q,e,m⟩:=Z.2.1.2.2 w h;have p:w∈a↔aIC y w=aIx y:=⟨λk=>aHm r e n m k,λk=>by rw[k,n] at e;cases e;exact m⟩
 have x:=Z.2.2.2.2.2.1.1;have A:=Z.2.2.2.2.2.1.2.1;refine⟨λz=>p.mpr (by unfold aIC aIx;rw[if_pos z,if_pos z]),λz=>?_⟩;obtain⟨t,j⟩:=hT (xs:=y.bo.aH) (i:=y.bo.h9-1) (by omega) (by omega);have d:aIx y=t:=by unfold aIx;rw[if_neg (by omega),j];rfl
 have f:aIC y w=if aIz (aIA y.bo w) (y.bo.h9-1)=aa then t else aIu y w y.bo.h9:=by unfold aIC;rw[if_neg (by omega),aMc j,show y.bo.h9-1+1=y.bo.h9 by omega]
 have b:w∈a↔aIz (aIA y.bo w) (y.bo.h9-1)=aa:=by
  rw[p,f,d];split
  ·rename_i k;exact⟨λ_=>k,λ_=>rfl⟩
  ·rename_i k;exact⟨λg=>absurd (d▸g) (T.2 w h).1,λg=>absurd g k⟩
 have g:=G w h;rw[aRA g.1 (by omega) (by omega) (by omega)] at b;have s:=aRV (y:=y) (w:=w) (e:=(y.bo.h9-1).toNat);rw[show(y.bo.h9-1).toNat+1=y.bo.h9.toNat by omega] at s;rw[s];split
 ·rename_i k;rw[b.mp k];omega
 ·rename_i k;have:(aIA y.bo w).toNat / 2 ^ (y.bo.h9-1).toNat%2=0:=by
   have:=mt b.mpr k;omega
  rw[this];omega
def aQy{c:c8}{y:bq}{q:List (List Int)}{j:List Int}{l:List cn}(Z:aIH c y)(G:aPV y)(K:aPA y (y.bo.h9-1).toNat y.aH)(x:al y.aH (aIx y)=J j)(S:aIJ y.aH l q)(n:aN8 q=aN8 y.aH)(H:(l.map λm=>m.hX)=j)(k:y.bo.h9<=64):aPA y y.bo.h9.toNat q:=by
 intro t r B;have L:=ku B;obtain⟨p,C⟩:=hT (xs:=y.aH) (i:=t) L.1 (by omega);have e:=S t p C;rw[B] at e;cases e;rw[H];have T:=aJ2 Z;have M:=Z.2.2.2.2.2.1.1;have I:∀w∈j,w∈y.bo.bD:=Z.2.2.2.2.1 _ T.1 _ x;have s:((l.filter λm=>decide (m.to=t)).map λm=>m.hX).Sublist j:=by rw[<-H];exact aPC.map _
 rw[aPD];refine⟨((K t p C).sublist aPC).imp_of_mem λ{u v} F A h g f=>?_,((K _ _ x).sublist s).imp_of_mem λ{u v} F A h g f=>?_,λu F v A g f=>?_⟩
 ·have d:u∉j:=by simpa using(aIv.mp F).2
  have E:v∉j:=by simpa using(aIv.mp A).2
  have a:=aO7 Z G x g k;have b:=aO7 Z G x f k;have z:0<y.bo.h9:=by have:=mt a.1 d;omega
  have a:=a.2 z;have b:=b.2 z;rw[if_neg d] at a;rw[if_neg E] at b;have h:=h g f;unfold aOT at*;rw[a,b];simpa using h
 ·have d:=s.subset F;have E:=s.subset A;have a:=aO7 Z G x g k;have b:=aO7 Z G x f k;have h:=h g f;by_cases z:0<y.bo.h9
  ·have a:=a.2 z;have b:=b.2 z;rw[if_pos d] at a;rw[if_pos E] at b;unfold aOT at*;rw[a,b];omega
  ·rw[show y.bo.h9.toNat=(y.bo.h9-1).toNat by omega];exact h
 ·have d:u∉j:=by simpa using(aIv.mp F).2
  have E:=s.subset A;have a:=aO7 Z G x g k;have b:=aO7 Z G x f k;have z:0<y.bo.h9:=by have:=mt a.1 d;omega
  have a:=a.2 z;have b:=b.2 z;rw[if_neg d] at a;rw[if_pos E] at b;have m:=aRU (y:=y) (w:=u) (e:=(y.bo.h9-1).toNat);unfold aOT;rw[a,b];omega
end
section
def aOp(y:bq)(o:b7)(w:Int):Int:=match al y.bD w with
 |some v=>az5 o.c7 v.aOl 0
 |none=> -1
def aPO{os:List b7}{d:List UInt8}{k:Int}:(az6 os d k=(-1, -1)/\∀o∈os,az5 o.c7 d 0<0)\/∃i o,(az6 os d k).1=k+i/\al os i=J o/\(az6 os d k).2=az5 o.c7 d 0/\0<=az5 o.c7 d 0/\∀j p,j<i->al os j=J p->az5 p.c7 d 0<0:=by
 induction os generalizing k with
 |nil=>exact .inl ⟨rfl,by simp⟩
 |cons a l n=>
  unfold az6;split
  ·rename_i q;refine .inr ⟨0,a,by simp,by simp[al],rfl,q,λj p h e=>?_⟩;have:=ku e;omega
  ·rename_i q;rcases n (k:=k+1) with⟨g,f⟩|⟨i,o,g,f,r,s,t⟩
   ·refine .inl ⟨g,λo m=>?_⟩;rcases ha.mp m with rfl|m
    ·omega
    ·exact f o m
   ·have:=ku f;refine .inr ⟨i+1,o,by omega,by rw[aLU (by omega),show i+1-1=i by omega];exact f,r,s,λj p w e=>?_⟩;by_cases z:j=0
    ·subst z;simp[al] at e;subst e;omega
    ·have b:=ku e;rw[aLU (by omega)] at e;exact t (j-1) p (by omega) e
def aRy{y:bq}{w k:Int}{o:b7}(h:nV y w)(t:aIw y w=k)(e:al y.b2 k=J o):0<=aOp y o w:=by
 obtain⟨v,g,p,b,f⟩:=h;unfold aIw at t;unfold aOp;rw[g] at t⊢;dsimp only at t⊢;rcases aPO (os:=y.b2) (d:=v.aOl) (k:=0) with⟨_,a⟩|⟨i,m,l,a,_,j,_⟩
 ·have:=a p b;have:=aM' (k:=0) (by omega) f;omega
 ·have:i=k:=by omega
  subst this;rw[e] at a;cases a;exact j
def aSh{c:c8}{y:bq}{w k:Int}{o:b7}(Z:aIH c y)(e:al y.b2 k=J o)(d:w∈y.bo.bD)(h:aIu y w y.bo.h9=o.cq):aIw y w=k:=by
 have i:=Z.2.2.2.2.2.1.1;have a:=Z.2.1.2.1.2.2 o (lP e);unfold aIu at h;cases g:aIy (y.bo.aH.drop y.bo.h9.toNat) (aIA y.bo w) y.bo.h9 with
 |some u=>rw[g] at h;simp only[IV] at h;subst h;obtain⟨m,_,b,l⟩:=aLv i g;exact absurd (lP b) a.2
 |none=>rw[g] at h;simp only[aL'] at h;obtain⟨p,f,j⟩:=aJa (Z.2.2.2.1 w d);exact aNc Z.2.2.1 f e (by rw[<-j,h])
def aPH(y:bq)(s:List (List Int)):Prop:=∀k o q,al y.b2 k=J o->al s o.cq=J q->(∀u∈q,0<=aOp y o u)/\q.Pairwise (λu v=>(u∈y.bo.bD->v∈y.bo.bD)/\(u∉y.bo.bD->aOp y o u<=aOp y o v))/\(∀u∈q,u∉y.bo.bD->∀w∈y.bo.bD,aIw y w=k->aOp y o u<=aOp y o w)/\∀u∈q,u∈y.bo.bD->aIw y u=k
def aQz{c:c8}{y:bq}{q:List (List Int)}{a:List Int}{l:List cn}(Z:aIH c y)(K:aPH y y.aH)(F:al y.aH (aIx y)=J a)(S:aIJ y.aH l q)(n:aN8 q=aN8 y.aH)(E:(l.map λm=>m.hX)=a)(M:∀s∈l,s.to=aIu y s.hX y.bo.h9):aPH y q:=by
 intro k o r b g;have O:=ku g;obtain⟨p,t⟩:=hT (xs:=y.aH) (i:=o.cq) O.1 (by omega);have e:=S _ p t;rw[g] at e;cases e;rw[E];have T:=aJ2 Z;have H:a.Nodup:=Z.1.1.2.2.1.1.sublist (af4 (lP F));have x:∀w∈a,w∈y.bo.bD:=Z.2.2.2.2.1 _ T.1 _ F;have d:((l.filter λm=>decide (m.to=o.cq)).map λm=>m.hX).Sublist a:=by rw[<-E];exact aPC.map _
 have B:∀w∈(l.filter λm=>decide (m.to=o.cq)).map λm=>m.hX,w∈y.bo.bD/\aIw y w=k:=λw m=>by refine⟨x w (d.subset m),?_⟩;obtain⟨s,A,rfl⟩:=l2.mp m;have A:=aIv.mp A;exact aSh Z b (x _ (d.subset m)) (by rw[<-M s A.1];simpa using A.2)
 obtain⟨N,I,C,L⟩:=K k o p b t;refine⟨λu m=>?_,?_,λu m j=>?_,λu m z=>?_⟩
 ·rcases kU.mp m with m|m
  ·exact N u (aIv.mp m).1
  ·exact aRy (Z.2.2.2.1 u (B u m).1) (B u m).2 b
 ·rw[aPD];refine⟨I.sublist aPC,(H.sublist d).imp_of_mem λ{u v} z f _=>⟨λ_=>(B v f).1,λh=>absurd (B u z).1 h⟩,λu z v f=>⟨λ_=>(B v f).1,λh=>C u (aIv.mp z).1 h v (B v f).1 (B v f).2⟩⟩
 ·rcases kU.mp m with m|m
  ·exact C u (aIv.mp m).1 j
  ·exact absurd (B u m).1 j
 ·rcases kU.mp m with m|m
  ·exact L u (aIv.mp m).1 z
  ·exact(B u m).2
def yh(y:bq):Prop:=∀u∈y.bo.bD,∀v∈y.bo.bD,∀k o,aIw y u=k->aIw y v=k->al y.b2 k=J o->aOp y o u<aOp y o v->aIA y.bo u<=aIA y.bo v/\(aIK y.bo.bD v 0<aIK y.bo.bD u 0->aIA y.bo u<aIA y.bo v)
def aOR(y:bq)(a:List b7)(s:List (List Int)):Prop:=∀o∈a,∀q,al s o.cq=J q->(∀u∈q,0<=aOp y o u)/\q.Pairwise λu v=>aOp y o u<=aOp y o v
def aRK{y:bq}{q:List (List Int)}{e:Nat}(K:aPA y e q)(O:aPH y q)(C:yh y)(G:∀w∈y.bo.bD,0<=aIA y.bo w/\(aIA y.bo w).toNat<2 ^ e):aOR y y.b2 q:=by
 intro o l r f;obtain⟨k,d⟩:=uL l;obtain⟨t,p,A,n⟩:=O k o r d f;refine⟨t,(p.and (K _ r f)).imp_of_mem λ{u v} x s ⟨h,g⟩=>?_⟩;by_cases a:u∈y.bo.bD
 ·have b:=h.1 a;have g:=g a b;have j:=G u a;have m:=G v b;unfold aOT aOC at g;rw[Nat.mod_eq_of_lt j.2,Nat.mod_eq_of_lt m.2] at g;by_cases z:aOp y o u<=aOp y o v
  ·exact z
  ·have c:=C v b u a k o (n v s b) (n u x a) d (by omega);have B:=c.1;rcases g with g|⟨g,i⟩
   ·omega
   ·have:=c.2 i;omega
 ·exact h.2 a
end
section
def aP'(j:b8)(C:List Int):Prop:=∀a b p q c d,al j.aN' a=J p->al j.aN' b=J q->al C a=J c->al C b=J d->p.dS=q.dS->p.pZ<q.pZ->c<=d/\(b<a->c<d)
def aQI{j:b8}{M:List (List Int)}{C L:List Int}(Z:azW j (aN8 j.aN') M)(A:aN8 L=aN8 j.aN')(G:aAz j M C L):aP' j C:=λa b p q c d w y r s t k=>by
 have h:=ku w;have m:=ku y;obtain⟨l,el⟩:=hT (xs:=L) (i:=b) m.1 (by omega);obtain⟨n,u⟩:=G b l d el s;obtain⟨f,g⟩:=hT (xs:=M) (i:=a) h.1 (by have:=Z.1;omega);have z:=(Z.2 a f g h.2).1;obtain⟨v,x⟩:=hT (xs:=f) (i:=b) m.1 (by omega);have e:=(Z.2 a f g h.2).2 b v x;rw[aFr w y] at e;unfold Ax at e;rw[if_neg (by omega)] at e;have B:=n.1;have:=u a f v c g x (by split at e<;>omega) r;split at e<;>omega
def aP1(L:List Int)(s:Int):Prop:=0<=s/\s<=13/\∀c∈L,(yz c.toNat:Int)<=s
def aRh{L:List Int}{s c:Int}(h:aP1 L s)(k:nT L)(m:c∈L):0<=c/\c.toNat<2 ^ s.toNat:=by
 have g:=k c m;refine⟨g.1,?_⟩;have b:=h.2.2 c m;have e:yz c.toNat<=s.toNat:=by have:=h.1;omega
 have p:2 ^ yz c.toNat<=2 ^ s.toNat:=Nat.pow_le_pow_right (by omega) e;by_cases z:c.toNat=0
 ·rw[z];exact aPX _
 ·have:=(aFA (k:=c.toNat) (by omega) (by omega)).2.1;omega
def aPn(j:b8)(p:dF):Prop:=aN8 p.fW=aN8 j.aN'/\nT p.fW/\aP' j p.fW/\aP1 p.fW p.aOm
def aRz{c:Int}(h:0<=c)(k:c<4096):yz c.toNat<=13:=by
 by_cases z:c.toNat=0
 ·rw[z];decide
 ·exact(aFA (by omega) (by omega)).2.2
variable {N:Nat}[gM N]
instance (priority:=high){a U}:au (Rf N a U) (kW a (aN8 a.aN') U/\ue a/\aN9 U/\azW a (aN8 a.aN') U/\(∀i∈a.aN',i.round=0)) λr=>r.2.2=0->aN8 r.1=aN8 a.aN'/\aN8 r.2.1=aN8 a.aN'/\nT r.2.1/\ru U r.2.1 r.1/\aAz a U r.2.1 r.1/\∀i l,al r.1 i=J l->0<=l:=⟨by rw[Rf];(repeat' with_reducible first|intro _|apply dq|apply dh|refine dj (by omega) ?_|apply di|apply dk|apply df|apply eC|apply dr|apply dg)<;>first|grind -mbtc|((with_reducible repeat' apply oE)<;>first|grind -mbtc|grind -mbtc[agG]|(subst_vars;simp[af2,nT,List.getElem?_replicate,al]<;>grind -mbtc)|grind -mbtc[agG]|(subst_vars;exact aGj (agG (And.right ‹_/\IC _›) (by grind -mbtc) (And.left ‹Az _ _/\_›) (And.right ‹Az _ _/\_›)) (by grind -mbtc)))⟩
instance (priority:=high){b e n a d}:au (aA2 N b e n a d) (nT b/\aN9 b/\aOi b d e n/\0<=a.aOm/\a.aOm<=13) λr=>r.fW=[]/\a.aOm<=r.aOm/\r.aOm<=13/\∀c∈b.drop d.toNat,(yz c.toNat:Int)<=r.aOm:=by induction n generalizing a d;exact bJ;exact⟨by rw[aA2];exact aOr @aRz⟩
instance (priority:=high){a}:au (z7 N a) (aN9 a.aN'/\(∀i∈a.aN',i.round=0)) λr=>r.2=0->aPn a r.1/\ue a:=⟨by rw[z7];simp only[yo];exact aOr (oE @aP1.eq_1 (oE @aPn.eq_1 @aQI))⟩
instance (priority:=high){a}:au (Q7 N a) (aN9 a.aN'/\(∀i∈a.aN',i.round=0)) λr=>r.2=0->aPn a r.1.e9/\aN8 r.1.chain<=200/\ue a:=⟨by rw[Q7];exact aC⟩
end
section
attribute [grind->] aJ1
def aII(y:bq)(s:cn):Prop:=s.to=aIu y s.hX y.bo.h9
def aMA{a:List Int}{c m t:Int}(e:al a m=J t):aIy (a.drop m.toNat) c m=if aIz c m=aa then J t else aIy (a.drop (m+1).toNat) c (m+1):=by
 rw[sT e];rfl
def aNS{a:List Int}{c m t:Int}{y:Nat}(e:al a m=J t)(s:j2 .i64 m=J y)(h:(ih .and .i64 (sE c ((2 ^ y:Nat):Int)) 1==1)=aa):aIy (a.drop m.toNat) c m=J t:=by
 rw[aMA e,if_pos];unfold aIz;rw[aJ1 s];exact h
def aNR{a:List Int}{c m t:Int}{y:Nat}(e:al a m=J t)(s:j2 .i64 m=J y)(h:¬(ih .and .i64 (sE c ((2 ^ y:Nat):Int)) 1==1)=aa):aIy (a.drop m.toNat) c m=aIy (a.drop (m+1).toNat) c (m+1):=by
 rw[aMA e,if_neg];unfold aIz;rw[aJ1 s];exact h
theorem aNT{a:List Int}{c m:Int}(h:(aN8 a:Int)<=m):aIy (a.drop m.toNat) c m=none:=by rw[axi h];rfl
variable {N:Nat}[gM N]
instance (priority:=high){d U e n b}:au (DD d U e n b) (aN9 d/\aOi d b e n) λr=>iX r (λ_=>aIK (d.drop b.toNat) U b= -1/\U∉d.drop b.toNat)/\fh r λa=>aIK (d.drop b.toNat) U b=a/\al d a=J U:=by induction n generalizing b;exact bJ;exact⟨by rw[DD];exact aC⟩
instance (priority:=high){a U}:au (vA N a U) (aN9 a) λr=>((r= -1/\U∉a)\/al a r=J U)/\r=aIK a U 0:=⟨by rw[vA];exact aC⟩
instance (priority:=high){a}:au (Su a) (0<=a.h9/\a.h9<=aN8 a.aH/\aN9 a.aH) λr=>(r=a.aOs\/r∈a.aH)/\r=if a.h9=0 then a.aOs else(al a.aH (a.h9-1)).getD (-1):=⟨by rw[Su];exact aC⟩
instance (priority:=high){d e n b}:au (FJ d e n b) (aN9 d.aH/\(∀t∈d.aH,0<=t)/\0<=b/\b<=1000001/\1000001-b<n) λr=>(fh r λa=>0<=a)/\iX r (λ_=>aIy (d.aH.drop b.toNat) e b=none)/\fh r λa=>aIy (d.aH.drop b.toNat) e b=J a:=by induction n generalizing b with|zero=>exact bJ|succ n j=>exact⟨by rw[FJ];(repeat' with_reducible first|intro _|apply dq|apply dh|refine dj (by omega) ?_|apply di|apply dk|apply df|apply eC|apply dr|apply dg)<;>first|(rename_i c h f _;have q:=aNS f (by assumption) c;clear c;grind -mbtc)|(rename_i c r g;obtain⟨h,f⟩:=hT (xs:=d.aH) (i:=b) (by omega) (by omega);have q:=aNR f (by assumption) c;clear c;grind -mbtc)|grind -mbtc|grind -mbtc[aNT]⟩
instance (priority:=high){a U}:au (Sv N a U) (kC a/\nW a/\U∈a.bo.bD/\aN8 a.b2<=8/\(∀o∈a.b2,vR (aN8 a.aH) o)/\0<=U/\U<aN8 a.bD) λr=>0<=r/\r=aIu a U a.bo.h9:=⟨λb=>azU (au.ok (e:=Sv N a U) (by grind -mbtc)) (by revert b;rw[Sv];(repeat' with_reducible first|intro _|apply dq|apply dh|refine dj (by omega) ?_|apply di|apply dk|apply df|apply eC|apply dr|apply dg)<;>first|grind -mbtc[nW]|grind -mbtc[aIu,aIA,aIB,aIw]|(have b:=‹kC a/\_›;obtain⟨v,d⟩:=hT (xs:=a.bD) (i:=U) b.2.2.2.2.2.1 b.2.2.2.2.2.2;grind -mbtc[aIu,aIA,aIB,aIw]))⟩
instance (priority:=high){b d a}:au (aAf b d a) (True) λr=>(r=aa->a=aa)/\(r=ak->a=aa->d=b):=⟨by rw[aAf];exact aC⟩
instance (priority:=high){b e a d}:au (aB8 b a d e) (0<=a/\(e=aa->0<=d)) λr=>0<=r.2/\(b=aa->r.1=aa)/\(r.1=ak->r.2=a):=⟨by rw[aB8];exact aC⟩
instance (priority:=high){a g h l f n j b d}:au (aB7 N a g l f h n j b d) (kC a.y/\nW a.y/\aN8 a.y.b2<=8/\(∀o∈a.y.b2,vR (aN8 a.y.aH) o)/\(∀i∈f,i∈a.y.bo.bD/\0<=i/\i<aN8 a.y.bD)/\(∀k v,jv l k=J v->0<=v)/\0<=g/\aN8 f<=1000/\h=aN8 f/\0<=d/\d<=h/\h-d<n/\aN8 b<=d/\(∀s∈b,uc a.y.bo.bD s)/\(∀s∈b,s.aOt=g)/\(j=ak->∀s∈b,aII a.y s)) λr=>(aN8 r.2<=1000/\∀s∈r.2,uc a.y.bo.bD s)/\(∀s∈r.2,s.aOt=g)/\(r.1=ak->∀s∈r.2,aII a.y s)/\(r.2.map λm=>m.hX)=(b.map λm=>m.hX)++f.drop d.toNat:=by induction n generalizing j b d with|zero=>exact bJ|succ n q=>exact⟨λp=>azU (au.ok (e:=aB7 N a g l f h (n+1) j b d) (by grind -mbtc)) (by revert p;rw[aB7];(repeat' with_reducible first|intro _|apply dq|apply dh|refine dj (by omega) ?_|apply di|apply dk|apply df|apply eC|apply dr|apply dg)<;>first|grind -mbtc|grind -mbtc[uc,aII]|((with_reducible repeat' apply oE)<;>first|grind -mbtc|grind -mbtc[uc]|grind -mbtc[aII]|grind -mbtc[jv]))⟩
instance (priority:=high){a b}:au (aEf a b) (True) λr=>(r.c=a.c/\r.r=a.r/\r.y.bD=a.y.bD/\r.y.aH=a.y.aH/\r.y.b2=a.y.b2/\(nq a.y.bo->nq r.y.bo)/\(r.y.aOb=aa->r.y.cE=ak->r.y=a.y/\a.y.bo.h9<=a.y.bo.aOc.e9.aOm))/\(b=ak->(a.y.bo.h9<=a.y.bo.aOc.e9.aOm->r.y=a.y)/\(a.y.bo.aOc.e9.aOm<a.y.bo.h9->r.y.aOb=ak/\r.y.cE=ak))/\(b=aa->r.y.cE=aa/\r.y.aOb=a.y.aOb):=⟨λd=>azU (au.ok (e:=aEf a b) (by grind -mbtc)) (by revert d;rw[aEf];exact aC)⟩
end
section
def aPp(y:bq):Prop:=aPV y/\yh y/\aPA y (y.bo.h9-1).toNat y.aH/\aPH y y.aH/\aN8 y.bo.aH<=13/\∀w∈y.bo.bD,(aIA y.bo w).toNat<2 ^ aN8 y.bo.aH
def aPw(a:List b7):Prop:=a.Pairwise λo p=>∀d∈o.c7,d∉p.c7
def aIt(c:c8)(y:bq):Prop:=aID y/\aPw y.b2/\(y.aOb=ak->aOR y y.b2 y.aH)/\(y.aOb=aa->y.cE=ak->Yw c y/\aPp y)
def aL4{c:c8}{y:bq}(P:jr c y)(B:aIt c y)(b:y.aOb=aa)(f:y.cE=ak):aIH c y:=
 ⟨P.2.2.1,(B.2.2.2 b f).1,B.1,(P.2.2.2.2.2.2.1 b f).2,P.2.2.2.2.2.2.2.1 b f,(P.2.2.2.2.2.2.1 b f).1,λo m=>⟨(P.2.2.2.2.2.1 o m).1,(P.2.2.2.2.2.1 o m).2.1⟩⟩
def aMz{c:c8}{y:bq}{q:List (List Int)}{a:List Int}{l:List cn}(Z:aIH c y)(d:al y.aH (aIx y)=J a)(R:aAe c.aH (lens y.bD) l y.aH q)(b:(l.map λm=>m.hX)=a)(f:∀s∈l,aII y s):aIJ y.aH l q:=by
 have T:=aJ2 Z;have e:a.Nodup:=Z.1.1.2.2.1.1.sublist (af4 (lP d));refine aLH (l1:=[]) R Z.1 aLG (by rw[aLD,b];exact e) λm k=>?_;rw[f m k];exact(T.2 m.hX (Z.2.2.2.2.1 _ T.1 _ d _ (by rw[<-b];exact l2.mpr ⟨m,k,rfl⟩))).2.1
def aMy{c:c8}{y:bq}{q:List (List Int)}{a:List Int}{l:List cn}(Z:aIH c y)(g:al y.aH (aIx y)=J a)(R:aAe c.aH (lens y.bD) l y.aH q)(b:(l.map λm=>m.hX)=a)(f:∀s∈l,aII y s):∀w∈y.bo.bD,∃p,al q (aIu y w y.bo.h9)=J p/\w∈p:=λw d=>by
 have S:=aMz Z g R b f;have T:=aJ2 Z;by_cases k:w∈a
 ·obtain⟨p,e⟩:=hT (xs:=y.aH) (i:=aIu y w y.bo.h9) (T.2 w d).2.1 (T.2 w d).2.2;refine⟨_,S _ _ e,kU.mpr (.inr ?_)⟩;rw[<-b] at k;obtain⟨s,h,rfl⟩:=l2.mp k;exact l2.mpr ⟨s,aIv.mpr ⟨h,decide_eq_true (f s h)⟩,rfl⟩
 ·obtain⟨p,e,m⟩:=Z.2.1.2.2 w d;have n:aIC y w≠aIx y:=λz=>by rw[z,g] at e;cases e;exact k m
  rw[aNe Z.2.2.2.2.2.1.1 Z.2.2.2.2.2.1.2.1 n] at e;exact⟨_,S _ _ e,kU.mpr (.inl (aIv.mpr ⟨m,by simpa[b] using k⟩))⟩
def aNO{c:c8}{y z:bq}{q:List (List Int)}{a:List Int}{l:List cn}(Z:aIH c y)(Q:aPp y)(n:aN8 q=aN8 y.aH)(d:al y.aH (aIx y)=J a)(R:aAe c.aH (lens y.bD) l y.aH q)(b:(l.map λm=>m.hX)=a)(e:∀s∈l,aII y s)
  (f:z=bq.mk y.bD q y.b2 y.aOb (eR.mk y.bo.bD y.bo.iP y.bo.aOc y.bo.aOs y.bo.aH (y.bo.h9+1)) y.cE):Yw c z/\aPp z:=by
 have A:=aMy Z d R b e;have S:=aMz Z d R b e;have i:=Z.2.2.2.2.2.1.1;have j:=Z.2.2.2.2.2.1.2.1;have K:=aQy Z Q.1 Q.2.2.1 d S n b (by have:=Q.2.2.2.2.1;omega);have O:=aQz Z Q.2.2.2.1 d S n b e;obtain⟨V,B,N,H,P,I,h⟩:=Z;subst f;refine⟨⟨B.1,B.2.1,λw g=>?_⟩,Q.1,Q.2.1,?_,O,Q.2.2.2.2.1,Q.2.2.2.2.2⟩
 ·have:aIC (bq.mk y.bD q y.b2 y.aOb (eR.mk y.bo.bD y.bo.iP y.bo.aOc y.bo.aOs y.bo.aH (y.bo.h9+1)) y.cE) w=aIu y w y.bo.h9:=by
   unfold aIC;rw[if_neg (by have:=I.1;dsimp only;omega),show y.bo.h9+1-1=y.bo.h9 by omega];rfl
  rw[this];exact A w g
 ·dsimp only;rw[show y.bo.h9+1-1=y.bo.h9 by omega];exact K
def aRk{y z:bq}{a:List b7}{s:List (List Int)}(h:aOR y a s)(e:z.bD=y.bD):aOR z a s:=λo m q g=>by
 have:=h o m q g;have b:aOp z o=aOp y o:=by funext w;unfold aOp;rw[e]
 rw[b];exact this
def aNN{c:c8}{y z:bq}{q:List (List Int)}{a:List Int}{l:List cn}(Z:aIH c y)(Q:aPp y)(n:aN8 q=aN8 y.aH)(d:al y.aH (aIx y)=J a)(R:aAe c.aH (lens y.bD) l y.aH q)(b:(l.map λm=>m.hX)=a)(e:∀s∈l,aII y s)(i:(aN8 y.bo.aH:Int)<=y.bo.h9)(h:z.b2=y.b2)(g:z.bD=y.bD)(f:z.aH=q):aOR z z.b2 z.aH:=by
 have S:=aMz Z d R b e;have j:=Z.2.2.2.2.2.1.2.1;have K:=aQy Z Q.1 Q.2.2.1 d S n b (by have:=Q.2.2.2.2.1;omega);have O:=aQz Z Q.2.2.2.1 d S n b e;rw[h,f];refine aRk (aRK K O Q.2.1 λw m=>⟨(Q.1 w m).1,?_⟩) g;rw[show y.bo.h9.toNat=aN8 y.bo.aH by omega];exact Q.2.2.2.2.2 w m
def aLF{y z:bq}(h:aID y)(e:z.b2=y.b2):aID z:=by unfold aID;rw[e];exact h
def aQw{T:List eE}{b:List Int}{q:List (List Int)}:∀{l:List cn}{s:List (List Int)},aAe T b l s q->iY T b s->aN8 q=aN8 s
 |[],s,R,V=>by rw[(R:s=q)]
 |m::l,s,⟨u,F,a,R⟩,V=>by have:=aQw R a;have:=V.1.1;have:=a.1.1;omega
variable {N:Nat}[gM N]
instance (priority:=high){h x}:au (Sk N h x) (jr h.c h.y/\iW h.e/\aN9 x/\aIt h.c h.y) λr=>(r.1=0->rr h r.2)/\(r.1=0->aIt h.c r.2.y):=⟨λk=>azU (au.ok (e:=Sk N h x) (by grind -mbtc)) (by revert k;rw[Sk];(repeat' with_reducible first|intro _|apply dq|apply dh|refine dj (by omega) ?_|apply di|apply dk|apply df|apply eC|apply dr|apply dg)<;>first|grind -mbtc|(rename_i k b f X bX O C M t2 Y K I T l U t ca L B A cU V i z;have s:h.y.aOb=aa:=(by simpa using b);have F:h.y.cE=ak:=(by simpa using f);have Z:=aL4 k.1 k.2.2.2 s F;have Q:=(k.2.2.2.2.2.2 s F).2;have H:al h.y.aH (aIx h.y)=J C:=(by unfold aIx;rw[<-O.2];exact M);(try dsimp only at I);dsimp only at t B;have E:(l.2.map λm=>m.hX)=C:=(by simpa[Jn] using t.2.2.2);have g:=B (by simpa using A);(try dsimp only at g);rw[g.2.2.1] at i;have i0:=Z.2.2.2.2.2.1.1;have i1:=Z.2.2.2.2.2.1.2.1;have i2:=Z.2.2.2.2.2.1.2.2.1;have i3:=Z.2.2.2.2.2.1.2.2.2.1;(try dsimp only at i);rw[Qb (by omega) (by omega)] at i;have R:=(aEV g.2.2.2.2.2.2).2;have n:=(aQw R Z.1);have j:=i.1.2.2.2.2.1;have S:=i.1.2.2.1;have P:=i.1.2.2.2.1;refine⟨aLF Z.2.2.1 j,(by rw[j];exact k.2.2.2.2.1),λa=>?_,λa d=>?_⟩;(have w:l.1=ak:=(by cases q:l.1 with|false=>rfl|true=>have:=(i.2.2 q).2;rw[a] at this;exact absurd (this.trans s).symm (by decide));have p:aN8 h.y.bo.aH<=h.y.bo.h9:=(by by_cases p:h.y.bo.h9+1<=h.y.bo.aOc.e9.aOm;(have:=(i.2.1 w).1 p;rw[this] at a;exact absurd (a.symm.trans s) (by decide));omega);exact aNN Z Q n H R E (t.2.2.1 w) p j S P);(have w:l.1=ak:=(by cases q:l.1 with|false=>rfl|true=>have:=(i.2.2 q).1;rw[this] at d;cases d);rw[(i.1.2.2.2.2.2.2 a d).1];exact aNO Z Q n H R E (t.2.2.1 w) rfl)))⟩
end
end Go.W