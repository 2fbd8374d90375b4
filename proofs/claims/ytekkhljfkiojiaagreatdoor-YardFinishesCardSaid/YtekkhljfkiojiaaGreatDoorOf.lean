import Derived.Test.YtekkhljfkiojiaaGreatDoorOe
set_option linter.defProp false
set_option linter.unusedSimpArgs false
set_option linter.unusedVariables false
set_option linter.unusedSectionVars false
open And renaming intro->oE
open BitVec renaming ofInt->qC,toNat_and->aEQ,toNat_or->aFm
open Bool renaming false->ak,true->aa
open Go renaming IntKind->aG
open Go.IntKind renaming bits->pP,i64->Aw,wrap->aO,wrap_i64->vN
open Int renaming fdiv->sE,toNat->sF,toNat_natCast->sG,toNat_zero->IF
open List renaming Perm->Az,append_assoc->IH,append_nil->aI1,drop_zero->AA,eq_of_mem_replicate->ym,eraseIdx_cons_succ->YU,filter_append->aLC,filter_cons->aI9,filter_eq_self->aES,flatten_append->aET,flatten_cons->yn,getElem?_append_left->kS,getElem?_append_right->kT,getElem?_cons_succ->qH,getElem?_drop->aIQ,getElem?_eq_getElem->mm,getElem?_eq_none->Tz,getElem?_eq_some_iff->fq,getElem?_map->sH,length_take->aKf,map_append->aIG,map_cons->rA,map_id'->yo,mem_append->kU,mem_cons->ha,mem_filter->aIv,mem_flatten->AD,mem_map->l2,mem_of_getElem?->mM,mem_of_mem_take->aKg,mem_singleton->IM,nil_append->aLD,nodup_append->aEU,nodup_cons->TB,nodup_iff_pairwise_ne->aMQ,not_mem_nil->IN,pairwise_iff_getElem->af3,prefix_refl->YY,replicate->gb,sublist_append_left->aAB,sublist_flatten_of_mem->af4,take_append_drop->aFu
open List.Sublist renaming refl->aGr
open Nat renaming and_le_left->aEX
open Option renaming getD_none->aL',getD_some->IV,some->kB,none->ae,some->J
namespace Go.W
set_option maxHeartbeats 2000000
open Go.aF
section
theorem alZ {c:c8} {y:bq} {b:Bool} (h:dC c y) (k:b=ak->y.cE=ak):dC c (bq.mk y.bD y.aH y.b2 y.busy y.bo b):=by
 unfold dC ps mR at*;exact ⟨h.1,h.2.1,h.2.2.1,h.2.2.2.1,h.2.2.2.2.1,h.2.2.2.2.2.1,λa b=>by have:=h.2.2.2.2.2.2.1 a (k b);unfold kC at*;exact this,h.2.2.2.2.2.2.2⟩
theorem al4 (w:List Int) (y:bq) (b:Bool):kF w y (bq.mk y.bD y.aH y.b2 y.busy y.bo b):=⟨_,_,rfl,λ_ h=>h⟩
def agr {c:c8} {y:bq} {p:Int} (h:dC c y) (d:p=y.bo.h9+1) (k:y.cE=ak->p<=y.bo.proof.e9.steps):dC c (bq.mk y.bD y.aH y.b2 y.busy (eR.mk y.bo.bD y.bo.iP y.bo.proof y.bo.lead y.bo.aH p) y.cE):=by
 unfold dC ps mR at*;refine ⟨h.1,h.2.1,h.2.2.1,h.2.2.2.1,h.2.2.2.2.1,h.2.2.2.2.2.1,λa b=> ?_,h.2.2.2.2.2.2.2⟩;have:=h.2.2.2.2.2.2.1 a b;have k:=k b;unfold kC at*;simp only;exact ⟨by omega,by omega,this.2.2⟩
def ags {x y:bq} {p:Int} (h:gH x) (b:x.busy=aa) (f:x.cE=ak) (g:kF x.bo.bD x y):gH (bq.mk y.bD y.aH y.b2 y.busy (eR.mk y.bo.bD y.bo.iP y.bo.proof y.bo.lead y.bo.aH p) y.cE):=by
 obtain ⟨e,d,rfl,g⟩:=g;intro _ _ t a;exact g t (h b f t a)
def ZI {w:List Int} {x y:bq} (h:kF w x y):y.bo=x.bo:=by
 obtain ⟨_,_,rfl,_⟩:=h;rfl
def al2 {c:c8} {y:bq} (h:dC c y) (a:y.busy=aa) (b:y.cE=ak):0<=y.bo.h9/\y.bo.h9<=1000000:=by
 unfold dC ps mR at h;have:=h.2.2.2.2.2.2.1 a b;unfold kC at this;omega
theorem ZH {c:c8} {y:bq} (h:dC c y):dC c (bq.mk y.bD y.aH y.b2 ak (eR.mk [] (b8.mk [] 0) (e8.mk (dF.mk 0 []) []) 0 [] 0) ak):=by
 unfold dC ps mR at*;exact ⟨h.1,h.2.1,h.2.2.1,h.2.2.2.1,h.2.2.2.2.1,h.2.2.2.2.2.1,nofun,by simp,by simp,by simp,by simp,by simp,h.2.2.2.2.2.2.2.2.2.2.2.2⟩
theorem Y4 {w:List bC} {s:List (List Int)} {o:List b7} {p:eR} {b:Bool}:gH (bq.mk w s o ak p b):=nofun
def Y9 {f:List Int} {v:Int} {d y z a:b0} {A:Prop} {B:Prop} {C:Prop} {D:Prop} (h:A/\y.c=d.c/\B/\dC d.c y.y/\(∀W,v∈W->kF W d.y y.y)/\C) (k:z.c=y.c/\D/\(∃b,z.y=bq.mk y.y.bD y.y.aH y.y.b2 y.y.busy y.y.bo b/\(b=ak->y.y.cE=ak))/\∀W,kF W y.y z.y) (l:a.c=z.c/\dC z.c a.y/\((∀i∈f,i∈z.y.bo.bD)->kF z.y.bo.bD z.y a.y)) (m:v∈f):a.c=d.c/\dC d.c a.y/\((∀i∈f,i∈d.y.bo.bD)->kF d.y.bo.bD d.y a.y):=by
 obtain ⟨_,n,_,x,q,_⟩:=h;obtain ⟨j,_,_,r⟩:=k;obtain ⟨l1,t,e⟩:=l;refine ⟨by rw[l1,j,n],by rw[<-n,<-j];exact t,λw=> ?_⟩;have s:=q _ (w _ m);have g:=TZ s (r _);have p:=ZI g;rw[p] at e;exact TZ g (e w)
def agu {d a z:b0} {q:Bool} (e:z.c=a.c/\(q=ak->z.y=bq.mk a.y.bD a.y.aH a.y.b2 a.y.busy (eR.mk a.y.bo.bD a.y.bo.iP a.y.bo.proof a.y.bo.lead a.y.bo.aH (aO .i64 (a.y.bo.h9+1))) a.y.cE)/\(q=aa->z.y=(bq.mk a.y.bD a.y.aH a.y.b2 ak (eR.mk [] (b8.mk [] 0) (e8.mk (dF.mk 0 []) []) 0 [] 0) ak)))
  (g:q=ak->a.y.cE=ak->aO .i64 (a.y.bo.h9+1)<=a.y.bo.proof.e9.steps) (s:dC d.c d.y) (n:gH d.y) (b:d.y.busy=aa) (f:d.y.cE=ak) (h:a.c=d.c/\dC d.c a.y/\kF d.y.bo.bD d.y a.y):z.c=d.c/\dC d.c z.y/\gH z.y:=by
 obtain ⟨r,l,m⟩:=e;obtain ⟨p,j,k⟩:=h;have t:=al2 s b f;have i:=ZI k;refine ⟨by rw[r,p], ?_⟩;cases q
 ·rw[l rfl];rw[Qb (by rw[i];omega) (by rw[i];omega)] at g⊢;exact ⟨agr j rfl (g rfl),ags n b f k⟩
 ·rw[m rfl];exact ⟨ZH j,Y4⟩
variable {N:Nat} [gM N]
instance {a d b} :au (NT a d b) (0<=b/\b<a.e.aH.length/\(∀t∈a.e.aH,0<=t/\t<a.y.aH.length)) λr=>r=aa->d=aa/\∀t,al a.e.aH b=J t->al a.y.aH t=J []:=⟨by rintro ⟨h,g,f⟩;rw[NT];(repeat' with_reducible first|intro _|apply dq|apply dh|refine dj (by omega) ?_|apply di|apply dk|apply df|apply dr|apply dg)<;>first|grind -mbtc|grind -mbtc [BF]⟩
instance {a n d b} :au (FG a n d b) (a.e.aH.length<=1000000/\(∀t∈a.e.aH,0<=t/\t<a.y.aH.length)/\0<=b/\b<=(a.e.aH.length:Int)/\(a.e.aH.length:Int) - b<n) λr=>r=aa->d=aa/\∀t∈a.e.aH.drop b.toNat,al a.y.aH t=J []:=by induction n generalizing d b with|zero=>exact bJ|succ n f=>exact ⟨by rintro ⟨h,g,_,_,_⟩;rw[FG];(repeat' with_reducible first|intro _|apply dq|apply dh|refine dj (by omega) ?_|apply di|apply dk|apply df|apply dr|apply dg)<;>clear f<;>first|grind -mbtc|(obtain ⟨t,e⟩:=hT (xs:=a.e.aH) (i:=b) (by omega) (by omega);have:=sT e;grind -mbtc)⟩
instance {e b n g d f} :au (aEj N e b n g d f) (e.y.b2.length<=8/\(∀o∈e.y.b2,o.c7.length<=1000000)/\b.length<=40000/\(∀i∈b,0<=i/\i<e.y.bD.length)/\0<=d/\d<=(b.length:Int)/\(b.length:Int) - d<n/\f.length=d/\(∀i∈f,0<=i.dS/\i.dS<e.y.b2.length)) λr=>(∀a,r= .inl a->a.2.length=b.length/\a.1.dO=g.dO/\∀i∈a.2,0<=i.dS/\i.dS<e.y.b2.length)/\∀a,r= .inr a->a≠0:=by induction n generalizing g d f with|zero=>exact bJ|succ n h=>exact ⟨by rw[aEj];exact aC⟩
instance {b d e a f} :au (aKv N b d a e f) (b.y.b2.length<=8/\(∀o∈b.y.b2,o.c7.length<=1000000)/\(∀i∈a,0<=i/\i<b.y.bD.length)/\e=a.length/\a.length<=40000/\0<=d/\d<f.length) λr=>True:=⟨by rw[aKv];exact aC⟩
instance {b d f n e} :au (aB9 N b d f n e) (b.y.b2.length<=8/\(∀o∈b.y.b2,o.c7.length<=1000000)/\d.length<=40000/\f.length=d.length/\(∀i∈f,0<=i.dS/\i.dS<b.y.b2.length)/\(∀o∈b.y.b2,0<=o.cq/\o.cq<b.y.aH.length)/\(∀t∈b.y.aH,t.length<=40000/\∀i∈t,0<=i/\i<b.y.bD.length)/\0<=e/\e<=(d.length:Int)/\(d.length:Int) - e<n) λr=>∀a,r= .inr a->a≠0:=by induction n generalizing e with|zero=>exact bJ|succ n g=>exact ⟨by rw[aB9];exact aC⟩
instance {a} :au (Sq N a) (dC a.c a.y/\iW a.e) λr=>r.1=0->r.2.c=a.c/\dC a.c r.2.y/\gH r.2.y:=⟨by rintro ⟨d,b⟩;rw[Sq];(repeat' with_reducible first|intro _|apply dq|apply dh|refine dj (by omega) ?_|apply di|apply dk|apply df|apply dr|apply dg)<;>first|grind -mbtc [dC]|(simp only[IF,AA] at*;grind -mbtc [l3])⟩
instance {a U d b} :au (RH N a U d b) (dC a.c a.y/\b.length<=1000000) λr=>r.2.1.length<=b.length+1/\r.2.2.c=a.c/\r.2.2.e=a.e/\dC a.c r.2.2.y/\(∀W,U∈W->kF W a.y r.2.2.y)/\nu d a.y r.2.2.y:=⟨by rintro ⟨g,f⟩;rw[RH];simp only[gq];(repeat' with_reducible first|intro _|apply dq|apply dh|refine dj (by omega) ?_|apply di|apply dk|apply df|apply dr|apply dg)<;>first|grind -mbtc [dC]|grind -mbtc [AS,AR,uD,uC,dC]⟩
instance {d b a} :au (aEk d b a) (True) λr=>r=ak->0<=a.place/\a.place<b.length:=⟨by rw[aEk];exact aC⟩
instance {d f n b} :au (NU d f n b) (d.e.hD.length<=1000000/\0<=b/\b<=(d.e.hD.length:Int)/\(d.e.hD.length:Int) - b<n) λr=>(r= .inl ()->∀s∈d.e.hD.drop b.toNat,0<=s.place/\s.place<f.length)/\∀a,r= .inr a->a≠0:=by induction n generalizing b with|zero=>exact bJ|succ n g=>exact ⟨by rw[NU];exact aC⟩
instance {f d n b} :au (aBl f d n b) (0<=d/\d<f.e.hD.length/\f.e.hD.length<=1000000/\0<=b/\b<=d/\d - b<n) λr=>∀a,r= .inr a->a≠0:=by induction n generalizing b with|zero=>exact bJ|succ n g=>exact ⟨by rw[aBl];exact aC⟩
instance {d n b} :au (aB' N d n b) (d.e.hD.length<=1000000/\0<=b/\b<=(d.e.hD.length:Int)/\(d.e.hD.length:Int) - b<n) λr=>∀a,r= .inr a->a≠0:=by induction n generalizing b with|zero=>exact bJ|succ n f=>exact ⟨by rw[aB'];exact aC⟩
instance {d g n f b} :au (aDw d g n f b) (d.e.hD.length<=1000000/\0<=b/\b<=(d.e.hD.length:Int)/\(d.e.hD.length:Int) - b<n/\(∀s∈d.e.hD,0<=s.place/\s.place<f.length)) λr=>(∀a,r= .inl a->a.length=f.length)/\∀a,r= .inr a->a≠0:=by induction n generalizing f b with|zero=>exact bJ|succ n h=>exact ⟨by rw[aDw];exact aC⟩
instance {a f g d} :au (aK6 a f g d) (0<=d/\d<f.length/\d<g.length) λr=>r.c=a.c/\r.e=a.e/\(∃b,r.y=bq.mk a.y.bD a.y.aH a.y.b2 a.y.busy a.y.bo b/\(b=ak->a.y.cE=ak))/\∀W,kF W a.y r.y:=⟨by rw[aK6];(repeat' with_reducible first|intro _|apply dq|apply dh|refine dj (by omega) ?_|apply di|apply dk|apply df|apply eC|apply dr|apply dg)<;>first|grind -mbtc [uD,al4]|grind⟩
instance {d g j n b e f} :au (aJi N d g j n b e f) (d.length<=g.length/\d.length<=j.length/\d.length<=40000/\0<=e/\e<=(d.length:Int)/\(d.length:Int) - e<n/\dC b.c b.y/\f.length<=1000+e) λr=>iX r (λa=>a.1.c=b.c/\dC b.c a.1.y/\((∀i∈d,i∈b.y.bo.bD)->kF b.y.bo.bD b.y a.1.y))/\fh r λa=>a.2.1≠0:=by induction n generalizing b e f with|zero=>exact bJ|succ n k=>exact ⟨by rintro ⟨m,l,p,_,_,_,_,_⟩;rw[aJi];(repeat' with_reducible first|intro _|apply dq|apply dh|refine dj (by omega) ?_|apply di|apply dk|apply df|apply eC|apply dr|apply dg)<;>clear k<;>first|grind -mbtc|grind -mbtc [uD,alZ]|exact ⟨Y9 (by assumption) (by assumption) (by rename_i h;exact h.1) (lP (by assumption)),trivial⟩|exact Y9 (by assumption) (by assumption) (by rename_i h;exact h.1) (lP (by assumption))⟩
instance {a} :au (aK7 a) (True) λr=>r=ak->a.y.cE=ak->a.y.bo.h9<=a.y.bo.proof.e9.steps:=⟨by rw[aK7];exact aC⟩
instance {a b d} :au (aK8 a b d) (True) λr=>r.c=a.c/\(b=ak->r.y=a.y)/\(b=aa->r.y=bq.mk a.y.bD a.y.aH a.y.b2 ak (eR.mk [] (b8.mk [] 0) (e8.mk (dF.mk 0 []) []) 0 [] 0) ak):=⟨by rw[aK8];exact aC⟩
instance {a b} :au (Sr N a b) (dC a.c a.y/\gH a.y/\iW a.e/\b.length<=1000) λr=>r.1=0->r.2.c=a.c/\dC a.c r.2.y/\gH r.2.y:=⟨by rintro ⟨f,d,g,h⟩;rw[Sr];(repeat' with_reducible first|intro _|apply dq|apply dh|refine dj (by omega) ?_|apply di|apply dk|apply df|apply eC|apply dr|apply dg)<;>first|grind -mbtc [dC]|grind -mbtc [gH,AG,l3]|(dsimp only at*;exact agu (by assumption) (by assumption) f d (by grind -mbtc) (by grind -mbtc) (by first|grind -mbtc|grind -mbtc [gH,AG,l3]))|((try simp only[IF,AA] at*);first|grind -mbtc [dC]|grind -mbtc [dC,gH,AG,l3])⟩
end
section
theorem agt {w:List Int} {s r:List (List Int)} {t:Int} {q:List Int} (h:AJ w s r) (e:al r t=J q) (z:(q.length:Int)=0):l3 w s t:=λp f i a=>by
 obtain ⟨d,b,k⟩:=h t p f;obtain rfl:q=d:=kB.inj (e.symm.trans b);obtain rfl:=BF z;exact (k i a).elim id (by simp)
theorem al5 {w:List Int} {x y:bq} {t:Int} (h:kF w x y) (g:l3 w x.aH t):l3 w y.aH t:=by
 obtain ⟨_,_,rfl,k⟩:=h;exact k t g
variable {N:Nat} [gM N]
instance {a} :au (Ro a) (True) λr=>r.c=a.c/\r.y=bq.mk a.y.bD a.y.aH a.y.b2 ak (eR.mk [] (b8.mk [] 0) (e8.mk (dF.mk 0 []) []) 0 [] 0) ak:=⟨by intro _;rw[Ro];(repeat' with_reducible first|intro _|apply dq|apply dh|refine dj (by omega) ?_|apply di|apply dk|apply df|apply eC|apply dr|apply dg)<;>grind⟩
instance {a b d} :au (RG N a b d) (dC a.c a.y/\iW a.e/\b.length<=1000/\d.length<=1000) λr=>r.1=0->r.2.c=a.c/\dC a.c r.2.y/\gH r.2.y:=⟨by rintro ⟨i,g,f,h⟩;rw[RG];(repeat' with_reducible first|intro _|apply dq|apply dh|refine dj (by omega) ?_|apply di|apply dk|apply df|apply eC|apply dr|apply dg)<;>(try dsimp only at*)<;>first|grind -mbtc [dC]|((try simp only[IF,AA] at*);first|grind -mbtc [dC,ZH,Y4]|grind -mbtc [->agt,->al5,kF,BF,dC])⟩
end
section
def amp {b:List UInt8} {k a p q i:Int} {d:UInt8} (h:jF b k p) (j:0<k) (e:al b i=J d) (f:i=p+14) (g:q=p+15+d.toNat) (l:a=k - 1):jF b a q:=by
 subst f;exact ZU h j e g l
theorem azF {b:List UInt8} {k a p q i:Int} {d:UInt8} (j:0<k) (f:i=p+14) (g:q=p+15+d.toNat) (l:a=k - 1) (e:al b i=J d) (h:jF b k p):jF b a q:=amp h j e f g l
attribute [grind<=] azF
theorem al3 {c:c8} {y:bq} {e:List bC} (h:dC c y) (a:y.bD.length<=e.length) (b:e.length<=192) (d:∀w∈e,w.dest.length<=1000000):dC c (bq.mk e y.aH y.b2 y.busy y.bo y.cE):=by
 unfold dC ps mR dP kC at*;simp only at*;refine ⟨h.1,h.2.1,⟨h.2.2.1.1,λt f=>⟨(h.2.2.1.2 t f).1,λi g=> ?_⟩⟩,b,h.2.2.2.2.1,h.2.2.2.2.2.1,h.2.2.2.2.2.2.1,h.2.2.2.2.2.2.2.1,h.2.2.2.2.2.2.2.2.1,h.2.2.2.2.2.2.2.2.2.1,h.2.2.2.2.2.2.2.2.2.2.1,h.2.2.2.2.2.2.2.2.2.2.2.1,d⟩;have:=(h.2.2.1.2 t f).2 i g;omega
theorem agm {e g:List bC} {s:List (List Int)} {o:List b7} {b f:Bool} {p:eR} {z:bq} {t:Int} (h:gH (bq.mk e s o b p f)) (k:nu t (bq.mk g s o b p f) z) (f:f=ak) (n:b=aa->t≠p.lead/\t∉p.aH):gH z:=by
 obtain ⟨s,b,rfl,k⟩:=k;intro d _ u a;refine k _ u ?_ (h d f u a);rintro rfl;rcases a with a|a
 ·exact (n d).1 a
 ·exact (n d).2 a
variable {N:Nat} [gM N]
instance {b n f e} :au (OS b n f e) (b.length<=1000000/\0<b.length/\0<=f/\f<=b.length/\0<=e/\e<=256/\256 - e<n) λr=>(∀a,r= .inl a->0<=a/\a<=b.length/\∀d,al b 0=J d->jF b (d.toNat - e) f)/\∀a,r= .inr a->a= -1:=by induction n generalizing f e with|zero=>exact bJ|succ n g=>exact ⟨by rintro ⟨i,h,_,_,_,_,_⟩;rw[OS];(repeat' with_reducible first|intro _|apply dq|apply dh|refine dj (by omega) ?_|apply di|apply dk|apply df|apply eC|apply dr|apply dg)<;>clear g<;>first|grind -mbtc [xA]|grind -mbtc [xA,amn,ZR]⟩
instance {a} :au (Tj N a) (a.length<=1000000) λr=> -1<=r/\(0<=r->2<=r/\0<a.length/\r<=a.length/\∀d,al a 0=J d->jF a d.toNat 1):=⟨by rw[Tj];exact aC⟩
instance {a} :au (H8 a) (2<=a.length) λr=>True:=⟨by rw[H8];exact aC⟩
instance {b a} :au (aK' b a) (0<=a/\a<b.length) λr=>True:=⟨by rw[aK'];exact aC⟩
instance {e n d b} :au (N6 e n d b) (6<=e.length/\0<=b/\b<=6/\(6:Int) - b<n/\d.length<=2*b) λr=>fh r λa=>a≠0:=by induction n generalizing d b with|zero=>exact bJ|succ n f=>exact ⟨by rw[N6];exact aC⟩
instance {a} :au (aLa a) (14<=a.length) λr=>True:=⟨by rw[aLa];exact aC⟩
instance {e n g f b} :au (N5 N e n g f b) (e.length<=1000000/\0<e.length/\0<=f/\f<=e.length/\0<=b/\b<=256/\256 - b<n/\(∀d,al e 0=J d->jF e (d.toNat - b) f)/\g.length<=b/\(∀w∈g,w.dest.length<=1000000)) λr=>iX r (λa=>a.length<=256/\∀w∈a,w.dest.length<=1000000)/\fh r λa=>a≠0:=by induction n generalizing g f b with|zero=>exact bJ|succ n h=>exact ⟨by rintro ⟨k,i,_,_,_,_,_,_,_,_⟩;rw[N5];(repeat' with_reducible first|intro _|apply dq|apply dh|refine dj (by omega) ?_|apply di|apply dk|apply df|apply eC|apply dr|apply dg)<;>clear h<;>first|grind -mbtc [xA]|grind -mbtc [xA,->Jh,UK]|(simp only[sG,List.take_length] at*;(repeat' apply oE)<;>first|grind -mbtc [xA,->Jh,UK]|(intro d j;subst_vars;grind -mbtc [xA,->Jh,UK]))⟩
instance {a} :au (gy N a) (a.length<=1000000) λr=>r.1.length<=256/\(∀w∈r.1,w.dest.length<=1000000)/\(r.2=0->r.1.length<=96):=⟨by rw[gy];exact aC⟩
instance {d b a} :au (Es N d b a) (a.aH.length<=1000000) λr=>r=ak->d.y.cE=ak/\(d.y.busy=aa->b≠a.lead/\b∉a.aH):=⟨by rw[Es];exact aC⟩
instance {d e b a f} :au (aAU d b a f e) (0<=a/\a<e.length/\0<=b/\b<d.length) λr=>True:=⟨by rw[aAU];exact aC⟩
instance {g h f d e n b} :au (Et N g h d e f n b) (0<=e/\e<h.length/\g.y.aH.length<=1000/\(∀t∈g.y.aH,t.length<=1000000)/\d=f.length/\f.length<=1000000/\0<=b/\b<=d/\d - b<n) λr=>fh r λa=>a≠0:=by induction n generalizing b with|zero=>exact bJ|succ n i=>exact ⟨by rw[Et];exact aC⟩
instance {f d e g n b} :au (NE N f d g e n b) (d.length<=1000000/\e.length<=1000000/\f.y.aH.length<=1000/\(∀t∈f.y.aH,t.length<=1000000)/\g=e.length/\0<=b/\b<=(d.length:Int)/\(d.length:Int) - b<n) λr=>fh r λa=>a≠0:=by induction n generalizing b with|zero=>exact bJ|succ n h=>exact ⟨by rw[NE];exact aC⟩
instance {h f e n b d g} :au (aJp N h e f n b d g) (e.length<=1000/\0<=f/\f<=1000/\0<=d/\d<=(e.length:Int)/\(e.length:Int) - d<n/\dC b.c b.y/\g.length<=1000+d) λr=>(∀a,r= .inl a->a.1.c=b.c/\dC b.c a.1.y/\nu h b.y a.1.y)/\∀a,r= .inr a->a.2.1≠0:=by induction n generalizing b d g with|zero=>exact bJ|succ n i=>exact ⟨by rintro ⟨l,k,j,_,_,_,_,_⟩;rw[aJp];(repeat' with_reducible first|intro _|apply dq|apply dh|refine dj (by omega) ?_|apply di|apply dk|apply df|apply eC|apply dr|apply dg)<;>clear i<;>first|grind -mbtc|grind -mbtc [TY,uC]⟩
instance {a b d} :au (RC N a b d) (dC a.c (bq.mk b a.y.aH a.y.b2 a.y.busy a.y.bo a.y.cE)/\gH (bq.mk b a.y.aH a.y.b2 a.y.busy a.y.bo a.y.cE)/\iW a.e/\d.length<=1000) λr=>r.1=0->r.2.2.c=a.c/\dC a.c r.2.2.y/\gH r.2.2.y:=⟨by rintro ⟨i,g,f,h⟩;rw[RC];(repeat' with_reducible first|intro _|apply dq|apply dh|refine dj (by omega) ?_|apply di|apply dk|apply df|apply eC|apply dr|apply dg)<;>(try dsimp only at*)<;>first|grind -mbtc [dC]|grind -mbtc [al3,->agm]⟩
end
section
structure qE (c:c8):Prop where
 a:pN c
 b:c.table.length<=1000000
attribute [grind->] qE.a qE.b
theorem al1 {c:c8} {y:bq} {i j k:Nat} (h:dC c y) (b:y.busy=ak) (a:i<=j):dC c (bq.mk y.bD y.aH (y.b2.take i++(y.b2.take k).drop j) y.busy y.bo y.cE):=by
 unfold dC ps mR at*;refine ⟨h.1,h.2.1,h.2.2.1,h.2.2.2.1, ?_,λo d=>h.2.2.2.2.2.1 o ?_,λe=>by simp_all,h.2.2.2.2.2.2.2⟩
 ·have:=h.2.2.2.2.1;simp only[List.length_append,aKf,List.length_drop];omega
 ·rcases kU.1 d with d|d
  ·exact aKg d
  ·exact aKg (List.mem_of_mem_drop d)
theorem ZG {t:Int} {y z:bq} (h:nu t y z):z.busy=y.busy/\z.b2=y.b2:=by
 obtain ⟨_,_,rfl,_⟩:=h;exact ⟨rfl,rfl⟩
theorem alY {c:c8} {s:List (List Int)} (h:0<c.aH.length) (a:c.aH.length<=24) (b:s.length=c.aH.length) (d:∀t∈s,t=[]):dC c (bq.mk [] s [] ak (eR.mk [] (b8.mk [] 0) (e8.mk (dF.mk 0 []) []) 0 [] 0) ak):=by
 unfold dC ps mR dP;refine ⟨h,b,⟨by simp only;omega,λt e=> ?_⟩,by simp,by simp,by simp,nofun,by simp,by simp,by simp,by simp,by simp,by simp⟩;rw[d t e];simp
theorem al0 {c:c8} {y:bq} (h:dC c y):y.b2.length<=8:=by
 unfold dC ps mR at h;exact h.2.2.2.2.1
theorem awU (y:bq):bq.mk y.bD y.aH y.b2 y.busy y.bo y.cE=y:=rfl
def afn {a b c y:eb} {i:Int} (h:al [a,b,c] i=J y) (f:iW a) (d:iW b) (e:iW c):iW y:=by
 have:=lP h;simp at this;rcases this with rfl|rfl|rfl<;>assumption
instance {d:Type} {a:List d} {b c:Int}:au (LJ a b c) (0<=b/\b<=a.length/\b<=4294967296/\b=c) λr=>r=a.take b.toNat:=G1 rfl
variable {N:Nat} [gM N]
instance {d U e n b} :au (EU N d U e n b) ((∀t∈d,0<=t.a)/\d.length<=1000000/\U.length<=1000000/\e.length<=1000000/\(∀w∈U,w.dest.length<=1000000)/\0<=b/\b<=(d.length:Int)/\(d.length:Int) - b<n) λr=>True:=by induction n generalizing b with|zero=>exact bJ|succ n f=>exact ⟨by rw[EU];exact aC⟩
instance {b U a} :au (SX N b U a) (b.length<=1000000/\U.length<=1000000/\a.length<=1000000/\(∀w∈U,w.dest.length<=1000000)) λr=>True:=⟨by rw[SX];exact aC⟩
instance {a b} :au (GJ a b) (0<=b/\b<a.length/\a.length<=1000000) λr=>True:=⟨by rw[GJ];exact aC⟩
instance {g d n f e b} :au (GI g d n f e b) (d.length<=1000000/\0<=b/\b<=(d.length:Int)/\(d.length:Int) - b<n/\e.length<=b) λr=>∀a,r= .inl a->a.2.length<=1000000:=by induction n generalizing f e b with|zero=>exact bJ|succ n h=>exact ⟨by rw[GI];exact aC⟩
instance {b U a} :au (H2 N b U a) (qE b/\U.name.length<=1000000/\U.c7.length<=1000000/\(∀d∈U.c7,d.length<=1000000)/\a.length<=1000000/\(∀w∈a,w.dest.length<=1000000)) λr=>True:=⟨by rw[H2];exact aC⟩
instance {a U d b} :au (Rb N a U d b) (dC a.c a.y/\b.length<=1000000) λr=>r.2.1.length<=b.length+1/\r.2.2.c=a.c/\r.2.2.e=a.e/\dC a.c r.2.2.y/\(∀W,U∈W->kF W a.y r.2.2.y)/\nu d a.y r.2.2.y:=⟨by rintro ⟨g,f⟩;rw[Rb];simp only[gq];(repeat' with_reducible first|intro _|apply dq|apply dh|refine dj (by omega) ?_|apply di|apply dk|apply df|apply dr|apply dg)<;>first|grind -mbtc [dC]|grind -mbtc [AS,AR,uD,uC,dC]⟩
instance {e b n d a} :au (aAV e b n d a) (b.length<=40000/\(∀i∈b,0<=i/\i<e.y.bD.length)/\(∀w∈e.y.bD,w.dest.length<=1000000)/\0<=a/\a<=(b.length:Int)/\(b.length:Int) - a<n/\d.length<=a/\(∀w∈d,w.dest.length<=1000000)) λr=>r.length<=40000/\∀w∈r,w.dest.length<=1000000:=by induction n generalizing d a with|zero=>exact bJ|succ n f=>exact ⟨by rw[aAV];exact aC⟩
instance {d n a b e} :au (aAW N d n a b e) (d.length<=40000/\0<=b/\b<=(d.length:Int)/\(d.length:Int) - b<n/\dC a.c a.y/\e.length<=1000+b) λr=>r.1.c=a.c/\dC a.c r.1.y/\nu (-1) a.y r.1.y:=by induction n generalizing a b e with|zero=>exact bJ|succ n f=>exact ⟨by rintro ⟨g,_,_,_,_,_⟩;rw[aAW];(repeat' with_reducible first|intro _|apply dq|apply dh|refine dj (by omega) ?_|apply di|apply dk|apply df|apply eC|apply dr|apply dg)<;>clear f<;>first|grind -mbtc|grind -mbtc [TY,uC]⟩
instance {n b d e f} :au (Eu N n b d e f) (0<=d/\d<=(e.length:Int)/\(e.length:Int) - d<n/\dC b.c (bq.mk b.y.bD b.y.aH e b.y.busy b.y.bo b.y.cE)/\qE b.c/\b.y.busy=ak/\f.length<=1000) λr=>fh r λa=>a.2.1=0->a.1.c=b.c/\dC b.c a.1.y/\a.1.y.busy=ak:=by induction n generalizing b d e f with|zero=>exact bJ|succ n g=>exact ⟨by rintro ⟨_,_,_,_,_,_,_⟩;rw[Eu];(repeat' with_reducible first|intro _|apply dq|apply dh|refine dj (by omega) ?_|apply di|apply dk|apply df|apply eC|apply dr|apply dg)<;>clear g<;>((try dsimp only at*)<;>first|grind -mbtc [dC]|grind -mbtc [dC,->ZG]|grind -mbtc [al1,->ZG,->al0])⟩
instance {a d b} :au (RD N a d b) (dC a.c (bq.mk a.y.bD a.y.aH d a.y.busy a.y.bo a.y.cE)/\qE a.c/\b.length<=1000) λr=>r.1=0->r.2.2.c=a.c/\dC a.c r.2.2.y/\gH r.2.2.y:=⟨by rintro ⟨g,f,e⟩;rw[RD];(repeat' with_reducible first|intro _|apply dq|apply dh|refine dj (by omega) ?_|apply di|apply dk|apply df|apply eC|apply dr|apply dg)<;>((try dsimp only at*)<;>first|grind -mbtc|grind -mbtc [dC]|grind -mbtc [gH])⟩
instance {a f i b d g h} :au (Pl N a f i b d g h) (dC a.c (bq.mk b a.y.aH d a.y.busy a.y.bo a.y.cE)/\gH (bq.mk b a.y.aH d a.y.busy a.y.bo a.y.cE)/\iW a.e/\qE a.c/\g=[]/\h=[]/\f≠0) λr=>r.2=0->dC a.c r.1.y/\gH r.1.y:=⟨by rintro ⟨p,k,j,l,m,n,q⟩;rw[Pl];(repeat' with_reducible first|intro _|apply dq|apply dh|refine dj (by omega) ?_|apply di|apply dk|apply df|apply eC|apply dr|apply dg)<;>((try dsimp only at*)<;>first|grind -mbtc|grind -mbtc [dC,gH])⟩
instance {a U b} :au (Tf N a U b) (dC a U/\gH U/\iW b/\qE a) λr=>dC a r.1/\gH r.1:=⟨by rintro ⟨g,e,d,f⟩;rw[Tf];(repeat' with_reducible first|intro _|apply dq|apply dh|refine dj (by omega) ?_|apply di|apply dk|apply df|apply eC|apply dr|apply dg)<;>((try dsimp only at*)<;>first|grind -mbtc [awU]|(simp_all;done)|grind -mbtc [dC])⟩
instance {b a} :au (aCN b a) (True) λr=>r=aa->a<3:=⟨by rw[aCN];exact aC⟩
instance {j g n b f d a} :au (aAN N j g n b f d a) (qE g/\0<=a/\a<=3/\3 - a<n/\0<=b.n/\b.n+3000*(3 - a)<=500000000000/\dC g f/\gH f/\d.length<=1000+a/\(∀e∈d,iW e)) λr=>b.n<=r.1.n/\r.1.n<=b.n+3000*(3 - a)/\dC g r.2.1/\gH r.2.1/\(r.2.2.length:Int)<=d.length+3 - a/\∀e∈r.2.2,iW e:=by induction n generalizing b f d a with|zero=>exact bJ|succ n h=>exact ⟨by rintro ⟨k,_,_,_,_,_,_,_,_,_⟩;rw[aAN];(repeat' with_reducible first|intro _|apply dq|apply dh|refine dj (by omega) ?_|apply di|apply dk|apply df|apply eC|apply dr|apply dg)<;>clear h<;>first|grind -mbtc|(refine ⟨by omega,by omega, ?_⟩;exact by assumption)|(simp only[List.length_cons,List.length_nil];grind -mbtc)|(have i:=afn (by assumption) (by simp[iW]) (by simp[iW]) (by grind -mbtc);clear k;grind -mbtc)|(have i:=afn (by assumption) (by simp[iW]) (by simp[iW]) (by grind -mbtc);grind -mbtc [dC])⟩
instance {g n b f d a} :au (aCO N g n b f d a) (qE g/\0<=a/\a<n/\0<=b.n/\b.n+3000*a<=500000000000/\dC g f/\gH f/\d.length+a<=10000/\(∀e∈d,iW e)) λr=>b.n<=r.1.n/\r.1.n<=b.n+3000*a/\r.2.length<=d.length+a/\∀e∈r.2,iW e:=by induction n generalizing b f d a with|zero=>exact bJ|succ n h=>exact ⟨by rintro ⟨i,_,_,_,_,_,_,_,_⟩;rw[aCO];(repeat' with_reducible first|intro _|apply dq|apply dh|refine dj (by omega) ?_|apply di|apply dk|apply df|apply eC|apply dr|apply dg)<;>clear h<;>first|grind -mbtc|grind -mbtc [dC]⟩
instance {a U b} :au (Rq N a U b) (qE U/\0<=b/\b<=100/\0<=a.n/\a.n<=100000000) λr=>a.n<=r.2.n/\r.2.n<=a.n+1000000/\r.1.length<=200/\∀e∈r.1,iW e:=⟨by rintro ⟨i,f,d,g,h⟩;rw[Rq];(repeat' with_reducible first|intro _|apply dq|apply dh|refine dj (by omega) ?_|apply di|apply dk|apply df|apply eC|apply dr|apply dg)<;>first|grind -mbtc|grind -mbtc [alY,gH]⟩
end
section
def amo {b:List UInt8} {k a p q i:Int} {d:UInt8} (l:0<k) (e:al b i=J d) (g:i=p+14) (f:q<=b.length) (j:q=p+15+d.toNat) (m:a=k - 1) (h:jF b a q):jF b k p:=by
 subst g j m;exact ZT l e f h
theorem azG {b:List UInt8} {k a p q i:Int} {d:UInt8} (l:0<k) (g:i=p+14) (f:q<=b.length) (j:q=p+15+d.toNat) (m:a=k - 1) (e:al b i=J d) (h:jF b a q):jF b k p:=amo l e g f j m h
attribute [grind<=] azG
def azt (x:UInt8):Nat:=x.toNat
theorem azJ {x:UInt8}:x.toNat=min 255 (azt x):=by
 have:=x.toNat_lt;show azt x=_;have e:azt x=x.toNat:=rfl;omega
attribute [grind=] azJ
@[grind=] theorem Jn {b:Type} {a:List b}:a.drop (sF 0)=a:=rfl
def pY (w:bC):Prop:=0<w.length/\w.length<=400/\0<w.gv/\w.gv<=2000/\0<=w.lJ/\w.lJ<=2000/\0<=w.iL/\w.iL<=6/\w.dest.length<=12/\w.number.length<=12
attribute [grind] pY
variable {N:Nat} [gM N]
instance {b a} :au (LZ b a) (0<=a/\a<b.length) λr=>True:=⟨by rw[LZ];exact aC⟩
instance {d n a} :au (DI d n a) (d.length<=1000000/\0<=a/\a<=(d.length:Int)/\(d.length:Int) - a<n) λr=>fh r λb=>b=ak:=by induction n generalizing a with|zero=>exact bJ|succ n e=>exact ⟨by rw[DI];exact aC⟩
instance {a U} :au (QX N a U) (a.length<=1000000) λr=>r=aa->(a.length:Int)=U:=⟨by rw[QX];exact aC⟩
instance {a b} :au (aCF a b) (0<=a/\a<=255) λr=>0<=r/\r<=1000:=⟨by rw[aCF];exact aC⟩
instance {d n b a} :au (aA5 d n b a) (d.length<=1000000/\0<=a/\a<=(d.length:Int)/\(d.length:Int) - a<n/\0<=b/\b<=1000*a) λr=>0<=r/\r<=1000000000:=by induction n generalizing b a with|zero=>exact bJ|succ n e=>exact ⟨by rw[aA5];exact aC⟩
instance {a} :au (Ri N a) (a.length<=1000000) λr=>0<=r/\r<=1000000000:=⟨by rw[Ri];exact aC⟩
instance {a} :au (Q3 N a) (a.length<=1000000) λr=>True:=⟨by rw[Q3];exact aC⟩
instance {a} :au (Q2 N a) (a.length<=1000000) λr=>r=0->a.length=12:=⟨by rw[Q2];exact aC⟩
instance {a b} :au (C2 a b) (True) λr=>True:=⟨by rw[C2];exact aC⟩
instance {a b} :au (aKA a b) (True) λr=>True:=⟨by rw[aKA];exact aC⟩
instance {a} :au (Ra N a) (a.length<=1000000) λr=>r.2=0->a.length=12:=⟨by rw[Ra];exact aC⟩
instance {a} :au (Ru a) (True) λr=>0<=r/\r<=6:=⟨by rw[Ru];exact aC⟩
instance {a} :au (aKM a) (True) λr=>True:=⟨by rw[aKM];exact aC⟩
instance {d n a} :au (D4 d n a) (d.length<=1000000/\0<=a/\a<=(d.length:Int)/\(d.length:Int) - a<n) λr=>fh r λb=>b=ak:=by induction n generalizing a with|zero=>exact bJ|succ n e=>exact ⟨by rw[D4];exact aC⟩
instance {a} :au (aKN a) (True) λr=>r=aa->a.length<=12:=⟨by rw[aKN];exact aC⟩
instance {a} :au (RQ N a) (a.length<=1000000) λr=>r=aa->a.length<=12:=⟨by rw[RQ];exact aC⟩
instance {a b} :au (CP a b) (True) λr=>r=120\/r=a:=⟨by rw[CP];exact aC⟩
instance {U a} :au (Nv U a) (True) λr=>r=ak->U.length<=400/\U.gv<=2000/\a<=U.length/\50<=U.gv:=⟨by rw[Nv];exact aC⟩
instance {U} :au (CQ U) (True) λr=>r=ak->0<=U.lJ/\U.lJ<=U.gv:=⟨by rw[CQ];exact aC⟩
instance {a} :au (Rt N a) (a.number.length<=1000000/\a.dest.length<=1000000) λr=>r=0->pY a:=⟨by rw[Rt];exact aC⟩
instance {d e n f b} :au (CS N d e n f b) (e=d.length/\d.length<=1000000/\(∀w∈d,w.number.length<=1000000/\w.dest.length<=1000000)/\0<=b/\b<=e/\e - b<n) λr=>iX r (λa=>∀w∈d.drop b.toNat,pY w)/\fh r λa=>a≠0:=by induction n generalizing f b with|zero=>exact bJ|succ n g=>exact ⟨by rw[CS];exact aC⟩
instance {a} :au (Hx N a) (∀w∈a,w.number.length<=1000000/\w.dest.length<=1000000) λr=>r=0->a.length<=96/\∀w∈a,pY w:=⟨by rw[Hx];exact aC⟩
instance {b n f e} :au (aJf b n f e) (b.length<=1000000/\0<b.length/\0<=f/\f<=b.length+255/\0<=e/\e<=256/\256 - e<n) λr=>iX r (λa=>f<=a/\a<=b.length+255/\(a<=b.length->∀d,al b 0=J d->jF b (d.toNat - e) f))/\fh r λa=>a.2=ak:=by induction n generalizing f e with|zero=>exact bJ|succ n g=>exact ⟨by rw[aJf];(repeat' with_reducible first|intro _|apply dq|apply dh|refine dj (by omega) ?_|apply di|apply dk|apply df|apply eC|apply dr|apply dg)<;>grind -mbtc [ZR]⟩
instance {a} :au (Sc N a) (a.length<=1000000) λr=>r.2=aa->3<=r.1/\0<a.length/\r.1<=a.length/\∀d,al a 0=J d->jF a d.toNat 1:=⟨by rw[Sc];exact aC⟩
instance {a} :au (SD a) (a.b.length<=1000000/\0<=a.at_/\a.at_<a.b.length) λr=>r.2.b=a.b/\r.2.at_=a.at_+1/\0<=r.1/\r.1<=255/\∀d,al a.b a.at_=J d->r.1=d.toNat:=⟨by rw[SD];exact aC⟩
instance {a} :au (SE a) (a.b.length<=1000000/\0<=a.at_/\a.at_+1<a.b.length) λr=>r.2.b=a.b/\r.2.at_=a.at_+2:=⟨by rw[SE];exact aC⟩
instance {d b n e a} :au (aAO d b n e a) (b=d.length/\d.length<=1000000/\0<=a/\a<=b/\b - a<n) λr=>True:=by induction n generalizing e a with|zero=>exact bJ|succ n f=>exact ⟨by rw[aAO];exact aC⟩
instance {a} :au (Rr N a) (a.length<=1000000) λr=>True:=⟨by rw[Rr];exact aC⟩
instance {a b} :au (aKO a b) (True) λr=>True:=⟨by rw[aKO];exact aC⟩
instance {n d e f a} :au (aCC n d e f a) (0<=a/\a<=12/\(12:Int) - a<n/\d.b.length<=1000000/\0<=d.at_/\2*d.at_ - a+12<=2*d.b.length/\e.length=a/\a%2=0) λr=>r.1.b=d.b/\2*r.1.at_=2*d.at_ - a+12/\r.2.1.length=12:=by induction n generalizing d e f a with|zero=>exact bJ|succ n g=>exact ⟨by rw[aCC];exact aC⟩
instance {d b a} :au (aKP d b a) (True) λr=>True:=⟨by rw[aKP];exact aC⟩
instance {a} :au (RS N a) (a.b.length<=1000000/\0<=a.at_/\(∃d,al a.b (a.at_+14)=J d/\a.at_+15+d.toNat<=a.b.length)) λr=>r.2.2.b=a.b/\(∀d,al a.b (a.at_+14)=J d->r.2.2.at_=a.at_+15+d.toNat)/\r.1.number.length=12/\r.1.dest.length<=255:=⟨by rw[RS];exact aC⟩
instance {b a} :au (aCH b a) (True) λr=>True:=⟨by rw[aCH];exact aC⟩
instance {e n f g h a} :au (aA6 N e n f g h a) (e.length<=1000000/\0<e.length/\f.b=e/\0<=f.at_/\g.length<=a/\0<=a/\a<=256/\256 - a<n/\(∀d,al e 0=J d->jF e (d.toNat - a) f.at_)/\(∀w∈g,w.number.length<=1000000/\w.dest.length<=1000000)) λr=>∀w∈r.1,w.number.length<=1000000/\w.dest.length<=1000000:=by induction n generalizing f g h a with|zero=>exact bJ|succ n i=>exact ⟨by rw[aA6];(repeat' with_reducible first|intro _|apply dq|apply dh|refine dj (by omega) ?_|apply di|apply dk|apply df|apply eC|apply dr|apply dg)<;>grind -mbtc [->Jh,ZU]⟩
instance {a} :au (Rk N a) (a.length<=1000000) λr=>(r.2=0->r.1.length<=96/\∀w∈r.1,pY w)/\(r.2≠0->r.1=[]):=⟨by rw[Rk];exact aC⟩
instance {f g n b d e a} :au (CO f g n b d e a) (g=f.length/\f.length<=96/\(∀w∈f,pY w)/\0<=a/\a<=g/\g - a<n/\0<=b/\b<=400*a/\0<=d/\d<=2000*a/\0<=e/\e<=6*a) λr=>0<=r.1/\r.1<=38400/\0<=r.2.1/\r.2.1<=192000/\0<=r.2.2/\r.2.2<=576:=by induction n generalizing b d e a with|zero=>exact bJ|succ n h=>exact ⟨by rw[CO];exact aC⟩
instance {a} :au (Rs N a) (∀w∈a,w.number.length<=1000000/\w.dest.length<=1000000) λr=>0<=r.1/\r.1<=38400/\0<=r.2.1/\r.2.1<=192000/\(r.2.2.2=0->a.length<=96/\∀w∈a,pY w):=⟨by rw[Rs];exact aC⟩
end
section
def pj (i:Int):List UInt8:=[112,48,UInt8.ofNat (48+i).toNat]
def uk (x:List UInt8):Prop:=1<=x.length/\x.length<=12/\∀b∈x,(97<=b.toNat/\b.toNat<=122)\/(48<=b.toNat/\b.toNat<=57)
def IS {i:Int} (h:0<=i) (k:i<10):i=0\/i=1\/i=2\/i=3\/i=4\/i=5\/i=6\/i=7\/i=8\/i=9:=by omega
theorem agd {i j:Int} (h:pj i=pj j) (a:0<=i) (b:i<10) (c:0<=j) (d:j<10):i=j:=by
 rcases IS a b with rfl|rfl|rfl|rfl|rfl|rfl|rfl|rfl|rfl|rfl<;>rcases IS c d with rfl|rfl|rfl|rfl|rfl|rfl|rfl|rfl|rfl|rfl<;>first|rfl|exact absurd h (by decide)
attribute [grind->] agd
@[grind .] theorem aw2 {i:Int} (a:0<=i) (b:i<10):uk (pj i):=by
 unfold uk;rcases IS a b with rfl|rfl|rfl|rfl|rfl|rfl|rfl|rfl|rfl|rfl<;>decide
def pV (r:cR):Prop:=1<=r.number/\r.number<=9999/\1<=r.kind/\r.kind<=9/\0<=r.a/\r.a<=1000000/\0<=r.b/\r.b<=1000000/\0<=r.c/\r.c<=1000000
def tX (b:ff):Prop:=1<=b.speed/\b.speed<=200/\0<=b.iZ/\b.iZ<=500/\0<=b.j9/\b.j9<=250
def oF (c:c8):Prop:=1<=c.aH.length/\c.aH.length<=9/\1<=c.speed/\c.speed<=200/\0<=c.iZ/\c.iZ<=500/\(∀i t,al c.aH i=J t->t.name=pj i/\1<=t.length/\t.length<=100000)/\c.rules.length<=9/\(∀i r,al c.rules i=J r->10*i+1<=r.number/\r.number<=10*i+9/\pV r)/\c.table.length<=64/\∀b∈c.table,tX b
attribute [grind] pV tX oF uk
@[grind=] theorem ayK {a b:Type} [DecidableEq a] {m:List (a×b)} {k q:a} {v:b}:jv (o8 m k v) q=if k=q then J v else jv m q:=by
 induction m with
 |nil=>simp[o8,jv]
 |cons p m d=>simp only[o8];split<;>simp only[jv]<;>grind
@[grind=] theorem ayL {a b:Type} [DecidableEq a] {q:a}:jv ([]:List (a×b)) q=ae:=rfl
@[grind->] theorem ayJ {a:Type} {b:List a} {k:Int} {y:a} (h:y∈(b.take k.toNat).drop (sF 0)):∃i,0<=i/\i<k/\al b i=J y:=by
 obtain ⟨i,l,e⟩:=List.getElem_of_mem h;simp at l e;exact ⟨i,by omega,by omega,by simp[al,<-e]⟩
@[grind->] theorem ku {a:Type} {b:List a} {i:Int} {y:a} (h:al b i=J y):0<=i/\i<b.length:=by
 unfold al at h;split at h
 ·have:=(fq.mp h).1;omega
 ·cases h
variable {N:Nat} [gM N]
instance {b a} :au (Db b a) (0<=a/\a<b.length) λr=>uk b->r=ak:=⟨by rw[Db];exact aC⟩
instance {d b n a} :au (Ml d b n a) (d.length<=1000000/\b=d.length/\0<=a/\a<=b/\b - a<n) λr=>uk d->r= .inl ():=by induction n generalizing a with|zero=>exact bJ|succ n e=>exact ⟨by rw[Ml];exact aC⟩
instance {a} :au (Mm a) (True) λr=>uk a->r=aa:=⟨by rw[Mm];exact aC⟩
instance {a} :au (Hq N a) (a.length<=1000000) λr=>uk a->r=aa:=⟨by rw[Hq];exact aC⟩
instance {a} :au (Dj a) (True) λr=>0<=a->a<=1000000->r=ak:=⟨by rw[Dj];exact aC⟩
instance {b d n a} :au (Np b d n a) (b.length<=1000000/\d=b.length/\0<=a/\a<=d/\d - a<n) λr=>(∀x∈b,0<=x/\x<=1000000)->r= .inl ():=by induction n generalizing a with|zero=>exact bJ|succ n e=>exact ⟨by rw[Np];exact aC⟩
instance {U} :au (Nq U) (True) λr=>pV U->r=aa:=⟨by rw[Nq];exact aC⟩
instance {a} :au (Hv N a) (True) λr=>pV a->r=aa:=⟨by rw[Hv];exact aC⟩
instance {a U} :au (vB a U) (True) λr=>r=(a.number==U.number):=⟨by rw[vB];exact aC⟩
instance {d U b n a} :au (Cw d U b n a) (d.length<=1000000/\b=d.length/\0<=a/\a<=b/\b - a<n) λr=>(∀r∈d,r.number≠U.number)->r= .inl ():=by induction n generalizing a with|zero=>exact bJ|succ n e=>exact ⟨by rw[Cw];exact aC⟩
instance {a U} :au (Qt N a U) (a.length<=1000000) λr=>(∀r∈a,r.number≠U.number)->r= -1:=⟨by rw[Qt];exact aC⟩
instance {a U} :au (Qq N a U) (a.length<=1000000) λr=>(∀r∈a,r.number≠U.number)->r=ak:=⟨by rw[Qq];exact aC⟩
instance {b e d n a} :au (Di N b e d n a) (e=b/\b.length<=32/\d=b.length/\(∀i r,al b i=J r->10*i+1<=r.number/\r.number<=10*i+9/\pV r)/\0<=a/\a<=d/\d - a<n) λr=>r= .inl ():=by induction n generalizing a with|zero=>exact bJ|succ n f=>exact ⟨by rw[Di];exact aC⟩
instance {a} :au (Hu N a) (a.length<=32/\(∀i r,al a i=J r->10*i+1<=r.number/\r.number<=10*i+9/\pV r)) λr=>r=0:=⟨by rw[Hu];exact aC⟩
instance {a U b} :au (F5 a U b) (True) λr=>r=aa↔U<=a/\a<=b:=⟨by rw[F5];exact aC⟩
instance {a U b} :au (S7 a U b) (True) λr=>r=aa↔U<=a/\a<=b:=⟨by rw[S7];exact aC⟩
instance {a} :au (aC9 a) (True) λr=>tX a->r=ak:=⟨by rw[aC9];exact aC⟩
instance {d e n a} :au (XL d e n a) (d.length<=1000000/\e=d.length/\0<=a/\a<=e/\e - a<n) λr=>(∀b∈d,tX b)->r= .inl ():=by induction n generalizing a with|zero=>exact bJ|succ n f=>exact ⟨by rw[XL];exact aC⟩
instance {a} :au (afG N a) (a.length<=1000000) λr=>a.length<=64->(∀b∈a,tX b)->r=aa:=⟨by rw[afG];exact aC⟩
instance {U} :au (Mw U) (oF U) λr=>r=ak:=⟨by rw[Mw];exact aC⟩
instance {b a} :au (Mx N b a) (uk a.name/\jv b a.name=ae/\1<=a.length/\a.length<=100000) λr=>r=ak:=⟨by rw[Mx];exact aC⟩
instance {b d n e a} :au (Dz N b d n e a) (b.length<=9/\d=b.length/\(∀i t,al b i=J t->t.name=pj i/\1<=t.length/\t.length<=100000)/\0<=a/\a<=d/\d - a<n/\(∀j,a<=j->j<10->jv e (pj j)=ae)) λr=>r= .inl ():=by induction n generalizing e a with|zero=>exact bJ|succ n f=>exact ⟨by rw[Dz];exact aC⟩
instance {a} :au (Hi N a) (oF a) λr=>r=0:=⟨by rw[Hi];exact aC⟩
instance {a} :au (Ak N a) (oF a) λr=>r.2=0/\r.1=bq.mk [] (gb a.aH.length []) [] ak (eR.mk [] (b8.mk [] 0) (e8.mk (dF.mk 0 []) []) 0 [] 0) ak:=⟨by rw[Ak];(repeat' with_reducible first|intro _|apply dq|apply dh|refine dj (by omega) ?_|apply di|apply dk|apply df|apply eC|apply dr|apply dg)<;>first|grind -mbtc|simp_all⟩
end
section
def km (a:List Int) (t:List Int):Int:=(t.map λi=>(al a i).getD 0).sum
@[grind=] theorem YS {a:List Int}:km a []=0:=rfl
@[grind=] theorem Ay {a t:List Int} {i:Int}:km a (i::t)=(al a i).getD 0+km a t:=by simp[km]
def afZ {a t u:List Int}:km a (t++u)=km a t+km a u:=by simp[km]
def af0 {ls t:List Int} {b:Nat} (h:b<t.length):km ls (t.eraseIdx b)=km ls t - (al ls t[b]).getD 0:=by
 induction t generalizing b with
 |nil=>simp at h
 |cons x t a=>
  cases b with
  |zero=>simp[Ay];omega
  |succ b=>simp only[YU,Ay,List.getElem_cons_succ];rw[a (by simpa using h)];omega
def TW (n:Nat) (R:List Int):Prop:=R.Nodup/\∀i∈R,0<=i/\i<n
def oJ (T:List eE) (b:List Int) (s:List (List Int)):Prop:=s.length=T.length/\T.length<=24/\TW b.length s.flatten/\∀k a t,al T k=J a->al s k=J t->km b t<=a.length
def iY (T:List eE) (a:List Int) (s:List (List Int)):Prop:=oJ T a s/\a.length<=192/\∀l∈a,1<=l/\l<=400
@[grind=] theorem rM {d:Type} {b:List d} {k i:Int} {v:d} (h:0<=k) (l:k<b.length):al (b.set k.toNat v) i=if i=k then J v else al b i:=by
 unfold al;by_cases a:0<=i
 ·rw[if_pos a,if_pos a,List.getElem?_set];by_cases e:i=k
  ·subst e;rw[if_pos rfl,if_pos rfl,if_pos (by omega)]
  ·rw[if_neg (by omega),if_neg e]
 ·rw[if_neg a,if_neg a,if_neg (by omega)]
def aag {s:List (List Int)} {k:Int} {t:List Int} (h:al s k=J t):Az s.flatten (t++(s.eraseIdx k.toNat).flatten)/\∀u,Az (s.set k.toNat u).flatten (u++(s.eraseIdx k.toNat).flatten):=by
 obtain ⟨k,rfl⟩:∃n:Nat,k=n:=⟨k.toNat,by have:=ku h;omega⟩
 replace h:s[k]? =J t:=by simpa[al] using h
 simp only[sG];induction s generalizing k with
 |nil=>simp at h
 |cons x s e=>
  cases k with
  |zero=>simp at h;subst h;simp
  |succ k=>
   simp only[qH] at h;simp only[yn,YU,List.set_cons_succ];obtain ⟨a,b⟩:=e (k:=k) h;have d (u:List Int):Az (x++(u++(s.eraseIdx k).flatten)) (u++(x++(s.eraseIdx k).flatten)):=by rw[<-IH,<-IH];exact List.perm_append_comm.append_right _
   exact ⟨(a.append_left x).trans (d t),λu=>((b u).append_left x).trans (d u)⟩
def amJ {t:List Int} {b:Nat} (h:b<t.length):Az t (t[b]::t.eraseIdx b):=by
 induction t generalizing b with
 |nil=>simp at h
 |cons x t a=>
  cases b with
  |zero=>simp
  |succ b=>simp only[List.getElem_cons_succ,YU];exact ((a (by simpa using h)).cons x).trans (.swap ..)
def awo {s:List (List Int)} {a b w:Int} {t:List Int} (h:al s a=J t) (k:al t b=J w):Az s.flatten (w::(s.set a.toNat (t.eraseIdx b.toNat)).flatten):=by
 obtain ⟨p,q⟩:=aag h;have l:=ku k;have e:t[b.toNat]'(by omega)=w:=by
  have:t[b.toNat]? =J w:=by simpa[al,l.1] using k
  exact (fq.mp this).2
 have:=amJ (t:=t) (b:=b.toNat) (by omega);rw[e] at this;exact p.trans ((this.append_right _).trans (by simpa using (q _).symm))
def afw {s:List (List Int)} {a w:Int} {t:List Int} (h:al s a=J t):Az (s.set a.toNat (t++[w])).flatten (w::s.flatten):=by
 obtain ⟨p,q⟩:=aag h;refine (q _).trans ?_;rw[IH,List.singleton_append];exact List.perm_middle.trans (p.symm.cons w)
theorem ZC {T:List eE} {a:List Int} {s:List (List Int)} (V:oJ T a s) {k:Int} {t:List Int} (h:al s k=J t) {i:Int} (m:i∈t):0<=i/\i<a.length:=
 V.2.2.1.2 i (AD.mpr ⟨t,lP h,m⟩)
def alE {T:List eE} {d:List Int} {s:List (List Int)} (V:iY T d s) {a b w:Int} {t:List Int} (h:al s a=J t) (k:al t b=J w):
  iY T d (s.set a.toNat (t.eraseIdx b.toNat))/\(s.set a.toNat (t.eraseIdx b.toNat)).flatten.length+1=s.flatten.length/\w∉(s.set a.toNat (t.eraseIdx b.toNat)).flatten/\km d (t.eraseIdx b.toNat)+(al d w).getD 0=km d t:=by
 have p:=awo h k;have l:=ku k;have y:=ku h;obtain ⟨⟨C,E,⟨F,z⟩,A⟩,H,j⟩:=V;have e:t[b.toNat]'(by omega)=w:=by
  have:t[b.toNat]? =J w:=by simpa[al,l.1] using k
  exact (fq.mp this).2
 have B:=af0 (ls:=d) (t:=t) (b:=b.toNat) (by omega);rw[e] at B;have g:=(p.nodup_iff).mp F;rw[TB] at g;have r:=z w (p.mem_iff.mpr (by simp));have I:0<=(al d w).getD 0:=by obtain ⟨v,q⟩:=hT r.1 r.2;rw[q];have:=j v (lP q);simp;omega
 refine ⟨⟨⟨by simpa using C,E,⟨g.2,λi m=>z i (p.mem_iff.mpr (.tail _ m))⟩,λk x u n f=> ?_⟩,H,j⟩,by have:=p.length_eq;simp at this⊢;omega,g.1,by omega⟩;rw[rM y.1 y.2] at f;split at f
 ·cases f;subst k;have:=A _ _ _ n h;omega
 ·exact A _ _ _ n f
def alD {T:List eE} {b:List Int} {s:List (List Int)} (V:iY T b s) {a w:Int} {t:List Int} (h:al s a=J t) (k:w∉s.flatten) (r:0<=w/\w<b.length) (q:∀x,al T a=J x->km b t+(al b w).getD 0<=x.length):
  iY T b (s.set a.toNat (t++[w]))/\(s.set a.toNat (t++[w])).flatten.length=s.flatten.length+1:=by
 have p:=afw (w:=w) h;have f:=ku h;obtain ⟨⟨j,l,⟨n,y⟩,z⟩,A,g⟩:=V;refine ⟨⟨⟨by simpa using j,l,⟨p.nodup_iff.mpr (TB.mpr ⟨k,n⟩),λi m=> ?_⟩,λk x u e d=> ?_⟩,A,g⟩,by have:=p.length_eq;simpa using this⟩
 ·rcases ha.mp (p.mem_iff.mp m) with rfl|m
  ·exact r
  ·exact y i m
 ·rw[rM f.1 f.2] at d;split at d
  ·cases d;subst k;rw[afZ];have:=q _ e;simpa[Ay,YS] using this
  ·exact z _ _ _ e d
def afv {n:Nat} {R:List Int} (h:TW n R):R.length<=n:=by
 induction n generalizing R with
 |zero=>
  cases R with
  |nil=>simp
  |cons x R=>have:=h.2 x (by simp);omega
 |succ n d=>
  have a:TW n (R.erase (n:Int)):=⟨h.1.erase _,λi m=>by
   have:=(h.1.mem_erase_iff).mp m;have:=h.2 i this.2;omega⟩
  have b:=d a;rw[List.length_erase] at b;split at b<;>omega
theorem alF {T:List eE} {a:List Int} {s:List (List Int)} (V:oJ T a s):s.length=T.length/\T.length<=24/\s.flatten.length<=a.length/\∀t∈s,t.length<=a.length/\∀i∈t,0<=i/\i<a.length:=
 ⟨V.1,V.2.1,afv V.2.2.1,λt m=>⟨Nat.le_trans ((af4 m).length_le) (afv V.2.2.1),λi b=>V.2.2.1.2 i (AD.mpr ⟨t,m,b⟩)⟩⟩
theorem alB {T:List eE} {a:List Int} {s:List (List Int)} (V:iY T a s):oJ T a s/\a.length<=192/\∀l∈a,1<=l/\l<=400:=V
theorem alC {T:List eE} {d:List Int} {s:List (List Int)} (a:oJ T d s) (b:d.length<=192) (c:∀l∈d,1<=l/\l<=400):iY T d s:=⟨a,b,c⟩
attribute [grind->] alF alB
attribute [grind <-] alC
attribute [grind->] ZC
def uG (s:cn):Int:=(if s.from_= -1 then 1 else 0) - (if s.to= -1 then 1 else 0)
def lo (l:List cn):Int:=(l.map uG).sum
@[grind=] theorem axg:lo []=0:=rfl
@[grind=] theorem ZY {a:cn} {l:List cn}:lo (a::l)=uG a+lo l:=by simp[lo]
def mO (l:List cn) (s a:List (List Int)):Prop:=a.length=s.length/\∀t q,al a t=J q->∀i∈q,(∃p,al s t=J p/\i∈p)\/∃h∈l,h.hX=i/\h.to=t
theorem agb {s:List (List Int)}:mO [] s s:=⟨rfl,λt q e i m=> .inl ⟨q,e,m⟩⟩
theorem agc {a:cn} {l:List cn} {s b d:List (List Int)} (h:mO [a] s b) (k:mO l b d):mO (a::l) s d:=by
 refine ⟨k.1.trans h.1,λt q e i m=> ?_⟩;rcases k.2 t q e i m with ⟨p,e,m⟩|⟨h,m,e⟩
 ·rcases h.2 t p e i m with o|⟨h,m,e⟩
  ·exact .inl o
  ·simp at m;exact .inr ⟨h,by simp[m],e⟩
 ·exact .inr ⟨h,by simp[m],e⟩
def aga {l:List cn} {s:List (List Int)} {a:Int} {b:Nat} {t:List Int} (h:al s a=J t):mO l s (s.set a.toNat (t.eraseIdx b)):=by
 have d:=ku h;refine ⟨by simp,λk q e i m=> ?_⟩;rw[rM d.1 d.2] at e;split at e
 ·cases e;subst k;exact .inl ⟨t,h,List.mem_of_mem_eraseIdx m⟩
 ·exact .inl ⟨q,e,m⟩
def af' {a:cn} {s b:List (List Int)} {t:List Int} (k:mO [a] s b) (h:al b a.to=J t):mO [a] s (b.set a.to.toNat (t++[a.hX])):=by
 have d:=ku h;refine ⟨by simp[k.1],λj q e i m=> ?_⟩;rw[rM d.1 d.2] at e;split at e
 ·cases e;subst j;rcases kU.mp m with m|m
  ·exact k.2 _ _ h i m
  ·exact .inr ⟨a,by simp,(IM.mp m).symm,rfl⟩
 ·exact k.2 _ _ e i m
def atT {T:List eE} {g:List Int} {s f j:List (List Int)} {d:cn} {a b:Int} (V:iY T g s) (z:0<=d.hX/\d.hX<g.length/\ -1<=d.from_/\d.from_<s.length/\ -1<=d.to/\d.to<s.length)
  (K:(a= -1/\d.hX∉s.flatten)\/∃t,al s a=J t/\al t b=J d.hX) (I:a=d.from_) (H:d.from_= -1->d.to≠ -1)
  (r:0<=d.to->d.to≠d.from_->∀x t,al T d.to=J x->al s d.to=J t->km g t+(al g d.hX).getD 0<=x.length)
  (y:(a<0->f=s)/\(0<=a->∀t,al s a=J t->f=s.set a.toNat (t.eraseIdx b.toNat)))
  (w:(d.to<0->j=f)/\(0<=d.to->∀t,al f d.to=J t->j=f.set d.to.toNat (t++[d.hX]))):iY T g j/\j.flatten.length=s.flatten.length+uG d/\mO [d] s j:=by
 subst I;have p:mO [d] s f/\iY T g f/\(f.flatten.length:Int)=s.flatten.length - (if d.from_= -1 then 0 else 1)/\d.hX∉f.flatten/\f.length=s.length/\(0<=d.to->∀x t,al T d.to=J x->al f d.to=J t->km g t+(al g d.hX).getD 0<=x.length):=by
  rcases K with ⟨e,m⟩|⟨t,e,k⟩
  ·rw[y.1 (by omega),if_pos e];exact ⟨⟨rfl,λt q e i m=> .inl ⟨q,e,m⟩⟩,V,by omega,m,rfl,λo x t=>r o (by omega) x t⟩
  ·have l:=ku e;obtain ⟨A,B,C,D⟩:=alE V e k;rw[y.2 l.1 t e,if_neg (by omega)];refine ⟨aga e,A,by omega,C,by simp,λo x u h n=> ?_⟩;rw[rM l.1 l.2] at n;split at n
   ·cases n;rename_i q;rw[q] at h;have:=V.1.2.2.2 _ _ _ h e;omega
   ·rename_i q;exact r o q x u h n
 obtain ⟨M,A,B,C,D,E⟩:=p;unfold uG;by_cases o:0<=d.to
 ·obtain ⟨t,e⟩:=hT (xs:=f) (i:=d.to) o (by omega);obtain ⟨F,G⟩:=alD A e C ⟨z.1,z.2.1⟩ λx h=>E o x t h e;rw[w.2 o t e,if_neg (by omega:¬d.to= -1)];refine ⟨F, ?_,af' M e⟩;split at B<;>rename_i q<;>simp only[q,if_true,if_false]<;>omega
 ·rw[w.1 (by omega),if_pos (by omega:d.to= -1)];have q:¬d.from_= -1:=λq=>H q (by omega);rw[if_neg q] at B⊢;exact ⟨A,by omega,M⟩
attribute [grind .] agb
attribute [grind->] agc
def aAq (n:Nat) (m:cn) (s q:List (List Int)):Prop:=
 (0<=m.hX/\m.hX<n/\ -1<=m.from_/\m.from_<s.length/\ -1<=m.to/\m.to<s.length)/\(m.from_= -1->m.to≠ -1)/\m.front=ak/\
 ∃b a,((m.from_= -1/\m.hX∉s.flatten)\/∃t,al s m.from_=J t/\al t b=J m.hX)/\((m.from_<0->a=s)/\(0<=m.from_->∀t,al s m.from_=J t->a=s.set m.from_.toNat (t.eraseIdx b.toNat)))/\
  ((m.to<0->q=a)/\(0<=m.to->∀t,al a m.to=J t->q=a.set m.to.toNat (t++[m.hX])))
def aAe (T:List eE) (a:List Int):List cn->List (List Int)->List (List Int)->Prop|[],s,q=>s=q|m::l,s,q=>∃u,aAq a.length m s u/\iY T a u/\aAe T a l u q
theorem aFx {T:List eE} {a:List Int} {s:List (List Int)}:aAe T a [] s s:=rfl
def az1 (T:List eE) (a:List Int) (l:List cn) (s q:List (List Int)):Prop:=mO l s q/\aAe T a l s q
theorem aGs {T:List eE} {a:List Int} {s:List (List Int)}:az1 T a [] s s:=⟨agb,rfl⟩
def aGt {T:List eE} {d:List Int} {a:cn} {l:List cn} {s b e:List (List Int)} (h:mO [a] s b) (f:aAq d.length a s b) (v:iY T d b) (k:az1 T d l b e):az1 T d (a::l) s e:=⟨agc h k.1,b,f,v,k.2⟩
theorem aGu {T:List eE} {b:List Int} {a:cn} {l:List cn} {s d e:List (List Int)} (h:mO [a] s d) (k:az1 T b l d e) (f:aAq b.length a s d) (v:iY T b d):az1 T b (a::l) s e:=aGt h f v k
attribute [grind->] aGu
attribute [grind .] aGs aFx
theorem aEV {T:List eE} {a:List Int} {l:List cn} {s q:List (List Int)} (h:az1 T a l s q):mO l s q/\aAe T a l s q:=h
attribute [grind->] aEV
def aIa {T:List eE} {e:List Int} {s g h:List (List Int)} {d:cn} {a b:Int} (V:iY T e s) (n:0<=d.hX/\d.hX<e.length/\ -1<=d.from_/\d.from_<s.length/\ -1<=d.to/\d.to<s.length)
  (l:(a= -1/\d.hX∉s.flatten)\/∃t,al s a=J t/\al t b=J d.hX) (k:a=d.from_) (j:d.from_= -1->d.to≠ -1)
  (p:0<=d.to->d.to≠d.from_->∀x t,al T d.to=J x->al s d.to=J t->km e t+(al e d.hX).getD 0<=x.length)
  (m:(a<0->g=s)/\(0<=a->∀t,al s a=J t->g=s.set a.toNat (t.eraseIdx b.toNat)))
  (i:(d.to<0->h=g)/\(0<=d.to->∀t,al g d.to=J t->h=g.set d.to.toNat (t++[d.hX]))) (f:d.front=ak):iY T e h/\h.flatten.length=s.flatten.length+uG d/\mO [d] s h/\aAq e.length d s h:=by
 obtain ⟨A,B,C⟩:=atT V n l k j p m i;subst k;exact ⟨A,B,C,n,j,f,b,g,l,m,i⟩
end
section
instance {e:Type} {d:List e} {a b:Int}:au (AY d a b) (0<=a/\a<d.length/\b=a+1) λr=>r=d.eraseIdx a.toNat:=G1 rfl
@[grind=] theorem ay8 {d:Type} {b:List d} {k:Int} {t:d} (h:al b k=J t):b.set k.toNat t=b:=by
 have l:=ku h;have:b[k.toNat]? =J t:=by simpa[al,l.1] using h
 obtain ⟨a,rfl⟩:=fq.mp this;exact List.set_getElem_self a
def mQ (T:List eE):Prop:=∀t∈T,1<=t.length/\t.length<=100000
attribute [grind] mQ uG
attribute [grind=] yn List.flatten_nil
variable {N:Nat} [gM N]
instance {a} :au (Hg a) (a.length<=1000000) λr=>r=a:=⟨by rw[Hg];exact aC⟩
instance {a} :au (qy a) (a.length<=1000000) λr=>r=a:=⟨by rw[qy];exact aC⟩
instance {a} :au (QH a) (a.length<=1000000) λr=>r=a:=⟨by rw[QH];exact aC⟩
instance {a} :au (QE a) (a.length<=1000000) λr=>r=a:=⟨by rw[QE];exact aC⟩
instance {d U e n b} :au (DD d U e n b) (d.length<=1000000/\e=d.length/\0<=b/\b<=e/\e - b<n) λr=>iX r (λ_=>U∉d.drop b.toNat)/\fh r λa=>al d a=J U:=by induction n generalizing b with|zero=>exact bJ|succ n f=>exact ⟨by rw[DD];exact aC⟩
instance {a U} :au (vA N a U) (a.length<=1000000) λr=>(r= -1/\U∉a)\/al a r=J U:=⟨by rw[vA];exact aC⟩
instance {a U} :au (sy N a U) (a.length<=1000000) λr=>r=aa↔U∈a:=⟨by rw[sy];exact aC⟩
instance {U b e n d a} :au (Nj U b e n d a) (b.length<=1000000/\e=b.length/\(∀i∈b,0<=i/\i<U.length)/\(∀l∈U,1<=l/\l<=400)/\0<=a/\a<=e/\e - a<n/\ -1000000 - 400*a<=d/\d<=1000000) λr=>r=d - km U (b.drop a.toNat):=by induction n generalizing d a with|zero=>exact bJ|succ n f=>exact ⟨by rw[Nj];exact aC⟩
instance {b U a} :au (Rl N b U a) (a.length<=1000000/\(∀i∈a,0<=i/\i<U.length)/\(∀l∈U,1<=l/\l<=400)/\1<=b.length/\b.length<=100000) λr=>r=b.length - km U a:=⟨by rw[Rl];exact aC⟩
instance {b U a} :au (aDd b U a) (True) λr=>r=ak->a.length=b.length/\a.length<=24/\U.length<=192:=⟨by rw[aDd];exact aC⟩
instance {a} :au (aDe a) (True) λr=>r=ak->1<=a/\a<=400:=⟨by rw[aDe];exact aC⟩
instance {d e n b} :au (aAZ d e n b) (d.length<=1000000/\e=d.length/\0<=b/\b<=e/\e - b<n) λr=>iX r (λ_=>∀l∈d.drop b.toNat,1<=l/\l<=400)/\fh r λa=>a=ak:=by induction n generalizing b with|zero=>exact bJ|succ n f=>exact ⟨by rw[aAZ];exact aC⟩
instance {U b a} :au (aDf U b a) (b.length=U.length) λr=>r=ak->0<=a/\a<U.length:=⟨by rw[aDf];exact aC⟩
instance {U f d n e b} :au (aA1 U f d n e b) (f.length<=1000000/\d=f.length/\0<=b/\b<=d/\d - b<n/\e.length=U.length) λr=>iX r (λa=>a.length=U.length)/\fh r λa=>a=ak:=by induction n generalizing e b with|zero=>exact bJ|succ n g=>exact ⟨by rw[aA1];exact aC⟩
instance {d U a b} :au (aDg N d U b a) (a.length<=1000000/\0<=b/\b<d.length/\(∀i∈a,0<=i/\i<U.length)/\(∀l∈U,1<=l/\l<=400)/\mQ d) λr=>True:=⟨by rw[aDg];exact aC⟩
instance {g U d e n f b} :au (aA0 N g U d e n f b) (oJ g U d/\(∀t∈d,t.length<=1000000)/\e=d.length/\(∀l∈U,1<=l/\l<=400)/\mQ g/\0<=b/\b<=e/\e - b<n/\f.length=U.length) λr=>fh r λa=>a=ak:=by induction n generalizing f b with|zero=>exact bJ|succ n h=>exact ⟨by rw[aA0];exact aC⟩
instance {b U a} :au (Ho N b U a) (oJ b U a/\U.length<=1000000/\(∀t∈a,t.length<=1000000)/\mQ b) λr=>r=aa->iY b U a:=⟨by rw[Ho];exact aC⟩
instance {b e n d a} :au (CZ b e n d a) (b.length<=1000000/\(∀t∈b,t.length<=1000000)/\e=b.length/\0<=a/\a<=e/\e - a<n/\d.length<=a) λr=>r=d++b.drop a.toNat:=by induction n generalizing d a with|zero=>exact bJ|succ n f=>exact ⟨by rw[CZ];exact aC⟩
instance {a} :au (Hm N a) (a.length<=1000000/\(∀t∈a,t.length<=1000000)) λr=>r=a:=⟨by rw[Hm];exact aC⟩
instance {U e d n b} :au (aA2 N U d e n b) (d.length<=1000000/\(∀t∈d,t.length<=1000000)/\e=d.length/\0<=b/\b<=e/\e - b<n) λr=>iX r (λ_=>U∉(d.drop b.toNat).flatten)/\fh r λa=>∃t,al d a.1=J t/\al t a.2=J U:=by induction n generalizing b with|zero=>exact bJ|succ n f=>exact ⟨by rw[aA2];exact aC⟩
instance {a U} :au (z7 N a U) (a.length<=1000000/\(∀t∈a,t.length<=1000000)) λr=>(r.1= -1/\U∉a.flatten)\/∃t,al a r.1=J t/\al t r.2=J U:=⟨by rw[z7];exact aC⟩
instance {U b a} :au (DJ U b a) (True) λr=>r=ak->0<=a.hX/\a.hX<U.length/\ -1<=a.from_/\a.from_<b.length/\ -1<=a.to/\a.to<b.length:=⟨by rw[DJ];exact aC⟩
instance {a b} :au (L0 a b) (True) λr=>r=ak->b=a.from_/\(a.from_= -1->a.to≠ -1):=⟨by rw[L0];exact aC⟩
instance {d U b a} :au (aC5 N d U b a) (iY d U b/\(∀t∈b,t.length<=1000000)/\mQ d/\0<=a.hX/\a.hX<U.length/\a.to<b.length) λr=>r.1=b/\(r.2=ak->0<=a.to->a.to≠a.from_->∀x t,al d a.to=J x->al b a.to=J t->km U t+(al U a.hX).getD 0<=x.length):=⟨by rw[aC5];exact aC⟩
instance {b a d e} :au (aC6 b a d e) (e=decide (0<=a)/\(a<0\/∃t,al b a=J t/\0<=d/\d<t.length)/\(∀t∈b,t.length<=1000000)) λr=>(a<0->r=b)/\(0<=a->∀t,al b a=J t->r=b.set a.toNat (t.eraseIdx d.toNat)):=⟨by rw[aC6];exact aC⟩
instance {a} :au (aC8 a) (a.front=ak) λr=>r=ak:=⟨by rw[aC8];exact aC⟩
instance {b a} :au (aC7 b a) (a.front=ak/\a.to<b.length/\(∀t∈b,t.length<=1000000)) λr=>(a.to<0->r=b)/\(0<=a.to->∀t,al b a.to=J t->r=b.set a.to.toNat (t++[a.hX])):=⟨by rw[aC7];exact aC⟩
instance {d U a b} :au (QZ N d U a b) (iY d U a/\mQ d/\b.front=ak) λr=>r.1=0->iY d U r.2/\r.2.flatten.length=a.flatten.length+uG b/\mO [b] a r.2/\aAq U.length b a r.2:=⟨by rw[QZ];simp only[yo];(repeat' with_reducible first|intro _|apply dq|apply dh|refine dj (by omega) ?_|apply di|apply dk|apply df|apply eC|apply dr|apply dg)<;>(first|grind -mbtc|(rename_i h y B l k q z m s A f g t C i n w p e x E j _;rw[i.1] at e;exact aIa h.1 (l (by simpa using k)) m (f (by simpa using g)).1 (f (by simpa using g)).2 (i.2 (by simpa using n)) e j h.2.2))⟩
instance {f U d g n e b} :au (Nw N f U d g n e b) (mQ f/\d.length<=1000000/\g=d.length/\(∀s∈d,s.front=ak)/\0<=b/\b<=g/\g - b<n/\iY f U e) λr=>iX r (λa=>iY f U a/\a.flatten.length=e.flatten.length+lo (d.drop b.toNat)/\az1 f U (d.drop b.toNat) e a)/\fh r λa=>a.2≠0:=by induction n generalizing e b with|zero=>exact bJ|succ n h=>exact ⟨by rw[Nw];exact aC⟩
instance {d U a b} :au (Rv N d U a b) (oJ d U a/\mQ d/\U.length<=1000000/\(∀t∈a,t.length<=1000000)/\b.length<=1000000/\(∀s∈b,s.front=ak)) λr=>r.2.2=0->iY d U r.1/\r.1.flatten.length=a.flatten.length+lo b/\az1 d U b a r.1:=⟨by rw[Rv];simp only[yo];exact aC⟩
end
section
def lens (a:List bC):List Int:=a.map (·.length)
@[grind=] theorem ayC {a:List bC}:(lens a).length=a.length:=by simp[lens]
@[grind=] theorem ayD:lens []=[]:=rfl
@[grind=] theorem ayB {w:bC} {a:List bC}:lens (w::a)=w.length::lens a:=rfl
def nV (y:bq) (i:Int):Prop:=∃w,al y.bD i=J w/\∃o∈y.b2,w.dest∈o.c7
def nW (y:bq):Prop:=∀i∈y.bo.bD,nV y i
def YL {y z:bq} {i:Int} (h:nV y i) (o:z.b2=y.b2) (w:y.bD<+:z.bD):nV z i:=by
 obtain ⟨v,e,k⟩:=h;obtain ⟨t,r⟩:=w;refine ⟨v, ?_,by rw[o];exact k⟩;have:=ku e;unfold al at e⊢;rw[if_pos this.1] at e⊢;rw[<-r,kS (by omega)];exact e
def YM {y z:bq} (h:nW y) (p:z.bo.bD=y.bo.bD) (o:z.b2=y.b2) (w:y.bD<+:z.bD):nW z:=λi m=>YL (h i (p▸m)) o w
theorem azv {y z:bq} (p:z.bo.bD=y.bo.bD) (o:z.b2=y.b2) (w:y.bD<+:z.bD) (h:nW y):nW z:=YM h p o w
attribute [grind<=] azv
theorem azu {y z:bq} {i:Int} (o:z.b2=y.b2) (w:y.bD<+:z.bD) (h:nV y i):nV z i:=YL h o w
attribute [grind<=] azu
def nq (p:eR):Prop:=p.bD.length<=1000/\p.aH.length<=100000/\p.iP.items.length<=1000/\p.proof.e9.fW.length<=1000/\p.proof.chain.length<=1000
def jr (c:c8) (y:bq):Prop:=mQ c.aH/\1<=c.aH.length/\iY c.aH (lens y.bD) y.aH/\(∀w∈y.bD,pY w)/\y.b2.length<=8/\(∀o∈y.b2,vR y.aH.length o)/\(y.busy=aa->y.cE=ak->kC y/\nW y)/\gH y/\nq y.bo
def aCq (T:List eE) (a:List Int) (l:List cn) (s q:List (List Int)):Prop:=aAe T a l s q/\l.length<=1000000
def rr (x z:Step):Prop:=z.c=x.c/\jr x.c z.y/\x.y.bD<+:z.y.bD/\aCq x.c.aH (lens z.y.bD) z.r.vv x.y.aH z.y.aH
attribute [grind] aCq rr nq
def af1 {b e t:List Int} (h:∀i∈t,0<=i/\i<b.length):km (b++e) t=km b t:=by
 induction t with
 |nil=>rfl
 |cons i t d=>have a:=h i (by simp);rw[Ay,Ay,d λi m=>h i (by simp[m])];simp only[al,if_pos a.1];rw[kS (by omega)]
@[grind .] theorem aw7 {T:List eE} {g j:List Int} {s:List (List Int)} (V:oJ T g s):oJ T (g++j) s:=by
 obtain ⟨a,b,⟨c,d⟩,e⟩:=V;refine ⟨a,b,⟨c,λi m=>by have:=d i m;simp;omega⟩,λk x t h f=> ?_⟩;rw[af1 λi m=>ZC ⟨a,b,⟨c,d⟩,e⟩ f m];exact e k x t h f
@[grind=] theorem ayA {a b:List bC}:lens (a++b)=lens a++lens b:=by simp[lens]
@[grind=] theorem axf {a b:List cn}:lo (a++b)=lo a+lo b:=by simp[lo]
@[grind .] theorem ayU {a b:List bC}:a<+:a++b:=List.prefix_append ..
@[grind .] theorem ap1 {a:List bC}:a<+:a:=YY _
def Y5 {y z:bq} {l:List cn} (h:gH y) (m:mO l y.aH z.aH) (b:z.busy=y.busy) (f:z.cE=ak->y.cE=ak) (p:z.bo.bD=y.bo.bD/\z.bo.lead=y.bo.lead/\z.bo.aH=y.bo.aH)
  (k:y.busy=aa->y.cE=ak->∀s∈l,s.hX∈y.bo.bD\/(s.to≠y.bo.lead/\s.to∉y.bo.aH)):gH z:=by
 intro g d t a q e i j;rw[b] at g;have d:=f d;rw[p.2.1,p.2.2] at a;rw[p.1];rcases m.2 t q e i j with ⟨u,e,j⟩|⟨s,w,n,r⟩
 ·exact h g d t a u e i j
 ·subst n r;rcases k g d s w with o|o
  ·exact o
  ·rcases a with a|a
   ·exact absurd a o.1
   ·exact absurd a o.2
theorem agn {c:c8} {y:bq} (h:jr c y):mQ c.aH/\1<=c.aH.length/\iY c.aH (lens y.bD) y.aH/\(∀w∈y.bD,pY w)/\y.b2.length<=8/\(∀o∈y.b2,vR y.aH.length o)/\(y.busy=aa->y.cE=ak->kC y/\nW y)/\gH y/\nq y.bo:=h
def IX {c:c8} {y:bq} (a:mQ c.aH) (b:1<=c.aH.length) (e:iY c.aH (lens y.bD) y.aH) (f:∀w∈y.bD,pY w) (g:y.b2.length<=8) (h:∀o∈y.b2,vR y.aH.length o) (i:y.busy=aa->y.cE=ak->kC y/\nW y) (j:gH y) (k:nq y.bo):jr c y:=⟨a,b,e,f,g,h,i,j,k⟩
attribute [grind->] agn
variable {N:Nat} [gM N]
instance {a} :au (Rc a) (a.c7.length<=1000000) λr=>r=a:=⟨by rw[Rc];(repeat' with_reducible first|intro _|apply dq|apply dh|refine dj (by omega) ?_|apply di|apply dk|apply df|apply eC|apply dr|apply dg)<;>first|grind -mbtc|simp_all⟩
instance {a U} :au (aAi a U) (True) λr=>r=aa->0<=U/\U<a.c.aH.length:=⟨by rw[aAi];exact aC⟩
instance {a U} :au (tS a U) (True) λr=>r=aa->0<=U/\U<a.c.aH.length:=⟨by rw[tS];exact aC⟩
instance {a U b} :au (Fy N a U b) (b.aH.length<=1000000/\b=a.y.bo) λr=>r=ak->a.y.cE=ak/\(a.y.busy=aa->U≠a.y.bo.lead/\U∉a.y.bo.aH):=⟨by rw[Fy];exact aC⟩
instance {a U} :au (HM N a U) (a.y.bo.aH.length<=1000000) λr=>r=ak->a.y.cE=ak/\(a.y.busy=aa->U≠a.y.bo.lead/\U∉a.y.bo.aH):=⟨by rw[HM];exact aC⟩
instance {a U} :au (QS a U) (True) λr=>r=(a.cq==U):=⟨by rw[QS];exact aC⟩
instance {d U b n a} :au (CI d U b n a) (d.length<=1000000/\b=d.length/\0<=a/\a<=b/\b - a<n) λr=>True:=by induction n generalizing a with|zero=>exact bJ|succ n e=>exact ⟨by rw[CI];exact aC⟩
instance {a U} :au (Qn N a U) (a.length<=1000000) λr=>True:=⟨by rw[Qn];exact aC⟩
instance {a U} :au (Qm N a U) (a.length<=1000000) λr=>True:=⟨by rw[Qm];exact aC⟩
instance {a U} :au (R2 N a U) (a.y.b2.length<=1000000) λr=>True:=⟨by rw[R2];exact aC⟩
instance {a U} :au (QU a U) (True) λr=>True:=⟨by rw[QU];exact aC⟩
instance {d U b n a} :au (CJ d U b n a) (d.length<=1000000/\b=d.length/\0<=a/\a<=b/\b - a<n) λr=>True:=by induction n generalizing a with|zero=>exact bJ|succ n e=>exact ⟨by rw[CJ];exact aC⟩
instance {a U} :au (Qp N a U) (a.length<=1000000) λr=>True:=⟨by rw[Qp];exact aC⟩
instance {a U} :au (Qo N a U) (a.length<=1000000) λr=>True:=⟨by rw[Qo];exact aC⟩
instance {d e n b a} :au (aJ4 d e n b a) (d.length<=1000000/\e=d.length/\0<=a/\a<=e/\e - a<n/\b.length<=a) λr=>r=b++lens (d.drop a.toNat):=by induction n generalizing b a with|zero=>exact bJ|succ n f=>exact ⟨by rw[aJ4];exact aC⟩
instance {a U b} :au (HF N a U b) (mQ a.c.aH/\oJ a.c.aH (lens a.y.bD) a.y.aH/\a.y.bD.length<=1000/\U.length<=1000000/\(∀s∈U,s.front=ak)/\b.length<=1000000) λr=>r.1=0->r.2.c=a.c/\r.2.e=a.e/\r.2.y=bq.mk a.y.bD r.2.y.aH a.y.b2 a.y.busy a.y.bo a.y.cE/\r.2.r.vv=U/\iY a.c.aH (lens a.y.bD) r.2.y.aH/\r.2.y.aH.flatten.length=a.y.aH.flatten.length+lo U/\az1 a.c.aH (lens a.y.bD) U a.y.aH r.2.y.aH:=⟨by rw[HF];exact aC⟩
instance {g f d e n b} :au (aCS N g d e f n b) (g.length<=1000000/\d.length<=1000000/\e=d.length/\(∀i∈d,0<=i/\i<f.length)/\f.length<=1000000/\0<=b/\b<=e/\e - b<n) λr=>fh r λa=>a≠0:=by induction n generalizing b with|zero=>exact bJ|succ n h=>exact ⟨by rw[aCS];exact aC⟩
instance {g f e d n b} :au (CU N g e d f n b) (g.length<=1000000/\e.length<=1000000/\d=e.length/\(∀t∈e,t.length<=1000000/\∀i∈t,0<=i/\i<f.length)/\f.length<=1000000/\0<=b/\b<=d/\d - b<n) λr=>fh r λa=>a≠0:=by induction n generalizing b with|zero=>exact bJ|succ n h=>exact ⟨by rw[CU];exact aC⟩
instance {f e d n b a} :au (aCT f e d n b a) (0<=f/\d<=1000/\0<=e/\e<=1000/\0<=a/\a<=d/\d - a<n/\b.length<=a) λr=>r.length<=1000/\lo r=lo b+(d - a)/\∀s∈r,s∈b\/(s.front=ak/\s.to=f):=by induction n generalizing b a with|zero=>exact bJ|succ n g=>exact ⟨by rw[aCT];exact aC⟩
instance {a b d} :au (Aa N a b d) (jr a.c (bq.mk b a.y.aH a.y.b2 a.y.busy a.y.bo a.y.cE)/\a.e.data.length<=1000000/\b.length<=1000000/\d.length<=1000000) λr=>r.1=0->rr (Step.mk a.c (bq.mk b a.y.aH a.y.b2 a.y.busy a.y.bo a.y.cE) a.e a.r) r.2:=⟨by rw[Aa];(repeat' with_reducible first|intro _|apply dq|apply dh|refine dj (by omega) ?_|apply di|apply dk|apply df|apply eC|apply dr|apply dg)<;>first|grind -mbtc|(rename_i g z;have g:=g z;refine ⟨?_,IX ?_ ?_ ?_ ?_ ?_ ?_ ?_ (Y5 (y:=bq.mk b a.y.aH a.y.b2 a.y.busy a.y.bo a.y.cE) ?_ g.2.2.2.2.2.2.1 ?_ ?_ ?_ ?_) ?_, ?_, ?_⟩<;>grind -mbtc)⟩
instance {d U e n b} :au (Dx d U e n b) (d.length<=1000000/\e=d.length/\0<=b/\b<=e/\e - b<n) λr=>iX r (λ_=>U∉d.drop b.toNat)/\fh r λa=>al d a=J U:=by induction n generalizing b with|zero=>exact bJ|succ n f=>exact ⟨by rw[Dx];exact aC⟩
instance {a U} :au (z6 N a U) (a.length<=1000000) λr=>(r= -1/\U∉a)\/al a r=J U:=⟨by rw[z6];exact aC⟩
instance {a U} :au (Hh N a U) (a.length<=1000000) λr=>True:=⟨by rw[Hh];exact aC⟩
instance {b a} :au (Mz N b a) (a.name.length<=1000000) λr=>r=ak->0<=a.cq/\a.cq<b.aH.length/\1<=a.c7.length/\a.c7.length<=16:=⟨by rw[Mz];exact aC⟩
instance {b a d} :au (MA N b a d) (d.length<=1000000/\0<=a/\a<=b.c7.length/\b.c7.length<=1000000) λr=>True:=⟨by rw[MA];exact aC⟩
instance {g b f n e} :au (DC N g b f n e) (b.length<=1000000/\b=g.c7/\(∀d∈b,d.length<=1000000)/\f=b.length/\0<=e/\e<=f/\f - e<n) λr=>fh r λa=>a=ak:=by induction n generalizing e with|zero=>exact bJ|succ n h=>exact ⟨by rw[DC];exact aC⟩
instance {a U} :au (Hj N a U) (U.name.length<=1000000/\U.c7.length<=1000000/\(∀d∈U.c7,d.length<=1000000)) λr=>r=aa->0<=U.cq/\U.cq<a.aH.length/\1<=U.c7.length/\U.c7.length<=16:=⟨by rw[Hj];exact aC⟩
instance {a U} :au (QY N a U) (U.c7.length<=1000000) λr=>True:=⟨by rw[QY];exact aC⟩
instance {d U b n a} :au (Cy N d U b n a) (U.c7.length<=1000000/\d.length<=1000000/\b=d.length/\0<=a/\a<=b/\b - a<n) λr=>True:=by induction n generalizing a with|zero=>exact bJ|succ n e=>exact ⟨by rw[Cy];exact aC⟩
instance {a U} :au (Qv N a U) (U.c7.length<=1000000/\a.length<=1000000) λr=>True:=⟨by rw[Qv];exact aC⟩
instance {a U} :au (Qs N a U) (U.c7.length<=1000000/\a.length<=1000000) λr=>True:=⟨by rw[Qs];exact aC⟩
instance {b a d} :au (aD1 b a d) (True) λr=>True:=⟨by rw[aD1];exact aC⟩
instance {f e d n b} :au (aBY N f e d n b) (f.c7.length<=1000000/\(∀o∈e,o.c7.length<=1000000)/\e.length<=1000000/\d=e.length/\0<=b/\b<=d/\d - b<n) λr=>fh r λa=>a≠0:=by induction n generalizing b with|zero=>exact bJ|succ n g=>exact ⟨by rw[aBY];exact aC⟩
instance {a b} :au (R1 N a b) (jr a.c (bq.mk a.y.bD a.y.aH b a.y.busy a.y.bo a.y.cE)/\iW a.e/\b.length<=1000000) λr=>r.2.2=vz a/\(r.1=0->jr a.c (bq.mk a.y.bD a.y.aH r.2.1 a.y.busy a.y.bo a.y.cE)):=⟨by rw[R1];(repeat' with_reducible first|intro _|apply dq|apply dh|refine dj (by omega) ?_|apply di|apply dk|apply df|apply eC|apply dr|apply dg)<;>first|grind -mbtc|(refine ⟨by grind -mbtc,λ_=>IX ?_ ?_ ?_ ?_ ?_ ?_ ?_ ?_ ?_⟩<;>grind -mbtc [gH])⟩
instance {f d e n b} :au (Ek f d e n b) (d.length<=1000000/\e=d.length/\0<=b/\b<=e/\e - b<n) λr=>iX r (λ_=>∀t∈d.drop b.toNat,0<=t/\t<f.c.aH.length)/\fh r λa=>a≠0:=by induction n generalizing b with|zero=>exact bJ|succ n g=>exact ⟨by rw[Ek];exact aC⟩
instance {a} :au (Oj a) (True) λr=>r=ak->0<=a.e.dO/\a.e.dO<=12:=⟨by rw[Oj];exact aC⟩
instance {a} :au (R0 N a) (a.e.aH.length<=1000) λr=>r=0->0<=a.e.cq/\a.e.cq<a.c.aH.length/\(∀t∈a.e.aH,0<=t/\t<a.c.aH.length)/\0<=a.e.dO/\a.e.dO<=12:=⟨by rw[R0];(repeat' with_reducible first|intro _|apply dq|apply dh|refine dj (by omega) ?_|apply di|apply dk|apply df|apply eC|apply dr|apply dg)<;>first|grind -mbtc|(subst_vars;simp_all [Jn])⟩
instance {a b d} :au (aAh N a b d) (a.y.b2.length<=1000000/\0<=b/\b<=a.e.aH.length/\a.e.aH.length<=1000000) λr=>True:=⟨by rw[aAh];exact aC⟩
instance {f d b n a} :au (Fg N f d b n a) (f.y.b2.length<=1000000/\d=f.e.aH/\f.e.aH.length<=1000000/\d.length<=1000000/\b=d.length/\0<=a/\a<=b/\b - a<n) λr=>True:=by induction n generalizing a with|zero=>exact bJ|succ n g=>exact ⟨by rw[Fg];exact aC⟩
instance {a} :au (SH N a) (a.y.b2.length<=1000000/\a.e.aH.length<=1000000) λr=>True:=⟨by rw[SH];exact aC⟩
end
section
open Go.Sort Go.Shelf Go.Proofs Go.RowKit
def zc {a:Int} (h:0<=a) (k:a<4611686018427387904):(qC (pP .i64) a).toNat=a.toNat:=by
 have:pP .i64=64:=rfl;rw[BitVec.toNat_ofInt,this];omega
def Yh {n:Nat} (k:n<4611686018427387904):aO .i64 (n:Int)=n:=by rw[vN];omega
def al7 {a b:Int} (h:0<=a) (k:a<4611686018427387904) (l:0<=b) (m:b<4611686018427387904):0<=ih .and .i64 a b/\ih .and .i64 a b<=a/\ih .and .i64 a b<=b:=by
 simp only[ih,aEQ,zc h k,zc l m];have p:=aEX (n:=a.toNat) (m:=b.toNat);have q:=Nat.and_le_right (n:=a.toNat) (m:=b.toNat);rw[Yh (by omega)];omega
def qe {a:Int} (h:0<a) (k:a<4611686018427387904):1<=ih .and .i64 a (aO .i64 (0 - a))/\ih .and .i64 a (aO .i64 (0 - a))<=a:=by
 have b:aO .i64 (0 - a)= -a:=by rw[vN];omega
 rw[b];simp only[ih];have e:qC (pP .i64) (-a)= -qC (pP .i64) a:=by rw[BitVec.ofInt_neg]
 rw[e];have p:(qC (pP .i64) a&&& -qC (pP .i64) a).toNat<=a.toNat:=by rw[aEQ,zc (by omega) k];exact aEX
 have q:(qC (pP .i64) a&&& -qC (pP .i64) a).toNat≠0:=by intro z;have d:qC (pP .i64) a&&& -qC (pP .i64) a=0#_:=BitVec.eq_of_toNat_eq (by simpa using z);have s:=BitVec.add_eq_or_of_and_eq_zero _ _ d;rw[BitVec.add_right_neg] at s;have t:=congrArg BitVec.toNat s;rw[aFm,zc (by omega) k] at t;have:=Nat.left_le_or (n:=a.toNat) (m:=(-qC (pP .i64) a).toNat);rw[BitVec.toNat_ofNat,Nat.zero_mod] at t;omega
 rw[Yh (by omega)];omega
def abM {a b:Int} (h:0<=a) (k:a<1073741824) (l:0<=b) (m:b<1073741824):0<=ih .or .i64 a b/\ih .or .i64 a b<1073741824:=by
 simp only[ih,aFm,zc h (by omega),zc l (by omega)];have p:=Nat.or_lt_two_pow (x:=a.toNat) (y:=b.toNat) (n:=30) (by omega) (by omega);rw[Yh (by omega)];omega
def aps {a b:Int} (h:0<a) (k:a<4611686018427387904) (e:b=aO .i64 (0 - a)):1<=ih .and .i64 a b/\ih .and .i64 a b<=a:=by subst e;exact qe h k
def aaf {a b:Int} (h:0<=a) (k:1<=b):0<=a.fdiv b/\a.fdiv b<=a:=by
 rw[Int.fdiv_eq_ediv_of_nonneg _ (by omega)];exact ⟨Int.ediv_nonneg h (by omega),Int.ediv_le_self _ h⟩
def iS {y:Nat} (h:y<=12):1<=(2:Int) ^ y/\(2:Int) ^ y<=4096:=by
 have b:2 ^ y<=2 ^ 12:=Nat.pow_le_pow_right (by omega) h;have a:0<2 ^ y:=Nat.two_pow_pos y;have e:(2:Int) ^ y=((2 ^ y:Nat):Int):=by simp
 omega
def VZ {y:Nat} (h:(y:Int)<=12):1<=((2 ^ y:Nat):Int)/\((2 ^ y:Nat):Int)<=4096:=by
 have:=iS (y:=y) (by omega);simpa using this
def aby {a b:Int} (h:0<=a) (k:a<=8192) (l:1<=b) (m:b<=4096):0<=a*b/\a*b<=33554432:=
 ⟨Int.mul_nonneg h (by omega),by have:=Int.mul_le_mul k m (by omega) (by omega:(0:Int)<=8192);omega⟩
theorem P2 {k:aG} {b:Int} {y:Nat} (h:j2 k b=J y):(y:Int)<=b:=by
 unfold j2 at h;split at h
 ·cases h;omega
 ·cases h
attribute [grind->] P2
def azp (a b:Int):Int:=ih .and .i64 a b
def azs (a b:Int):Int:=ih .or .i64 a b
def azr (a b:Int):Int:=a.fdiv b
def azq (y:Nat):Int:=(2:Int) ^ y
theorem azB {a b:Int} (h:0<=a) (k:a<4611686018427387904) (l:0<=b) (m:b<4611686018427387904):ih .and .i64 a b=min (min a b) (max 0 (azp a b)):=by
 have:=al7 h k l m;show azp a b=_;have e:azp a b=ih .and .i64 a b:=rfl;omega
theorem azC {a b:Int} (h:0<a) (k:a<4611686018427387904) (e:b=aO .i64 (0 - a)):ih .and .i64 a b=min a (max 1 (azp a b)):=by
 have:=aps h k e;show azp a b=_;have e:azp a b=ih .and .i64 a b:=rfl;omega
theorem azE {a b:Int} (h:0<=a) (k:a<1073741824) (l:0<=b) (m:b<1073741824):ih .or .i64 a b=min 1073741823 (max 0 (azs a b)):=by
 have:=abM h k l m;show azs a b=_;have e:azs a b=ih .or .i64 a b:=rfl;omega
theorem azD {a b:Int} (h:0<=a) (k:1<=b):a.fdiv b=min a (max 0 (azr a b)):=by
 have:=aaf h k;show azr a b=_;have e:azr a b=a.fdiv b:=rfl;omega
theorem azA {y:Nat} (h:y<=12):(2:Int) ^ y=min 4096 (max 1 (azq y)):=by
 have:=iS h;show azq y=_;have e:azq y=(2:Int) ^ y:=rfl;omega
attribute [grind=] azB azC azE azD azA
def aqi {b:Type} [Inhabited b] (f:b->Int) (a:List b):(ou (λx y=>f x - f y) a).Pairwise λx y=>f x<=f y:=by
 have g:=W1 f;have h:=(Wi _ g a).2;have p:=BU _ g a;rw[af3];intro i j k l n;have:=h i j (Nat.zero_le _) n (by omega);have e:∀x y,ltOf (λx y=>f x - f y) x y=decide (f x<f y):=λx y=>by unfold ltOf;congr 1;simp;omega
 rw[e] at this;have m:(ou (λx y=>f x - f y) a).toArray[i]! =(ou (λx y=>f x - f y) a)[i]:=by rw[getElem!_pos _ _ (by simpa using k)];simp
 have d:(ou (λx y=>f x - f y) a).toArray[j]! =(ou (λx y=>f x - f y) a)[j]:=by rw[getElem!_pos _ _ (by simpa using l)];simp
 rw[m,d] at this;simp at this;omega
def amm {a d b:List Int} (h:o1 a d=J b):b.Pairwise λx y=>a.getD x.toNat 0<=a.getD y.toNat 0:=by
 unfold o1 at h;split at h
 ·cases h;exact .nil
 ·split at h
  ·rename_i e;cases h
   letI:Inhabited (pW a.length):=⟨⟨0,by omega⟩⟩
   rw[List.pairwise_map];exact aqi (λx:pW a.length=>a.getD x.1.toNat 0) _
  ·cases h
instance {d a:List Int}:au (o1 d a) ((∀x∈a,0<=x/\x<d.length)/\(∀b∈d,0<=b/\b<=1000000)/\a.length<=1000000) λr=>r.Perm a/\r.Pairwise λx y=>d.getD x.toNat 0<=d.getD y.toNat 0:=⟨λh=>by
 refine ⟨?_,λr e=>⟨abZ e,amm e⟩⟩;unfold o1;split
 ·simp
 ·rename_i f;rw[dif_pos]
  ·simp
  ·refine ⟨h.1,λb m=>by have:=h.2.1 b m;omega,by omega, ?_⟩;cases a with
   |nil=>exact absurd rfl f
   |cons x a=>have:=h.1 x (by simp);omega⟩
end
section
def ID (i:c4):Prop:=0<=i.dS/\i.dS<=15/\0<=i.block/\i.block<=31/\0<=i.round/\i.round<=12/\1<=i.length/\i.length<=400
def ue (j:b8):Prop:=j.items.length<=96/\0<=j.dO/\j.dO<=12/\∀i∈j.items,ID i
def nT (l:List Int):Prop:=∀v∈l,0<=v/\v<4096
attribute [grind] ID ue nT
attribute [grind->] List.Perm.length_eq
variable {N:Nat} [gM N]
instance {a} :au (Re a) (a.e9.fW.length<=1000000/\a.chain.length<=1000000) λr=>r=a:=⟨by rw[Re];(repeat' with_reducible first|intro _|apply dq|apply dh|refine dj (by omega) ?_|apply di|apply dk|apply df|apply eC|apply dr|apply dg)<;>first|grind -mbtc|simp_all⟩
instance {U e f b n d} :au (aIV N U f b e n d) (0<=U/\U<f.bD.length/\(∀o∈b,o.c7.length<=1000000)/\b.length<=1000000/\e=b.length/\0<=d/\d<=e/\e - d<n) λr=>iX r (λ_=>∀w,al f.bD U=J w->∀o∈b.drop d.toNat,w.dest∉o.c7)/\fh r λa=>0<=a.1/\a.1<b.length/\∃w,al f.bD U=J w/\∃o∈b,w.dest∈o.c7:=by induction n generalizing d with|zero=>exact bJ|succ n g=>exact ⟨by rw[aIV];exact aC⟩
instance {a U} :au (R5 N a U) (a.b2.length<=1000000/\(∀o∈a.b2,o.c7.length<=1000000)/\0<=U/\U<a.bD.length) λr=>(r.1= -1/\¬nV a U)\/(0<=r.1/\r.1<a.b2.length/\nV a U):=⟨by rw[R5];(repeat' with_reducible first|intro _|apply dq|apply dh|refine dj (by omega) ?_|apply di|apply dk|apply df|apply eC|apply dr|apply dg)<;>first|grind -mbtc|grind -mbtc [nV]⟩
instance {a U} :au (S6 N a U) (a.b2.length<=1000000/\(∀o∈a.b2,o.c7.length<=1000000)/\0<=U/\U<a.bD.length) λr=>(0<=r.1.dS->r.1.dS<a.b2.length/\nV a U)/\(r.2=aa->0<=r.1.dS):=⟨by rw[S6];exact aC⟩
instance {a U b} :au (FU a U b) (True) λr=>r=aa↔U<=a/\a<=b:=⟨by rw[FU];exact aC⟩
instance {a U b} :au (Ie a U b) (True) λr=>r=aa↔U<=a/\a<=b:=⟨by rw[Ie];exact aC⟩
instance {a} :au (NQ a) (True) λr=>r=ak->ID a:=⟨by rw[NQ];exact aC⟩
instance {U a b} :au (NR U a b) (a<=U.items.length/\0<=a/\U.items.length<=1000000) λr=>True:=⟨by rw[NR];exact aC⟩
instance {U d e n b} :au (Fk U d e n b) (d=U.items/\U.items.length<=96/\e=d.length/\d.length<=1000000/\0<=b/\b<=e/\e - b<n) λr=>iX r (λ_=>∀i∈d.drop b.toNat,ID i)/\fh r λa=>a≠0:=by induction n generalizing b with|zero=>exact bJ|succ n f=>exact ⟨by rw[Fk];exact aC⟩
instance {a} :au (SJ N a) (True) λr=>r=0->ue a:=⟨by rw[SJ];exact aC⟩
instance {a U b} :au (Gj a U b) (True) λr=>r=aa↔U<=a/\a<=b:=⟨by rw[Gj];exact aC⟩
instance {a U b} :au (H7 a U b) (True) λr=>r=aa↔U<=a/\a<=b:=⟨by rw[H7];exact aC⟩
instance {a U} :au (Fi a U) (True) λr=>r=aa->0<=a/\a<=12/\0<=U/\U<=12:=⟨by rw[Fi];exact aC⟩
instance {a U} :au (HU a U) (True) λr=>r=aa->0<=a/\a<=12/\0<=U/\U<=12:=⟨by rw[HU];exact aC⟩
instance {a} :au (HI a) (0<=a/\a<=12) λr=>0<=r/\r<4096:=⟨by rw[HI];exact aC⟩
instance {n a b} :au (Fj n a b) (0<=a/\a<=1000000/\a<n/\0<=b/\b+a<=1000000) λr=>0<=r/\(a=0->r=b):=by induction n generalizing a b with|zero=>exact bJ|succ n d=>exact ⟨by rw[Fj];exact aC⟩
instance {a} :au (HV N a) (0<=a/\a<=500000) λr=>0<=r/\(a=0->r=0):=⟨by rw[HV];exact aC⟩
instance {b U a} :au (aBz b U a) (True) λr=>r=ak->0<=b/\0<=U/\U<=12/\0<=a/\a<=12:=⟨by rw[aBz];exact aC⟩
instance {e U g d i} :au (aDM e U g d i) (0<=e/\e<4096/\0<=U/\U<=12/\0<=d/\d<4096/\i=decide (d<e)/\g=0) λr=>0<=r/\r<=8192:=⟨by rw[aDM];(repeat' with_reducible first|intro _|apply dq|apply dh|refine dj (by omega) ?_|apply di|apply dk|apply df|apply eC|apply dr|apply dg)<;>first|grind -mbtc|(rename_i h j y k _ z l _ v f;have p:=VZ (y:=y) (by have:=P2 k;omega);have q:=VZ (y:=z) (by have:=P2 l;omega);have m:d<e:=(by simpa[h.2.2.2.2.2.2.1] using j);have w:aO .i64 (aO .i64 (aO .i64 (e - d)+aO .i64 (1*((2 ^ y:Nat):Int))) - 1)=e - d+((2 ^ y:Nat):Int) - 1:=(by simp only[vN];omega);rw[f,w];have:=aaf (a:=e - d+((2 ^ y:Nat):Int) - 1) (b:=((2 ^ z:Nat):Int)) (by omega) q.1;omega)⟩
instance {d n b} :au (aDN N d n b) (0<=d/\0<=b/\b<=8192/\8192 - b<n) λr=>iX r (λa=>0<=a/\a<=8192)/\fh r λa=>a.2≠0:=by induction n generalizing b with|zero=>exact bJ|succ n e=>exact ⟨by rw[aDN];exact aC⟩
instance {f U k} :au (vD N f U k) (f<=100000) λr=>r.2=0->0<=r.1/\r.1<4096:=⟨by rw[vD];(repeat' with_reducible first|intro _|apply dq|apply dh|refine dj (by omega) ?_|apply di|apply dk|apply df|apply eC|apply dr|apply dg)<;>first|grind -mbtc|(rename_i d l h e i _ t n g w j q s;have p:=VZ (y:=e) (by have:=P2 i;grind);have a:0<=d/\d<=8192:=h.1;have m:=aby (a:=d) (b:=((2 ^ e:Nat):Int)) a.1 a.2 p.1 p.2;rw[Qb (by omega) (by omega)] at j;have:=abM m.1 (by omega) g.1 (by omega);dsimp only;omega)⟩
instance {n a b} :au (E0 n a b) (0<=a/\a<4096/\a<n/\0<=b/\b+a<=10000) λr=>b<=r/\r<=10000:=by induction n generalizing a b with|zero=>exact bJ|succ n d=>exact ⟨by rw[E0];exact aC⟩
instance {a} :au (HQ N a) (True) λr=>0<=r.1/\r.1<=10000:=⟨by rw[HQ];exact aC⟩
instance {a} :au (MF a) (a=ak) λr=>True:=⟨by rw[MF];exact aC⟩
instance {a n d b} :au (DG a n d b) (a.length<=1000000/\0<=b/\b<=(a.length:Int)/\(a.length:Int) - b<n/\d∈a) λr=>r∈a:=by induction n generalizing d b with|zero=>exact bJ|succ n e=>exact ⟨by rw[DG];exact aC⟩
instance {a} :au (QV N a) (0<a.length/\a.length<=1000000) λr=>r∈a:=⟨by rw[QV];exact aC⟩
instance {n d a b} :au (Dy n d a b) (d.length<=1000000/\0<=a/\b<d.length/\a<=b+1/\b+1 - a<n) λr=>r.length=d.length:=by induction n generalizing d a b with|zero=>exact bJ|succ n e=>exact ⟨by rw[Dy];exact aC⟩
instance {a} :au (QI N a) (a.length<=1000000) λr=>r.length=a.length:=⟨by rw[QI];exact aC⟩
end
section
def Ik (j:b8) (a b:Int):Prop:=∀p q,al j.items a=J p->al j.items b=J q->p.block<q.block
def kW (j:b8) (k:Int) (M:List (List Int)):Prop:=M.length=j.items.length/\∀a d,al M a=J d->(a<k->d.length=j.items.length)/\∀b v,al d b=J v->0<=v/\v<=2/\(0<v->Ik j a b)
theorem agx {j:b8} {k a b v:Int} {M:List (List Int)} {d:List Int} (h:kW j k M) (e:al M a=J d) (m:0<=b/\b<d.length) (i:0<=v/\v<=2) (p:Ik j a b):kW j k (M.set a.toNat (d.set b.toNat v)):=by
 have n:=ku e;refine ⟨by simp[h.1],λx r g=> ?_⟩;rw[rM n.1 n.2] at g;split at g
 ·cases g;subst x;refine ⟨λl=>by simp[(h.2 _ _ e).1 l],λy w f=> ?_⟩;rw[rM m.1 m.2] at f;split at f
  ·cases f;subst y;exact ⟨i.1,i.2,λ_=>p⟩
  ·exact (h.2 _ _ e).2 _ _ f
 ·exact h.2 _ _ g
theorem agy {j:b8} {k:Int} {M:List (List Int)} (h:kW j k M) (l:0<=k/\k<M.length):kW j (k+1) (M.set k.toNat (gb j.items.length 0)):=by
 refine ⟨by simp[h.1],λx r b=> ?_⟩;rw[rM l.1 l.2] at b;split at b
 ·cases b;refine ⟨λ_=>by simp,λy w d=> ?_⟩;have:=ym (lP d);omega
 ·have:=h.2 _ _ b;exact ⟨λa=>this.1 (by omega),this.2⟩
theorem agv {j:b8}:kW j 0 (gb j.items.length []):=by
 refine ⟨by simp,λa d e=> ?_⟩;have:=ym (lP e);subst this;exact ⟨λh=>by have:=ku e;omega,λb v e=>by have:=ku e;simp at this;omega⟩
theorem Zc {j:b8} {k a:Int} {M:List (List Int)} {b:List Int} (h:kW j k M) (e:al M a=J b):M.length=j.items.length/\(a<k->b.length=j.items.length):=⟨h.1,(h.2 _ _ e).1⟩
theorem AK {j:b8} {k a b v:Int} {M:List (List Int)} {d:List Int} (h:kW j k M) (e:al M a=J d) (f:al d b=J v):0<=v/\v<=2/\(0<v->Ik j a b):=(h.2 _ _ e).2 _ _ f
theorem agw {j:b8} {k:Int} {M:List (List Int)} (h:kW j k M):M.length=j.items.length:=h.1
attribute [grind->] Zc AK agw
def yx (M:List (List Int)) (C:List Int) (i l a:Int):Prop:=∃b v c,al M a=J b/\al b i=J v/\0<v/\al C a=J c/\c+v - 1=l
def yv (M:List (List Int)) (C:List Int) (i l:Int):Prop:=∃a,yx M C i l a
def ru (M:List (List Int)) (C L:List Int):Prop:=∀i l,al L i=J l->0<l->yv M C i l
variable {N:Nat} [gM N]
instance {b a} :au (MC b a) (True) λr=>r=ak->b.block<a.block:=⟨by rw[MC];exact aC⟩
instance {U b a d} :au (MB U b a d) (U.items.length<=1000000/\kW U (a+1) b/\0<=a/\a<U.items.length/\0<=d/\d<U.items.length/\b.length<=1000000) λr=>kW U (a+1) r:=⟨by rw[MB];(repeat' with_reducible first|intro _|apply dq|apply dh|refine dj (by omega) ?_|apply di|apply dk|apply df|apply eC|apply dr|apply dg)<;>first|grind -mbtc|grind -mbtc [agx,Ik]⟩
instance {U a d n e b} :au (DF U a d n e b) (U.items.length<=1000000/\d=U.items.length/\0<=a/\a<U.items.length/\0<=b/\b<=d/\d - b<n/\kW U (a+1) e) λr=>kW U (a+1) r:=by induction n generalizing e b with|zero=>exact bJ|succ n f=>exact ⟨by rw[DF];exact aC⟩
instance {U b n d a} :au (DE N U b n d a) (U.items.length<=1000000/\b=U.items.length/\0<=a/\a<=b/\b - a<n/\kW U a d) λr=>kW U b r:=by induction n generalizing d a with|zero=>exact bJ|succ n e=>exact ⟨by rw[DE];(repeat' with_reducible first|intro _|apply dq|apply dh|refine dj (by omega) ?_|apply di|apply dk|apply df|apply eC|apply dr|apply dg)<;>first|grind -mbtc|grind -mbtc [agy]⟩
instance {a} :au (Hk N a) (a.items.length<=1000000) λr=>kW a a.items.length r:=⟨by rw[Hk];(repeat' with_reducible first|intro _|apply dq|apply dh|refine dj (by omega) ?_|apply di|apply dk|apply df|apply eC|apply dr|apply dg)<;>first|grind -mbtc|(subst_vars;simp only[sG,List.length_replicate] at*;grind -mbtc [agv])⟩
end
section
def uj (n:Nat) (M:List (List Int)):Prop:=M.length=n/\∀a d,al M a=J d->d.length=n/\∀b v,al d b=J v->0<=v/\v<=2
theorem Zd {j:b8} {M:List (List Int)} (h:kW j j.items.length M):uj j.items.length M:=⟨h.1,λa d e=>⟨(h.2 _ _ e).1 (by have:=ku e;have:=h.1;omega),λb v f=>by have:=AK h e f;omega⟩⟩
theorem af6 {n:Nat} {M:List (List Int)} {a:Int} {b:List Int} (h:uj n M) (e:al M a=J b):b.length=n:=(h.2 _ _ e).1
theorem af8 {n:Nat} {M:List (List Int)} {a b v:Int} {d:List Int} (h:uj n M) (e:al M a=J d) (f:al d b=J v):0<=v/\v<=2:=(h.2 _ _ e).2 _ _ f
theorem af7 {n:Nat} {M:List (List Int)} (h:uj n M):M.length=n:=h.1
attribute [grind->] af6 af8 af7 Zd
def IC (y:List Int):Prop:=∀i v,al y i=J v->v=i
theorem YN {y:List Int} (h:IC y):(∀x∈y,0<=x/\x<y.length)/\y.Nodup/\∀i:Int,0<=i->i<y.length->i∈y:=by
 refine ⟨λx m=> ?_, ?_,λi a b=> ?_⟩
 ·obtain ⟨i,e⟩:=uL m;have:=h _ _ e;have:=ku e;omega
 ·rw[aMQ,af3];intro a b g f k e;have j:=h a y[a] (by simp[al]);have d:=h b y[b] (by simp[al]);omega
 ·obtain ⟨v,e⟩:=hT a b;have:=h _ _ e;subst this;exact lP e
def uu (j:b8) (b:List Int):Prop:=b.length=j.items.length/\b.Nodup/\(∀i:Int,i∈b↔0<=i/\i<j.items.length)/\b.Pairwise λx y=>(j.items.map λa=>a.block).getD x.toNat 0<=(j.items.map λa=>a.block).getD y.toNat 0
theorem agG {j:b8} {e d:List Int} (h:IC e) (l:e.length=j.items.length) (p:d.Perm e) (q:d.Pairwise λx y=>(j.items.map λa=>a.block).getD x.toNat 0<=(j.items.map λa=>a.block).getD y.toNat 0):uu j d:=by
 obtain ⟨a,b,c⟩:=YN h;refine ⟨p.length_eq.trans l,p.nodup_iff.mpr b,λi=> ?_,q⟩;rw[p.mem_iff];exact ⟨λm=>by have:=a i m;omega,λm=>c i m.1 (by omega)⟩
theorem agH {j:b8} {a:List Int} (h:uu j a):a.length=j.items.length:=h.1
theorem Zh {j:b8} {a:List Int} {k y:Int} (h:uu j a) (e:al a k=J y):0<=y/\y<j.items.length:=(h.2.2.1 y).mp (lP e)
attribute [grind->] agH Zh
def Zi {j:b8} {d:List Int} {k y:Int} (h:uu j d) (e:al d k=J y):y∉d.drop (k+1).toNat/\∀i:Int,0<=i->i<j.items.length->i∉d.drop k.toNat->∀p q,al j.items y=J p->al j.items i=J q->q.block<=p.block:=by
 have A:=ku e;have t:=sT e;have n:=aFu k.toNat d;obtain ⟨E,r,z,w⟩:=h;refine ⟨?_,λi a b m p q s f=> ?_⟩
 ·rw[<-n,aEU,t,TB] at r;exact r.2.1.1
 ·have x:i∈d:=(z i).mpr ⟨a,b⟩;rw[<-n] at x;have B:i∈d.take k.toNat:=(kU.mp x).resolve_right m;rw[<-n,List.pairwise_append] at w;have:=w.2.2 i B y (by rw[t];simp);have C:=ku s;have g (i:Int) (q:c4) (f:al j.items i=J q):(j.items.map λa=>a.block).getD i.toNat 0=q.block:=by
   have l:=ku f;have:j.items[i.toNat]? =J q:=by simpa[al,l.1] using f
   simp[this]
  rw[g _ _ f,g _ _ s] at this;exact this
def YT {j:b8} {M:List (List Int)} {C L L' b4:List Int} {k y c:Int} (h:uu j b4) (e:al b4 k=J y) (R:kW j j.items.length M) (A:∀i∈b4.drop k.toNat,∀l,al L i=J l->l=0) (W:ru M C L) (cW:C.length=j.items.length)
  (B:∀i,i≠y->al L' i=al L i) (D:∀l,al L' y=J l->0<l->yv M C y l):ru M (C.set y.toNat c) L':=by
 have X4:=Zh h e;obtain ⟨ayW,yG⟩:=hT (xs:=j.items) X4.1 X4.2;have key (i l a:Int) (w:yx M C i l a) (n:a≠y):∃a,yx M (C.set y.toNat c) i l a:=by obtain ⟨row,v,d,dX,ix,pH,G8,Yg⟩:=w;exact ⟨a,row,v,d,dX,ix,pH,by rw[rM X4.1 (by omega),if_neg n];exact G8,Yg⟩
 intro i l az aR;by_cases q:i=y
 ·subst q;obtain ⟨a,w⟩:=D l az aR;refine key _ _ a w λq=> ?_;subst q;obtain ⟨row,v,d,dX,ix,pH,G8,Yg⟩:=w;have:=(AK R dX ix).2.2 pH _ _ yG yG;omega
 ·rw[B i q] at az;obtain ⟨a,w⟩:=W i l az aR;refine key _ _ a w λz=> ?_;subst z;obtain ⟨row,v,d,dX,ix,pH,G8,Yg⟩:=w;have li:=ku ix;have VM:=(Zc R dX).2 (by omega);obtain ⟨pi,aac⟩:=hT (xs:=j.items) (i:=i) li.1 (by omega);have lt:=(AK R dX ix).2.2 pH _ _ yG aac;have apy:i∉b4.drop k.toNat:=λm=>by have:=A i m l az;omega
  have:=(Zi h e).2 i li.1 (by omega) apy _ _ yG aac;omega
def alH {M:List (List Int)} {C b:List Int} {i l a v c:Int} (h:al M a=J b) (k:al b i=J v) (e:al C a=J c) (z:0<v) (q:l=c+v - 1):yv M C i l:=⟨a,b,v,c,h,k,z,e,q.symm⟩
theorem azz {M:List (List Int)} {C b:List Int} {i l a v c x y:Int} (z:0<v) (q:l=c+v - 1) (f:x=a) (d:y=i) (e:al C a=J c) (k:al b y=J v) (h:al M x=J b):yv M C i l:=alH (f▸h) (d▸k) e z q
attribute [grind<=] azz
theorem agI {j:b8} {a:List Int} {k y:Int} (h:uu j a) (e:al a k=J y):y∉a.drop (k+1).toNat:=(Zi h e).1
attribute [grind->] agI YN
theorem azw {j:b8} {M:List (List Int)} {C L a b:List Int} {k y c:Int} (A:∀i∈b.drop k.toNat,∀l,al L i=J l->l=0) (d:C.length=j.items.length)
  (B:∀i,i≠y->al a i=al L i) (D:∀l,al a y=J l->0<l->yv M C y l) (h:uu j b) (e:al b k=J y) (R:kW j j.items.length M) (W:ru M C L):ru M (C.set y.toNat c) a:=YT h e R A W d B D
attribute [grind<=] azw
def af2 {M:List (List Int)} {C:List Int} {n:Nat}:ru M C (gb n 0):=λi l e h=>by
 have:=ym (lP e);omega
variable {N:Nat} [gM N]
instance {a n d b} :au (Mg a n d b) (a<=1000000/\0<=b/\b<=a/\a - b<n/\d.length=a/\(∀i v,i<b->al d i=J v->v=i)) λr=>r.length=a/\IC r:=by induction n generalizing d b with|zero=>exact bJ|succ n e=>exact ⟨by rw[Mg];(repeat' with_reducible first|intro _|apply dq|apply dh|refine dj (by omega) ?_|apply di|apply dk|apply df|apply eC|apply dr|apply dg)<;>first|grind -mbtc|grind -mbtc [IC]⟩
instance {U a k b w} :au (C4 U a k b w) (uj a.length U/\k.length=a.length/\a.length<=1000000/\nT k/\0<=b/\b<a.length/\(∀l,al a b=J l->0<=l/\l<=5000)/\0<=w/\w<a.length/\U.length<=1000000) λr=>r.length=a.length/\(∀i,i≠b->al r i=al a i)/\∀l,al r b=J l->(al a b=J l\/yv U k b l)/\0<=l/\l<=5000:=⟨by rw[C4];(repeat' with_reducible first|intro _|apply dq|apply dh|refine dj (by omega) ?_|apply di|apply dk|apply df|apply eC|apply dr|apply dg)<;>first|grind -mbtc|(rename_i h y E _ e F _ c H x _ f g _ I z _ d t _ L C _ M A _ K j;have B:0<=d/\d+e - 1<=5000/\Aw.wrap (Aw.wrap (d+e) - 1)=d+e - 1:=(by grind -mbtc);rw[B.2.2] at j;have Z:(al a b=J (max f (d+e - 1))\/yv U k b (max f (d+e - 1)))/\0<=max f (d+e - 1)/\max f (d+e - 1)<=5000:=(by have v:=h.2.2.2.2.2.2.1 f g;refine ⟨?_,by omega,by omega⟩;by_cases p:d+e - 1<=f;(exact .inl (by rw[g,Int.max_eq_left p]));exact .inr (alH E F t c (by omega)));generalize max f (d+e - 1)=m at Z j;have s:=ku g;subst j;refine ⟨by simp,λi n=>by rw[rM s.1 (by omega),if_neg n],λl q=> ?_⟩;rw[rM s.1 (by omega),if_pos rfl] at q;cases q;exact Z)⟩
instance {U d b f n a e} :au (Mh U d b f n a e) (U.length<=1000000/\d.length<=1000000/\f=d.length/\0<=e/\e<=f/\f - e<n/\uj a.length U/\d.length=a.length/\a.length<=1000000/\nT d/\0<=b/\b<a.length/\(∀l,al a b=J l->0<=l/\l<=5000)) λr=>r.length=a.length/\(∀i,i≠b->al r i=al a i)/\∀l,al r b=J l->(al a b=J l\/yv U d b l)/\0<=l/\l<=5000:=by induction n generalizing a e with|zero=>exact bJ|succ n g=>exact ⟨by rw[Mh];exact aC⟩
instance {U b g h n d f e} :au (C3 N U b g h n d f e) (kW b b.items.length U/\ue b/\uu b g/\h=g.length/\U.length<=1000000/\g.length<=1000000/\0<=e/\e<=h/\h - e<n/\d.length=b.items.length/\f.length=b.items.length/\nT f/\(∀i∈g.drop e.toNat,∀l,al d i=J l->l=0)/\ru U f d/\(∀i l,al d i=J l->0<=l/\l<=5000)) λr=>iX r (λa=>a.1.length=b.items.length/\a.2.length=b.items.length/\nT a.2/\ru U a.2 a.1)/\fh r λa=>a≠0:=by induction n generalizing d f e with|zero=>exact bJ|succ n k=>exact ⟨by rintro ⟨R,q,S,_,_,_,_,_,_,p,j,C,A,W,V⟩;rw[C3];(repeat' with_reducible first|intro _|apply dq|apply dh|refine dj (by omega) ?_|apply di|apply dk|apply df|apply eC|apply dr|apply dg)<;>clear k<;>first|grind -mbtc|((with_reducible repeat' apply oE)<;>first|assumption|omega|grind -mbtc|(subst_vars;intro v m;rcases List.mem_or_eq_of_mem_set m with m|m<;>grind -mbtc)|(subst_vars;exact YT S (by assumption) R A W j (by grind -mbtc) (by grind -mbtc))|(clear W R;grind -mbtc))⟩
instance {a U} :au (Rg N a U) (kW a a.items.length U/\ue a/\U.length<=1000000) λr=>r.2.2=0->r.1.length=a.items.length/\r.2.1.length=a.items.length/\nT r.2.1/\ru U r.2.1 r.1:=⟨by rw[Rg];(repeat' with_reducible first|intro _|apply dq|apply dh|refine dj (by omega) ?_|apply di|apply dk|apply df|apply eC|apply dr|apply dg)<;>first|grind -mbtc|((with_reducible repeat' apply oE)<;>first|grind -mbtc|grind -mbtc [agG]|(subst_vars;simp[af2,nT,List.getElem?_replicate,al]<;>grind -mbtc))⟩
end
section
theorem alM {M:List (List Int)} {C:List Int} {i l a:Int} (h:yx M C i l a):∃b v c,al M a=J b/\al b i=J v/\0<v/\al C a=J c/\c+v - 1=l:=h
attribute [grind->] alM
def yw (n:Nat) (M:List (List Int)) (C L:List Int) (i k:Int):Prop:=∃j,kW j j.items.length M/\ue j/\C.length=j.items.length/\L.length=j.items.length/\nT C/\ru M C L/\0<=i/\i<j.items.length/\∀p,al j.items i=J p->p.block<n/\k+p.block<=200
def alI {M:List (List Int)} {C L:List Int} {i k:Int} (h:yw 0 M C L i k):False:=by
 obtain ⟨j,_,d,_,_,_,_,a,b,c⟩:=h;obtain ⟨p,e⟩:=hT a b;have:=(d.2.2.2 p (lP e)).2.2.1;have:=c p e;omega
theorem alJ {n:Nat} {M:List (List Int)} {C L:List Int} {i k:Int} (h:yw n M C L i k):uj C.length M/\L.length=C.length/\C.length<=96/\M.length=C.length/\nT C/\0<=i/\i<C.length/\k<=200/\∀l,al L i=J l->0<l->∃a,0<=a/\yx M C i l a:=by
 obtain ⟨j,R,s,c,d,e,W,a,b,f⟩:=h;obtain ⟨p,g⟩:=hT a b;have:=(s.2.2.2 p (lP g)).2.2.1;have:=f p g;have:=s.1;refine ⟨by rw[c];exact Zd R,by omega,by omega,by rw[c];exact R.1,e,a,by omega,by omega,λl y t=> ?_⟩;obtain ⟨x,w⟩:=W _ _ y t;obtain ⟨m,v,q,r,z⟩:=w;exact ⟨x,(ku r).1,m,v,q,r,z⟩
def IQ (M:List (List Int)) (r i:Int):Prop:=∃a v,al M r=J a/\al a i=J v/\0<v
def af9 {M:List (List Int)} {r i v:Int} {a:List Int} (e:al M r=J a) (f:al a i=J v) (g:0<v):IQ M r i:=⟨a,v,e,f,g⟩
theorem azx {M:List (List Int)} {r i v x y:Int} {a:List Int} (g:0<v) (d:x=r) (b:y=i) (f:al a y=J v) (e:al M x=J a):IQ M r i:=af9 (d▸e) (b▸f) g
attribute [grind<=] azx
def alL {n:Nat} {M:List (List Int)} {C L:List Int} {i k A r:Int} (h:yw (n+1) M C L i k) (m:IQ M r i) (B:A=k+1):yw n M C L r A:=by
 subst B;obtain ⟨F,v,e,f,g⟩:=m;obtain ⟨j,R,E,c,d,z,W,a,b,q⟩:=h;have x:=ku e;have H:=R.1;obtain ⟨p,l⟩:=hT (xs:=j.items) x.1 (by omega);obtain ⟨s,y⟩:=hT a b;have:=(AK R e f).2.2 g _ _ l y;have:=q s y;refine ⟨j,R,E,c,d,z,W,x.1,by omega,λt w=> ?_⟩;rw[l] at w;cases w;omega
def alK {j:b8} {n:Nat} {M:List (List Int)} {C L:List Int} {i:Int} (R:kW j j.items.length M) (f:ue j) (c:C.length=j.items.length) (d:L.length=j.items.length) (e:nT C) (W:ru M C L) (a:0<=i) (b:i<j.items.length) (h:5000000000<n) {k:Int} (g:k=1):yw n M C L i k:=
 g▸⟨j,R,f,c,d,e,W,a,b,λp q=>by have:=(f.2.2.2 p (lP q)).2.2.2.1;omega⟩
attribute [grind->] alJ
variable {N:Nat} [gM N]
instance {e d n b a} :au (Mf N e d n b a) (e.length<=1000000/\d=e.length/\0<=a/\a<=d/\d - a<n/\0<=b.steps/\b.steps<=10000) λr=>r.fW=[]/\0<=r.steps/\r.steps<=10000:=by induction n generalizing b a with|zero=>exact bJ|succ n f=>exact ⟨by rw[Mf];exact aC⟩
instance {a} :au (Rf N a) (a.items.length<=1000000) λr=>r.2=0->r.1.fW.length=a.items.length/\nT r.1.fW/\0<=r.1.steps/\r.1.steps<=10000/\ue a:=⟨by rw[Rf];simp only[yo];exact aC⟩
instance {e d b a f} :au (L3 e d b a f) (0<=b/\b<e.length/\0<=a/\a<d.length/\e.length<=1000000/\d.length<=1000000) λr=>r=aa↔0<f/\∀c l,al d a=J c->al e b=J l->aO .i64 (aO .i64 (c+f) - 1)=l:=⟨by rw[L3];exact aC⟩
instance {g h b j n d f} :au (L2 g h b j n d f) (uj b.length g/\nT b/\j=b.length/\h.length=b.length/\g.length<=1000000/\b.length<=1000000/\0<=f/\f<=j/\j - f<n/\0<=d/\d<b.length/\(∀l,al h d=J l->∃a,f<=a/\yx g b d l a)) λr=>0<=r/\r<b.length/\IQ g r d:=by induction n generalizing d f with|zero=>exact bJ|succ n k=>exact ⟨by rw[L2];(repeat' with_reducible first|intro _|apply dq|apply dh|refine dj (by omega) ?_|apply di|apply dk|apply df|apply eC|apply dr|apply dg)<;>first|grind -mbtc|(obtain ⟨l,e⟩:=hT (xs:=h) (i:=d) (by grind -mbtc) (by grind -mbtc);grind -mbtc)⟩
instance {d f e n b a} :au (L1 N d f e n b a) (d.length<=1000000/\f.length<=1000000/\e.length<=1000000/\yw n d e f b a.length) λr=>r.length<=200:=by induction n generalizing b a with|zero=>exact ⟨λh=>(alI h.2.2.2).elim⟩|succ n g=>exact ⟨by rw[L1];(repeat' with_reducible first|intro _|apply dq|apply dh|refine dj (by omega) ?_|apply di|apply dk|apply df|apply eC|apply dr|apply dg)<;>first|grind -mbtc|exact ⟨by grind -mbtc,by grind -mbtc,by grind -mbtc,alL (i:=b) (k:=a.length) (by grind -mbtc) (by grind -mbtc) (by grind -mbtc)⟩⟩
instance {a} :au (Q0 N a) (a.items.length<=1000000) λr=>r.1.length<=200:=⟨by rw[Q0];simp only[yo];(repeat' with_reducible first|intro _|apply dq|apply dh|refine dj (by omega) ?_|apply di|apply dk|apply df|apply eC|apply dr|apply dg)<;>first|grind -mbtc|exact ⟨by grind -mbtc,by grind -mbtc,by grind -mbtc,alK (j:=a) (by grind -mbtc) (by grind -mbtc) (by grind -mbtc) (by grind -mbtc) (by grind -mbtc) (by grind -mbtc) (by grind -mbtc) (by grind -mbtc) (by grind -mbtc) (by grind -mbtc)⟩⟩
instance {a} :au (Q7 N a) (a.items.length<=1000000) λr=>r.2=0->r.1.e9.fW.length=a.items.length/\nT r.1.e9.fW/\0<=r.1.e9.steps/\r.1.e9.steps<=10000/\r.1.chain.length<=200/\ue a:=⟨by rw[Q7];exact aC⟩
end
section
variable {N:Nat} [gM N]
instance:au (Q4) (True) λr=>True:=⟨by rw[Q4];exact aC⟩
instance {e d f b a} :au (Mr e d f a b) (e.fW.length=a.length/\0<=d/\0<=b/\b<a.length/\a.length<=1000000) λr=>True:=⟨by rw[Mr];exact aC⟩
instance {g f d b n e a} :au (Dt g f b d n e a) (g.fW.length=b.length/\0<=f/\d=b.length/\b.length<=1000000/\0<=a/\a<=d/\d - a<n) λr=>True:=by induction n generalizing e a with|zero=>exact bJ|succ n h=>exact ⟨by rw[Dt];exact aC⟩
instance {f g h b n d} :au (Ds N f g h b n d) (h.fW.length=g.items.length/\g.items.length<=1000000/\b<=f.e.aH.length/\b<=1000000/\0<=b/\(∀t∈f.e.aH,0<=t/\t<f.c.aH.length)/\0<=d/\d<=b/\b - d<n) λr=>fh r λa=>a≠0:=by induction n generalizing d with|zero=>exact bJ|succ n i=>exact ⟨by rw[Ds];exact aC⟩
instance {d e a b} :au (Ms d e b a) (0<=a/\a<b.length/\b.length<=1000000) λr=>True:=⟨by rw[Ms];exact aC⟩
instance {f b d n e a} :au (Dv f d b n e a) (d.length<=1000000/\b=d.length/\0<=a/\a<=b/\b - a<n) λr=>True:=by induction n generalizing e a with|zero=>exact bJ|succ n g=>exact ⟨by rw[Dv];exact aC⟩
instance {d e b a} :au (Mt d e a b) (0<=b/\b<a.length/\(∀i∈a,0<=i/\i<d.y.bD.length)/\a.length<=1000000) λr=>True:=⟨by rw[Mt];exact aC⟩
instance {f b d n e a} :au (Dw f b d n e a) ((∀i∈b,0<=i/\i<f.y.bD.length)/\b.length<=1000000/\d=b.length/\0<=a/\a<=d/\d - a<n) λr=>True:=by induction n generalizing e a with|zero=>exact bJ|succ n g=>exact ⟨by rw[Dw];exact aC⟩
instance {f g e d n b} :au (Du N f g e d n b) (jr f.c f.y/\e=f.y.b2/\d=e.length/\e.length<=100/\g.items.length<=1000000/\0<=b/\b<=d/\d - b<n) λr=>fh r λa=>a≠0:=by induction n generalizing b with|zero=>exact bJ|succ n h=>exact ⟨by rw[Du];exact aC⟩
instance {a U b} :au (QG N a U b) (jr a.c a.y/\b.fW.length=U.items.length/\U.items.length<=1000000/\0<=b.steps/\b.steps<=10000/\(∀t∈a.e.aH,0<=t/\t<a.c.aH.length)) λr=>r=0->b.steps<=a.e.aH.length:=⟨by rw[QG];exact aC⟩
instance {a U b} :au (x3 N a U b) (jr a.c a.y/\a.e.aH.length<=100/\0<=a.e.cq/\a.e.cq<a.c.aH.length/\(∀t∈a.e.aH,0<=t/\t<a.c.aH.length)/\b.items.length=U.length/\U.length<=1000/\(∀i∈b.items,0<=i.dS/\i.dS<a.y.b2.length)/\(∀i∈U,nV a.y i)) λr=>r.1=0->r.2.c=a.c/\r.2.r.vv=a.r.vv/\r.2.y.bD=a.y.bD/\r.2.y.aH=a.y.aH/\r.2.y.b2=a.y.b2/\kC r.2.y/\r.2.y.bo.bD=U/\r.2.y.bo.lead=a.e.cq/\(∀t∈r.2.y.bo.aH,t∈a.e.aH)/\nW r.2.y/\nq r.2.y.bo:=⟨by rw[x3];(repeat' with_reducible first|intro _|apply dq|apply dh|refine dj (by omega) ?_|apply di|apply dk|apply df|apply eC|apply dr|apply dg)<;>first|grind -mbtc|grind -mbtc [nW]⟩
instance {f d e n b} :au (OG f d e n b) ((∀t∈d,0<=t/\t<f.y.aH.length)/\d.length<=1000000/\e=d.length/\0<=b/\b<=e/\e - b<n) λr=>iX r (λ_=>∀t∈d.drop b.toNat,al f.y.aH t=J [])/\fh r λa=>a≠0:=by induction n generalizing b with|zero=>exact bJ|succ n g=>exact ⟨by rw[OG];(repeat' with_reducible first|intro _|apply dq|apply dh|refine dj (by omega) ?_|apply di|apply dk|apply df|apply eC|apply dr|apply dg)<;>first|grind -mbtc|grind -mbtc [BF]⟩
instance {d e f n h b g} :au (aEe N d e f n h b g) (jr d.c d.y/\(∀i∈e,0<=i/\i<d.y.bD.length)/\f=e.length/\e.length<=1000000/\0<=b/\b<=f/\f - b<n/\g.length=b/\(∀i∈g,0<=i.dS/\i.dS<d.y.b2.length)) λr=>iX r (λa=>a.2.length=e.length/\(∀i∈e.drop b.toNat,nV d.y i)/\∀i∈a.2,0<=i.dS/\i.dS<d.y.b2.length)/\fh r λa=>a≠0:=by induction n generalizing h b g with|zero=>exact bJ|succ n j=>exact ⟨by rw[aEe];exact aC⟩
instance {d b e} :au (aKu N d b e) (jr d.c d.y/\0<=e/\e<b.length/\(∀i∈b,0<=i.dS/\i.dS<d.y.b2.length)/\b.length<=1000000) λr=>fh r λa=>a≠0:=⟨by rw[aKu];exact aC⟩
instance {e d f n b} :au (aJh N e d f n b) (jr e.c e.y/\(∀i∈d,0<=i.dS/\i.dS<e.y.b2.length)/\d.length<=1000000/\f=d.length/\0<=b/\b<=f/\f - b<n) λr=>fh r λa=>a≠0:=by induction n generalizing b with|zero=>exact bJ|succ n g=>exact ⟨by rw[aJh];exact aC⟩
instance {a} :au (Sj N a) (jr a.c a.y/\iW a.e/\a.r.vv=[]) λr=>r.1=0->rr a r.2:=⟨by rw[Sj];(repeat' with_reducible first|intro _|apply dq|apply dh|refine dj (by omega) ?_|apply di|apply dk|apply df|apply eC|apply dr|apply dg)<;>first|grind -mbtc|(rename_i g z;have g:=g z;refine ⟨g.1,IX ?_ ?_ ?_ ?_ ?_ ?_ ?_ ?_ ?_, ?_, ?_⟩<;>first|grind -mbtc|grind -mbtc [gH,AG,l3])⟩
end
section
def uc (W:List Int) (s:cn):Prop:=s.front=ak/\s.from_≠ -1/\s.to≠ -1/\s.hX∈W
theorem afW {W:List Int} {s:cn} (h:uc W s):s.front=ak/\s.hX∈W:=⟨h.1,h.2.2.2⟩
attribute [grind->] afW
theorem azH {o:Option Int}:o.getD 0=match o with|some v=>v|none=>0:=by cases o<;>rfl
attribute [grind=] azH
def agl {y:bq} {t i:Int} {q:List Int} (h:gH y) (b:y.busy=aa) (f:y.cE=ak) (a:t=y.bo.lead\/t∈y.bo.aH) (e:al y.aH t=J q) (m:i∈q):i∈y.bo.bD:=h b f t a q e i m
theorem azy {y:bq} {t i:Int} {q:List Int} (h:gH y) (e:al y.aH t=J q) (m:i∈q) (b:y.busy=aa) (f:y.cE=ak) (a:t=y.bo.lead\/t∈y.bo.aH):i∈y.bo.bD:=agl h b f a e m
attribute [grind->] azy
def Y6 {y z:bq} {l:List cn} (h:gH y) (m:mO l y.aH z.aH) (k:z.busy=aa->z.cE=ak->y.busy=aa/\y.cE=ak/\z.bo.bD=y.bo.bD/\z.bo.lead=y.bo.lead/\z.bo.aH=y.bo.aH/\∀s∈l,s.hX∈y.bo.bD\/(s.to≠y.bo.lead/\s.to∉y.bo.aH)):gH z:=λa b=>by
 obtain ⟨f,e,g,i,j,d⟩:=k a b;exact Y5 h m (by rw[a,f]) (λ_=>e) ⟨g,i,j⟩ (λ_ _=>d) a b
def IG {x z:Step} (P:jr x.c x.y) (c:z.c=x.c) (w:z.y.bD=x.y.bD) (o:z.y.b2=x.y.b2) (R:aCq x.c.aH (lens x.y.bD) z.r.vv x.y.aH z.y.aH) (V:iY x.c.aH (lens x.y.bD) z.y.aH)
  (q:z.y.busy=aa->z.y.cE=ak->kC z.y/\nW z.y) (s:gH z.y) (k:nq z.y.bo):rr x z:=by
 obtain ⟨j,i,l,d,a,b,f,g,h⟩:=P;have e:z.y.aH.length=x.y.aH.length:=V.1.1.trans l.1.1.symm;exact ⟨c,⟨j,i,by rw[w];exact V,by rw[w];exact d,by rw[o];exact a,by rw[o,e];exact b,q,s,k⟩,by rw[w];exact YY _,by rw[w];exact R⟩
variable {N:Nat} [gM N]
instance {a} :au (Su a) (0<=a.h9/\a.h9<=a.aH.length/\a.aH.length<=1000000) λr=>r=a.lead\/r∈a.aH:=⟨by rw[Su];exact aC⟩
instance {b U a} :au (aKG b U a) (True) λr=>r=ak->0<=a.cq/\a.cq<b.c.aH.length:=⟨by rw[aKG];exact aC⟩
instance {f U e d n b} :au (aAT f U d e n b) (d.length<=1000000/\e=d.length/\0<=b/\b<=e/\e - b<n) λr=>iX r (λ_=>∀s∈d.drop b.toNat,0<=s.cq/\s.cq<f.c.aH.length)/\fh r λa=>a≠0:=by induction n generalizing b with|zero=>exact bJ|succ n g=>exact ⟨by rw[aAT];exact aC⟩
instance {d e n f b} :au (aIL d e n f b) ((∀s∈d,0<=s.cq)/\d.length<=1000000/\e=d.length/\0<=b/\b<=e/\e - b<n/\(∀k v,jv f k=J v->0<=v)) λr=>iX r (λa=>∀k v,jv a k=J v->0<=v)/\fh r λa=>a≠0:=by induction n generalizing f b with|zero=>exact bJ|succ n g=>exact ⟨by rw[aIL];exact aC⟩
instance {f d e n b} :au (aIM f e d n b) (e.length<=1000000/\d=e.length/\0<=b/\b<=d/\d - b<n) λr=>fh r λa=>a≠0:=by induction n generalizing b with|zero=>exact bJ|succ n g=>exact ⟨by rw[aIM];exact aC⟩
instance {a U b} :au (RB N a U b) (a.e.hD.length<=1000000) λr=>r.2=0->∀k v,jv r.1 k=J v->0<=v:=⟨by rw[RB];exact aC⟩
instance {d e n b} :au (FJ d e n b) (d.aH.length<=1000000/\(∀t∈d.aH,0<=t)/\0<=b/\b<=1000001/\1000001 - b<n) λr=>fh r λa=>0<=a:=by induction n generalizing b with|zero=>exact bJ|succ n f=>exact ⟨by rw[FJ];exact aC⟩
instance {a U} :au (Sv N a U) (kC a/\nW a/\U∈a.bo.bD/\a.b2.length<=8/\(∀o∈a.b2,vR a.aH.length o)/\0<=U/\U<a.bD.length) λr=>0<=r:=⟨by rw[Sv];(repeat' with_reducible first|intro _|apply dq|apply dh|refine dj (by omega) ?_|apply di|apply dk|apply df|apply eC|apply dr|apply dg)<;>first|grind -mbtc|grind -mbtc [nW]⟩
instance {d e n b a} :au (aJC d e n b a) (e=d.length/\d.length<=1000000/\0<=a/\a<=e/\e - a<n/\b.length<=a) λr=>r=b++lens (d.drop a.toNat):=by induction n generalizing b a with|zero=>exact bJ|succ n f=>exact ⟨by rw[aJC];exact aC⟩
instance {a U} :au (HT N a U) (mQ a.c.aH/\oJ a.c.aH (lens a.y.bD) a.y.aH/\a.y.bD.length<=1000/\U.length<=1000000/\(∀s∈U,s.front=ak)) λr=>r.1=0->r.2.c=a.c/\r.2.e=a.e/\r.2.y=bq.mk a.y.bD r.2.y.aH a.y.b2 a.y.busy a.y.bo a.y.cE/\r.2.r.vv=U/\iY a.c.aH (lens a.y.bD) r.2.y.aH/\r.2.y.aH.flatten.length=a.y.aH.flatten.length+lo U/\az1 a.c.aH (lens a.y.bD) U a.y.aH r.2.y.aH:=⟨by rw[HT];exact aC⟩
instance {a} :au (x4 a) (True) λr=>r=Step.mk a.c (bq.mk a.y.bD a.y.aH a.y.b2 ak (eR.mk [] (b8.mk [] 0) (e8.mk (dF.mk 0 []) []) 0 [] 0) ak) a.e a.r:=⟨by rw[x4];exact aC⟩
instance {b d a} :au (aAf b d a) (True) λr=>r=aa->a=aa:=⟨by rw[aAf];exact aC⟩
instance {e d a b} :au (aB8 e a b d) (0<=a/\(d=aa->0<=b)) λr=>0<=r.2:=⟨by rw[aB8];exact aC⟩
instance {a h f g e n j d b} :au (aB7 N a h g e f n j d b) (kC a.y/\nW a.y/\a.y.b2.length<=8/\(∀o∈a.y.b2,vR a.y.aH.length o)/\(∀i∈e,i∈a.y.bo.bD/\0<=i/\i<a.y.bD.length)/\(∀k v,jv g k=J v->0<=v)/\0<=h/\e.length<=1000/\f=e.length/\0<=b/\b<=f/\f - b<n/\d.length<=b/\(∀s∈d,uc a.y.bo.bD s)) λr=>r.2.length<=1000/\∀s∈r.2,uc a.y.bo.bD s:=by induction n generalizing j d b with|zero=>exact bJ|succ n l=>exact ⟨by rw[aB7];(repeat' with_reducible first|intro _|apply dq|apply dh|refine dj (by omega) ?_|apply di|apply dk|apply df|apply eC|apply dr|apply dg)<;>first|grind -mbtc|grind -mbtc [uc]⟩
instance {a b} :au (aEf a b) (True) λr=>r.c=a.c/\r.r=a.r/\r.y.bD=a.y.bD/\r.y.aH=a.y.aH/\r.y.b2=a.y.b2/\(nq a.y.bo->nq r.y.bo)/\(r.y.busy=aa->r.y.cE=ak->r.y=a.y/\a.y.bo.h9<=a.y.bo.proof.e9.steps):=⟨by rw[aEf];exact aC⟩
instance {a k} :au (Sk N a k) (jr a.c a.y/\iW a.e/\k.length<=1000000) λr=>r.1=0->rr a r.2:=⟨by rw[Sk];(repeat' with_reducible first|intro _|apply dq|apply dh|refine dj (by omega) ?_|apply di|apply dk|apply df|apply eC|apply dr|apply dg)<;>first|grind -mbtc|(rename_i h b f _ _ _ _ _ _ _ _ _ _ q m s w d j i t n p _;have g:=j (by simpa using i);clear j n m d;dsimp only at g s p;refine IG h.1 ?_ ?_ ?_ ?_ ?_ ?_ ?_ ?_<;>first|grind -mbtc|exact Y6 (y:=a.y) (l:=q.2) (by grind -mbtc) (by grind -mbtc) (by grind -mbtc))⟩
end
section
instance {a:List Int}:au (ve a) (a.length<=1000000) λr=>r.Perm a:=⟨λh=>by
 rw[show ve a=_ from if_pos (by omega)];exact ⟨nofun,λr e=>by cases e;first|exact List.mergeSort_perm .. |(split<;>first|exact .refl _|exact List.mergeSort_perm ..)⟩⟩
instance {i:Inhabited b6} {f:b6->Int} {d:List b6}:au (@G6 b6 i (λa b=>p1 (f a) (f b)) d) (d.length<=1000000) λr=>r.Perm d:=⟨λh=>by
 rw[show @G6 b6 i (λa b=>p1 (f a) (f b)) d=_ from if_pos (by omega)];exact ⟨nofun,λr e=>by cases e;exact acL _ (W0 f) d⟩⟩
theorem agj {n:Nat} {x y:List b6} (h:kV n x) (p:y.Perm x):kV n y:=λq m=>h q (p.mem_iff.mp m)
theorem agp {b:Type} {x y:List b} {a:b} (h:x.Perm y) (m:a∈x):a∈y:=h.mem_iff.mp m
attribute [grind->] agp
def l5 (s:er):Prop:=gu s.d/\s.at_.length=s.d.items.length/\s.round.length=s.d.items.length
theorem agD {s:er} (h:l5 s):gu s.d/\s.at_.length=s.d.items.length/\s.round.length=s.d.items.length:=h
attribute [grind->] agD
theorem agE {s:er} (h:gu s.d) (a:s.at_.length=s.d.items.length) (b:s.round.length=s.d.items.length):l5 s:=⟨h,a,b⟩
attribute [grind <-] agE
theorem apx {l:List Int} {i c v:Int} (e:al l i=J c) (b:0<=v):ky (l.set i.toNat v)<=ky l:=by
 by_cases a:c<0
 ·have:=Kg e a b;omega
 ·have l1:=ku e;have d:l[i.toNat]? =J c:=by simpa[al,l1.1] using e
  obtain ⟨h,f⟩:=fq.mp d;unfold ky;rw[List.countP_set h,f];simp[a,show ¬v<0 by omega]
def vV (N:Nat) (d:ct):Prop:=∃s,HD N d=J (s,aa)
variable {N:Nat} [gM N]
instance {a d b} :au (MG a d b) (d.length=a.length/\a.length<=1000000) λr=>r=ak->0<=b/\b<a.length:=⟨by rw[MG];exact aC⟩
instance {j g f n d h e b} :au (Ea j f g n d h e b) (f.length<=1000000/\g=f.length/\0<=b/\b<=g/\g - b<n/\h.length=d.length/\d.length<=1000000/\0<=e/\e<=100000000+b) λr=>iX r (λa=>a.1.length=d.length/\a.2.1.length=d.length/\0<=a.2.2/\a.2.2<=e+(f.length - b)/\∀i∈f.drop b.toNat,0<=i/\i<d.length)/\fh r λa=>a=ak:=by induction n generalizing d h e b with|zero=>exact bJ|succ n k=>exact ⟨by rw[Ea];exact aC⟩
instance {e g n d h f b} :au (Nh N e g n d h f b) (e.length<=24/\(∀t∈e,t.length<=1000000)/\g=e.length/\0<=b/\b<=g/\g - b<n/\h.length=d.length/\d.length<=1000000/\0<=f/\f<=1000000*b) λr=>iX r (λa=>a.1.length=d.length/\∀t∈e.drop b.toNat,∀i∈t,0<=i/\i<d.length)/\fh r λa=>a=ak:=by induction n generalizing d h f b with|zero=>exact bJ|succ n j=>exact ⟨by rw[Nh];exact aC⟩
instance {a} :au (HD N a) (a.items.length<=96/\a.aH.length<=24/\(∀t∈a.aH,t.length<=40000)) λr=>(r.2=aa->r.1.length=a.items.length/\∀t∈a.aH,∀i∈t,0<=i/\i<a.items.length):=⟨by rw[HD];exact aC⟩
instance {U} :au (D6 U) (True) λr=>r=ak->U.items.length<=96/\U.homes.length<=16/\U.aH.length<=24:=⟨by rw[D6];exact aC⟩
instance {U a b} :au (Nd N U a b) (0<=a/\a<=U.homes.length/\U.homes.length<=1000) λr=>r=ak->0<=b/\b<U.aH.length:=⟨by rw[Nd];exact aC⟩
instance {U d e n b} :au (Nc N U d e n b) (d=U.homes/\U.homes.length<=1000/\d.length<=1000000/\e=d.length/\0<=b/\b<=e/\e - b<n) λr=>fh r λa=>a=ak:=by induction n generalizing b with|zero=>exact bJ|succ n f=>exact ⟨by rw[Nc];exact aC⟩
instance {U a} :au (aCD U a) (True) λr=>r=ak->0<=a.dS/\a.dS<U.homes.length:=⟨by rw[aCD];exact aC⟩
instance {U e d n b} :au (aBU U e d n b) (e.length<=1000000/\d=e.length/\0<=b/\b<=d/\d - b<n) λr=>iX r (λ_=>∀i∈e.drop b.toNat,0<=i.dS/\i.dS<U.homes.length)/\fh r λa=>a=ak:=by induction n generalizing b with|zero=>exact bJ|succ n f=>exact ⟨by rw[aBU];exact aC⟩
instance {a} :au (RV N a) (∀t∈a.aH,t.length<=40000) λr=>r=aa->gu a/\vV N a:=⟨by rw[RV];(repeat' with_reducible first|intro _|apply dq|apply dh|refine dj (by omega) ?_|apply di|apply dk|apply df|apply eC|apply dr|apply dg)<;>first|grind -mbtc|grind -mbtc [vV]⟩
instance {d n a b} :au (Oz d n a b) (0<=a/\a<=d/\d - a<n/\d=b.length/\b.length<=1000000) λr=>r.length=b.length:=by induction n generalizing a b with|zero=>exact bJ|succ n e=>exact ⟨by rw[Oz];exact aC⟩
instance {a} :au (Sg N a) (gu a/\vV N a) λr=>r.1.d=a/\r.2.1.length=a.items.length/\r.2.2.length=a.items.length:=⟨by rw[Sg];(repeat' with_reducible first|intro _|apply dq|apply dh|refine dj (by omega) ?_|apply di|apply dk|apply df|apply eC|apply dr|apply dg)<;>first|grind -mbtc|grind -mbtc [vV]⟩
instance {a U} :au (SG a U) (l5 a/\0<=U/\U<a.d.items.length) λr=>True:=⟨by rw[SG];exact aC⟩
instance {a U b} :au (xm a U b) (l5 a/\0<=U/\U<a.d.items.length/\0<=b/\b<a.d.items.length) λr=>True:=⟨by rw[xm];exact aC⟩
instance {a U b} :au (qz a U b) (l5 a/\0<=U/\U<a.d.items.length/\0<=b/\b<a.d.items.length) λr=>True:=⟨by rw[qz];exact aC⟩
instance {a U b} :au (Ec a U b) (l5 a/\0<=U/\U<a.d.items.length/\0<=b/\b<a.d.items.length) λr=>True:=⟨by rw[Ec];exact aC⟩
instance {a U b} :au (RY a U b) (l5 a/\0<=U/\U<a.d.items.length/\0<=b/\b<a.d.items.length) λr=>True:=⟨by rw[RY];exact aC⟩
instance {a U b} :au (Eg a U b) (l5 a/\0<=U/\U<a.d.items.length) λr=>True:=⟨by rw[Eg];exact aC⟩
instance {a U b} :au (RZ a U b) (l5 a/\0<=U/\U<a.d.items.length) λr=>True:=⟨by rw[RZ];exact aC⟩
instance {a U b} :au (C8 a U b) (l5 a/\0<=U/\U<a.d.items.length) λr=>True:=⟨by rw[C8];exact aC⟩
instance {b a} :au (C9 b a) (True) λr=>r=ak->0<=a/\a<b.d.items.length:=⟨by rw[C9];exact aC⟩
instance {a b} :au (Da a b) (True) λr=>True:=⟨by rw[Da];exact aC⟩
instance {a U b} :au (Mk a U b) (l5 a/\0<=U/\U<a.d.items.length/\0<=b/\b<a.d.items.length) λr=>True:=⟨by rw[Mk];exact aC⟩
instance {a U b e} :au (aDk a U b e) (l5 a/\0<=U/\U<a.d.items.length/\0<=b/\b<a.d.items.length) λr=>True:=⟨by rw[aDk];exact aC⟩
instance {a U b e} :au (aDl a U b e) (l5 a/\0<=U/\U<a.d.items.length/\0<=b/\b<a.d.items.length) λr=>True:=⟨by rw[aDl];exact aC⟩
instance {a U b e f} :au (nQ a U b e f) (l5 a/\0<=U/\U<a.d.items.length) λr=>True:=⟨by rw[nQ];exact aC⟩
instance {b U f e g} :au (F1 b U f e g) (l5 b/\0<=U/\U<b.d.items.length/\1<=e.length/\e.length<=1000) λr=>iX r (λa=>a.2.length<=1000)/\fh r λa=>a.1.item=U/\a.1.ib<b.d.items.length:=⟨by rw[F1];exact aC⟩
instance {e U i h f n g b} :au (aJO e U i h f n g b) (l5 e/\0<=U/\U<e.d.items.length/\f=e.d.items.length/\0<=b/\b<=f/\f - b<n) λr=>fh r λa=>a.1.item=U/\a.1.ib<e.d.items.length:=by induction n generalizing g b with|zero=>exact bJ|succ n j=>exact ⟨by rw[aJO];exact aC⟩
instance {f U i e g n h b} :au (O2 N f U i g e n h b) (l5 f/\0<=U/\U<f.d.items.length/\g.length<=1000/\e=g.length/\0<=b/\b<=e/\e - b<n) λr=>fh r λa=>a.1.item=U/\a.1.ib<f.d.items.length:=by induction n generalizing h b with|zero=>exact bJ|succ n j=>exact ⟨by rw[O2];exact aC⟩
instance {a U b} :au (S4 N a U b) (l5 a/\0<=U/\U<a.d.items.length) λr=>r.2=aa->r.1.item=U/\r.1.ib<a.d.items.length:=⟨by rw[S4];exact aC⟩
end
section
def TG (a:List Int) (p:b6):Prop:=0<=p.item/\p.item<a.length/\p.ib<a.length/\∀c,al a p.item=J c->c<0
def rp (a:List Int) (x r:List b6):Prop:=∃q,r=x++q/\∀p∈q,TG a p
theorem afS {a:List Int} {x:List b6}:rp a x x:=⟨[],by simp⟩
theorem afT {a:List Int} {x:List b6} {p:b6} (h:TG a p):rp a x (x++[p]):=⟨[p],rfl,by simpa using h⟩
theorem afU {d:List Int} {x y z:List b6} (h:rp d x y) (k:rp d y z):rp d x z:=by
 obtain ⟨q,rfl,a⟩:=h;obtain ⟨s,rfl,b⟩:=k;exact ⟨q++s,by simp,λp m=>(kU.mp m).elim (a p) (b p)⟩
theorem afQ {b:List Int} {x r:List b6} (h:rp b x r):x.length<=r.length/\(kV b.length x->kV b.length r)/\∀k p,(x.length:Int)<=k->al r k=J p->∀c,al b p.item=J c->c<0:=by
 obtain ⟨q,rfl,a⟩:=h;refine ⟨by simp,λh p m=>(kU.mp m).elim (h p) λm=>⟨(a p m).1,(a p m).2.1,(a p m).2.2.1⟩,λk p l e=> ?_⟩;have:p∈q:=by unfold al at e;rw[if_pos (by omega),kT (by omega)] at e;exact mM e
 exact (a p this).2.2.2
def afR {b:List Int} {x r:List b6} (h:rp b x r) (l:x.length<r.length):∃p c,al r x.length=J p/\al b p.item=J c/\c<0:=by
 obtain ⟨p,e⟩:=hT (xs:=r) (i:=x.length) (by omega) (by omega);obtain ⟨q,rfl,a⟩:=h;have:p∈q:=by unfold al at e;rw[if_pos (by omega),kT (by omega)] at e;exact mM e
 have n:=a p this;obtain ⟨c,f⟩:=hT n.1 n.2.1;exact ⟨p,c,e,f,n.2.2.2 c f⟩
attribute [grind .] afS
attribute [grind->] afU afQ
attribute [grind <-] afT
variable {N:Nat} [gM N]
instance {a b h e g f} :au (aKQ N a b h e g f) (gu a.d/\g.length=a.d.items.length/\f.length=a.d.items.length/\b.length<=2000000/\0<=e/\e<a.d.items.length) λr=>rp f b r/\r.length<=b.length+1:=⟨by rw[aKQ];(repeat' with_reducible first|intro _|apply dq|apply dh|refine dj (by omega) ?_|apply di|apply dk|apply df|apply eC|apply dr|apply dg)<;>first|grind -mbtc|grind -mbtc [TG]⟩
instance {e i f h g n b a} :au (aJu N e i f h g n b a) (gu e.d/\h.length=e.d.items.length/\g.length=e.d.items.length/\f=e.d.items.length/\0<=a/\a<=f/\f - a<n/\b.length<=1000000+a) λr=>rp g b r/\r.length<=b.length+(f - a):=by induction n generalizing b a with|zero=>exact bJ|succ n j=>exact ⟨by rw[aJu];exact aC⟩
instance {b g f e n d a} :au (aJv b g e f n d a) (0<=g/\e.1<=b.length/\e.2=b.length/\f=b.length - e.1/\b.length<=1000000/\0<=d/\d<=f/\f - d<n/\a.length<=1000000/\kV a.length b) λr=>r.length=a.length/\ky r<=ky a/\∀p c,d<f->al b (e.1+d)=J p->al a p.item=J c->c<0->ky r+1<=ky a:=by induction n generalizing d a with|zero=>exact bJ|succ n h=>exact ⟨by rw[aJv];(repeat' with_reducible first|intro _|apply dq|apply dh|refine dj (by omega) ?_|apply di|apply dk|apply df|apply eC|apply dr|apply dg)<;>first|grind -mbtc|grind -mbtc [apx,Kg]⟩
instance {a d b} :au (aKR a d b) (a.length<=1000000) λr=>r=aa↔0<d/\a.length=b:=⟨by rw[aKR];exact aC⟩
instance {U b g n f a e} :au (Nb N U b g n f a e) (gu b.d/\U=b.d/\g.length=b.d.items.length/\e.length=b.d.items.length/\0<=a/\a+ky e<=97/\((a=0->ky e<=96))/\ky e+(if a=0 then 1 else 0)<n/\f.length<=100*a/\kV b.d.items.length f) λr=>r.length<=100000/\kV b.d.items.length r:=by induction n generalizing f a e with|zero=>exact bJ|succ n i=>exact ⟨by rw[Nb];(repeat' with_reducible first|intro _|apply dq|apply dh|refine dj (by omega) ?_|apply di|apply dk|apply df|apply eC|apply dr|apply dg)<;>first|grind -mbtc|(rename_i h y z l H m C s t E w B F x I K;subst z;clear i;rcases Nat.lt_or_ge f.length l.length with q|q<;>first|(obtain ⟨p,c,A,j,k⟩:=afR m.1 q;have:=B.2.2 p c (by simp only[List.length_drop,aKf,sG];omega) (by simpa using A) j k;grind -mbtc)|grind -mbtc)⟩
instance {a} :au (RU N a) (∀t∈a.aH,t.length<=40000) λr=>r.2=0->r.1.length<=100000/\kV a.items.length r.1/\gu a/\vV N a:=⟨by rw[RU];(repeat' with_reducible first|intro _|apply dq|apply dh|refine dj (by omega) ?_|apply di|apply dk|apply df|apply eC|apply dr|apply dg)<;>first|grind -mbtc|grind -mbtc [agj,VT]⟩
instance {a b d} :au (aBV a b d) (d.length=a.items.length) λr=>r=ak->0<=b.item/\b.item<a.items.length:=⟨by rw[aBV];exact aC⟩
instance {d e f n b g} :au (aCE d e f n b g) (e.length<=1000000/\f=e.length/\0<=b/\b<=f/\f - b<n/\g.length=d.items.length) λr=>iX r (λa=>a.length=d.items.length/\∀p∈e.drop b.toNat,0<=p.item/\p.item<d.items.length)/\fh r λa=>a=ak:=by induction n generalizing b g with|zero=>exact bJ|succ n h=>exact ⟨by rw[aCE];exact aC⟩
instance {b f g h i n e} :au (aDW b f g h i n e) (gu b.d/\h.length=b.d.items.length/\i.length=b.d.items.length/\(∀p∈f,0<=p.item/\p.item<b.d.items.length)/\f.length<=1000000/\g=f.length/\0<=e/\e<=g/\g - e<n) λr=>fh r λa=>a=ak:=by induction n generalizing e with|zero=>exact bJ|succ n j=>exact ⟨by rw[aDW];exact aC⟩
instance {a b e f g} :au (aKS a b e f g) (gu a.d/\g.length=a.d.items.length/\f.length=a.d.items.length/\0<=b/\b<a.d.items.length/\0<=e/\e<a.d.items.length) λr=>True:=⟨by rw[aKS];exact aC⟩
instance {a b e h f g} :au (aKT a b e h f g) (gu a.d/\g.length=a.d.items.length/\f.length=a.d.items.length/\0<=b/\b<a.d.items.length/\0<=e/\e<a.d.items.length) λr=>True:=⟨by rw[aKT];exact aC⟩
instance {b g f h i n e} :au (aJw b g h f i n e) (gu b.d/\i.length=b.d.items.length/\h.length=b.d.items.length/\0<=g/\g<b.d.items.length/\f=b.d.items.length/\0<=e/\e<=f/\f - e<n) λr=>fh r λa=>a=ak:=by induction n generalizing e with|zero=>exact bJ|succ n j=>exact ⟨by rw[aJw];exact aC⟩
instance {f b g e h} :au (aDX N f b g e h) (gu b.d/\h.length=b.d.items.length/\f=b.d/\g.length=b.d.items.length/\0<=e/\e<b.d.items.length) λr=>fh r λa=>a=ak:=⟨by rw[aDX];exact aC⟩
instance {h b g f i n e} :au (aBW N h b g f i n e) (gu b.d/\i.length=b.d.items.length/\h=b.d/\g.length=b.d.items.length/\f=g.length/\0<=e/\e<=f/\f - e<n) λr=>fh r λa=>a=ak:=by induction n generalizing e with|zero=>exact bJ|succ n j=>exact ⟨by rw[aBW];exact aC⟩
instance {a U} :au (RW N a U) (gu a/\vV N a/\U.length<=1000000) λr=>True:=⟨by rw[RW];exact aC⟩
instance {a U} :au (RT N a U) ((∀t∈a.aH,t.length<=40000)/\U.length<=1000000) λr=>r.2=0->gu a/\vV N a:=⟨by rw[RT];exact aC⟩
end
section
@[grind=] theorem axw {d:Type} {b:List d} {a:d} {k:Int}:al (b++[a]) k=if k=b.length then J a else al b k:=by
 unfold al;by_cases h:0<=k
 ·rw[if_pos h,if_pos h];by_cases e:k=b.length
  ·subst e;simp
  ·rw[if_neg e];by_cases l:k<b.length
   ·rw[kS (by omega)]
   ·rw[Tz (by simp;omega),Tz (by omega)]
 ·rw[if_neg h,if_neg h,if_neg (by omega)]
theorem amN {s:List (List Int)} {t:List Int} (h:t∈s):t.length<=s.flatten.length:=(af4 h).length_le
theorem amO {s:List (List Int)} {t:List Int} {i:Int} (h:t∈s) (k:i∈t):i∈s.flatten:=AD.mpr ⟨t,h,k⟩
attribute [grind->] amN
attribute [grind<=] amO
theorem azK {s:List (List Int)} {a w:Int} {t:List Int} (h:al s a=J t):(s.set a.toNat (t++[w])).flatten.length=s.flatten.length+1:=by simpa using (afw (w:=w) h).length_eq
theorem azL {s:List (List Int)} {a w i:Int} {t:List Int} (h:al s a=J t):i∈(s.set a.toNat (t++[w])).flatten↔i=w\/i∈s.flatten:=by rw[(afw (w:=w) h).mem_iff];exact ha
attribute [grind=] azK azL
theorem amP {n:Nat}:(gb n ([]:List Int)).flatten=[]:=by simp
attribute [grind=] amP
def yk (y:bq) (b:List c4) (d:List Int):Prop:=∀k a w,al b k=J a->al d k=J w->0<=a.dS->a.dS<y.b2.length/\nV y w
variable {N:Nat} [gM N]
instance {d b n f a e} :au (NI d b n f a e) (d.length<=1000000/\b=d.length/\0<=a/\a<=b/\b - a<n/\e.length=a) λr=>r.2.length=d.length:=by induction n generalizing f a e with|zero=>exact bJ|succ n g=>exact ⟨by rw[NI];exact aC⟩
instance {U d b a} :au (aKK N U d b a) (U.bo.bD.length<=1000/\a.length<=1000000) λr=>True:=⟨by rw[aKK];exact aC⟩
instance {U f d b e a} :au (aKJ N U f b d e a) (U.bo.bD.length<=1000/\0<=d/\d<b.length/\a.length<=100000000/\b.length<=1000000/\e.length<=1000000) λr=>(∀i∈r.2,i∈a\/i∈b)/\r.2.length<=a.length+1:=⟨by rw[aKJ];exact aC⟩
instance {U h d e g n f a b} :au (MQ N U h e d g n f a b) (U.bo.bD.length<=1000/\e.length<=1000000/\g.length<=1000000/\d=e.length/\0<=a/\a<=d/\d - a<n/\b.length<=90000000+a) λr=>(∀i∈r.2,i∈b\/i∈e)/\r.2.length<=b.length+(d - a):=by induction n generalizing f a b with|zero=>exact bJ|succ n j=>exact ⟨by rw[MQ];exact aC⟩
instance {U b e g n f a d} :au (EE N U b e g n f a d) (U.bo.bD.length<=1000/\b.length<=24/\(∀t∈b,t.length<=40000)/\g.length<=1000000/\e=b.length/\0<=a/\a<=e/\e - a<n/\d.length<=40000*a) λr=>(∀i∈r.2,i∈d\/∃u∈b,i∈u)/\r.2.length<=960000:=by induction n generalizing f a d with|zero=>exact bJ|succ n h=>exact ⟨by rw[EE];exact aC⟩
instance {U a d n f b e} :au (aIS N U a d n f b e) (U.b2.length<=8/\(∀o∈U.b2,o.c7.length<=1000000)/\(∀i∈a,0<=i/\i<U.bD.length)/\a.length<=1000000/\d=a.length/\0<=b/\b<=d/\d - b<n/\e.length=b/\yk U e a) λr=>r.2.length=a.length/\yk U r.2 a:=by induction n generalizing f b e with|zero=>exact bJ|succ n g=>exact ⟨by rw[aIS];(repeat' with_reducible first|intro _|apply dq|apply dh|refine dj (by omega) ?_|apply di|apply dk|apply df|apply eC|apply dr|apply dg)<;>first|grind -mbtc|grind -mbtc [yk]⟩
instance {a d e b} :au (aI3 N a d b e) (0<=b/\b<d.length/\a.length<=1000000/\d.length<=1000000/\e.length<=1000000) λr=>r.length<=a.length+1:=⟨by rw[aI3];exact aC⟩
instance {b f d n e a} :au (aIU N b d f n e a) (b.length<=1000000/\f.length<=1000000/\d=b.length/\0<=a/\a<=d/\d - a<n/\e.length<=a) λr=>r.length<=b.length:=by induction n generalizing e a with|zero=>exact bJ|succ n g=>exact ⟨by rw[aIU];exact aC⟩
instance {b e g n f a d} :au (aIT N b e g n f a d) (b.length<=24/\(∀t∈b,t.length<=40000)/\g.length<=1000000/\e=b.length/\0<=a/\a<=e/\e - a<n/\d.length<=a/\(∀t∈d,t.length<=40000)) λr=>r.2.length<=24/\∀t∈r.2,t.length<=40000:=by induction n generalizing f a d with|zero=>exact bJ|succ n h=>exact ⟨by rw[aIT];exact aC⟩
instance {a} :au (RI N a) (a.aH.length<=24/\(∀t∈a.aH,t.length<=40000/\∀i∈t,0<=i/\i<a.bD.length)/\a.bo.bD.length<=1000/\a.b2.length<=8/\(∀o∈a.b2,o.c7.length<=1000000)) λr=>r.2.2=0->r.1.items.length=r.2.1.length/\r.1.homes.length=a.b2.length/\(∀t∈r.1.aH,t.length<=40000)/\(∀w∈r.2.1,(∃u∈a.aH,w∈u)/\0<=w/\w<a.bD.length)/\yk a r.1.items r.2.1:=⟨by rw[RI];(repeat' with_reducible first|intro _|apply dq|apply dh|refine dj (by omega) ?_|apply di|apply dk|apply df|apply eC|apply dr|apply dg)<;>first|grind -mbtc|grind -mbtc [yk]⟩
instance {a U} :au (Rh a U) (True) λr=>True:=⟨by rw[Rh];exact aC⟩
instance {d U b n a} :au (Cx d U b n a) (d.length<=1000000/\b=d.length/\0<=a/\a<=b/\b - a<n) λr=>True:=by induction n generalizing a with|zero=>exact bJ|succ n e=>exact ⟨by rw[Cx];exact aC⟩
instance {a U} :au (Qu N a U) (a.length<=1000000) λr=>True:=⟨by rw[Qu];exact aC⟩
instance {a U} :au (Qr N a U) (a.length<=1000000) λr=>True:=⟨by rw[Qr];exact aC⟩
instance {U f a d e b} :au (Nf N U f a d b e) (0<=d/\d<a.length/\0<=e/\e<b.length/\a.flatten.length<=100000000/\U.length<=1000000/\a.length<=1000000/\b.length<=1000000) λr=>r.length=a.length/\r.flatten.length<=a.flatten.length+1/\∀i∈r.flatten,i∈a.flatten\/i∈b:=⟨by rw[Nf];exact aC⟩
instance {U g f d e n a b} :au (D8 N U g f e d n a b) (0<=f/\U.length<=1000000/\e.length<=1000000/\d=e.length/\0<=b/\b<=d/\d - b<n/\f<a.length/\a.flatten.length<=90000000+b/\a.length<=1000000) λr=>r.length=a.length/\r.flatten.length<=a.flatten.length+(d - b)/\∀i∈r.flatten,i∈a.flatten\/i∈e:=by induction n generalizing a b with|zero=>exact bJ|succ n h=>exact ⟨by rw[D8];exact aC⟩
instance {U f a e n d b} :au (D7 N U f a e n d b) (a.length<=24/\(∀t∈a,t.length<=40000)/\U.length<=1000000/\e=a.length/\0<=b/\b<=e/\e - b<n/\d.length=a.length/\d.flatten.length<=40000*b) λr=>r.length=a.length/\r.flatten.length<=960000/\∀i∈r.flatten,i∈d.flatten\/i∈a.flatten:=by induction n generalizing d b with|zero=>exact bJ|succ n g=>exact ⟨by rw[D7];exact aC⟩
instance {a U b} :au (RX N a U b) (a.aH.length<=24/\(∀t∈a.aH,t.length<=40000)/\U.length<=1000000) λr=>r.length<=24/\r.flatten.length<=960000/\∀i∈r.flatten,i∈a.aH.flatten:=⟨by rw[RX];exact aC⟩
instance {a} :au (MD a) (a=ak) λr=>True:=⟨by rw[MD];exact aC⟩
instance {U a} :au (ME U a) (a=decide (0<U)/\U<=100000000) λr=>r=[]:=⟨by rw[ME];(repeat' with_reducible first|intro _|apply dq|apply dh|refine dj (by omega) ?_|apply di|apply dk|apply df|apply eC|apply dr|apply dg)<;>first|grind -mbtc|(subst_vars;simp)⟩
instance {U} :au (QT U) (0<=U/\U<=100000000) λr=>r=[]:=⟨by rw[QT];exact aC⟩
instance {b d a} :au (My b a d) (0<=d/\d<a.length/\0<=b/\b<=100000000/\(∀t∈a,t.length<=3000000)/\a.length<=1000000) λr=>0<=r/\r<=b+3000000:=⟨by rw[My];exact aC⟩
instance {d b n e a} :au (DA d b n e a) ((∀t∈d,t.length<=3000000)/\d.length<=24/\b=d.length/\0<=a/\a<=b/\b - a<n/\0<=e/\e<=3000000*a) λr=>0<=r/\r<=72000000:=by induction n generalizing e a with|zero=>exact bJ|succ n f=>exact ⟨by rw[DA];exact aC⟩
instance {b e n d a} :au (DB b e n d a) ((∀t∈b,t.length<=3000000)/\b.length<=24/\e=b.length/\0<=a/\a<=e/\e - a<n/\d.length<=3000000*a) λr=>r.length<=72000000/\r=d++(b.drop a.toNat).flatten:=by induction n generalizing d a with|zero=>exact bJ|succ n f=>exact ⟨by rw[DB];exact aC⟩
instance {a} :au (QQ N a) ((∀t∈a,t.length<=3000000)/\a.length<=24) λr=>r.length<=72000000/\r=a.flatten:=⟨by rw[QQ];exact aC⟩
instance {a} :au (Fe a) (True) λr=>True:=⟨by rw[Fe];exact aC⟩
instance {d b e n g a f} :au (aIW d b e n g a f) ((∀i∈b,0<=i/\i<d.items.length)/\b.length<=100000000/\e=b.length/\0<=a/\a<=e/\e - a<n/\f.length=a/\(∀i∈f,i∈d.items)) λr=>r.2.length=b.length/\∀i∈r.2,i∈d.items:=by induction n generalizing g a f with|zero=>exact bJ|succ n h=>exact ⟨by rw[aIW];exact aC⟩
instance {a U b} :au (SF N a U b) ((∀t∈a.aH,t.length<=40000)/\U.length<=1000000) λr=>r.2.2=0->r.1.items.length=r.2.1.length/\r.2.1.length<=96/\(∀i∈r.2.1,0<=i/\i<a.items.length)/\(∀i∈r.1.items,0<=i.dS/\i.dS<a.homes.length)/\gu a:=⟨by rw[SF];simp only[yo];(repeat' with_reducible first|intro _|apply dq|apply dh|refine dj (by omega) ?_|apply di|apply dk|apply df|apply eC|apply dr|apply dg)<;>first|grind -mbtc|grind -mbtc [AD]⟩
end
section
def GT (s:cn):Prop:=s.front=ak/\s.from_≠ -1/\s.to≠ -1
theorem afX {s:cn} (h:GT s):s.front=ak:=h.1
theorem afY {y:bq} {a:List c4} {d:List Int} (h:yk y a d) (l:a.length=d.length) (k:∀i∈a,0<=i.dS):∀w∈d,nV y w:=λw m=>by
 obtain ⟨i,e⟩:=uL m;have b:=ku e;obtain ⟨g,f⟩:=hT (xs:=a) (i:=i) b.1 (by omega);exact (h i g w f e (k g (lP f))).2
def agk {y z:bq} (h:kC y) (p:z.bo=y.bo) (t:z.aH.length=y.aH.length) (o:z.b2=y.b2):kC z:=by
 unfold kC at*;rw[p,t,o];exact h
attribute [grind->] afX
variable {N:Nat} [gM N]
instance {a} :au (Ry a) (True) λr=>r=Step.mk a.c (bq.mk a.y.bD a.y.aH a.y.b2 ak (eR.mk [] (b8.mk [] 0) (e8.mk (dF.mk 0 []) []) 0 [] 0) ak) a.e a.r:=⟨by rw[Ry];exact aC⟩
instance {a U} :au (Hl N a U) (U.length<=1000000) λr=>r=aa↔a∈U:=⟨by rw[Hl];exact aC⟩
instance {f d b n e a} :au (OC f d b n e a) ((∀i∈d,0<=i/\i<f.y.bD.length)/\d.length<=1000000/\b=d.length/\0<=a/\a<=b/\b - a<n) λr=>True:=by induction n generalizing e a with|zero=>exact bJ|succ n g=>exact ⟨by rw[OC];exact aC⟩
instance {a U} :au (Sh N a U) ((∀i∈U,0<=i/\i<a.y.bD.length)/\U.length<=1000000) λr=>True:=⟨by rw[Sh];exact aC⟩
instance {e d f b a} :au (Mo e d f a b) (e.fW.length=a.length/\0<=d/\0<=b/\b<a.length/\a.length<=1000000) λr=>True:=⟨by rw[Mo];exact aC⟩
instance {g f d b n e a} :au (Dn g f b d n e a) (g.fW.length=b.length/\0<=f/\d=b.length/\b.length<=1000000/\0<=a/\a<=d/\d - a<n) λr=>True:=by induction n generalizing e a with|zero=>exact bJ|succ n h=>exact ⟨by rw[Dn];exact aC⟩
instance {f g h b n d} :au (Dm N f g h b n d) (h.fW.length=g.items.length/\g.items.length<=1000000/\b<=f.e.aH.length/\b<=1000000/\0<=b/\(∀t∈f.e.aH,0<=t/\t<f.c.aH.length)/\0<=d/\d<=b/\b - d<n) λr=>fh r λa=>a≠0:=by induction n generalizing d with|zero=>exact bJ|succ n i=>exact ⟨by rw[Dm];exact aC⟩
instance {d e a b} :au (Mp d e b a) (0<=a/\a<b.length/\b.length<=1000000) λr=>True:=⟨by rw[Mp];exact aC⟩
instance {f b d n e a} :au (Dq f d b n e a) (d.length<=1000000/\b=d.length/\0<=a/\a<=b/\b - a<n) λr=>True:=by induction n generalizing e a with|zero=>exact bJ|succ n g=>exact ⟨by rw[Dq];exact aC⟩
instance {e d f b a} :au (Mq N e d f a b) (0<=b/\b<a.length/\(∀i∈a,0<=i/\i<e.y.bD.length)/\d.length<=1000000/\a.length<=1000000) λr=>True:=⟨by rw[Mq];exact aC⟩
instance {g e b d n f a} :au (Dr N g e b d n f a) ((∀i∈b,0<=i/\i<g.y.bD.length)/\e.length<=1000000/\b.length<=1000000/\d=b.length/\0<=a/\a<=d/\d - a<n) λr=>True:=by induction n generalizing f a with|zero=>exact bJ|succ n h=>exact ⟨by rw[Dr];exact aC⟩
instance {f h g e d n b} :au (Dp N f h g e d n b) (jr f.c f.y/\e=f.y.b2/\d=e.length/\e.length<=100/\g.items.length<=1000000/\h.length<=1000000/\0<=b/\b<=d/\d - b<n) λr=>fh r λa=>a≠0:=by induction n generalizing b with|zero=>exact bJ|succ n i=>exact ⟨by rw[Dp];exact aC⟩
instance {a U b d} :au (QF N a U b d) (jr a.c a.y/\b.fW.length=U.items.length/\U.items.length<=1000000/\0<=b.steps/\b.steps<=10000/\(∀t∈a.e.aH,0<=t/\t<a.c.aH.length)/\d.length<=1000000) λr=>r=0->b.steps<=a.e.aH.length:=⟨by rw[QF];exact aC⟩
instance {a U b d} :au (x1 N a U b d) (jr a.c a.y/\a.e.aH.length<=100/\0<=a.e.cq/\a.e.cq<a.c.aH.length/\(∀t∈a.e.aH,0<=t/\t<a.c.aH.length)/\b.items.length=U.length/\U.length<=1000/\(∀i∈b.items,0<=i.dS/\i.dS<a.y.b2.length)/\(∀i∈U,nV a.y i)/\d.length<=1000000) λr=>r.1=0->r.2.c=a.c/\r.2.e=a.e/\r.2.r.vv=a.r.vv/\r.2.y.bD=a.y.bD/\r.2.y.aH=a.y.aH/\r.2.y.b2=a.y.b2/\kC r.2.y/\r.2.y.bo.bD=U/\r.2.y.bo.lead=a.e.cq/\(∀t∈r.2.y.bo.aH,t∈a.e.aH)/\nW r.2.y/\nq r.2.y.bo:=⟨by rw[x1];(repeat' with_reducible first|intro _|apply dq|apply dh|refine dj (by omega) ?_|apply di|apply dk|apply df|apply eC|apply dr|apply dg)<;>first|grind -mbtc|grind -mbtc [nW]⟩
instance {f d e n b} :au (aJx N f d e n b) (f.length<=1000000/\d.length<=1000000/\e=d.length/\0<=b/\b<=e/\e - b<n) λr=>iX r (λ_=>∀i∈d.drop b.toNat,i∈f)/\fh r λa=>a≠0:=by induction n generalizing b with|zero=>exact bJ|succ n g=>exact ⟨by rw[aJx];exact aC⟩
instance {f g d e n b} :au (MP N f g d e n b) ((∀t∈d,0<=t/\t<f.y.aH.length)/\(∀t∈f.y.aH,t.length<=1000000)/\g.length<=1000000/\d.length<=1000000/\e=d.length/\0<=b/\b<=e/\e - b<n) λr=>iX r (λ_=>∀t∈d.drop b.toNat,∀q,al f.y.aH t=J q->∀i∈q,i∈g)/\fh r λa=>a≠0:=by induction n generalizing b with|zero=>exact bJ|succ n h=>exact ⟨by rw[MP];exact aC⟩
instance {d a g n f b} :au (aIN N d a g n f b) ((∀i∈a,i∈d.y.aH.flatten)/\0<=d.e.cq/\d.y.aH.length<=24/\(∀t∈d.y.aH,t.length<=1000000)/\a.length<=1000000/\g=a.length/\0<=b/\b<=g/\g - b<n/\f.length<=b/\(∀s∈f,uc a s)) λr=>r.length<=a.length/\∀s∈r,uc a s:=by induction n generalizing f b with|zero=>exact bJ|succ n h=>exact ⟨by rw[aIN];(repeat' with_reducible first|intro _|apply dq|apply dh|refine dj (by omega) ?_|apply di|apply dk|apply df|apply eC|apply dr|apply dg)<;>first|grind -mbtc|grind -mbtc [uc]⟩
instance {d U w L} :au (HE N d U w L) (jr d.c d.y/\d.e.aH.length<=100/\0<=d.e.cq/\d.e.cq<d.c.aH.length/\(∀t∈d.e.aH,0<=t/\t<d.c.aH.length)/\w.items.length=U.length/\U.length<=1000/\(∀i∈w.items,0<=i.dS/\i.dS<d.y.b2.length)/\(∀i∈U,nV d.y i)/\(∀i∈U,(∃u∈d.y.aH,i∈u)/\0<=i/\i<d.y.bD.length)/\L.length<=1000000) λr=>r.1=0->rr d r.2:=⟨by rw[HE];(repeat' with_reducible first|intro _|apply dq|apply dh|refine dj (by omega) ?_|apply di|apply dk|apply df|apply eC|apply dr|apply dg)<;>first|grind -mbtc|((with_reducible repeat' apply oE)<;>first|grind -mbtc|(rename_i h y R K F k j C el O E H f B p I s g;have a:=s (by simpa using g);dsimp only at a;intro i m;rw[a.2.2.2.2.1];exact AD.mpr (h.2.2.2.2.2.2.2.2.2.1 i m).1))|(rename_i h y R K F k j C el O E H f B p I s g Q x M S A n z;have a:=s (by simpa using g);have b:=n z;have j:=j.1;clear s n I x A el H k;subst K;simp only[Jn,List.cons_append,aLD] at j;dsimp only[zZ] at a b M j;have P:gH p.2.y:=(by intro _ _ t f q e i m;rw[a.2.2.2.2.1] at e;rw[a.2.2.2.2.2.2.2.1];refine j t ?_ q e i m;rw[a.2.2.2.2.2.2.2.2.1] at f;rcases f with f|f;exact ha.mpr (.inl f);exact ha.mpr (.inr (a.2.2.2.2.2.2.2.2.2.1 t f)));refine IG h.1 ?_ ?_ ?_ ?_ ?_ ?_ ?_ ?_<;>first|grind -mbtc|(have m:=b.2.2.2.2.2.2.2;rw[a.1,a.2.2.2.1,a.2.2.2.2.1,<-b.2.2.2.1] at m;refine ⟨m, ?_⟩;rw[b.2.2.2.1];grind -mbtc)|(intro _ _;exact ⟨agk (y:=p.2.y) a.2.2.2.2.2.2.1 (by rw[b.2.2.1]) b.2.2.2.2.2.2.1.1 (by rw[b.2.2.1]),YM (y:=p.2.y) a.2.2.2.2.2.2.2.2.2.2.1 (by rw[b.2.2.1]) (by rw[b.2.2.1]) (by rw[b.2.2.1];exact YY _)⟩)|exact Y6 (y:=p.2.y) (l:=Q) P (by grind -mbtc) (by grind -mbtc))⟩
instance {b a d} :au (aKF b a d) ((d=aa->0<=a.ib/\a.ib<b.length)/\b.length<=1000000) λr=>True:=⟨by rw[aKF];exact aC⟩
instance {e b d n g a f} :au (aJo e b d n g a f) (kV e.length b/\e.length<=1000000/\b.length<=1000000/\d=b.length/\0<=a/\a<=d/\d - a<n/\f.length<=1000000+a) λr=>r.1=He g/\r.2.length<=3000000:=by induction n generalizing g a f with|zero=>exact bJ|succ n h=>exact ⟨by rw[aJo];exact aC⟩
instance {b d f n e a} :au (aIF b d f n e a) ((∀i∈d,0<=i/\i<b.length)/\b.length<=1000000/\d.length<=1000000/\f=d.length/\0<=a/\a<=f/\f - a<n/\e.length=a/\(∀w∈e,w∈b)) λr=>r.length=d.length/\∀w∈r,w∈b:=by induction n generalizing e a with|zero=>exact bJ|succ n g=>exact ⟨by rw[aIF];exact aC⟩
instance {a b d} :au (Rz N a b d) (jr a.c a.y/\iW a.e/\d.length<=1000/\b=[]/\a.r.vv=[]/\b.length<=1000000) λr=>r.1=0->rr a r.2:=⟨by rw[Rz];(repeat' with_reducible first|intro _|apply dq|apply dh|refine dj (by omega) ?_|apply di|apply dk|apply df|apply eC|apply dr|apply dg)<;>first|grind -mbtc|((with_reducible repeat' apply oE)<;>first|grind -mbtc|grind -mbtc [->afY])|(rename_i i f h _;subst h;refine IG (by grind -mbtc) rfl rfl rfl ?_ ?_ ?_ ?_ ?_<;>first|grind -mbtc|(intro g;cases g))⟩
instance {a U b} :au (aC' a U b) (a.length<=1000000) λr=>r=ak->0<=U/\U<a.length/\0<=b/\b<a.length:=⟨by rw[aC'];exact aC⟩
instance {b a} :au (aDa b a) (a.length<=1000000) λr=>r=ak->0<=b/\b<=a.length:=⟨by rw[aDa];exact aC⟩
instance {U f e d n b a} :au (aAX U f d e n b a) (0<=U/\0<=f/\d.length<=1000000/\e=d.length/\0<=a/\a<=e/\e - a<n/\b.length<=a/\(∀s∈b,GT s)) λr=>r.length<=d.length/\∀s∈r,GT s:=by induction n generalizing b a with|zero=>exact bJ|succ n g=>exact ⟨by rw[aAX];(repeat' with_reducible first|intro _|apply dq|apply dh|refine dj (by omega) ?_|apply di|apply dk|apply df|apply eC|apply dr|apply dg)<;>first|grind -mbtc|grind -mbtc [GT]⟩
instance {a U b d} :au (Q8 N a U b d) ((∀t∈a,t.length<=1000000)/\a.length<=1000000) λr=>r.2=0->r.1.length<=1000000/\∀s∈r.1,GT s:=⟨by rw[Q8];exact aC⟩
instance {e b d a} :au (Fz e b d a) (a.length<=1000000) λr=>True:=⟨by rw[Fz];exact aC⟩
instance {b d e a} :au (FA N b d e a) (b.y.b2.length<=1000000/\a.length<=1000000) λr=>True:=⟨by rw[FA];exact aC⟩
instance {d f} :au (Si N d f) (jr d.c d.y/\f.length<=1000000) λr=>r.1=0->rr d r.2:=⟨by rw[Si];(repeat' with_reducible first|intro _|apply dq|apply dh|refine dj (by omega) ?_|apply di|apply dk|apply df|apply eC|apply dr|apply dg)<;>first|grind -mbtc|(rename_i m j g e l i h z;have a:=g (by simpa using e);have b:=h z;clear h g i;refine IG (by grind -mbtc) ?_ ?_ ?_ ?_ ?_ ?_ ?_ ?_<;>first|grind -mbtc|(intro k;exfalso;grind -mbtc))⟩
end
section
variable {N:Nat} [gM N]
instance {b d n f a e} :au (FH b d n f a e) (b.length<=24/\(∀t∈b,t.length<=1000000)/\d=b.length/\0<=a/\a<=d/\d - a<n/\e.length<=a) λr=>r.1=qx f/\r.2=e++b.drop a.toNat:=by induction n generalizing f a e with|zero=>exact bJ|succ n g=>exact ⟨by rw[FH];(repeat' with_reducible first|intro _|apply dq|apply dh|refine dj (by omega) ?_|apply di|apply dk|apply df|apply eC|apply dr|apply dg)<;>first|grind -mbtc|(simp_all [qx];done)⟩
instance {b d n f a e} :au (NV b d n f a e) (b.length<=24/\(∀o∈b,o.c7.length<=1000000)/\d=b.length/\0<=a/\a<=d/\d - a<n/\e.length<=a) λr=>r.1=qx f/\r.2=e++b.drop a.toNat:=by induction n generalizing f a e with|zero=>exact bJ|succ n g=>exact ⟨by rw[NV];(repeat' with_reducible first|intro _|apply dq|apply dh|refine dj (by omega) ?_|apply di|apply dk|apply df|apply eC|apply dr|apply dg)<;>first|grind -mbtc|(simp_all [qx];done)⟩
instance {a} :au (Ss N a) (a.bD.length<=1000/\a.aH.length<=24/\(∀t∈a.aH,t.length<=1000000)/\a.b2.length<=8/\(∀o∈a.b2,o.c7.length<=1000000)/\nq a.bo) λr=>r.1=bq.mk [] a.aH [] a.busy a.bo a.cE/\r.2.1=a.bD/\r.2.2=a.b2:=⟨by rw[Ss];(repeat' with_reducible first|intro _|apply dq|apply dh|refine dj (by omega) ?_|apply di|apply dk|apply df|apply eC|apply dr|apply dg)<;>first|grind -mbtc|(simp_all [qx];done)⟩
instance {a b} :au (QR a b) (True) λr=>True:=⟨by rw[QR];exact aC⟩
instance {f e d n b} :au (Cz f e d n b) (e.length<=1000000/\d=e.length/\0<=b/\b<=d/\d - b<n) λr=>fh r λa=>0<=a/\a<e.length:=by induction n generalizing b with|zero=>exact bJ|succ n g=>exact ⟨by rw[Cz];exact aC⟩
instance {b a} :au (Qw N b a) (a.length<=1000000) λr=>r<a.length:=⟨by rw[Qw];exact aC⟩
instance {d e n b a} :au (Er d e n b a) (e=d.length/\d.length<=1000000/\0<=a/\a<=e/\e - a<n/\b.length<=a) λr=>r=b++lens (d.drop a.toNat):=by induction n generalizing b a with|zero=>exact bJ|succ n f=>exact ⟨by rw[Er];exact aC⟩
instance {a U b} :au (RA N a U b) (mQ a.c.aH/\oJ a.c.aH (lens a.y.bD) a.y.aH/\a.y.bD.length<=1000/\U.length<=1000000/\(∀s∈U,s.front=ak)/\b.length<=1000000) λr=>r.1=0->r.2.c=a.c/\r.2.e=a.e/\r.2.y=bq.mk a.y.bD r.2.y.aH a.y.b2 a.y.busy a.y.bo a.y.cE/\r.2.r.vv=U/\iY a.c.aH (lens a.y.bD) r.2.y.aH/\r.2.y.aH.flatten.length=a.y.aH.flatten.length+lo U/\az1 a.c.aH (lens a.y.bD) U a.y.aH r.2.y.aH:=⟨by rw[RA];exact aC⟩
instance {g h b f n e d a} :au (Nz g h b f n e d a) ((∀i∈b,0<=i/\i<g.y.bD.length)/\0<=h.cq/\b.length<=1000000/\f=b.length/\0<=a/\a<=f/\f - a<n/\e.length=a/\d.length=a/\(∀w∈e,w∈g.y.bD)/\(∀s∈d,s.front=ak)/\lo d= -a) λr=>r.1.length=b.length/\r.2.length=b.length/\(∀w∈r.1,w∈g.y.bD)/\(∀s∈r.2,s.front=ak)/\lo r.2= -b.length:=by induction n generalizing e d a with|zero=>exact bJ|succ n j=>exact ⟨by rw[Nz];exact aC⟩
end
section
def yp (a:List Bool) (R:List Int):Prop:=R.Nodup/\∀i∈R,al a i=J ak
theorem age {d:List Bool} {R:List Int} {w:Int} (h:yp d (w::R)):yp (d.set w.toNat aa) R/\al d w=J ak:=by
 obtain ⟨a,b⟩:=h;rw[TB] at a;have e:=b w (by simp);have l:=ku e;refine ⟨⟨a.2,λi m=> ?_⟩,e⟩;rw[rM l.1 l.2,if_neg (by rintro rfl;exact a.1 m)];exact b i (by simp[m])
theorem alG {T:List eE} {b:List Int} {s:List (List Int)} (V:iY T b s) {k:Int} {a:eE} {t:List Int} (e:al T k=J a) (f:al s k=J t):km b t<=a.length:=V.1.2.2.2 k a t e f
theorem agf {T:List eE} {a:List Int} {s:List (List Int)} (V:iY T a s):yp (gb a.length ak) s.flatten:=⟨V.1.2.2.1.1,λi m=>by
 have:=V.1.2.2.1.2 i m;obtain ⟨b,e⟩:=hT (xs:=gb a.length ak) this.1 (by simp;omega);rw[e,ym (lP e)]⟩
attribute [grind->] age alG agf
variable {N:Nat} [gM N]
instance (priority:=high) {d U n b a} :au (aEB d U n b a) ((∀i∈U,0<=i/\i<d.length)/\(∀l∈d,1<=l/\l<=400)/\d.length<=1000000/\U.length<=1000000/\0<=a/\a<=(U.length:Int)/\(U.length:Int) - a<n/\0<=b/\b<=400*a) λr=>r=b+km d (U.drop a.toNat):=by induction n generalizing b a with|zero=>exact bJ|succ n e=>exact ⟨by rw[aEB];exact aC⟩
instance (priority:=high) {a U} :au (Ib N a U) ((∀i∈U,0<=i/\i<a.length)/\(∀l∈a,1<=l/\l<=400)/\a.length<=1000000/\U.length<=1000000) λr=>r=km a U:=⟨by rw[Ib];exact aC⟩
instance (priority:=high) {b U a} :au (GN b U a) (iY b U a/\b.length<=1000000/\U.length<=1000000/\a.length<=1000000) λr=>r=ak:=⟨by rw[GN];exact aC⟩
instance (priority:=high) {U a} :au (aI4 U a) (0<=a/\a<U.length/\(∀l∈U,1<=l/\l<=400)/\U.length<=1000000) λr=>r=ak:=⟨by rw[aI4];exact aC⟩
instance (priority:=high) {U n a} :au (aBb U n a) ((∀l∈U,1<=l/\l<=400)/\U.length<=1000000/\0<=a/\a<=(U.length:Int)/\(U.length:Int) - a<n) λr=>r= .inl ():=by induction n generalizing a with|zero=>exact bJ|succ n b=>exact ⟨by rw[aBb];exact aC⟩
instance (priority:=high) {U a b} :au (aI5 U a b) (a.length=U.length/\al a b=J ak/\U.length<=1000000) λr=>r=ak:=⟨by rw[aI5];exact aC⟩
instance (priority:=high) {U b d n g f} :au (aIY U b d n g f) (0<=d/\d<b.length/\(∀t∈b,t.length<=1000000)/\U.length<=1000000/\b.length<=1000000/\0<=f/\(∀t,al b d=J t->f<=t.length/\t.length - f<n/\yp g (t.drop f.toNat++(b.drop (d+1).toNat).flatten))/\g.length=U.length) λr=>iX r (λa=>a.length=U.length/\yp a (b.drop (d+1).toNat).flatten)/\fh r λ_=>False:=by induction n generalizing g f with|zero=>exact ⟨λh=>by obtain ⟨t,e⟩:=hT (xs:=b) (i:=d) (by omega) (by omega);exfalso;grind -mbtc⟩|succ n j=>exact ⟨by rw[aIY];exact aC⟩
instance (priority:=high) {b U a d} :au (aI6 N b U a d) (iY b U a/\mQ b/\0<=d/\d<a.length/\b.length<=1000000/\U.length<=1000000/\a.length<=1000000) λr=>r=ak:=⟨by rw[aI6];exact aC⟩
instance (priority:=high) {e U b n d a} :au (aIX N e U b n d a) (iY e U b/\mQ e/\e.length<=1000000/\U.length<=1000000/\b.length<=1000000/\0<=a/\a<=(b.length:Int)/\(b.length:Int) - a<n/\d.length=U.length/\yp d (b.drop a.toNat).flatten) λr=>r= .inl ():=by induction n generalizing d a with|zero=>exact bJ|succ n f=>exact ⟨by rw[aIX];exact aC⟩
instance (priority:=high) {a U b} :au (S1 N a U b) (iY a U b/\mQ a/\a.length<=1000000/\U.length<=1000000/\b.length<=1000000) λr=>r=aa:=⟨by rw[S1];(repeat' with_reducible first|intro _|apply dq|apply dh|refine dj (by omega) ?_|apply di|apply dk|apply df|apply eC|apply dr|apply dg)<;>first|grind -mbtc|(subst_vars;simp only[sG,Jn,IF,AA] at*;grind -mbtc)⟩
end
section
@[grind->] theorem axs {s:List (List Int)} {i:Int} {t:List Int} (e:al s i=J t):(s.drop i.toNat).flatten.length=t.length+(s.drop (i+1).toNat).flatten.length:=by rw[sT e];simp
variable {N:Nat} [gM N]
instance {b U n a} :au (O7 b U n a) (U=b/\b.length<=1000000/\U.length<=1000000/\0<=a/\a<=(b.length:Int)/\(b.length:Int) - a<n) λr=>r= .inl ():=by induction n generalizing a with|zero=>exact bJ|succ n d=>exact ⟨by rw[O7];exact aC⟩
instance {a U} :au (rm N a U) (U=a/\a.length<=1000000/\U.length<=1000000) λr=>r=aa:=⟨by rw[rm];exact aC⟩
instance {a U n b} :au (NP N a U n b) (U=a/\a.length<=1000000/\(∀t∈a,t.length<=1000000)/\U.length<=1000000/\0<=b/\b<=(a.length:Int)/\(a.length:Int) - b<n) λr=>r= .inl ():=by induction n generalizing b with|zero=>exact bJ|succ n d=>exact ⟨by rw[NP];exact aC⟩
instance {a U} :au (vE N a U) (U=a/\a.length<=1000000/\(∀t∈a,t.length<=1000000)/\U.length<=1000000) λr=>r=aa:=⟨by rw[vE];exact aC⟩
instance (priority:=high) {b n d a} :au (Ft b n d a) (b.length<=1000000/\0<=a/\a<=(b.length:Int)/\(b.length:Int) - a<n/\d.length=a) λr=>r=d++lens (b.drop a.toNat):=by induction n generalizing d a with|zero=>exact bJ|succ n e=>exact ⟨by rw[Ft];exact aC⟩
instance (priority:=high) {a} :au (Sd N a) (a.length<=1000000) λr=>r=lens a:=⟨by rw[Sd];exact aC⟩
end
section
def apz {i:Int} (h:0<=i/\i<10):Ac i=J (pj i):=by
 rcases IS h.1 h.2 with rfl|rfl|rfl|rfl|rfl|rfl|rfl|rfl|rfl|rfl<;>rfl
theorem afO {c:c8} (h:oF c):qE c:=by
 obtain ⟨g,f,_,_,_,_,b,d,_,a,_⟩:=h;refine ⟨⟨by omega,by omega,λt m=> ?_⟩,by omega⟩;obtain ⟨i,e⟩:=uL m;rw[(b i t e).1];simp[pj]
variable {N:Nat} [gM N]
instance {a} :au (Ac a) (0<=a/\a<10) λr=>r=pj a:=⟨λh=>by rw[apz h];exact ⟨nofun,λr e=>(kB.inj e).symm⟩⟩
instance {n d e a} :au (MX n d e a) (0<=a/\a<n/\0<=d.n/\d.n+3*a<=20000000/\e.length+a<=60/\(∀b∈e,tX b)) λr=>d.n<=r.1.n/\r.1.n<=d.n+3*a/\r.2.length<=60/\∀b∈r.2,tX b:=by induction n generalizing d e a with|zero=>exact bJ|succ n f=>exact ⟨by rw[MX];(repeat' with_reducible first|intro _|apply dq|apply dh|refine dj (by omega) ?_|apply di|apply dk|apply df|apply eC|apply dr|apply dg)<;>clear f<;>first|grind -mbtc|((with_reducible repeat' apply oE)<;>first|grind -mbtc|grind -mbtc (splits:=60) (ematch:=12)|(simp only[ha,IN,or_false] at*;grind -mbtc (splits:=60)))⟩
instance {a} :au (HC N a) (0<=a.n/\a.n<=10000000) λr=>a.n<=r.2.n/\r.2.n<=a.n+50/\r.1.length<=60/\∀b∈r.1,tX b:=⟨by rw[HC];exact aC⟩
instance {e d f} :au (DR e d f) (0<=e.n/\e.n<=20000001/\0<=d.a/\d.a<=1000000/\0<=d.b/\d.b<=1000000/\0<=d.c/\d.c<=1000000) λr=>e.n<=r.1.n/\r.1.n<=e.n+3/\r.2.number=d.number/\r.2.kind=d.kind/\0<=r.2.a/\r.2.a<=1000000/\0<=r.2.b/\r.2.b<=1000000/\0<=r.2.c/\r.2.c<=1000000:=⟨by rw[DR];(repeat' with_reducible first|intro _|apply dq|apply dh|refine dj (by omega) ?_|apply di|apply dk|apply df|apply eC|apply dr|apply dg)<;>first|grind -mbtc|grind -mbtc (gen:=20) (ematch:=20)⟩
instance {a U} :au (R6 a U) (0<=a.n/\a.n<=20000000/\1<=U/\U<=9999) λr=>a.n<=r.2.n/\r.2.n<=a.n+4/\r.1.number=U/\pV r.1:=⟨by rw[R6];exact aC⟩
instance {n b d a} :au (EL n b d a) (0<=a/\a<n/\0<=b.n/\b.n+5*a<=20000000/\d.length+a<=9/\(∀i r,al d i=J r->10*i+1<=r.number/\r.number<=10*i+9/\pV r)) λr=>b.n<=r.1.n/\r.1.n<=b.n+5*a/\r.2.length<=9/\∀i q,al r.2 i=J q->10*i+1<=q.number/\q.number<=10*i+9/\pV q:=by induction n generalizing b d a with|zero=>exact bJ|succ n e=>exact ⟨by rw[EL];(repeat' with_reducible first|intro _|apply dq|apply dh|refine dj (by omega) ?_|apply di|apply dk|apply df|apply eC|apply dr|apply dg)<;>clear e<;>first|grind -mbtc|grind -mbtc (gen:=20) (ematch:=20)|((with_reducible repeat' apply oE)<;>grind -mbtc (gen:=20) (ematch:=20))⟩
instance {a U} :au (HB N a U) (0<=a.n/\a.n<=10000000/\0<=U/\U<=8) λr=>a.n<=r.2.n/\r.2.n<=a.n+5000/\r.1.length<=9/\∀i q,al r.1 i=J q->10*i+1<=q.number/\q.number<=10*i+9/\pV q:=⟨by rw[HB];exact aC⟩
instance {n b d a e} :au (CN n b d a e) (0<=a/\a<n/\0<=b.n/\b.n+a<=20000000/\e.length+a<=9/\(∀i t,al e i=J t->t.name=pj i/\1<=t.length/\t.length<=100000)) λr=>b.n<=r.1.n/\r.1.n<=b.n+a/\r.2.2.length=e.length+a/\r.2.1.rules=d.rules/\r.2.1.speed=d.speed/\r.2.1.iZ=d.iZ/\∀i t,al r.2.2 i=J t->t.name=pj i/\1<=t.length/\t.length<=100000:=by induction n generalizing b d a e with|zero=>exact bJ|succ n f=>exact ⟨by rw[CN];(repeat' with_reducible first|intro _|apply dq|apply dh|refine dj (by omega) ?_|apply di|apply dk|apply df|apply eC|apply dr|apply dg)<;>clear f<;>first|grind -mbtc|((with_reducible repeat' apply oE)<;>first|grind -mbtc|grind -mbtc (splits:=60) (ematch:=12)|(simp only[ha,IN,or_false] at*;grind -mbtc (splits:=60)))⟩
instance {a U} :au (Nr a U) (0<=a.n/\a.n<=10000000) λr=>a.n<=r.1.n/\r.1.n<=a.n+1:=⟨by rw[Nr];exact aC⟩
instance {a b f e d} :au (Ns N a b f e d) (0<=a.n/\a.n<=10000000/\b.rules=[]) λr=>a.n<=r.1.n/\r.1.n<=a.n+5000/\r.2.1.rules.length<=9/\r.2.1.speed=b.speed/\r.2.1.iZ=b.iZ/\r.2.2.1=e/\r.2.2.2=d/\∀i q,al r.2.1.rules i=J q->10*i+1<=q.number/\q.number<=10*i+9/\pV q:=⟨by rw[Ns];exact aC⟩
instance {a U} :au (Rp N a U) (0<=a.n/\a.n<=1000) λr=>a.n<=r.2.n/\r.2.n<=a.n+10000/\oF r.1:=⟨by rw[Rp];(repeat' with_reducible first|intro _|apply dq|apply dh|refine dj (by omega) ?_|apply di|apply dk|apply df|apply eC|apply dr|apply dg)<;>first|grind -mbtc|((with_reducible repeat' apply oE)<;>first|grind -mbtc|(unfold oF;(with_reducible repeat' apply oE)<;>first|grind -mbtc|grind -mbtc (splits:=60) (ematch:=12)))⟩
end
section
variable {N:Nat} [gM N]
instance {b U a} :au (Q9 N b U a) (oF b/\U.name.length<=1000000/\U.c7.length<=1000000/\(∀d∈U.c7,d.length<=1000000)/\(∀w∈a,w.number.length<=1000000/\w.dest.length<=1000000)/\a.length<=1000000) λr=>r=0->a.length<=96/\∀w∈a,pY w:=⟨by rw[Q9];exact aC⟩
instance {g d e n f b} :au (CW N g d e n f b) (g.c7.length<=1000000/\d.length<=1000000/\e=d.length/\0<=b/\b<=e/\e - b<n/\f.length=b) λr=>iX r (λa=>a.length=d.length)/\fh r λa=>a.2≠0:=by induction n generalizing f b with|zero=>exact bJ|succ n h=>exact ⟨by rw[CW];exact aC⟩
instance {a U} :au (Q1 N a U) (a.c7.length<=1000000/\U.length<=1000000) λr=>r.2.2=0->r.1.length=U.length:=⟨by rw[Q1];exact aC⟩
instance {b a} :au (LY b a) (0<=a/\a<b.length/\b.length<=1000000) λr=>True:=⟨by rw[LY];exact aC⟩
instance {e d n b} :au (DH e d n b) (e.length<=1000000/\d=e.length/\0<=b/\b<=d/\d - b<n) λr=>fh r λa=>a.2≠0:=by induction n generalizing b with|zero=>exact bJ|succ n f=>exact ⟨by rw[DH];exact aC⟩
instance {a U} :au (QW N a U) (a.c7.length<=1000000/\U.length<=1000000) λr=>r.2.2=0->r.1.length=U.length:=⟨by rw[QW];exact aC⟩
instance {a} :au (RP a) (True) λr=>True:=⟨by rw[RP];exact aC⟩
instance {f d e n g b} :au (aJc f d e n g b) (f.length<=1000000/\d.length<=1000000/\e=d.length/\0<=b/\b<=e/\e - b<n) λr=>iX r (λ_=>∀i∈d.drop b.toNat,0<=i/\i<f.length)/\fh r λa=>a.2≠0:=by induction n generalizing g b with|zero=>exact bJ|succ n h=>exact ⟨by rw[aJc];exact aC⟩
instance {e f n g d b} :au (aJd e f n g d b) (e.length<=1000000/\f=e.length/\0<=b/\b<=f/\f - b<n/\(∀i∈e,0<=i/\i<d.length)) λr=>iX r (λa=>a.2.length=d.length)/\fh r λa=>a.2≠0:=by induction n generalizing g d b with|zero=>exact bJ|succ n h=>exact ⟨by rw[aJd];exact aC⟩
instance {d e a b} :au (aKo d e a b) (0<=b/\b<a.length/\d.length=a.length/\a.length<=1000000) λr=>True:=⟨by rw[aKo];exact aC⟩
instance {e b d n f a} :au (aJe e b d n f a) (e.length=b.length/\b.length<=1000000/\d=b.length/\0<=a/\a<=d/\d - a<n) λr=>True:=by induction n generalizing f a with|zero=>exact bJ|succ n g=>exact ⟨by rw[aJe];exact aC⟩
instance {a d b} :au (aKp a d b) (b=decide (0<a)) λr=>True:=⟨by rw[aKp];exact aC⟩
instance {a U} :au (Sb N a U) ((∀w∈a,w.number.length<=1000000/\w.dest.length<=1000000)/\a.length<=1000000/\U.length<=1000000) λr=>True:=⟨by rw[Sb];exact aC⟩
instance {U d e b a} :au (aCG U d e b a) (True) λr=>True:=⟨by rw[aCG];exact aC⟩
instance {U e f b d a} :au (Ni U e f d a b) (0<=b/\b<a.length/\a.length<=1000000) λr=>True:=⟨by rw[Ni];exact aC⟩
instance {U g b d n f e a} :au (De U g d b n f e a) (d.length<=1000000/\b=d.length/\0<=a/\a<=b/\b - a<n) λr=>True:=by induction n generalizing f e a with|zero=>exact bJ|succ n h=>exact ⟨by rw[De];exact aC⟩
instance {a U b} :au (Rj N a U b) (a.length<=1000000) λr=>True:=⟨by rw[Rj];exact aC⟩
instance {U a} :au (Dd U a) (True) λr=>True:=⟨by rw[Dd];exact aC⟩
instance {a U b} :au (z8 N a U b) (a.length<=1000000) λr=>True:=⟨by rw[z8];exact aC⟩
instance {a U b d e} :au (Sa N a U b d e) ((∀w∈a,w.number.length<=1000000/\w.dest.length<=1000000)/\a.length<=1000000/\U.length<=1000000/\b.length<=1000000) λr=>True:=⟨by rw[Sa];exact aC⟩
end
section
variable {N:Nat} [gM N]
instance {U a} :au (Ej U a) (True) λr=>True:=⟨by rw[Ej];exact aC⟩
instance {U d e n b} :au (Ei U e d n b) (e.length<=1000000/\d=e.length/\0<=b/\b<=d/\d - b<n) λr=>fh r λa=>a≠0:=by induction n generalizing b with|zero=>exact bJ|succ n f=>exact ⟨by rw[Ei];exact aC⟩
instance {a U} :au (Ab N a U) (a.length<=1000000) λr=>True:=⟨by rw[Ab];exact aC⟩
instance {b d a} :au (aKs b d a) (0<=a/\a<=b.length/\b.length<=1000000) λr=>True:=⟨by rw[aKs];exact aC⟩
instance {d b a f e g} :au (OA d f g b a e) (a=d/\0<=e/\e<a.length/\d.length<=1000000/\b.length<=1000000/\a.length<=1000000) λr=>r.2.length<=b.length+1:=⟨by rw[OA];exact aC⟩
instance {f b h d n g e a} :au (Fx f h b d n g e a) (b=f/\f.length<=1000000/\b.length<=1000000/\d=b.length/\0<=a/\a<=d/\d - a<n/\e.length<=a) λr=>r.2.length<=b.length:=by induction n generalizing g e a with|zero=>exact bJ|succ n i=>exact ⟨by rw[Fx];exact aC⟩
instance {a b d} :au (aKt a b d) (a.length<=1000000) λr=>r.length<=a.length+1:=⟨by rw[aKt];exact aC⟩
instance {b n d e a} :au (Fw N b n d e a) (b<=16/\0<=a/\a<=b/\b - a<n/\d.length<=a/\e.length<=1000000) λr=>True:=by induction n generalizing d e a with|zero=>exact bJ|succ n f=>exact ⟨by rw[Fw];exact aC⟩
instance {a U} :au (HL N a U) (0<=U/\U<=16/\a.length<=1000000) λr=>True:=⟨by rw[HL];exact aC⟩
instance {U} :au (Fv U) (True) λr=>r=ak->0<=U/\U<=16:=⟨by rw[Fv];exact aC⟩
instance {a U} :au (sz N a U) (a.length<=1000000) λr=>True:=⟨by rw[sz];exact aC⟩
instance {f a d n e b} :au (Mb f a d n e b) (a.length<=1000000/\d=a.length/\0<=b/\b<=d/\d - b<n/\e.length=a.length) λr=>r.length=a.length:=by induction n generalizing e b with|zero=>exact bJ|succ n g=>exact ⟨by rw[Mb];exact aC⟩
end
section
variable {N:Nat} [gM N]
instance {a} :au (QJ a) (True) λr=>True:=⟨by rw[QJ];exact aC⟩
instance {U b d n e a} :au (CA U d b n e a) (d.length<=1000000/\b=d.length/\0<=a/\a<=b/\b - a<n) λr=>True:=by induction n generalizing e a with|zero=>exact bJ|succ n f=>exact ⟨by rw[CA];exact aC⟩
instance {a U} :au (Qx N a U) (a.l.length<=1000) λr=>True:=⟨by rw[Qx];exact aC⟩
instance {a} :au (QK a) (True) λr=>True:=⟨by rw[QK];exact aC⟩
instance {U b d n e a} :au (CB U d b n e a) (d.length<=1000000/\b=d.length/\0<=a/\a<=b/\b - a<n) λr=>True:=by induction n generalizing e a with|zero=>exact bJ|succ n f=>exact ⟨by rw[CB];exact aC⟩
instance {a U} :au (Qy N a U) (a.l.length<=1000) λr=>True:=⟨by rw[Qy];exact aC⟩
instance {a} :au (QL a) (True) λr=>True:=⟨by rw[QL];exact aC⟩
instance {U b d n e a} :au (CC U d b n e a) (d.length<=1000000/\b=d.length/\0<=a/\a<=b/\b - a<n) λr=>True:=by induction n generalizing e a with|zero=>exact bJ|succ n f=>exact ⟨by rw[CC];exact aC⟩
instance {a U} :au (Qz N a U) (a.l.length<=1000) λr=>True:=⟨by rw[Qz];exact aC⟩
instance {a U} :au (vF a U) (True) λr=>True:=⟨by rw[vF];exact aC⟩
instance {b d f a e} :au (aEg b e d f a) (True) λr=>True:=⟨by rw[aEg];exact aC⟩
instance {d b e f n a} :au (FB d e f b n a) (e.l.length<=1000/\0<=d/\d<e.l.length/\b=d/\0<=a/\a<=b/\b - a<n) λr=>True:=by induction n generalizing a with|zero=>exact bJ|succ n g=>exact ⟨by rw[FB];exact aC⟩
instance {b U a} :au (Sl N b U a) (b.l.length<=1000/\0<=a/\a<b.l.length) λr=>True:=⟨by rw[Sl];exact aC⟩
instance {b a d} :au (QM N b a d) (a.l.length<=1000/\0<=b/\b<a.l.length) λr=>True:=⟨by rw[QM];exact aC⟩
instance {U d b n a} :au (CD N U d b n a) (d=U.1.l/\d.length<=1000/\b=d.length/\0<=a/\a<=b/\b - a<n) λr=>True:=by induction n generalizing a with|zero=>exact bJ|succ n e=>exact ⟨by rw[CD];exact aC⟩
instance {a U} :au (QA N a U) (a.l.length<=1000/\U.1=a) λr=>True:=⟨by rw[QA];exact aC⟩
instance {d a b} :au (Mu d a b) (True) λr=>True:=⟨by rw[Mu];exact aC⟩
instance {b U a} :au (QN b U a) (True) λr=>True:=⟨by rw[QN];exact aC⟩
instance {U d b n a} :au (CE U d b n a) (d.length<=1000000/\b=d.length/\0<=a/\a<=b/\b - a<n) λr=>True:=by induction n generalizing a with|zero=>exact bJ|succ n e=>exact ⟨by rw[CE];exact aC⟩
instance {a U} :au (QB N a U) (a.l.length<=1000) λr=>True:=⟨by rw[QB];exact aC⟩
instance {a b} :au (aLg N a b) (0<=b/\b<a.l.length/\a.off.length<=1000000) λr=>True:=⟨by rw[aLg];exact aC⟩
instance {a d b} :au (aLf N a d b) (0<=b/\b<a.l.length/\a.off.length<=1000000) λr=>True:=⟨by rw[aLf];exact aC⟩
instance {a n d b} :au (aBy N a n d b) (a.l.length<=1000/\a.off.length<=1000000/\0<=b/\b<=(a.l.length:Int)/\(a.l.length:Int) - b<n) λr=>True:=by induction n generalizing d b with|zero=>exact bJ|succ n e=>exact ⟨by rw[aBy];exact aC⟩
instance {b U} :au (x8 N b U) (b.l.length<=1000/\b.off.length<=1000000/\0<=U.a) λr=>True:=⟨by rw[x8];exact aC⟩
instance {U a} :au (QO U a) (True) λr=>True:=⟨by rw[QO];exact aC⟩
instance {U d b n a} :au (CF U d b n a) (d.length<=1000000/\b=d.length/\0<=a/\a<=b/\b - a<n) λr=>True:=by induction n generalizing a with|zero=>exact bJ|succ n e=>exact ⟨by rw[CF];exact aC⟩
instance {a U} :au (QC N a U) (a.l.length<=1000) λr=>True:=⟨by rw[QC];exact aC⟩
instance {d b n e a} :au (DP d b n e a) (d.length<=1000000/\b=d.length/\0<=a/\a<=b/\b - a<n) λr=>True:=by induction n generalizing e a with|zero=>exact bJ|succ n f=>exact ⟨by rw[DP];exact aC⟩
instance {a U} :au (R3 N a U) (a.l.length<=1000/\0<=U/\U<a.l.length) λr=>True:=⟨by rw[R3];exact aC⟩
instance {b d a e} :au (Mv N b d a e) (a.l.length<=1000/\0<=b/\b<a.l.length) λr=>True:=⟨by rw[Mv];exact aC⟩
instance {b U d a} :au (QP N b U d a) (a.l.length<=1000/\0<=b/\b<a.l.length) λr=>True:=⟨by rw[QP];exact aC⟩
instance {U d b n a} :au (Dl N U d b n a) (d=U.2.l/\d.length<=1000/\b=d.length/\0<=a/\a<=b/\b - a<n) λr=>True:=by induction n generalizing a with|zero=>exact bJ|succ n e=>exact ⟨by rw[Dl];exact aC⟩
instance {a U} :au (QD N a U) (a.l.length<=1000/\U.2=a) λr=>True:=⟨by rw[QD];exact aC⟩
instance {a b} :au (OH a b) (True) λr=>True:=⟨by rw[OH];exact aC⟩
instance {b U} :au (Sm N b U) (b.l.length<=1000/\b.off.length<=1000000/\0<=U.a) λr=>True:=⟨by rw[Sm];exact aC⟩
instance {f d e n b} :au (Dh N f d e n b) (f.l.length<=1000/\f.off.length<=1000000/\(∀r∈d,0<=r.a)/\d.length<=1000000/\e=d.length/\0<=b/\b<=e/\e - b<n) λr=>True:=by induction n generalizing b with|zero=>exact bJ|succ n g=>exact ⟨by rw[Dh];exact aC⟩
instance {a U b} :au (Ht N a U b) (a.length<=32/\(∀i r,al a i=J r->10*i+1<=r.number/\r.number<=10*i+9/\pV r)/\U.length<=1000/\(∀w∈U,w.number.length<=1000000/\w.dest.length<=1000000)/\b.length<=1000000) λr=>True:=⟨by rw[Ht];(repeat' with_reducible first|intro _|apply dq|apply dh|refine dj (by omega) ?_|apply di|apply dk|apply df|apply eC|apply dr|apply dg)<;>first|grind -mbtc|grind -mbtc [uL]|((with_reducible repeat' apply oE)<;>first|grind -mbtc|(intro r m;obtain ⟨i,e⟩:=uL m;grind -mbtc))⟩
instance {b U a} :au (pM N b U a) (oF b/\U.name.length<=1000000/\U.c7.length<=1000000/\(∀d∈U.c7,d.length<=1000000)/\(∀w∈a,w.number.length<=1000000/\w.dest.length<=1000000)/\a.length<=1000) λr=>r.2.2.2=0->r.1.bD.length=a.length:=⟨by rw[pM];exact aC⟩
end
section
attribute [grind->] List.mem_of_mem_eraseIdx
variable {N:Nat} [gM N]
instance {a b d} :au (Rx N a b d) (jr a.c (bq.mk a.y.bD a.y.aH b a.y.busy a.y.bo a.y.cE)/\oF a.c/\a.r.final.bD=[]/\b.length<=1000000/\d.length<=1000000) λr=>r.1=0->rr (Step.mk a.c (bq.mk a.y.bD a.y.aH b a.y.busy a.y.bo a.y.cE) a.e a.r) r.2:=⟨by rw[Rx];(repeat' with_reducible first|intro _|apply dq|apply dh|refine dj (by omega) ?_|apply di|apply dk|apply df|apply eC|apply dr|apply dg)<;>first|grind -mbtc|((with_reducible repeat' apply oE)<;>grind -mbtc)|(rename_i g z;have g:=g z;dsimp only at g;refine ⟨?_,IX ?_ ?_ ?_ ?_ ?_ ?_ ?_ ?_ ?_, ?_, ?_⟩<;>first|grind -mbtc|grind -mbtc [gH]|grind -mbtc [pY])⟩
end
section
def Ts (c:c8) (y:bq) (p:bq×cI):Prop:=jr c p.1/\y.bD<+:p.1.bD/\aCq c.aH (lens p.1.bD) p.2.vv y.aH p.1.aH
attribute [grind] Ts
variable {N:Nat} [gM N]
instance {a d b f g} :au (S5 N a d b f g) (jr a.c (bq.mk d a.y.aH b a.y.busy a.y.bo a.y.cE)/\oF a.c/\iW a.e/\a.r.final.bD=[]/\a.r.vv=[]/\f=[]/\g.length<=1000/\d.length<=1000000/\b.length<=1000000/\f.length<=1000000) λr=>r.1=0->rr (Step.mk a.c (bq.mk d a.y.aH b a.y.busy a.y.bo a.y.cE) a.e a.r) r.2:=⟨by rw[S5];exact aC⟩
instance {d U l} :au (rl N d U l) (jr d U/\oF d/\iW l) λr=>Ts d U r:=⟨by rw[rl];(repeat' with_reducible first|intro _|apply dq|apply dh|refine dj (by omega) ?_|apply di|apply dk|apply df|apply eC|apply dr|apply dg)<;>first|(rename_i g _ _ _ _ _ _ _ y e h;obtain ⟨f,a,b⟩:=h;(try dsimp only);rw[f,a,b];exact ⟨g.1,ap1,aFx,by simp⟩)|(rename_i g y e h z n a b;obtain ⟨m,i,j⟩:=h;(try dsimp only at a);(try dsimp only at b);rw[m,i,j] at a;have k:=a (by simpa using b);clear a e n m i j;grind -mbtc)|grind -mbtc|((with_reducible repeat' apply oE)<;>first|grind -mbtc|(rename_i g y e h;obtain ⟨f,a,b⟩:=h;dsimp only;rw[f,a,b];exact g.1))⟩
end
section
def azU {a:Type} {e:Option a} {P Q:a->Prop} (h:Ok e P) (k:Ok e Q):Ok e λr=>P r/\Q r:=⟨h.1,λr x=>⟨h.2 r x,k.2 r x⟩⟩
def az5:List (List UInt8)->List UInt8->Int->Int|[],_,_=> -1|a::l,d,k=>if a=d then k else az5 l d (k+1)
def az6:List b7->List UInt8->Int->Int×Int|[],_,_=>(-1, -1)|o::l,d,k=>if 0<=az5 o.c7 d 0 then (k,az5 o.c7 d 0) else az6 l d (k+1)
attribute [grind=] az5 az6
def aAE (a:List b7) (w:bC):c4:=c4.mk (az6 a w.dest 0).1 (az6 a w.dest 0).2 0 w.length
def azO (y:bq) (b:List c4) (d:List Int):Prop:=∀k a i w,al b k=J a->al d k=J i->al y.bD i=J w->a=aAE y.b2 w
def az8 (a r:List c4) (x:List Int):Prop:=∀k b i,al r k=J b->al x k=J i->al a i=J b
def az' (a x r:List Int):Prop:=∀k w i,al r k=J w->al x k=J i->al a i=J w
def aGm {y:bq} {a r:List c4} {m x l:List Int} (h:azO y a m) (j:az8 a r x) (w:az' m x l) (e:r.length=x.length):azO y r l:=λk d i v f g o=>by
 have q:=ku f;obtain ⟨z,b⟩:=hT (xs:=x) (i:=k) q.1 (by omega);exact h z d i v (j k d z f b) (w k i z g b) o
def aER {y:bq} {g:List c4} {d:List Int} (h:azO y g d) (l:g.length=d.length) (r:∀i∈d,0<=i/\i<y.bD.length):∀i∈g,i.round=0:=λj m=>by
 obtain ⟨k,e⟩:=uL m;have q:=ku e;obtain ⟨i,b⟩:=hT (xs:=d) (i:=k) q.1 (by omega);have a:=r i (lP b);obtain ⟨w,f⟩:=hT (xs:=y.bD) (i:=i) a.1 a.2;rw[h k j i w e b f];rfl
variable {N:Nat} [gM N]
instance (priority:=high) {d U e n b} :au (Dx d U e n b) (d.length<=1000000/\e=d.length/\0<=b/\b<=e/\e - b<n) λr=>iX r (λ_=>az5 (d.drop b.toNat) U b= -1/\U∉d.drop b.toNat)/\fh r λa=>az5 (d.drop b.toNat) U b=a/\al d a=J U:=by induction n generalizing b with|zero=>exact bJ|succ n f=>exact ⟨by rw[Dx];exact aC⟩
instance (priority:=high) {a U} :au (z6 N a U) (a.length<=1000000) λr=>((r= -1/\U∉a)\/al a r=J U)/\r=az5 a U 0:=⟨by rw[z6];exact aC⟩
instance (priority:=high) {U d n b} :au (GG U d n b) (d.c7.length<=1000000/\0<=b/\b<=(d.c7.length:Int)/\(d.c7.length:Int) - b<n) λr=>iX r (λ_=>az5 (d.c7.drop b.toNat) U b= -1)/\fh r λa=>az5 (d.c7.drop b.toNat) U b=a:=by induction n generalizing b with|zero=>exact bJ|succ n e=>exact ⟨by rw[GG];exact aC⟩
instance (priority:=high) {a U} :au (SZ N a U) (a.c7.length<=1000000) λr=>r=az5 a.c7 U 0:=⟨by rw[SZ];exact aC⟩
instance (priority:=high) {U f e d n b} :au (aIV N U e d f n b) (0<=U/\U<e.bD.length/\(∀o∈d,o.c7.length<=1000000)/\d.length<=1000000/\f=d.length/\0<=b/\b<=f/\f - b<n) λr=>iX r (λ_=>∀w,al e.bD U=J w->(∀o∈d.drop b.toNat,w.dest∉o.c7)/\az6 (d.drop b.toNat) w.dest b=(-1, -1))/\fh r λa=>0<=a.1/\a.1<d.length/\(∃w,al e.bD U=J w/\∃o∈d,w.dest∈o.c7)/\∀w,al e.bD U=J w->az6 (d.drop b.toNat) w.dest b=a:=by induction n generalizing b with|zero=>exact bJ|succ n g=>exact ⟨by rw[aIV];exact aC⟩
instance (priority:=high) {a U} :au (R5 N a U) (a.b2.length<=1000000/\(∀o∈a.b2,o.c7.length<=1000000)/\0<=U/\U<a.bD.length) λr=>((r.1= -1/\¬nV a U)\/(0<=r.1/\r.1<a.b2.length/\nV a U))/\∀w,al a.bD U=J w->r=az6 a.b2 w.dest 0:=⟨by rw[R5];(repeat' with_reducible first|intro _|apply dq|apply dh|refine dj (by omega) ?_|apply di|apply dk|apply df|apply eC|apply dr|apply dg)<;>first|grind -mbtc|grind -mbtc [nV]⟩
instance (priority:=high) {a U} :au (S6 N a U) (a.b2.length<=1000000/\(∀o∈a.b2,o.c7.length<=1000000)/\0<=U/\U<a.bD.length) λr=>(0<=r.1.dS->r.1.dS<a.b2.length/\nV a U)/\(r.2=aa->0<=r.1.dS)/\∀w,al a.bD U=J w->r.1=aAE a.b2 w:=⟨by rw[S6];(repeat' with_reducible first|intro _|apply dq|apply dh|refine dj (by omega) ?_|apply di|apply dk|apply df|apply eC|apply dr|apply dg)<;>first|grind -mbtc|grind -mbtc [aAE]⟩
instance (priority:=high) {d U n b} :au (O0 N d U n b) ((∀o∈d,o.c7.length<=1000000)/\d.length<=1000000/\0<=b/\b<=(d.length:Int)/\(d.length:Int) - b<n) λr=>iX r (λ_=>az6 (d.drop b.toNat) U b=(-1, -1))/\fh r λa=>az6 (d.drop b.toNat) U b=a:=by induction n generalizing b with|zero=>exact bJ|succ n e=>exact ⟨by rw[O0];exact aC⟩
instance (priority:=high) {a U} :au (S3 N a U) ((∀o∈a,o.c7.length<=1000000)/\a.length<=1000000) λr=>r=az6 a U 0:=⟨by rw[S3];exact aC⟩
instance (priority:=high) {a U} :au (H5 N a U) ((∀o∈a,o.c7.length<=1000000)/\a.length<=1000000) λr=>r=aAE a U:=⟨by rw[H5];(repeat' with_reducible first|intro _|apply dq|apply dh|refine dj (by omega) ?_|apply di|apply dk|apply df|apply eC|apply dr|apply dg)<;>first|grind -mbtc|grind -mbtc [aAE]⟩
instance (priority:=high) {b d g n h e f} :au (aEe N b d g n h e f) (jr b.c b.y/\(∀i∈d,0<=i/\i<b.y.bD.length)/\g=d.length/\d.length<=1000000/\0<=e/\e<=g/\g - e<n/\f.length=e/\(∀i∈f,0<=i.dS/\i.dS<b.y.b2.length)/\azO b.y f d) λr=>iX r (λa=>a.2.length=d.length/\(∀i∈d.drop e.toNat,nV b.y i)/\(∀i∈a.2,0<=i.dS/\i.dS<b.y.b2.length)/\azO b.y a.2 d/\a.1.dO=h.dO)/\fh r λa=>a≠0:=by induction n generalizing h e f with|zero=>exact bJ|succ n j=>exact ⟨by rw[aEe];(repeat' with_reducible first|intro _|apply dq|apply dh|refine dj (by omega) ?_|apply di|apply dk|apply df|apply eC|apply dr|apply dg)<;>first|grind -mbtc|grind -mbtc [azO]⟩
instance (priority:=high) {U a e n f b d} :au (aIS N U a e n f b d) (U.b2.length<=8/\(∀o∈U.b2,o.c7.length<=1000000)/\(∀i∈a,0<=i/\i<U.bD.length)/\a.length<=1000000/\e=a.length/\0<=b/\b<=e/\e - b<n/\d.length=b/\yk U d a/\azO U d a) λr=>r.2.length=a.length/\yk U r.2 a/\azO U r.2 a:=by induction n generalizing f b d with|zero=>exact bJ|succ n g=>exact ⟨by rw[aIS];(repeat' with_reducible first|intro _|apply dq|apply dh|refine dj (by omega) ?_|apply di|apply dk|apply df|apply eC|apply dr|apply dg)<;>first|grind -mbtc|((with_reducible repeat' apply oE)<;>first|grind -mbtc|grind -mbtc [yk]|grind -mbtc [azO])⟩
instance (priority:=high) {b a f n g d e} :au (aIW b a f n g d e) ((∀i∈a,0<=i/\i<b.items.length)/\a.length<=100000000/\f=a.length/\0<=d/\d<=f/\f - d<n/\e.length=d/\(∀i∈e,i∈b.items)/\az8 b.items e a) λr=>r.2.length=a.length/\(∀i∈r.2,i∈b.items)/\az8 b.items r.2 a/\r.1.dO=g.dO:=by induction n generalizing g d e with|zero=>exact bJ|succ n h=>exact ⟨by rw[aIW];(repeat' with_reducible first|intro _|apply dq|apply dh|refine dj (by omega) ?_|apply di|apply dk|apply df|apply eC|apply dr|apply dg)<;>first|grind -mbtc|grind -mbtc [az8]⟩
instance (priority:=high) {a b f n e d} :au (aIF a b f n e d) ((∀i∈b,0<=i/\i<a.length)/\a.length<=1000000/\b.length<=1000000/\f=b.length/\0<=d/\d<=f/\f - d<n/\e.length=d/\(∀w∈e,w∈a)/\az' a b e) λr=>r.length=b.length/\(∀w∈r,w∈a)/\az' a b r:=by induction n generalizing e d with|zero=>exact bJ|succ n g=>exact ⟨by rw[aIF];(repeat' with_reducible first|intro _|apply dq|apply dh|refine dj (by omega) ?_|apply di|apply dk|apply df|apply eC|apply dr|apply dg)<;>first|grind -mbtc|grind -mbtc [az']⟩
instance (priority:=high) {a} :au (RI N a) (a.aH.length<=24/\(∀t∈a.aH,t.length<=40000/\∀i∈t,0<=i/\i<a.bD.length)/\a.bo.bD.length<=1000/\a.b2.length<=8/\(∀o∈a.b2,o.c7.length<=1000000)) λr=>r.2.2=0->r.1.items.length=r.2.1.length/\r.1.homes.length=a.b2.length/\(∀t∈r.1.aH,t.length<=40000)/\(∀w∈r.2.1,(∃u∈a.aH,w∈u)/\0<=w/\w<a.bD.length)/\yk a r.1.items r.2.1/\azO a r.1.items r.2.1:=⟨by rw[RI];(repeat' with_reducible first|intro _|apply dq|apply dh|refine dj (by omega) ?_|apply di|apply dk|apply df|apply eC|apply dr|apply dg)<;>first|grind -mbtc|grind -mbtc [yk,azO]⟩
instance (priority:=high) {a U b} :au (SF N a U b) ((∀t∈a.aH,t.length<=40000)/\U.length<=1000000) λr=>r.2.2=0->r.1.items.length=r.2.1.length/\r.2.1.length<=96/\(∀i∈r.2.1,0<=i/\i<a.items.length)/\(∀i∈r.1.items,0<=i.dS/\i.dS<a.homes.length)/\gu a/\az8 a.items r.1.items r.2.1/\r.1.dO=b:=⟨by rw[SF];simp only[yo];(repeat' with_reducible first|intro _|apply dq|apply dh|refine dj (by omega) ?_|apply di|apply dk|apply df|apply eC|apply dr|apply dg)<;>first|grind -mbtc|grind -mbtc [AD]|((with_reducible repeat' apply oE)<;>first|grind -mbtc|grind -mbtc [AD]|grind -mbtc [az8])⟩
end
section
def ayE (a:List Int) (i:Int):Int:=(al a i).getD 0
theorem eI {a:List Int} {i w:Int} (e:al a i=J w):ayE a i=w:=by unfold ayE;rw[e];rfl
def azP (b r a:List Int):Prop:=(r.map (ayE b)).Sublist a
theorem aGJ {d r a b:List Int} (h:azP d r a) (k:a.Sublist b):azP d r b:=h.trans k
def aGK {a r p l:List Int} {k w:Int} (e:al l k=J w) (h:azP a r ((p++[w])++l.drop (k+1).toNat)):azP a r (p++l.drop k.toNat):=by
 rw[sT e];simpa using h
theorem aGG {a x p:List Int} {w:Int} (h:azP a x p):azP a x (p++[w]):=h.trans (aAB _ _)
theorem aGH {a x p:List Int} {w i:Int} (h:azP a x p) (e:al a i=J w):azP a (x++[i]) (p++[w]):=by
 unfold azP;rw[aIG,List.map_singleton,eI e];exact h.append_right [w]
theorem aGI {a x p l:List Int} {k:Int} (h:azP a x p):azP a x (p++l.drop k.toNat):=h.trans (aAB _ _)
def aGL {b p:List Int} {o:List (List Int)} {r l:List Int} {s:List (List Int)} {k:Int} (e:al s k=J l) (h:azP b o.flatten p) (g:∀p,azP b [] p->azP b r (p++l.drop (0:Int).toNat)):azP b (o++[r]).flatten (p++l):=by
 have a:=g [] (aGr _);simp at a;unfold azP at*;rw[aET,aIG];simpa using h.append a
theorem aFd {s:List (List Int)} {k:Int} {l:List Int} (e:al s k=J l):(s.drop k.toNat).flatten=l++(s.drop (k+1).toNat).flatten:=by rw[sT e];rfl
def az3 (s:List (List Int)) (t:Int):Prop:=∀k q,t<=k->al s k=J q->q=[]
def aHf {s:List (List Int)} (h:∀q∈s,q=[]):s.flatten=[]:=by
 rw[List.flatten_eq_nil_iff];exact h
theorem aH' {s:List (List Int)} {t:Int} {q:List Int} {i:Int} (e:al s t=J q) (h:az3 s (t+1)):(s.set t.toNat (q++[i])).flatten=s.flatten++[i]/\az3 (s.set t.toNat (q++[i])) (t+1):=by
 have l:=ku e;refine ⟨?_,λk p j f=> ?_⟩
 ·have d:(s.drop (t+1).toNat).flatten=[]:=aHf λp m=>by
   obtain ⟨k,f⟩:=uL m;have g:=ku f;refine h (t+1+k) p (by omega) ?_;unfold al at f⊢;rw[if_pos g.1] at f;rw[if_pos (by omega),<-f,aIQ];congr 1;omega
  have a:s.flatten=(s.take t.toNat).flatten++q:=by
   conv=>lhs;rw[<-aFu t.toNat s,aET,aFd e,d,aI1]
  have b:s.set t.toNat (q++[i])=s.take t.toNat++(q++[i])::s.drop (t+1).toNat:=by rw[List.set_eq_take_append_cons_drop,if_pos (by omega),show (t+1).toNat=t.toNat+1 by omega]
  rw[b,aET,yn,d,a];simp
 ·rw[rM l.1 l.2,if_neg (by omega)] at f;exact h k p j f
theorem aGN {s:List (List Int)} {t u:Int} (h:az3 s t) (k:t<=u):az3 s u:=λa q l e=>h a q (by omega) e
theorem aGO {n:Nat} {t:Int}:az3 (gb n []) t:=λk q l e=>ym (lP e)
variable {N:Nat} [gM N]
instance (priority:=high) {a e b d} :au (aI3 N a e d b) (0<=d/\d<e.length/\a.length<=1000000/\e.length<=1000000/\b.length<=1000000) λr=>r.length<=a.length+1/\∀p w,al e d=J w->azP b a p->azP b r (p++[w]):=⟨by rw[aI3];(repeat' with_reducible first|intro _|apply dq|apply dh|refine dj (by omega) ?_|apply di|apply dk|apply df|apply eC|apply dr|apply dg)<;>first|grind -mbtc|grind -mbtc [aGG]|grind -mbtc [aGH]⟩
instance (priority:=high) {b f g n d a} :au (aIU N b g f n d a) (b.length<=1000000/\f.length<=1000000/\g=b.length/\0<=a/\a<=g/\g - a<n/\d.length<=a) λr=>r.length<=b.length/\∀p,azP f d p->azP f r (p++b.drop a.toNat):=by induction n generalizing d a with|zero=>exact bJ|succ n k=>exact ⟨by rw[aIU];(repeat' with_reducible first|intro _|apply dq|apply dh|refine dj (by omega) ?_|apply di|apply dk|apply df|apply eC|apply dr|apply dg)<;>first|grind -mbtc|grind -mbtc [j]|(refine ⟨by grind -mbtc,λp h=> ?_⟩;obtain ⟨w,e⟩:=hT (xs:=b) (i:=a) (by omega) (by omega);refine aGK e ?_;grind -mbtc)⟩
instance (priority:=high) {f j i n k d g} :au (aIT N f j i n k d g) (f.length<=24/\(∀t∈f,t.length<=40000)/\i.length<=1000000/\j=f.length/\0<=d/\d<=j/\j - d<n/\g.length<=d/\(∀t∈g,t.length<=40000)) λr=>r.2.length<=24/\(∀t∈r.2,t.length<=40000)/\∀p,azP i g.flatten p->azP i r.2.flatten (p++(f.drop d.toNat).flatten):=by induction n generalizing k d g with|zero=>exact bJ|succ n m=>exact ⟨by rw[aIT];(repeat' with_reducible first|intro _|apply dq|apply dh|refine dj (by omega) ?_|apply di|apply dk|apply df|apply eC|apply dr|apply dg)<;>first|grind -mbtc|grind -mbtc [aGJ]|(rename_i z e t s x h w y l r q;refine ⟨by grind -mbtc,by grind -mbtc,λp a=> ?_⟩;subst l;rw[aFd e,<-IH];have b:=q.2.2 _ (aGL e a h.2);rwa [Qb (by omega) (by omega)] at b)|(refine ⟨by grind -mbtc,by grind -mbtc,λp a=>a.trans (aAB _ _)⟩)⟩
instance (priority:=high) {a} :au (RI N a) (a.aH.length<=24/\(∀t∈a.aH,t.length<=40000/\∀i∈t,0<=i/\i<a.bD.length)/\a.bo.bD.length<=1000/\a.b2.length<=8/\(∀o∈a.b2,o.c7.length<=1000000)) λr=>(r.2.2=0->r.1.items.length=r.2.1.length/\r.1.homes.length=a.b2.length/\(∀t∈r.1.aH,t.length<=40000)/\(∀w∈r.2.1,(∃u∈a.aH,w∈u)/\0<=w/\w<a.bD.length)/\yk a r.1.items r.2.1/\azO a r.1.items r.2.1)/\(r.2.2=0->azP r.2.1 r.1.aH.flatten a.aH.flatten):=⟨λb=>azU (au.ok (e:=RI N a) (by grind -mbtc)) (by revert b;rw[RI];(repeat' with_reducible first|intro _|apply dq|apply dh|refine dj (by omega) ?_|apply di|apply dk|apply df|apply eC|apply dr|apply dg)<;>first|grind -mbtc|(rename_i h _;have:=h.2.2 [] (aGr _);simpa using this)|grind -mbtc [yk,azO])⟩
instance (priority:=high) {U g a b f d} :au (Nf N U g a b d f) (0<=b/\b<a.length/\0<=f/\f<d.length/\a.flatten.length<=100000000/\az3 a (b+1)/\U.length<=1000000/\a.length<=1000000/\d.length<=1000000) λr=>(r.length=a.length/\r.flatten.length<=a.flatten.length+1/\∀i∈r.flatten,i∈a.flatten\/i∈d)/\az3 r (b+1)/\∀w,al d f=J w->r.flatten=a.flatten\/r.flatten=a.flatten++[w]:=⟨λh=>azU (au.ok (e:=Nf N U g a b d f) (by grind -mbtc)) (by revert h;rw[Nf];(repeat' with_reducible first|intro _|apply dq|apply dh|refine dj (by omega) ?_|apply di|apply dk|apply df|apply eC|apply dr|apply dg)<;>first|grind -mbtc|grind -mbtc [aH'])⟩
instance (priority:=high) {U k g j f n a d} :au (D8 N U k g f j n a d) (0<=g/\U.length<=1000000/\f.length<=1000000/\j=f.length/\0<=d/\d<=j/\j - d<n/\g<a.length/\a.flatten.length<=90000000+d/\a.length<=1000000/\az3 a (g+1)) λr=>(r.length=a.length/\r.flatten.length<=a.flatten.length+(j - d)/\∀i∈r.flatten,i∈a.flatten\/i∈f)/\az3 r (g+1)/\∀p,a.flatten.Sublist p->r.flatten.Sublist (p++f.drop d.toNat):=by induction n generalizing a d with|zero=>exact bJ|succ n t=>exact ⟨λs=>azU (au.ok (e:=D8 N U k g f j (n+1) a d) (by grind -mbtc)) (by revert s;rw[D8];(repeat' with_reducible first|intro _|apply dq|apply dh|refine dj (by omega) ?_|apply di|apply dk|apply df|apply eC|apply dr|apply dg)<;>first|grind -mbtc|(refine ⟨by grind -mbtc,λp h=> ?_⟩;obtain ⟨w,e⟩:=hT (xs:=f) (i:=d) (by omega) (by omega);rw[sT e,<-List.singleton_append,<-IH];rename_i y x m r l;have b:=l.2.2 (p++[w]) (by rcases m.2.2 w e with q|q<;>rw[q];exact h.trans (aAB _ _);exact h.append_right [w]);rwa [Qb (by omega) (by omega)] at b)|(refine ⟨by grind -mbtc,λp h=>h.trans (aAB _ _)⟩))⟩
instance (priority:=high) {U j a g n f d} :au (D7 N U j a g n f d) (a.length<=24/\(∀t∈a,t.length<=40000)/\U.length<=1000000/\g=a.length/\0<=d/\d<=g/\g - d<n/\f.length=a.length/\f.flatten.length<=40000*d/\az3 f d) λr=>(r.length=a.length/\r.flatten.length<=960000/\∀i∈r.flatten,i∈f.flatten\/i∈a.flatten)/\∀p,f.flatten.Sublist p->r.flatten.Sublist (p++(a.drop d.toNat).flatten):=by induction n generalizing f d with|zero=>exact bJ|succ n q=>exact ⟨λm=>azU (au.ok (e:=D7 N U j a g (n+1) f d) (by grind -mbtc)) (by revert m;rw[D7];(repeat' with_reducible first|intro _|apply dq|apply dh|refine dj (by omega) ?_|apply di|apply dk|apply df|apply eC|apply dr|apply dg)<;>first|grind -mbtc|grind -mbtc [aGN]|(rename_i e _ y s l r k;intro p h;rw[aFd e,<-IH];have b:=k.2 _ (l.2.2 p h);rw[Jn,Qb (by omega) (by omega)] at b;exact b)|(intro p h;exact h.trans (aAB _ _)))⟩
instance (priority:=high) {a U b} :au (RX N a U b) (a.aH.length<=24/\(∀t∈a.aH,t.length<=40000)/\U.length<=1000000) λr=>(r.length<=24/\r.flatten.length<=960000/\∀i∈r.flatten,i∈a.aH.flatten)/\r.flatten.Sublist a.aH.flatten:=⟨λd=>azU (au.ok (e:=RX N a U b) (by grind -mbtc)) (by revert d;rw[RX];(repeat' with_reducible first|intro _|apply dq|apply dh|refine dj (by omega) ?_|apply di|apply dk|apply df|apply eC|apply dr|apply dg)<;>first|grind -mbtc|grind -mbtc [aGO]|(rename_i h;have:=h.2 [] (by grind -mbtc);simpa[Jn] using this))⟩
instance (priority:=high) {a U b} :au (SF N a U b) ((∀t∈a.aH,t.length<=40000)/\U.length<=1000000) λr=>(r.2.2=0->r.1.items.length=r.2.1.length/\r.2.1.length<=96/\(∀i∈r.2.1,0<=i/\i<a.items.length)/\(∀i∈r.1.items,0<=i.dS/\i.dS<a.homes.length)/\gu a/\az8 a.items r.1.items r.2.1/\r.1.dO=b)/\(r.2.2=0->r.2.1.Sublist a.aH.flatten):=⟨λd=>azU (au.ok (e:=SF N a U b) (by grind -mbtc)) (by revert d;rw[SF];simp only[yo];(repeat' with_reducible first|intro _|apply dq|apply dh|refine dj (by omega) ?_|apply di|apply dk|apply df|apply eC|apply dr|apply dg)<;>first|grind -mbtc|grind -mbtc [AD]|((with_reducible repeat' apply oE)<;>first|grind -mbtc|grind -mbtc [AD]|grind -mbtc [az8]))⟩
instance (priority:=high) {a b g n f d} :au (aIF a b g n f d) ((∀i∈b,0<=i/\i<a.length)/\a.length<=1000000/\b.length<=1000000/\g=b.length/\0<=d/\d<=g/\g - d<n/\f.length=d/\(∀w∈f,w∈a)/\az' a b f) λr=>(r.length=b.length/\(∀w∈r,w∈a)/\az' a b r)/\r=f++(b.drop d.toNat).map (ayE a):=by induction n generalizing f d with|zero=>exact bJ|succ n j=>exact ⟨λh=>azU (au.ok (e:=aIF a b g (n+1) f d) (by grind -mbtc)) (by revert h;rw[aIF];(repeat' with_reducible first|intro _|apply dq|apply dh|refine dj (by omega) ?_|apply di|apply dk|apply df|apply eC|apply dr|apply dg)<;>first|grind -mbtc|((with_reducible repeat' apply oE)<;>first|grind -mbtc|grind -mbtc [az'])|grind -mbtc [eI])⟩
end
section
def aHm {s:List (List Int)} (N:s.flatten.Nodup) {a b w:Int} {t u:List Int} (e:al s a=J t) (d:al s b=J u) (f:w∈t) (h:w∈u):a=b:=by
 by_cases q:a=b
 ·exact q
 ·exfalso;have j:=ku e;have i:=ku d;have p:=aag e;have g:w∈(s.eraseIdx a.toNat).flatten:=by
   have m:u∈s.eraseIdx a.toNat:=by rw[List.mem_eraseIdx_iff_getElem?];refine ⟨b.toNat,by omega, ?_⟩;simpa[al,i.1] using d
   exact AD.mpr ⟨u,m,h⟩
  have:=p.1.nodup_iff.mp N;rw[aEU] at this;exact this.2.2 w f w g rfl
def aHe {t:List Int} {b:Nat} {w:Int} (N:t.Nodup) (h:b<t.length) (e:t[b]=w):t.eraseIdx b=t.filter λi=>i !=w:=by
 have p:t=t.take b++w::t.drop (b+1):=by have:=aFu b t;rw[List.drop_eq_getElem_cons h,e] at this;exact this.symm
 rw[List.eraseIdx_eq_take_drop_succ]
 conv=>rhs;rw[p]
 rw[p,aEU,TB] at N;have f (x:List Int) (q:w∉x):x.filter (λi=>i !=w)=x:=by rw[aES];intro a m;simp;rintro rfl;exact q m
 rw[aLC,aI9,if_neg (by simp),f _ λm=>N.2.2 w m w (by simp) rfl,f _ N.2.1.1]
def aGM {T:List eE} {B:List Int} {n:Nat} {m:cn} {s u:List (List Int)} (V:iY T B s) (h:aAq n m s u) (j:0<=m.to) {t:Int} {p:List Int} (e:al s t=J p):al u t=J (p.filter (λi=>i !=m.hX)++if t=m.to then [m.hX] else []):=by
 obtain ⟨R,fn,E,b,w,W,x,y⟩:=h;have N:=V.1.2.2.1.1;have C {t:Int} {p:List Int} (e:al s t=J p):p.Nodup:=N.sublist (af4 (lP e));have f {p:List Int} (q:m.hX∉p):p.filter (λi=>i !=m.hX)=p:=by rw[aES];intro a k;simp;rintro rfl;exact q k
 have A:w.length=s.length/\∀t p,al s t=J p->al w t=J (p.filter λi=>i !=m.hX):=by
  rcases W with ⟨a,k⟩|⟨q,a,k⟩
  ·rw[x.1 (by omega)];exact ⟨rfl,λt p e=>by rw[e,f λg=>k (AD.mpr ⟨p,lP e,g⟩)]⟩
  ·have l:=ku a;have d:=ku k;rw[x.2 l.1 q a];refine ⟨by simp,λt p e=> ?_⟩;rw[rM l.1 l.2];split
   ·rename_i z;subst z;rw[a] at e;cases e;rw[aHe (C a) (by omega) (by
     have:q[b.toNat]? =J m.hX:=by simpa[al,d.1] using k
     exact (fq.mp this).2)]
   ·rename_i z;rw[e,f λg=>z (aHm N e a g (lP k))]
 have l:=ku e;obtain ⟨q,r⟩:=hT (xs:=w) (i:=m.to) j (by omega);rw[y.2 j q r,rM j (by omega)];split
 ·rename_i z;subst z;rw[A.2 _ _ e] at r;cases r;rfl
 ·rw[A.2 _ _ e];simp
def aIZ (T:List eE) (a:List Int) (s:List (List Int)) (m:cn):Prop:=(0<=m.hX/\m.hX<a.length/\0<=m.from_/\m.from_<s.length/\0<=m.to/\m.to<s.length)/\m.front=ak/\(∃q,al s m.from_=J q/\m.hX∈q)/\(m.to≠m.from_->∀x t,al T m.to=J x->al s m.to=J t->km a t+(al a m.hX).getD 0<=x.length)
def aIO (T:List eE) (a:List Int):List cn->List (List Int)->Prop|[],_=>True|m::l,s=>aIZ T a s m/\∀u,aAq a.length m s u->iY T a u->aIO T a l u
def aMI {T:List eE} {d:List Int} {s:List (List Int)} {m:cn} {a b:Int} (V:iY T d s) (A:aIZ T d s m) (W:(a= -1/\m.hX∉s.flatten)\/∃t,al s a=J t/\al t b=J m.hX):a=m.from_:=by
 obtain ⟨q,e,k⟩:=A.2.2.1;rcases W with ⟨_,n⟩|⟨t,f,g⟩
 ·exact absurd (AD.mpr ⟨q,lP e,k⟩) n
 ·exact aHm V.1.2.2.1.1 f e (lP g) k
theorem aMH {T:List eE} {a:List Int} {s:List (List Int)} {m:cn} (A:aIZ T a s m):(0<=m.hX/\m.hX<a.length/\0<=m.from_/\m.from_<s.length/\0<=m.to/\m.to<s.length)/\(m.to≠m.from_->∀x t,al T m.to=J x->al s m.to=J t->km a t+(al a m.hX).getD 0<=x.length):=⟨A.1,A.2.2.2⟩
theorem aMG {T:List eE} {a:List Int} {m:cn} {l:List cn} {s:List (List Int)} (h:aIO T a (m::l) s):aIZ T a s m/\∀u,aAq a.length m s u->iY T a u->aIO T a l u:=h
attribute [grind->] aMH aMG
theorem aMR {a:List Bool} {s:List (List Int)} {k:Int} {t:List Int} (e:al s k=J t) (h:yp a (s.drop k.toNat).flatten):yp a t/\yp a (t++(s.drop (k+1).toNat).flatten):=by
 rw[sT e,yn] at h;exact ⟨⟨(aEU.mp h.1).1,λi m=>h.2 i (kU.mpr (.inl m))⟩,h⟩
attribute [grind->] aMR
variable {N:Nat} [gM N]
instance (priority:=high) {b U a} :au (aDd b U a) (iY b U a/\b.length<=1000000/\U.length<=1000000/\a.length<=1000000) λr=>r=ak:=⟨by rw[aDd];exact aC⟩
instance (priority:=high) {a} :au (aDe a) (1<=a/\a<=400) λr=>r=ak:=⟨by rw[aDe];exact aC⟩
instance (priority:=high) {b d n a} :au (aAZ b d n a) ((∀l∈b,1<=l/\l<=400)/\d=b.length/\b.length<=1000000/\0<=a/\a<=d/\d - a<n) λr=>r= .inl ():=by induction n generalizing a with|zero=>exact bJ|succ n e=>exact ⟨by rw[aAZ];exact aC⟩
instance (priority:=high) {U a b} :au (aDf U a b) (a.length=U.length/\al a b=J ak/\U.length<=1000000) λr=>r=ak:=⟨by rw[aDf];exact aC⟩
instance (priority:=high) {U e f n d b} :au (aA1 U e f n d b) (e.length<=1000000/\f=e.length/\U.length<=1000000/\0<=b/\b<=f/\f - b<n/\d.length=U.length/\yp d (e.drop b.toNat)) λr=>∀R,yp d (e.drop b.toNat++R)->∃a,r= .inl a/\a.length=U.length/\yp a R:=by induction n generalizing d b with|zero=>exact bJ|succ n g=>exact ⟨by rw[aA1];exact aC⟩
instance (priority:=high) {a U b d} :au (aDg N a U d b) (0<=d/\d<a.length/\(∀i∈b,0<=i/\i<U.length)/\(∀l∈U,1<=l/\l<=400)/\mQ a/\(∀x,al a d=J x->km U b<=x.length)/\b.length<=1000000/\a.length<=1000000/\U.length<=1000000) λr=>r=ak:=⟨by rw[aDg];exact aC⟩
instance (priority:=high) {f U b e n d a} :au (aA0 N f U b e n d a) (iY f U b/\mQ f/\e=b.length/\f.length<=1000000/\U.length<=1000000/\b.length<=1000000/\0<=a/\a<=e/\e - a<n/\d.length=U.length/\yp d (b.drop a.toNat).flatten) λr=>r= .inl ():=by induction n generalizing d a with|zero=>exact bJ|succ n g=>exact ⟨by rw[aA0];exact aC⟩
instance (priority:=high) {a U b} :au (Ho N a U b) (iY a U b/\mQ a/\a.length<=1000000/\U.length<=1000000/\b.length<=1000000) λr=>r=aa:=⟨by rw[Ho];(repeat' with_reducible first|intro _|apply dq|apply dh|refine dj (by omega) ?_|apply di|apply dk|apply df|apply eC|apply dr|apply dg)<;>first|grind -mbtc|(subst_vars;simp only[sG,Jn,IF,AA] at*;grind -mbtc)⟩
instance (priority:=high) {U b a} :au (DJ U b a) (U.length<=1000000/\b.length<=1000000) λr=>(r=ak->0<=a.hX/\a.hX<U.length/\ -1<=a.from_/\a.from_<b.length/\ -1<=a.to/\a.to<b.length)/\(0<=a.hX->a.hX<U.length->0<=a.from_->a.from_<b.length->0<=a.to->a.to<b.length->r=ak):=⟨by rw[DJ];exact aC⟩
instance (priority:=high) {a b} :au (L0 a b) (True) λr=>(r=ak->b=a.from_/\(a.from_= -1->a.to≠ -1))/\(b=a.from_->0<=a.from_->r=ak):=⟨by rw[L0];exact aC⟩
instance (priority:=high) {d U b a} :au (aC5 N d U b a) (iY d U b/\(∀t∈b,t.length<=1000000)/\mQ d/\0<=a.hX/\a.hX<U.length/\a.to<b.length/\d.length<=1000000/\U.length<=1000000/\b.length<=1000000) λr=>(r.1=b/\(r.2=ak->0<=a.to->a.to≠a.from_->∀x t,al d a.to=J x->al b a.to=J t->km U t+(al U a.hX).getD 0<=x.length))/\((a.to≠a.from_->∀x t,al d a.to=J x->al b a.to=J t->km U t+(al U a.hX).getD 0<=x.length)->r.2=ak):=⟨λf=>azU (au.ok (e:=aC5 N d U b a) (by grind -mbtc)) (by revert f;rw[aC5];(repeat' with_reducible first|intro _|apply dq|apply dh|refine dj (by omega) ?_|apply di|apply dk|apply df|apply eC|apply dr|apply dg)<;>grind -mbtc)⟩
instance (priority:=high) {b U a d} :au (QZ N b U a d) (iY b U a/\mQ b/\d.front=ak/\b.length<=1000000/\U.length<=1000000/\a.length<=1000000) λr=>(r.1=0->iY b U r.2/\r.2.flatten.length=a.flatten.length+uG d/\mO [d] a r.2/\aAq U.length d a r.2)/\(aIZ b U a d->r.1=0):=⟨λf=>azU (au.ok (e:=QZ N b U a d) (by grind -mbtc)) (by revert f;rw[QZ];simp only[yo];(repeat' with_reducible first|intro _|apply dq|apply dh|refine dj (by omega) ?_|apply di|apply dk|apply df|apply eC|apply dr|apply dg)<;>first|grind -mbtc|(have W:=‹((_:Int)= -1/\_)\/_›;have:=aMI (And.left ‹iY b U a/\_›) ‹aIZ _ _ _ _› W;grind -mbtc))⟩
instance (priority:=high) {f U d h n g b} :au (Nw N f U d h n g b) (mQ f/\d.length<=1000000/\h=d.length/\(∀s∈d,s.front=ak)/\f.length<=1000000/\U.length<=1000000/\0<=b/\b<=h/\h - b<n/\iY f U g) λr=>(iX r (λa=>iY f U a/\a.flatten.length=g.flatten.length+lo (d.drop b.toNat)/\az1 f U (d.drop b.toNat) g a)/\fh r λa=>a.2≠0)/\fh r λ_=>¬aIO f U (d.drop b.toNat) g:=by induction n generalizing g b with|zero=>exact bJ|succ n j=>exact ⟨λi=>azU (au.ok (e:=Nw N f U d h (n+1) g b) (by grind -mbtc)) (by revert i;rw[Nw];(repeat' with_reducible first|intro _|apply dq|apply dh|refine dj (by omega) ?_|apply di|apply dk|apply df|apply eC|apply dr|apply dg)<;>grind -mbtc)⟩
instance (priority:=high) {b U a d} :au (Rv N b U a d) (oJ b U a/\mQ b/\U.length<=1000000/\(∀t∈a,t.length<=1000000)/\d.length<=1000000/\(∀s∈d,s.front=ak)/\iY b U a/\b.length<=1000000/\a.length<=1000000) λr=>(r.2.2=0->iY b U r.1/\r.1.flatten.length=a.flatten.length+lo d/\az1 b U d a r.1)/\(aIO b U d a->r.2.2=0):=⟨λf=>azU (au.ok (e:=Rv N b U a d) (by grind -mbtc)) (by revert f;rw[Rv];simp only[yo];(repeat' with_reducible first|intro _|apply dq|apply dh|refine dj (by omega) ?_|apply di|apply dk|apply df|apply eC|apply dr|apply dg)<;>first|grind -mbtc|(simp only[Jn] at*;grind -mbtc))⟩
instance (priority:=high) {a U} :au (HT N a U) (mQ a.c.aH/\oJ a.c.aH (lens a.y.bD) a.y.aH/\a.y.bD.length<=1000/\U.length<=1000000/\(∀s∈U,s.front=ak)/\iY a.c.aH (lens a.y.bD) a.y.aH) λr=>(r.1=0->r.2.c=a.c/\r.2.e=a.e/\r.2.y=bq.mk a.y.bD r.2.y.aH a.y.b2 a.y.busy a.y.bo a.y.cE/\r.2.r.vv=U/\iY a.c.aH (lens a.y.bD) r.2.y.aH/\r.2.y.aH.flatten.length=a.y.aH.flatten.length+lo U/\az1 a.c.aH (lens a.y.bD) U a.y.aH r.2.y.aH)/\(aIO a.c.aH (lens a.y.bD) U a.y.aH->r.1=0)/\(r.1=0->r.2.r.err=a.r.err):=⟨λb=>azU (au.ok (e:=HT N a U) (by grind -mbtc)) (by revert b;rw[HT];(repeat' with_reducible first|intro _|apply dq|apply dh|refine dj (by omega) ?_|apply di|apply dk|apply df|apply eC|apply dr|apply dg)<;>grind -mbtc)⟩
end
section
def aL0 (b:Int):Nat:=(j2 .i64 b).getD 0
theorem aJ1 {b:Int} {y:Nat} (e:j2 .i64 b=J y):aL0 b=y:=by unfold aL0;rw[e];rfl
def aIz (c b:Int):Bool:=ih .and .i64 (sE c ((2 ^ aL0 b:Nat):Int)) 1==1
def aLU {b:Type} {a:b} {l:List b} {k:Int} (h:0<k):al (a::l) k=al l (k - 1):=by
 unfold al;rw[if_pos (by omega),if_pos (by omega),show k.toNat=(k - 1).toNat+1 by omega,qH]
def aM6 {a:Type} {l:List a} {m k:Int} (d:0<=m) (b:0<=k):al (l.drop m.toNat) k=al l (m+k):=by
 unfold al;rw[if_pos b,if_pos (by omega),aIQ];congr 1;omega
def aLV {l:List Int} {a b t:Int} (N:l.Nodup) (e:al l a=J t) (f:al l b=J t):a=b:=by
 have d:=ku e;have g:=ku f;unfold al at e f;rw[if_pos d.1] at e;rw[if_pos g.1] at f;have:=(List.getElem?_inj (i:=a.toNat) (j:=b.toNat) (by omega) N).mp (e.trans f.symm);omega
def aIK:List Int->Int->Int->Int|[],_,_=> -1|a::l,w,k=>if a=w then k else aIK l w (k+1)
attribute [grind=] aIK
def aM9 {b:List Int} {k w j:Int} (N:b.Nodup) (e:al b k=J w):aIK b w j=j+k:=by
 induction b generalizing k j with
 |nil=>simp[al] at e
 |cons a l d=>
  rw[TB] at N;unfold aIK;have g:=ku e;by_cases q:k=0
  ·subst q;have:a=w:=by simpa[al] using e
   rw[if_pos this];omega
  ·have f:=e;rw[aLU (by omega)] at f;rw[if_neg (by rintro rfl;exact N.1 (lP f)),d N.2 f];omega
def aIw (y:bq) (w:Int):Int:=match al y.bD w with|some v=>(az6 y.b2 v.dest 0).1|none=> -1
def aIB (y:bq) (w:Int):Int:=match al y.b2 (aIw y w) with|some o=>o.cq|none=> -1
def aIA (p:eR) (w:Int):Int:=(al p.proof.e9.fW (aIK p.bD w 0)).getD 0
def aIy:List Int->Int->Int->Option Int|[],_,_=>ae|t::l,c,m=>if aIz c m=aa then J t else aIy l c (m+1)
def aIu (y:bq) (w m:Int):Int:=(aIy (y.bo.aH.drop m.toNat) (aIA y.bo w) m).getD (aIB y w)
def aIC (y:bq) (w:Int):Int:=if y.bo.h9=0 then y.bo.lead else aIu y w (y.bo.h9 - 1)
def aIx (y:bq):Int:=if y.bo.h9=0 then y.bo.lead else (al y.bo.aH (y.bo.h9 - 1)).getD (-1)
def aNQ {l:List Int} {c m t:Int} (h:aIy l c m=J t):∃b,m<=b/\al l (b - m)=J t/\aIz c b=aa:=by
 induction l generalizing m with
 |nil=>simp[aIy] at h
 |cons a l d=>
  unfold aIy at h;split at h
  ·rename_i q;exact ⟨m,by omega,by rw[show m - m=0 by omega];simpa[al] using h,q⟩
  ·obtain ⟨b,g,f,e⟩:=d h;exact ⟨b,by omega,by rw[aLU (by omega),show b - m - 1=b - (m+1) by omega];exact f,e⟩
def aLv {d:List Int} {c m t:Int} (g:0<=m) (h:aIy (d.drop m.toNat) c m=J t):∃b,m<=b/\al d b=J t/\aIz c b=aa:=by
 obtain ⟨b,f,a,e⟩:=aNQ h;rw[aM6 g (by omega),show m+(b - m)=b by omega] at a;exact ⟨b,f,a,e⟩
def aMc {y:bq} {w m t:Int} (e:al y.bo.aH m=J t):aIu y w m=if aIz (aIA y.bo w) m=aa then t else aIu y w (m+1):=by
 unfold aIu;rw[sT e]
 conv=>lhs;unfold aIy
 split<;>rfl
def aMV {y:bq} {w m:Int} (h:(y.bo.aH.length:Int)<=m):aIu y w m=aIB y w:=by
 unfold aIu;rw[axi h];rfl
def aNe {y:bq} {w:Int} (a:0<=y.bo.h9) (b:y.bo.h9<=y.bo.aH.length) (h:aIC y w≠aIx y):aIC y w=aIu y w y.bo.h9:=by
 unfold aIC aIx at*;split at h
 ·exact absurd rfl h
 ·rename_i z;rw[if_neg z];obtain ⟨t,e⟩:=hT (xs:=y.bo.aH) (i:=y.bo.h9 - 1) (by omega) (by omega);rw[e,aMc e] at h;rw[aMc e,show y.bo.h9 - 1+1=y.bo.h9 by omega] at*;split
  ·rename_i q;rw[if_pos q] at h;exact absurd rfl h
  ·rfl
def aM' {l:List (List UInt8)} {d:List UInt8} {k:Int} (e:0<=k) (h:d∈l):0<=az5 l d k:=by
 induction l generalizing k with
 |nil=>simp at h
 |cons a l b=>
  unfold az5;split
  ·exact e
  ·rename_i q;rcases ha.mp h with rfl|h
   ·exact absurd rfl q
   ·exact b (by omega) h
def aNb {b:List b7} {d:List UInt8} {k:Int} (h:∃o∈b,d∈o.c7):∃i o,(az6 b d k).1=k+i/\al b i=J o:=by
 induction b generalizing k with
 |nil=>obtain ⟨o,m,_⟩:=h;simp at m
 |cons a l f=>
  unfold az6;split
  ·exact ⟨0,a,by simp,by simp[al]⟩
  ·rename_i q;obtain ⟨o,m,g⟩:=h;rcases ha.mp m with rfl|m
   ·exact absurd (aM' (by omega) g) q
   ·obtain ⟨i,o,j,e⟩:=f (k:=k+1) ⟨o,m,g⟩;have:=ku e;exact ⟨i+1,o,by omega,by rw[aLU (by omega),show i+1 - 1=i by omega];exact e⟩
def aJa {y:bq} {w:Int} (h:nV y w):∃o,al y.b2 (aIw y w)=J o/\aIB y w=o.cq:=by
 obtain ⟨v,e,h⟩:=h;obtain ⟨i,o,b,a⟩:=aNb (k:=0) h;have g:al y.b2 (aIw y w)=J o:=by unfold aIw;rw[e];dsimp only;rw[b,show 0+i=i by omega];exact a
 exact ⟨o,g,by unfold aIB;rw[g]⟩
def aMO {d A B:List Int} (h:A.Perm B):km d A=km d B:=by
 induction h with
 |nil=>rfl
 |cons x _ e=>rw[Ay,Ay,e]
 |swap x y l=>simp only[Ay];omega
 |trans _ _ a b=>rw[a,b]
def aL7 {b A:List Int} (h:∀l∈b,0<=l):0<=km b A:=by
 induction A with
 |nil=>rw[YS];omega
 |cons a A d=>
  rw[Ay];cases e:al b a with
  |none=>simpa using d
  |some v=>have:=h v (lP e);simp;omega
def aI8 {b A B:List Int} (h:∀l∈b,0<=l) (N:A.Nodup) (k:∀i∈A,i∈B):km b A<=km b B:=by
 induction A generalizing B with
 |nil=>rw[YS];exact aL7 h
 |cons a A d=>rw[TB] at N;rw[aMO (List.perm_cons_erase (k a (by simp))),Ay,Ay];have:=d N.2 (B:=B.erase a) λi m=>(List.mem_erase_of_ne (by rintro rfl;exact N.1 m)).mpr (k i (by simp[m]));omega
def aL8 {b A:List Int} {q:Int->Bool}:km b A=km b (A.filter q)+km b (A.filter λi=> !q i):=by
 induction A with
 |nil=>simp[YS]
 |cons a A d=>simp only[Ay,aI9];cases q a<;>simp[Ay]<;>omega
def Yw (c:c8) (y:bq):Prop:=
 y.bo.bD.Nodup/\(y.bo.aH.Nodup/\y.bo.lead∉y.bo.aH/\∀o∈y.b2,o.cq≠y.bo.lead/\o.cq∉y.bo.aH)/\
 (∀w∈y.bo.bD,∃q,al y.aH (aIC y w)=J q/\w∈q)/\
 (∀b t x,al y.bo.aH b=J t->al c.aH t=J x->km (lens y.bD) (y.bo.bD.filter λw=>aIz (aIA y.bo w) b)<=x.length)/\
 ∀k o x q,al y.b2 k=J o->al c.aH o.cq=J x->al y.aH o.cq=J q->km (lens y.bD) (y.bo.bD.filter λw=>decide (aIw y w=k))+km (lens y.bD) (q.filter λi=> !decide (i∈y.bo.bD))<=x.length
def aID (y:bq):Prop:=(y.b2.map λo=>o.cq).Nodup
def aIH (c:c8) (y:bq):Prop:=iY c.aH (lens y.bD) y.aH/\Yw c y/\aID y/\nW y/\AG y.bo y.aH/\kC y/\∀o∈y.b2,0<=o.cq/\o.cq<y.aH.length
def aNc {y:bq} {a b:Int} {o p:b7} (N:aID y) (e:al y.b2 a=J o) (f:al y.b2 b=J p) (h:o.cq=p.cq):a=b:=by
 have g {i:Int} {o:b7} (e:al y.b2 i=J o):al (y.b2.map λo=>o.cq) i=J o.cq:=by have l:=ku e;unfold al at e⊢;rw[if_pos l.1] at e⊢;rw[sH,e];rfl
 exact aLV N (g e) (by rw[h];exact g f)
def aJ2 {c:c8} {y:bq} (Z:aIH c y):(aIx y=y.bo.lead\/aIx y∈y.bo.aH)/\∀w∈y.bo.bD,aIu y w y.bo.h9≠aIx y/\0<=aIu y w y.bo.h9/\aIu y w y.bo.h9<y.aH.length:=by
 obtain ⟨V,B,N,H,P,I,O⟩:=Z;have l:=I.1;have n:=I.2.1;have s:aIx y=y.bo.lead\/∃b,b<y.bo.h9/\al y.bo.aH b=J (aIx y):=by
  unfold aIx;split
  ·exact .inl rfl
  ·obtain ⟨t,e⟩:=hT (xs:=y.bo.aH) (i:=y.bo.h9 - 1) (by omega) (by omega);exact .inr ⟨y.bo.h9 - 1,by omega,by rw[e];rfl⟩
 refine ⟨s.imp id λ⟨b,_,e⟩=>lP e,λw k=> ?_⟩;unfold aIu;cases g:aIy (y.bo.aH.drop y.bo.h9.toNat) (aIA y.bo w) y.bo.h9 with
 |some t=>
  obtain ⟨b,m,a,_⟩:=aLv l g;simp only[IV];refine ⟨?_,I.2.2.2.2.2.2.2.1 t (lP a)⟩;rcases s with s|⟨f,j,d⟩
  ·rw[s];rintro rfl;exact B.2.1.2.1 (lP a)
  ·rintro rfl;have:=aLV B.2.1.1 a d;omega
 |none=>
  simp only[aL'];obtain ⟨o,e,h⟩:=aJa (H w k);rw[h];refine ⟨?_,O o (lP e)⟩;rcases s with s|⟨f,j,d⟩
  ·rw[s];exact (B.2.1.2.2 o (lP e)).1
  ·intro q;exact (B.2.1.2.2 o (lP e)).2 (q▸lP d)
def aM0 {c:c8} {y:bq} {src u9:List Int} {t ez:Int} {x:eE} (Z:aIH c y) (es:al y.aH (aIx y)=J src) (hw:ez∈src) (aJ:aIu y ez y.bo.h9=t) (e:al y.aH t=J u9) (ex:al c.aH t=J x):
  km (lens y.bD) u9+km (lens y.bD) (src.filter λw=>decide (aIu y w y.bo.h9=t))<=x.length:=by
 have T:=aJ2 Z;obtain ⟨V,B,N,H,P,I,O⟩:=Z;have D:=V.1.2.2.1.1;have i0:=I.1;have aIR:∀l∈lens y.bD,(0:Int)<=l:=λl m=>by have:=V.2.2 l m;omega
 have afr:∀w∈src,w∈y.bo.bD:=P _ T.1 _ es;have ne:t≠aIx y:=aJ▸(T.2 ez (afr ez hw)).1;have pos:∀w∈y.bo.bD,w∈u9->aIC y w=t:=λw m k=>by obtain ⟨q,f,g⟩:=B.2.2.1 w m;exact aHm D f e g k
 have aMi:u9.Nodup:=D.sublist (af4 (lP e));have VS:src.Nodup:=D.sublist (af4 (lP es));have aMh:∀w∈u9,w∉src:=λw a b=>ne (aHm D e es a b);cases bs:aIy (y.bo.aH.drop y.bo.h9.toNat) (aIA y.bo ez) y.bo.h9 with
 |some eu=>
  have:eu=t:=by rw[<-aJ];unfold aIu;rw[bs];rfl
  subst this;obtain ⟨b,aw,aAC,_⟩:=aLv i0 bs;have key (w m:Int) (hw:w∈y.bo.bD) (hm:0<=m) (h:aIu y w m=eu):aIz (aIA y.bo w) b=aa:=by
   unfold aIu at h;cases g:aIy (y.bo.aH.drop m.toNat) (aIA y.bo w) m with
   |some u=>rw[g] at h;simp only[IV] at h;subst h;obtain ⟨dJ,_,cz,dG⟩:=aLv hm g;rw[aLV B.2.1.1 aAC cz];exact dG
   |none=>rw[g] at h;simp only[aL'] at h;obtain ⟨o,f,k⟩:=aJa (H w hw);exact absurd (lP aAC) (by rw[<-h,k];exact (B.2.1.2.2 o (lP f)).2)
  have aLW:∀w∈u9,w∈y.bo.bD/\aIz (aIA y.bo w) b=aa:=λw m=>by
   have aIE:=P _ (.inr (lP aAC)) _ e w m;refine ⟨aIE, ?_⟩;have q:=pos w aIE m;unfold aIC at q;split at q
   ·exact absurd (lP aAC) (q▸B.2.1.2.1)
   ·exact key w _ aIE (by omega) q
  have a:=aI8 aIR (A:=u9++src.filter λw=>decide (aIu y w y.bo.h9=eu)) (B:=y.bo.bD.filter λw=>aIz (aIA y.bo w) b) (by
   rw[aEU];exact ⟨aMi,VS.filter _,λi m j k q=>aMh i m (q▸(aIv.mp k).1)⟩) (λi m=>by
   rw[aIv];rcases kU.mp m with m|m
   ·exact aLW i m
   ·have m:=aIv.mp m;exact ⟨afr i m.1,key i _ (afr i m.1) i0 (by simpa using m.2)⟩)
  rw[afZ] at a;have:=B.2.2.2.1 b _ x aAC ex;omega
 |none=>
  have bR:aIB y ez=t:=by rw[<-aJ];unfold aIu;rw[bs];rfl
  obtain ⟨o,aAD,aM⟩:=aJa (H ez (afr ez hw));have to:o.cq=t:=aM.symm.trans bR;have apE:=B.2.1.2.2 o (lP aAD);rw[to] at apE;have key (w m:Int) (hw:w∈y.bo.bD) (hm:0<=m) (h:aIu y w m=t):aIw y w=aIw y ez:=by
   unfold aIu at h;cases g:aIy (y.bo.aH.drop m.toNat) (aIA y.bo w) m with
   |some u=>rw[g] at h;simp only[IV] at h;subst h;obtain ⟨dJ,_,cz,dG⟩:=aLv hm g;exact absurd (lP cz) apE.2
   |none=>rw[g] at h;simp only[aL'] at h;obtain ⟨p,f,k⟩:=aJa (H w hw);exact aNc N f aAD (by rw[<-k,h,to])
  have aLW:∀w∈u9,w∈y.bo.bD->aIw y w=aIw y ez:=λw m aIE=>by
   have q:=pos w aIE m;unfold aIC at q;split at q
   ·exact absurd q.symm apE.1
   ·exact key w _ aIE (by omega) q
  have a:=aI8 aIR (A:=u9.filter (λi=>decide (i∈y.bo.bD))++src.filter λw=>decide (aIu y w y.bo.h9=t)) (B:=y.bo.bD.filter λw=>decide (aIw y w=aIw y ez)) (by
   rw[aEU];exact ⟨aMi.filter _,VS.filter _,λi m j k q=>aMh i (aIv.mp m).1 (q▸(aIv.mp k).1)⟩) (λi m=>by
   rw[aIv];rcases kU.mp m with m|m
   ·have m:=aIv.mp m;have aIE:i∈y.bo.bD:=by simpa using m.2
    exact ⟨aIE,by simpa using aLW i m.1 aIE⟩
   ·have m:=aIv.mp m;exact ⟨afr i m.1,by simpa using key i _ (afr i m.1) i0 (by simpa using m.2)⟩)
  rw[afZ] at a;have b:=B.2.2.2.2 _ o x u9 aAD (by rw[to];exact ex) (by rw[to];exact e);rw[aL8 (q:=λi=>decide (i∈y.bo.bD))];omega
def aIJ (a:List (List Int)) (l:List cn) (s:List (List Int)):Prop:=∀t p,al a t=J p->al s t=J (p.filter (λi=>decide (i∉l.map λm=>m.hX))++(l.filter λm=>decide (m.to=t)).map λm=>m.hX)
def aLG {s:List (List Int)}:aIJ s [] s:=λt p e=>by rw[e,aES.mpr (by simp)];simp
def aMb {T:List eE} {j:List Int} {n:Nat} {m:cn} {b s u:List (List Int)} {l:List cn} (V:iY T j s) (h:aIJ b l s) (F:aAq n m s u) (d:0<=m.to) (k:m.hX∉l.map λm=>m.hX):aIJ b (l++[m]) u:=λt p e=>by
 rw[aGM V F d (h t p e),aLC,List.filter_filter];have z:((l.filter λm=>decide (m.to=t)).map λm=>m.hX).filter (λi=>i !=m.hX)=(l.filter λm=>decide (m.to=t)).map λm=>m.hX:=by rw[aES];intro a q;obtain ⟨r,f,rfl⟩:=l2.mp q;simp only[bne_iff_ne,ne_eq];intro g;exact k (g▸l2.mpr ⟨r,(aIv.mp f).1,rfl⟩)
 rw[z,aLC,aIG,IH];congr 2
 ·apply List.filter_congr;intro i _;simp only[aIG,rA,List.map_nil,kU,IM,not_or];by_cases g:i=m.hX<;>simp[g]
 ·congr 1;by_cases g:t=m.to
  ·rw[if_pos g,aI9,if_pos (by simpa using g.symm),aIG];rfl
  ·rw[if_neg g,aI9,if_neg (by simpa using λq=>g q.symm)];simp
def aLH {T:List eE} {f:List Int} {d q:List (List Int)}:∀{a l1:List cn} {s:List (List Int)},aAe T f a s q->iY T f s->aIJ d l1 s->((l1++a).map λm=>m.hX).Nodup->(∀m∈a,0<=m.to)->aIJ d (l1++a) q
 |[],l1,s,R,V,h,N,k=>by rw[aI1];exact (R:s=q)▸h
 |m::a,l1,s,⟨u,F,b,R⟩,V,h,N,k=>by
  have e:l1++m::a=(l1++[m])++a:=by simp
  rw[e] at N⊢;have i:m.hX∉l1.map λm=>m.hX:=λz=>by rw[aIG,aIG,aEU] at N;exact (aEU.mp N.1).2.2 _ z _ (by simp) rfl
  exact aLH R b (aMb V h F (k m (by simp)) i) N λg z=>k g (by simp[z])
def aMf {c:c8} {y:bq} {d:List Int} (Z:aIH c y) (p:al y.aH (aIx y)=J d):∀{q l1:List cn} {s:List (List Int)},((l1++q).map λm=>m.hX)=d->(∀m∈l1++q,m.to=aIu y m.hX y.bo.h9/\m.from_=aIx y/\m.front=ak)->iY c.aH (lens y.bD) s->aIJ y.aH l1 s->aIO c.aH (lens y.bD) q s
 |[],l1,s,E,I,V,h=>trivial
 |m::q,l1,s,E,I,V,h=>by
  have T:=aJ2 Z;have D:=Z.1.1.2.2.1.1;have U:d.Nodup:=D.sublist (af4 (lP p));have M:∀w∈d,w∈y.bo.bD:=Z.2.2.2.2.1 _ T.1 _ p;have C:∀l∈lens y.bD,(0:Int)<=l:=λl m=>by have:=Z.1.2.2 l m;omega
  have j:=I m (by simp);have H:m.hX∈d:=by rw[<-E];simp
  have L:=M _ H;have f:=T.2 _ L;have N:=U;rw[<-E] at N;have e:l1++m::q=(l1++[m])++q:=by simp
  have R:m.hX∉l1.map λm=>m.hX:=λz=>by rw[aIG,aEU] at N;exact N.2.2 _ z _ (by simp) rfl
  have S:=ZC Z.1.1 p H;have bh:s.length=y.aH.length:=V.1.1.trans Z.1.1.1.symm;have Q:=ku p;refine ⟨⟨⟨S.1,S.2,by rw[j.2.1];exact Q.1,by rw[j.2.1,bh];exact Q.2,by rw[j.1];exact f.2.1,by rw[j.1,bh];exact f.2.2⟩,j.2.2, ?_,λ_ x t ex P=> ?_⟩,λu F K=> ?_⟩
  ·rw[j.2.1];exact ⟨_,h _ _ p,kU.mpr (.inl (aIv.mpr ⟨H,by simpa using R⟩))⟩
  ·obtain ⟨O,n⟩:=hT (xs:=y.aH) (i:=m.to) (by rw[j.1];exact f.2.1) (by rw[j.1];exact f.2.2);rw[h _ _ n] at P;cases P;have cap:=aM0 (t:=m.to) (x:=x) Z p H j.1.symm n ex;have lQ:O.Nodup:=D.sublist (af4 (lP n));have a:=aI8 C (A:=O.filter λi=>decide (i∉l1.map λm=>m.hX)) (B:=O) (lQ.filter _) λi k=>(aIv.mp k).1;have b:=aI8 C (A:=(l1.filter λr=>decide (r.to=m.to)).map (λm=>m.hX)++[m.hX]) (B:=d.filter λw=>decide (aIu y w y.bo.h9=m.to)) (by
    have g:((l1.filter λr=>decide (r.to=m.to)).map (λm=>m.hX)++[m.hX]).Sublist (((l1++m::q)).map λm=>m.hX):=by rw[aIG,rA];exact (List.filter_sublist.map _).append (List.Sublist.cons_cons _ (List.nil_sublist _))
    exact N.sublist g) (λi k=>by
    rw[aIv];rcases kU.mp k with k|k
    ·obtain ⟨r,Y,rfl⟩:=l2.mp k;have k:=aIv.mp Y;have X:=I r (by simp[k.1]);exact ⟨by rw[<-E];exact l2.mpr ⟨r,by simp[k.1],rfl⟩,by have:=k.2;simp only[decide_eq_true_eq] at this⊢;rw[<-X.1];exact this⟩
    ·rw[IM.mp k];exact ⟨H,by simpa using j.1.symm⟩)
   rw[afZ,Ay,YS] at b;rw[afZ];omega
  ·exact aMf Z p (l1:=l1++[m]) (by rw[<-e];exact E) (by rw[<-e];exact I) K (aMb V h F (by rw[j.1];exact f.2.1) R)
end
section
attribute [grind->] aJ1
def aII (y:bq) (s:cn):Prop:=s.to=aIu y s.hX y.bo.h9
def aMA {a:List Int} {c m t:Int} (e:al a m=J t):aIy (a.drop m.toNat) c m=if aIz c m=aa then J t else aIy (a.drop (m+1).toNat) c (m+1):=by
 rw[sT e];rfl
def aNS {a:List Int} {c m t:Int} {y:Nat} (e:al a m=J t) (s:j2 .i64 m=J y) (h:(ih .and .i64 (sE c ((2 ^ y:Nat):Int)) 1==1)=aa):aIy (a.drop m.toNat) c m=J t:=by
 rw[aMA e,if_pos];unfold aIz;rw[aJ1 s];exact h
def aNR {a:List Int} {c m t:Int} {y:Nat} (e:al a m=J t) (s:j2 .i64 m=J y) (h:¬(ih .and .i64 (sE c ((2 ^ y:Nat):Int)) 1==1)=aa):aIy (a.drop m.toNat) c m=aIy (a.drop (m+1).toNat) c (m+1):=by
 rw[aMA e,if_neg];unfold aIz;rw[aJ1 s];exact h
theorem aNT {a:List Int} {c m:Int} (h:(a.length:Int)<=m):aIy (a.drop m.toNat) c m=ae:=by rw[axi h];rfl
variable {N:Nat} [gM N]
instance (priority:=high) {d U e n b} :au (DD d U e n b) (d.length<=1000000/\e=d.length/\0<=b/\b<=e/\e - b<n) λr=>iX r (λ_=>aIK (d.drop b.toNat) U b= -1/\U∉d.drop b.toNat)/\fh r λa=>aIK (d.drop b.toNat) U b=a/\al d a=J U:=by induction n generalizing b with|zero=>exact bJ|succ n f=>exact ⟨by rw[DD];exact aC⟩
instance (priority:=high) {a U} :au (vA N a U) (a.length<=1000000) λr=>((r= -1/\U∉a)\/al a r=J U)/\r=aIK a U 0:=⟨by rw[vA];exact aC⟩
instance (priority:=high) {a} :au (Su a) (0<=a.h9/\a.h9<=a.aH.length/\a.aH.length<=1000000) λr=>(r=a.lead\/r∈a.aH)/\r=if a.h9=0 then a.lead else (al a.aH (a.h9 - 1)).getD (-1):=⟨by rw[Su];exact aC⟩
instance (priority:=high) {d e n b} :au (FJ d e n b) (d.aH.length<=1000000/\(∀t∈d.aH,0<=t)/\0<=b/\b<=1000001/\1000001 - b<n) λr=>(fh r λa=>0<=a)/\iX r (λ_=>aIy (d.aH.drop b.toNat) e b=ae)/\fh r λa=>aIy (d.aH.drop b.toNat) e b=J a:=by induction n generalizing b with|zero=>exact bJ|succ n j=>exact ⟨by rw[FJ];(repeat' with_reducible first|intro _|apply dq|apply dh|refine dj (by omega) ?_|apply di|apply dk|apply df|apply eC|apply dr|apply dg)<;>first|(rename_i c h f _;have q:=aNS f (by assumption) c;clear c;grind -mbtc)|(rename_i c r g;obtain ⟨h,f⟩:=hT (xs:=d.aH) (i:=b) (by omega) (by omega);have q:=aNR f (by assumption) c;clear c;grind -mbtc)|grind -mbtc|grind -mbtc [aNT]⟩
instance (priority:=high) {a U} :au (Sv N a U) (kC a/\nW a/\U∈a.bo.bD/\a.b2.length<=8/\(∀o∈a.b2,vR a.aH.length o)/\0<=U/\U<a.bD.length) λr=>0<=r/\r=aIu a U a.bo.h9:=⟨λb=>azU (au.ok (e:=Sv N a U) (by grind -mbtc)) (by revert b;rw[Sv];(repeat' with_reducible first|intro _|apply dq|apply dh|refine dj (by omega) ?_|apply di|apply dk|apply df|apply eC|apply dr|apply dg)<;>first|grind -mbtc [nW]|grind -mbtc [aIu,aIA,aIB,aIw]|(have b:=‹kC a/\_›;obtain ⟨v,d⟩:=hT (xs:=a.bD) (i:=U) b.2.2.2.2.2.1 b.2.2.2.2.2.2;grind -mbtc [aIu,aIA,aIB,aIw]))⟩
instance (priority:=high) {g U f d n b} :au (aAT g U d f n b) (d.length<=1000000/\f=d.length/\0<=b/\b<=f/\f - b<n) λr=>(iX r (λ_=>∀s∈d.drop b.toNat,0<=s.cq/\s.cq<g.c.aH.length)/\fh r λa=>a≠0)/\(d=[]->r= .inl ()):=by induction n generalizing b with|zero=>exact bJ|succ n i=>exact ⟨λh=>azU (au.ok (e:=aAT g U d f (n+1) b) (by grind -mbtc)) (by revert h;rw[aAT];(repeat' with_reducible first|intro _|apply dq|apply dh|refine dj (by omega) ?_|apply di|apply dk|apply df|apply eC|apply dr|apply dg)<;>grind -mbtc)⟩
instance (priority:=high) {b g n f d} :au (aIL b g n f d) ((∀s∈b,0<=s.cq)/\b.length<=1000000/\g=b.length/\0<=d/\d<=g/\g - d<n/\(∀k v,jv f k=J v->0<=v)) λr=>(iX r (λa=>∀k v,jv a k=J v->0<=v)/\fh r λa=>a≠0)/\(b=[]->r= .inl f):=by induction n generalizing f d with|zero=>exact bJ|succ n i=>exact ⟨λh=>azU (au.ok (e:=aIL b g (n+1) f d) (by grind -mbtc)) (by revert h;rw[aIL];(repeat' with_reducible first|intro _|apply dq|apply dh|refine dj (by omega) ?_|apply di|apply dk|apply df|apply eC|apply dr|apply dg)<;>grind -mbtc)⟩
instance (priority:=high) {g f d n b} :au (aIM g d f n b) (d.length<=1000000/\f=d.length/\0<=b/\b<=f/\f - b<n) λr=>(fh r λa=>a≠0)/\(d=[]->r= .inl ()):=by induction n generalizing b with|zero=>exact bJ|succ n i=>exact ⟨λh=>azU (au.ok (e:=aIM g d f (n+1) b) (by grind -mbtc)) (by revert h;rw[aIM];(repeat' with_reducible first|intro _|apply dq|apply dh|refine dj (by omega) ?_|apply di|apply dk|apply df|apply eC|apply dr|apply dg)<;>grind -mbtc)⟩
instance (priority:=high) {a U b} :au (RB N a U b) (a.e.hD.length<=1000000) λr=>(r.2=0->∀k v,jv r.1 k=J v->0<=v)/\(a.e.hD=[]->r.2=0/\r.1=[]):=⟨λd=>azU (au.ok (e:=RB N a U b) (by grind -mbtc)) (by revert d;rw[RB];(repeat' with_reducible first|intro _|apply dq|apply dh|refine dj (by omega) ?_|apply di|apply dk|apply df|apply eC|apply dr|apply dg)<;>grind -mbtc)⟩
instance (priority:=high) {b d a} :au (aAf b d a) (True) λr=>(r=aa->a=aa)/\(r=ak->a=aa->d=b):=⟨by rw[aAf];exact aC⟩
instance (priority:=high) {b d a e} :au (aB8 b a e d) (0<=a/\(d=aa->0<=e)) λr=>0<=r.2/\(b=aa->r.1=aa)/\(r.1=ak->r.2=a)/\(d=ak->r=(b,a)):=⟨by rw[aB8];exact aC⟩
instance (priority:=high) {a g j l f n h b d} :au (aB7 N a g l f j n h b d) (kC a.y/\nW a.y/\a.y.b2.length<=8/\(∀o∈a.y.b2,vR a.y.aH.length o)/\(∀i∈f,i∈a.y.bo.bD/\0<=i/\i<a.y.bD.length)/\(∀k v,jv l k=J v->0<=v)/\0<=g/\f.length<=1000/\j=f.length/\0<=d/\d<=j/\j - d<n/\b.length<=d/\(∀s∈b,uc a.y.bo.bD s)/\(∀s∈b,s.from_=g)/\(h=ak->∀s∈b,aII a.y s)) λr=>(r.2.length<=1000/\∀s∈r.2,uc a.y.bo.bD s)/\(∀s∈r.2,s.from_=g)/\(r.1=ak->∀s∈r.2,aII a.y s)/\(r.2.map λm=>m.hX)=(b.map λm=>m.hX)++f.drop d.toNat/\(l=[]->h=ak->r.1=ak):=by induction n generalizing h b d with|zero=>exact bJ|succ n q=>exact ⟨λp=>azU (au.ok (e:=aB7 N a g l f j (n+1) h b d) (by grind -mbtc)) (by revert p;rw[aB7];(repeat' with_reducible first|intro _|apply dq|apply dh|refine dj (by omega) ?_|apply di|apply dk|apply df|apply eC|apply dr|apply dg)<;>first|grind -mbtc|grind -mbtc [uc,aII]|((with_reducible repeat' apply oE)<;>first|grind -mbtc|grind -mbtc [uc]|grind -mbtc [aII]|grind -mbtc [jv]))⟩
instance (priority:=high) {a b} :au (aEf a b) (True) λr=>(r.c=a.c/\r.r=a.r/\r.y.bD=a.y.bD/\r.y.aH=a.y.aH/\r.y.b2=a.y.b2/\(nq a.y.bo->nq r.y.bo)/\(r.y.busy=aa->r.y.cE=ak->r.y=a.y/\a.y.bo.h9<=a.y.bo.proof.e9.steps))/\(b=ak->(a.y.bo.h9<=a.y.bo.proof.e9.steps->r.y=a.y)/\(a.y.bo.proof.e9.steps<a.y.bo.h9->r.y.busy=ak/\r.y.cE=ak))/\(b=aa->r.y.cE=aa):=⟨λd=>azU (au.ok (e:=aEf a b) (by grind -mbtc)) (by revert d;rw[aEf];(repeat' with_reducible first|intro _|apply dq|apply dh|refine dj (by omega) ?_|apply di|apply dk|apply df|apply eC|apply dr|apply dg)<;>grind -mbtc)⟩
end
section
def aIt (c:c8) (y:bq):Prop:=aID y/\(y.busy=aa->y.cE=ak->Yw c y)
def aL4 {c:c8} {y:bq} (P:jr c y) (B:aIt c y) (b:y.busy=aa) (f:y.cE=ak):aIH c y:=
 ⟨P.2.2.1,B.2 b f,B.1,(P.2.2.2.2.2.2.1 b f).2,P.2.2.2.2.2.2.2.1 b f,(P.2.2.2.2.2.2.1 b f).1,λo m=>⟨(P.2.2.2.2.2.1 o m).1,(P.2.2.2.2.2.1 o m).2.1⟩⟩
def aMz {c:c8} {y:bq} {q:List (List Int)} {a:List Int} {l:List cn} (Z:aIH c y) (d:al y.aH (aIx y)=J a) (R:aAe c.aH (lens y.bD) l y.aH q) (b:(l.map λm=>m.hX)=a) (f:∀s∈l,aII y s):aIJ y.aH l q:=by
 have T:=aJ2 Z;have e:a.Nodup:=Z.1.1.2.2.1.1.sublist (af4 (lP d));refine aLH (l1:=[]) R Z.1 aLG (by rw[aLD,b];exact e) λm k=> ?_;rw[f m k];exact (T.2 m.hX (Z.2.2.2.2.1 _ T.1 _ d _ (by rw[<-b];exact l2.mpr ⟨m,k,rfl⟩))).2.1
def aMy {c:c8} {y:bq} {q:List (List Int)} {a:List Int} {l:List cn} (Z:aIH c y) (g:al y.aH (aIx y)=J a) (R:aAe c.aH (lens y.bD) l y.aH q) (b:(l.map λm=>m.hX)=a) (f:∀s∈l,aII y s):∀w∈y.bo.bD,∃p,al q (aIu y w y.bo.h9)=J p/\w∈p:=λw d=>by
 have S:=aMz Z g R b f;have T:=aJ2 Z;by_cases k:w∈a
 ·obtain ⟨p,e⟩:=hT (xs:=y.aH) (i:=aIu y w y.bo.h9) (T.2 w d).2.1 (T.2 w d).2.2;refine ⟨_,S _ _ e,kU.mpr (.inr ?_)⟩;rw[<-b] at k;obtain ⟨s,h,rfl⟩:=l2.mp k;exact l2.mpr ⟨s,aIv.mpr ⟨h,decide_eq_true (f s h)⟩,rfl⟩
 ·obtain ⟨p,e,m⟩:=Z.2.1.2.2.1 w d;have n:aIC y w≠aIx y:=λz=>by rw[z,g] at e;cases e;exact k m
  rw[aNe Z.2.2.2.2.2.1.1 Z.2.2.2.2.2.1.2.1 n] at e;exact ⟨_,S _ _ e,kU.mpr (.inl (aIv.mpr ⟨m,by simpa[b] using k⟩))⟩
def aNO {c:c8} {y z:bq} {q:List (List Int)} {b:List Int} {l:List cn} (Z:aIH c y) (n:al y.aH (aIx y)=J b) (R:aAe c.aH (lens y.bD) l y.aH q) (j:(l.map λm=>m.hX)=b) (t:∀s∈l,aII y s)
  (E:z=bq.mk y.bD q y.b2 y.busy (eR.mk y.bo.bD y.bo.iP y.bo.proof y.bo.lead y.bo.aH (y.bo.h9+1)) y.cE):Yw c z:=by
 have A:=aMy Z n R j t;have S:=aMz Z n R j t;have T:=aJ2 Z;have h:∀w∈b,w∈y.bo.bD:=Z.2.2.2.2.1 _ T.1 _ n;obtain ⟨V,B,N,H,P,I,O⟩:=Z;subst E;refine ⟨B.1,B.2.1,λw L=> ?_,B.2.2.2.1,λk o x p a K d=> ?_⟩
 ·have:aIC (bq.mk y.bD q y.b2 y.busy (eR.mk y.bo.bD y.bo.iP y.bo.proof y.bo.lead y.bo.aH (y.bo.h9+1)) y.cE) w=aIu y w y.bo.h9:=by
   unfold aIC;rw[if_neg (by have:=I.1;dsimp only;omega),show y.bo.h9+1 - 1=y.bo.h9 by omega];rfl
  rw[this];exact A w L
 ·obtain ⟨r,C⟩:=hT (xs:=y.aH) (i:=o.cq) (O o (lP a)).1 (O o (lP a)).2;have e:=S _ _ C;dsimp only at d a⊢;rw[e] at d;cases d;have f:(r.filter (λi=>decide (i∉l.map λm=>m.hX))++(l.filter λm=>decide (m.to=o.cq)).map λm=>m.hX).filter (λi=> !decide (i∈y.bo.bD))=r.filter λi=> !decide (i∈y.bo.bD):=by
   rw[aLC,List.filter_filter,j];have g:((l.filter λm=>decide (m.to=o.cq)).map λm=>m.hX).filter (λi=> !decide (i∈y.bo.bD))=[]:=by rw[List.filter_eq_nil_iff];intro i k;obtain ⟨m,F,rfl⟩:=l2.mp k;have:=h m.hX (by rw[<-j];exact l2.mpr ⟨m,(aIv.mp F).1,rfl⟩);simpa using this
   rw[g,aI1];apply List.filter_congr;intro i _;by_cases k:i∈y.bo.bD
   ·simp[k]
   ·have:i∉b:=λm=>k (h i m);simp[k,this]
  rw[f];exact B.2.2.2.2 k o x r a K C
def aI7 (y z:bq):Prop:=z.b2=y.b2/\z.bD=y.bD/\∀w∈y.bo.bD,∃q,al z.aH (aIB y w)=J q/\w∈q
def aNN {c:c8} {y z:bq} {q:List (List Int)} {a:List Int} {l:List cn} (Z:aIH c y) (h:al y.aH (aIx y)=J a) (R:aAe c.aH (lens y.bD) l y.aH q) (d:(l.map λm=>m.hX)=a) (b:∀s∈l,aII y s) (g:(y.bo.aH.length:Int)<=y.bo.h9) (i:z.b2=y.b2) (f:z.bD=y.bD) (e:z.aH=q):aI7 y z:=
 ⟨i,f,λw j=>by rw[e,<-aMV (m:=y.bo.h9) g];exact aMy Z h R d b w j⟩
variable {N:Nat} [gM N]
instance (priority:=high) {h M} :au (Sk N h M) (jr h.c h.y/\iW h.e/\M.length<=1000000/\aIt h.c h.y) λr=>(r.1=0->rr h r.2)/\(r.1=0->aIt h.c r.2.y)/\(h.y.busy=aa->h.y.cE=ak->h.e.hD=[]->r.1=0/\r.2.r.err=h.r.err/\r.2.y.cE=ak/\(h.y.bo.h9<h.y.bo.proof.e9.steps->r.2.y.busy=aa/\r.2.y.bD=h.y.bD/\r.2.y.b2=h.y.b2/\r.2.y.bo=eR.mk h.y.bo.bD h.y.bo.iP h.y.bo.proof h.y.bo.lead h.y.bo.aH (h.y.bo.h9+1))/\(h.y.bo.proof.e9.steps<=h.y.bo.h9->r.2.y.busy=ak/\aI7 h.y r.2.y)):=⟨λn=>azU (au.ok (e:=Sk N h M) (by grind -mbtc)) (by revert n;rw[Sk];(repeat' with_reducible first|intro _|apply dq|apply dh|refine dj (by omega) ?_|apply di|apply dk|apply df|apply eC|apply dr|apply dg)<;>first|grind -mbtc|(rename_i n b f S U I x O X T K A P B Q i V L t l;have E:h.y.busy=aa:=(by simpa using b);have F:h.y.cE=ak:=(by simpa using f);have Z:=aL4 n.1 n.2.2.2 E F;have H:al h.y.aH (aIx h.y)=J x:=(by unfold aIx;rw[<-I.2];exact O);(try dsimp only at A);(try dsimp only at i);(try dsimp only at t);have C:(B.2.map λm=>m.hX)=x:=(by simpa[Jn] using i.2.2.2.1);refine ⟨λz=>absurd z (by simpa using l),λ_ _ s=> ?_⟩;exfalso;have G:=i.2.2.1 (i.2.2.2.2 (A.2 s).2 rfl);have q:=t.2.1 (aMf Z H (l1:=[]) (by simpa using C) (λm k=>⟨G m (by simpa using k),(by rw[i.2.1 m (by simpa using k)];exact I.2),(i.1.2 m (by simpa using k)).1⟩) Z.1 aLG);simp[q] at l)|(rename_i n b f S U I x O X T K A P B Q i V L t l cU Y j;have E:h.y.busy=aa:=(by simpa using b);have F:h.y.cE=ak:=(by simpa using f);have Z:=aL4 n.1 n.2.2.2 E F;have H:al h.y.aH (aIx h.y)=J x:=(by unfold aIx;rw[<-I.2];exact O);dsimp only at A i t;have C:(B.2.map λm=>m.hX)=x:=(by simpa[Jn] using i.2.2.2.1);have g:=t.1 (by simpa using l);(try dsimp only at g);rw[g.2.2.1] at j;have i0:=Z.2.2.2.2.2.1.1;have i1:=Z.2.2.2.2.2.1.2.1;have i2:=Z.2.2.2.2.2.1.2.2.1;have i3:=Z.2.2.2.2.2.1.2.2.2.1;(try dsimp only at j);rw[Qb (by omega) (by omega)] at j;have R:=(aEV g.2.2.2.2.2.2).2;refine ⟨λ_=>⟨(by unfold aID;rw[j.1.2.2.2.2.1];exact Z.2.2.1),λa d=> ?_⟩,λ_ _ s=> ?_⟩;(have w:B.1=ak:=(by cases q:B.1 with|false=>rfl|true=>have:=j.2.2 q;rw[this] at d;cases d);rw[(j.1.2.2.2.2.2.2 a d).1];exact aNO Z H R C (i.2.2.1 w) rfl);(have w:=i.2.2.2.2 (A.2 s).2 rfl;have G:=i.2.2.1 w;have k:=j.2.1 w;refine ⟨rfl,(by rw[j.1.2.1];exact t.2.2 (by simpa using l)), ?_,λp=> ?_,λp=> ?_⟩;(by_cases p:h.y.bo.h9+1<=h.y.bo.proof.e9.steps;(rw[k.1 p];exact F);exact (k.2 (by omega)).2);(rw[k.1 (by omega)];exact ⟨E,rfl,rfl,rfl⟩);exact ⟨(k.2 (by omega)).1,aNN Z H R C G (by omega) j.1.2.2.2.2.1 j.1.2.2.1 j.1.2.2.2.1⟩)))⟩
end
section
def zs (b:Int) (l:List (c4×Int)):Int:=(l.map λp=>if aIz p.2 b=aa then p.1.length else 0).sum
def aL3 {b:Int} {p:c4×Int} {l:List (c4×Int)}:zs b (p::l)=(if aIz p.2 b=aa then p.1.length else 0)+zs b l:=by simp[zs]
def aMD {a:List c4} {c:List Int} {k:Int} {i:c4} {v:Int} (e:al a k=J i) (f:al c k=J v):(a.zip c).drop k.toNat=(i,v)::(a.zip c).drop (k+1).toNat:=by
 have g:al (a.zip c) k=J (i,v):=by have l:=ku e;unfold al at e f⊢;rw[if_pos l.1] at e f⊢;rw[List.getElem?_zip_eq_some];exact ⟨e,f⟩
 exact sT g
theorem aMF {b:Int} {a:List c4} {c:List Int} {k:Int} (h:(a.length:Int)<=k):zs b ((a.zip c).drop k.toNat)=0:=by
 rw[List.drop_eq_nil_of_le (by rw[List.length_zip];omega)];rfl
def ts (k:Int) (l:List c4):Int:=(l.map λi=>if i.dS=k then i.length else 0).sum
@[grind=] theorem aN7 {k:Int}:ts k []=0:=rfl
@[grind=] theorem aNU {k:Int} {i:c4} {l:List c4}:ts k (i::l)=(if i.dS=k then i.length else 0)+ts k l:=by simp[ts]
theorem aLA {b:Int} {a:List c4} {c:List Int} {k:Int} {i:c4} {v:Int} {y:Nat} (e:al a k=J i) (f:al c k=J v) (s:j2 .i64 b=J y) (h:(ih .and .i64 (sE v ((2 ^ y:Nat):Int)) 1==1)=aa):zs b ((a.zip c).drop k.toNat)=i.length+zs b ((a.zip c).drop (k+1).toNat):=by
 rw[aMD e f,aL3,if_pos];unfold aIz;rw[aJ1 s];exact h
theorem aME {b:Int} {a:List c4} {c:List Int} {k:Int} {i:c4} {v:Int} {y:Nat} (e:al a k=J i) (f:al c k=J v) (s:j2 .i64 b=J y) (h:¬(ih .and .i64 (sE v ((2 ^ y:Nat):Int)) 1==1)=aa):zs b ((a.zip c).drop k.toNat)=zs b ((a.zip c).drop (k+1).toNat):=by
 rw[aMD e f,aL3,if_neg]
 ·omega
 ·unfold aIz;rw[aJ1 s];exact h
def aNa {l:List Int} (h:∀i t,0<=i->al l i=J t->t∉l.take i.toNat):l.Nodup:=by
 rw[aMQ,af3];intro a b f d g e;refine h b l[b] (by omega) (by unfold al;rw[if_pos (by omega),show (b:Int).toNat=b by omega];exact mm d) ?_;rw[<-e,show (b:Int).toNat=b by omega];rw[List.mem_take_iff_getElem];exact ⟨a,by omega,rfl⟩
theorem aLB {a:List bC} {i:Int} {v:bC} (e:al a i=J v):(al (lens a) i).getD 0=v.length:=by
 have l:=ku e;unfold al lens at*;rw[if_pos l.1] at e⊢;rw[sH,e];rfl
variable {N:Nat} [gM N]
instance (priority:=high) {e U d n b} :au (CI e U d n b) (e.length<=1000000/\d=e.length/\0<=b/\b<=d/\d - b<n) λr=>iX r (λ_=>∀o∈e.drop b.toNat,o.cq≠U)/\fh r λa=>0<=a:=by induction n generalizing b with|zero=>exact bJ|succ n f=>exact ⟨by rw[CI];exact aC⟩
instance (priority:=high) {a U} :au (Qn N a U) (a.length<=1000000) λr=>r<0->∀o∈a,o.cq≠U:=⟨by rw[Qn];exact aC⟩
instance (priority:=high) {a U} :au (Qm N a U) (a.length<=1000000) λr=>r=ak->∀o∈a,o.cq≠U:=⟨by rw[Qm];exact aC⟩
instance (priority:=high) {a U} :au (R2 N a U) (a.y.b2.length<=1000000) λr=>r=ak->∀o∈a.y.b2,o.cq≠U:=⟨by rw[R2];exact aC⟩
instance (priority:=high) {a b d} :au (aAh N a b d) (a.y.b2.length<=1000000/\0<=b/\b<=a.e.aH.length/\a.e.aH.length<=1000000) λr=>r=ak->d≠a.e.cq/\(∀o∈a.y.b2,o.cq≠d)/\d∉a.e.aH.take b.toNat:=⟨by rw[aAh];exact aC⟩
instance (priority:=high) {f d g n b} :au (Fg N f d g n b) (f.y.b2.length<=1000000/\d=f.e.aH/\f.e.aH.length<=1000000/\d.length<=1000000/\g=d.length/\0<=b/\b<=g/\g - b<n) λr=>iX r (λ_=>(∀t∈d.drop b.toNat,t≠f.e.cq/\(∀o∈f.y.b2,o.cq≠t))/\∀i t,b<=i->al d i=J t->t∉d.take i.toNat)/\fh r λa=>a≠0:=by induction n generalizing b with|zero=>exact bJ|succ n h=>exact ⟨by rw[Fg];exact aC⟩
instance (priority:=high) {a} :au (SH N a) (a.y.b2.length<=1000000/\a.e.aH.length<=1000000) λr=>r=0->a.e.aH.Nodup/\(∀t∈a.e.aH,t≠a.e.cq/\(∀o∈a.y.b2,o.cq≠t))/\(∀o∈a.y.b2,o.cq≠a.e.cq):=⟨by rw[SH];(repeat' with_reducible first|intro _|apply dq|apply dh|refine dj (by omega) ?_|apply di|apply dk|apply df|apply eC|apply dr|apply dg)<;>first|grind -mbtc|(obtain ⟨d,b⟩:=And.left ‹(_/\_)/\fh (Sum.inl _) _›;(try intro _);exact ⟨aNa b,by simpa[Jn] using d,by grind -mbtc⟩)⟩
instance (priority:=high) {j g d a b} :au (Mr j g d b a) (j.fW.length=b.length/\0<=g/\0<=a/\a<b.length/\(∀i∈b,ID i)/\0<=d/\d<=400*a/\a<=1000000/\b.length<=1000000) λr=>0<=r/\r<=400*(a+1)/\r+zs g ((b.zip j.fW).drop (a+1).toNat)=d+zs g ((b.zip j.fW).drop a.toNat):=⟨by rw[Mr];(repeat' with_reducible first|intro _|apply dq|apply dh|refine dj (by omega) ?_|apply di|apply dk|apply df|apply eC|apply dr|apply dg)<;>first|grind -mbtc|(rename_i i e _ v f _ y s _ h;rw[aLA e f s h];clear h s;grind -mbtc)|(rename_i i e _ v f _ y s _ h w z;rw[aLA e f s h];clear h s;grind -mbtc)|(rename_i i e _ v f _ y s _ h;rw[aME e f s h];clear h s;grind -mbtc)⟩
instance (priority:=high) {g f e b n d a} :au (Dt g f b e n d a) (g.fW.length=b.length/\0<=f/\e=b.length/\(∀i∈b,ID i)/\b.length<=1000000/\0<=a/\a<=e/\e - a<n/\0<=d/\d<=400*a) λr=>r=d+zs f ((b.zip g.fW).drop a.toNat):=by induction n generalizing d a with|zero=>exact bJ|succ n h=>exact ⟨by rw[Dt];(repeat' with_reducible first|intro _|apply dq|apply dh|refine dj (by omega) ?_|apply di|apply dk|apply df|apply eC|apply dr|apply dg)<;>first|grind -mbtc|grind -mbtc [aMF]⟩
instance (priority:=high) {h j l d n f} :au (Ds N h j l d n f) (l.fW.length=j.items.length/\j.items.length<=1000000/\d<=h.e.aH.length/\d<=1000000/\0<=d/\(∀t∈h.e.aH,0<=t/\t<h.c.aH.length)/\(∀i∈j.items,ID i)/\0<=f/\f<=d/\d - f<n) λr=>iX r (λ_=>∀b t x,f<=b->b<d->al h.e.aH b=J t->al h.c.aH t=J x->zs b (j.items.zip l.fW)<=x.length)/\fh r λa=>a≠0:=by induction n generalizing f with|zero=>exact bJ|succ n C=>exact ⟨by rw[Ds];(repeat' with_reducible first|intro _|apply dq|apply dh|refine dj (by omega) ?_|apply di|apply dk|apply df|apply eC|apply dr|apply dg)<;>first|grind -mbtc|(rename_i E y A t p _ x m _ n r g;refine ⟨λb z B F w k s=> ?_,trivial⟩;by_cases q:b=f;(subst q;rw[p] at k;cases k;rw[m] at s;cases s;have:=A;simp only[Jn] at this;omega);exact g.1 b z B (by rw[Qb (by omega) (by omega)];omega) w k s)⟩
instance (priority:=high) {e d a b} :au (Ms e d b a) (0<=a/\a<b.length/\(∀i∈b,ID i)/\0<=d/\d<=400*a/\a<=1000000/\b.length<=1000000) λr=>0<=r/\r<=400*(a+1)/\r+ts e (b.drop (a+1).toNat)=d+ts e (b.drop a.toNat):=⟨by rw[Ms];exact aC⟩
instance (priority:=high) {f e b n d a} :au (Dv f b e n d a) ((∀i∈b,ID i)/\e=b.length/\b.length<=1000000/\0<=a/\a<=e/\e - a<n/\0<=d/\d<=400*a) λr=>r=d+ts f (b.drop a.toNat)/\0<=r/\r<=400*b.length:=by induction n generalizing d a with|zero=>exact bJ|succ n g=>exact ⟨by rw[Dv];exact aC⟩
instance (priority:=high) {j g d a b} :au (Mo j g d b a) (j.fW.length=b.length/\0<=g/\0<=a/\a<b.length/\(∀i∈b,ID i)/\0<=d/\d<=400*a/\a<=1000000/\b.length<=1000000) λr=>0<=r/\r<=400*(a+1)/\r+zs g ((b.zip j.fW).drop (a+1).toNat)=d+zs g ((b.zip j.fW).drop a.toNat):=⟨by rw[Mo];(repeat' with_reducible first|intro _|apply dq|apply dh|refine dj (by omega) ?_|apply di|apply dk|apply df|apply eC|apply dr|apply dg)<;>first|grind -mbtc|(rename_i i e _ v f _ y s _ h;rw[aLA e f s h];clear h s;grind -mbtc)|(rename_i i e _ v f _ y s _ h w z;rw[aLA e f s h];clear h s;grind -mbtc)|(rename_i i e _ v f _ y s _ h;rw[aME e f s h];clear h s;grind -mbtc)⟩
instance (priority:=high) {g f e b n d a} :au (Dn g f b e n d a) (g.fW.length=b.length/\0<=f/\e=b.length/\(∀i∈b,ID i)/\b.length<=1000000/\0<=a/\a<=e/\e - a<n/\0<=d/\d<=400*a) λr=>r=d+zs f ((b.zip g.fW).drop a.toNat):=by induction n generalizing d a with|zero=>exact bJ|succ n h=>exact ⟨by rw[Dn];(repeat' with_reducible first|intro _|apply dq|apply dh|refine dj (by omega) ?_|apply di|apply dk|apply df|apply eC|apply dr|apply dg)<;>first|grind -mbtc|grind -mbtc [aMF]⟩
instance (priority:=high) {h j l d n f} :au (Dm N h j l d n f) (l.fW.length=j.items.length/\j.items.length<=1000000/\d<=h.e.aH.length/\d<=1000000/\0<=d/\(∀t∈h.e.aH,0<=t/\t<h.c.aH.length)/\(∀i∈j.items,ID i)/\0<=f/\f<=d/\d - f<n) λr=>iX r (λ_=>∀b t x,f<=b->b<d->al h.e.aH b=J t->al h.c.aH t=J x->zs b (j.items.zip l.fW)<=x.length)/\fh r λa=>a≠0:=by induction n generalizing f with|zero=>exact bJ|succ n C=>exact ⟨by rw[Dm];(repeat' with_reducible first|intro _|apply dq|apply dh|refine dj (by omega) ?_|apply di|apply dk|apply df|apply eC|apply dr|apply dg)<;>first|grind -mbtc|(rename_i E y A t p _ x m _ n r g;refine ⟨λb z B F w k s=> ?_,trivial⟩;by_cases q:b=f;(subst q;rw[p] at k;cases k;rw[m] at s;cases s;have:=A;simp only[Jn] at this;omega);exact g.1 b z B (by rw[Qb (by omega) (by omega)];omega) w k s)⟩
instance (priority:=high) {e d a b} :au (Mp e d b a) (0<=a/\a<b.length/\(∀i∈b,ID i)/\0<=d/\d<=400*a/\a<=1000000/\b.length<=1000000) λr=>0<=r/\r<=400*(a+1)/\r+ts e (b.drop (a+1).toNat)=d+ts e (b.drop a.toNat):=⟨by rw[Mp];exact aC⟩
instance (priority:=high) {f e b n d a} :au (Dq f b e n d a) ((∀i∈b,ID i)/\e=b.length/\b.length<=1000000/\0<=a/\a<=e/\e - a<n/\0<=d/\d<=400*a) λr=>r=d+ts f (b.drop a.toNat)/\0<=r/\r<=400*b.length:=by induction n generalizing d a with|zero=>exact bJ|succ n g=>exact ⟨by rw[Dq];exact aC⟩
end
section
def aLY {d i:Type} {a:List d} {b:List i} {f:d->Int} {g:i->Int} (l:a.length=b.length) (h:∀(k:Int) x y,al a k=J x->al b k=J y->f x=g y):a.map f=b.map g:=by
 apply List.ext_getElem (by simp[l]);intro n p q;rw[List.length_map] at p q;rw[List.getElem_map,List.getElem_map];have e {j:Type} (x:List j) (z:n<x.length):al x n=J x[n]:=by unfold al;rw[if_pos (by omega),show (n:Int).toNat=n by omega];exact mm z
 exact h n _ _ (e a p) (e b q)
def aMP {e d:List Int} {a:List c4} {b:Int} {f:Int->Int} (h:a.map (λi=>i.length)=d.map λw=>(al e w).getD 0):zs b (a.zip (d.map f))=km e (d.filter λw=>aIz (f w) b):=by
 induction d generalizing a with
 |nil=>simp at h;subst h;rfl
 |cons w d g=>
  cases a with
  |nil=>simp at h
  |cons i a=>
   simp only[rA,List.cons.injEq] at h;rw[rA,List.zip_cons_cons,aL3,g h.2,aI9];dsimp only;split
   ·rw[Ay,h.1]
   ·omega
def aMW {e b:List Int} {a:List c4} {k:Int} {g:Int->Int} (h:a.map (λi=>i.length)=b.map λw=>(al e w).getD 0) (d:a.map (λi=>i.dS)=b.map g):ts k a=km e (b.filter λw=>decide (g w=k)):=by
 induction b generalizing a with
 |nil=>simp at h;subst h;rfl
 |cons w b f=>
  cases a with
  |nil=>simp at h
  |cons i a=>
   simp only[rA,List.cons.injEq] at h d;rw[aNU,f h.2 d.2,aI9,d.1];split
   ·rename_i q;rw[if_pos (by simpa using q),Ay,h.1]
   ·rename_i q;rw[if_neg (by simpa using q)];omega
def aM7 {l:List Int} {n k:Int} {t:Int} (h:al (l.take n.toNat) k=J t):al l k=J t/\k<n:=by
 have g:=ku h;rw[aKf] at g;refine ⟨?_,by omega⟩;unfold al at h⊢;rw[if_pos g.1] at h⊢;rw[List.getElem?_take] at h;split at h
 ·exact h
 ·cases h
def aIP (F:List Int->List Int) (x:Step) (d:List Int) (j:b8) (z:Step):Prop:=
 z.y=bq.mk x.y.bD x.y.aH x.y.b2 aa (eR.mk d j z.y.bo.proof x.e.cq z.y.bo.aH 0) ak/\z.y.bo.aH=x.e.aH.take z.y.bo.proof.e9.steps.toNat/\z.y.bo.proof.e9.fW.length=j.items.length/\
 (∀b t a,0<=b->b<z.y.bo.proof.e9.steps->al x.e.aH b=J t->al x.c.aH t=J a->zs b (j.items.zip z.y.bo.proof.e9.fW)<=a.length)/\
 ∀k o a q,al x.y.b2 k=J o->al x.c.aH o.cq=J a->al x.y.aH o.cq=J q->ts k j.items+km (lens x.y.bD) (F q)<=a.length
def aMg {F:List Int->List Int} {x z:Step} {h:List Int} {j:b8} {s:List (List Int)} {p:List Int} (B:aIP F x h j z) (N:h.Nodup) (I:azO x.y j.items h) (l:j.items.length=h.length) (Z:∀i∈h,0<=i/\i<x.y.bD.length) (A:x.e.aH.Nodup/\(∀t∈x.e.aH,t≠x.e.cq/\∀o∈x.y.b2,o.cq≠t)/\∀o∈x.y.b2,o.cq≠x.e.cq)
  (g:al s x.e.cq=J p) (bb:∀w∈h,w∈p) (K:∀o∈x.y.b2,∀q,al s o.cq=J q->∃O,al x.y.aH o.cq=J O/\km (lens x.y.bD) (q.filter λi=> !decide (i∈h))<=km (lens x.y.bD) (F O)):Yw x.c (bq.mk z.y.bD s z.y.b2 z.y.busy z.y.bo z.y.cE):=by
 obtain ⟨X,V,Jc,S,Q⟩:=B;generalize aN6:z.y.bo.proof=P at*;have d:z.y.bo=eR.mk h j P x.e.cq z.y.bo.aH 0:=by rw[X]
 have H:z.y.bD=x.y.bD:=by rw[X]
 have E:z.y.b2=x.y.b2:=by rw[X]
 have T:∀t∈z.y.bo.aH,t∈x.e.aH:=λt m=>by rw[V] at m;exact aKg m
 have Y:j.items.map (λi=>i.length)=h.map λw=>(al (lens x.y.bD) w).getD 0:=aLY l λk U i e f=>by have r:=Z i (lP f);obtain ⟨v,M⟩:=hT (xs:=x.y.bD) r.1 r.2;rw[I k U i v e f M,aLB M];rfl
 have ai:j.items.map (λi=>i.dS)=h.map λw=>aIw (bq.mk z.y.bD s z.y.b2 z.y.busy z.y.bo z.y.cE) w:=aLY l λk U i e f=>by have r:=Z i (lP f);obtain ⟨v,M⟩:=hT (xs:=x.y.bD) r.1 r.2;rw[I k U i v e f M];unfold aIw;dsimp only;rw[H,E,M];rfl
 have aT:P.e9.fW=h.map λw=>aIA z.y.bo w:=by
  have:=aLY (a:=P.e9.fW) (b:=h) (f:=id) (g:=λw=>aIA z.y.bo w) (by omega) λk v w e f=>by unfold aIA;rw[d];dsimp only;rw[aM9 N f,show (0:Int)+k=k by omega,e];rfl
  simpa using this
 have n:z.y.bo.bD=h:=by rw[d]
 refine ⟨?_,⟨?_, ?_, ?_⟩, ?_, ?_, ?_⟩<;>dsimp only
 ·rw[n];exact N
 ·rw[V];exact A.1.sublist (List.take_sublist _ _)
 ·intro m;have:=(A.2.1 _ (T _ m)).1;rw[d] at this;exact this rfl
 ·intro o m;rw[E] at m;refine ⟨?_,λk=>(A.2.1 _ (T _ k)).2 o m rfl⟩;rw[d];exact A.2.2 o m
 ·intro w m;rw[n] at m;refine ⟨p, ?_,bb w m⟩;unfold aIC;dsimp only;rw[if_pos (by rw[d]),d];exact g
 ·intro b t a L A3;rw[V] at L;have e:=aM7 L;have:=S b t a (ku e.1).1 e.2 e.1 A3;rw[aT,aMP Y] at this;rw[n,H];exact this
 ·intro k o a q C R eq;rw[E] at C;obtain ⟨O,eV,bR⟩:=K o (lP C) q eq;have:=Q k o a O C R eV;rw[aMW Y ai] at this;rw[n];rw[<-H] at this bR;omega
variable {N:Nat} [gM N]
instance :au (Q4) (True) λr=>r=ak:=⟨by rw[Q4];exact aC⟩
instance (priority:=high) {a U} :au (Hl N a U) (U.length<=1000000) λr=>r=aa↔a∈U:=⟨by rw[Hl];exact aC⟩
instance (priority:=high) {d e a b} :au (Mt d e b a) (0<=a/\a<b.length/\(∀i∈b,0<=i/\i<d.y.bD.length)/\(∀l∈lens d.y.bD,1<=l/\l<=400)/\0<=e/\e<=40000+400*a/\a<=1000000/\b.length<=1000000) λr=>0<=r/\r<=40000+400*(a+1)/\r+km (lens d.y.bD) (b.drop (a+1).toNat)=e+km (lens d.y.bD) (b.drop a.toNat):=⟨by rw[Mt];(repeat' with_reducible first|intro _|apply dq|apply dh|refine dj (by omega) ?_|apply di|apply dk|apply df|apply eC|apply dr|apply dg)<;>first|grind -mbtc|grind -mbtc [aLB]⟩
instance (priority:=high) {f d e n b a} :au (Dw f d e n b a) ((∀i∈d,0<=i/\i<f.y.bD.length)/\(∀l∈lens f.y.bD,1<=l/\l<=400)/\d.length<=1000000/\e=d.length/\0<=a/\a<=e/\e - a<n/\0<=b/\b<=40000+400*a) λr=>r=b+km (lens f.y.bD) (d.drop a.toNat):=by induction n generalizing b a with|zero=>exact bJ|succ n g=>exact ⟨by rw[Dw];exact aC⟩
instance (priority:=high) {b f e g n d} :au (Du N b f e g n d) (jr b.c b.y/\e=b.y.b2/\g=e.length/\e.length<=100/\f.items.length<=96/\(∀i∈f.items,ID i)/\0<=d/\d<=g/\g - d<n) λr=>iX r (λ_=>∀k o a q,d<=k->al e k=J o->al b.c.aH o.cq=J a->al b.y.aH o.cq=J q->ts k f.items+km (lens b.y.bD) q<=a.length)/\fh r λa=>a≠0:=by induction n generalizing d with|zero=>exact bJ|succ n h=>exact ⟨by rw[Du];exact aC⟩
instance (priority:=high) {d U f} :au (QG N d U f) (jr d.c d.y/\f.fW.length=U.items.length/\U.items.length<=96/\0<=f.steps/\f.steps<=10000/\(∀t∈d.e.aH,0<=t/\t<d.c.aH.length)/\(∀i∈U.items,ID i)) λr=>r=0->f.steps<=d.e.aH.length/\(∀b t a,0<=b->b<f.steps->al d.e.aH b=J t->al d.c.aH t=J a->zs b (U.items.zip f.fW)<=a.length)/\∀k o a q,al d.y.b2 k=J o->al d.c.aH o.cq=J a->al d.y.aH o.cq=J q->ts k U.items+km (lens d.y.bD) q<=a.length:=⟨by rw[QG];exact aC⟩
instance (priority:=high) {d e f a b} :au (Mq N d e f b a) (0<=a/\a<b.length/\(∀i∈b,0<=i/\i<d.y.bD.length)/\(∀l∈lens d.y.bD,1<=l/\l<=400)/\0<=f/\f<=40000+400*a/\a<=1000000/\e.length<=1000000/\b.length<=1000000) λr=>0<=r/\r<=40000+400*(a+1)/\r+km (lens d.y.bD) (((b.drop (a+1).toNat)).filter λi=> !decide (i∈e))=f+km (lens d.y.bD) (((b.drop a.toNat)).filter λi=> !decide (i∈e)):=⟨by rw[Mq];(repeat' with_reducible first|intro _|apply dq|apply dh|refine dj (by omega) ?_|apply di|apply dk|apply df|apply eC|apply dr|apply dg)<;>first|grind -mbtc|grind -mbtc [aLB]⟩
instance (priority:=high) {f g d e n b a} :au (Dr N f g d e n b a) ((∀i∈d,0<=i/\i<f.y.bD.length)/\(∀l∈lens f.y.bD,1<=l/\l<=400)/\g.length<=1000000/\d.length<=1000000/\e=d.length/\0<=a/\a<=e/\e - a<n/\0<=b/\b<=40000+400*a) λr=>r=b+km (lens f.y.bD) (((d.drop a.toNat)).filter λi=> !decide (i∈g)):=by induction n generalizing b a with|zero=>exact bJ|succ n h=>exact ⟨by rw[Dr];exact aC⟩
instance (priority:=high) {b h f e g n d} :au (Dp N b h f e g n d) (jr b.c b.y/\e=b.y.b2/\g=e.length/\e.length<=100/\f.items.length<=96/\(∀i∈f.items,ID i)/\h.length<=1000000/\0<=d/\d<=g/\g - d<n) λr=>iX r (λ_=>∀k o a q,d<=k->al e k=J o->al b.c.aH o.cq=J a->al b.y.aH o.cq=J q->ts k f.items+km (lens b.y.bD) ((q).filter λi=> !decide (i∈h))<=a.length)/\fh r λa=>a≠0:=by induction n generalizing d with|zero=>exact bJ|succ n j=>exact ⟨by rw[Dp];exact aC⟩
instance (priority:=high) {d U f g} :au (QF N d U f g) (jr d.c d.y/\f.fW.length=U.items.length/\U.items.length<=96/\0<=f.steps/\f.steps<=10000/\(∀t∈d.e.aH,0<=t/\t<d.c.aH.length)/\(∀i∈U.items,ID i)/\g.length<=1000000) λr=>r=0->f.steps<=d.e.aH.length/\(∀b t a,0<=b->b<f.steps->al d.e.aH b=J t->al d.c.aH t=J a->zs b (U.items.zip f.fW)<=a.length)/\∀k o a q,al d.y.b2 k=J o->al d.c.aH o.cq=J a->al d.y.aH o.cq=J q->ts k U.items+km (lens d.y.bD) ((q).filter λi=> !decide (i∈g))<=a.length:=⟨by rw[QF];exact aC⟩
instance (priority:=high) {a U b} :au (x3 N a U b) (jr a.c a.y/\a.e.aH.length<=100/\0<=a.e.cq/\a.e.cq<a.c.aH.length/\(∀t∈a.e.aH,0<=t/\t<a.c.aH.length)/\b.items.length=U.length/\U.length<=1000/\(∀i∈b.items,0<=i.dS/\i.dS<a.y.b2.length)/\(∀i∈U,nV a.y i)) λr=>(r.1=0->r.2.c=a.c/\r.2.r.vv=a.r.vv/\r.2.y.bD=a.y.bD/\r.2.y.aH=a.y.aH/\r.2.y.b2=a.y.b2/\kC r.2.y/\r.2.y.bo.bD=U/\r.2.y.bo.lead=a.e.cq/\(∀t∈r.2.y.bo.aH,t∈a.e.aH)/\nW r.2.y/\nq r.2.y.bo)/\(r.1=0->aIP (λq=>q) a U b r.2):=⟨λd=>azU (au.ok (e:=x3 N a U b) (by grind -mbtc)) (by revert d;rw[x3];(repeat' with_reducible first|intro _|apply dq|apply dh|refine dj (by omega) ?_|apply di|apply dk|apply df|apply eC|apply dr|apply dg)<;>first|grind -mbtc|grind -mbtc [aIP])⟩
instance (priority:=high) {a U b d} :au (x1 N a U b d) (jr a.c a.y/\a.e.aH.length<=100/\0<=a.e.cq/\a.e.cq<a.c.aH.length/\(∀t∈a.e.aH,0<=t/\t<a.c.aH.length)/\b.items.length=U.length/\U.length<=1000/\(∀i∈b.items,0<=i.dS/\i.dS<a.y.b2.length)/\(∀i∈U,nV a.y i)/\d.length<=1000000/\d=U) λr=>(r.1=0->r.2.c=a.c/\r.2.e=a.e/\r.2.r.vv=a.r.vv/\r.2.y.bD=a.y.bD/\r.2.y.aH=a.y.aH/\r.2.y.b2=a.y.b2/\kC r.2.y/\r.2.y.bo.bD=U/\r.2.y.bo.lead=a.e.cq/\(∀t∈r.2.y.bo.aH,t∈a.e.aH)/\nW r.2.y/\nq r.2.y.bo)/\(r.1=0->aIP (λq=>q.filter λi=> !decide (i∈U)) a U b r.2):=⟨λf=>azU (au.ok (e:=x1 N a U b d) (by grind -mbtc)) (by revert f;rw[x1];(repeat' with_reducible first|intro _|apply dq|apply dh|refine dj (by omega) ?_|apply di|apply dk|apply df|apply eC|apply dr|apply dg)<;>first|grind -mbtc|(have e:d=U:=(by grind -mbtc);subst e;grind -mbtc [aIP]))⟩
end
end Go.W