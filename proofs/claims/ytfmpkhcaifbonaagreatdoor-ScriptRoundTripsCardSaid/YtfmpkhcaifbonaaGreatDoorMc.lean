import Derived.Test.YtfmpkhcaifbonaaGreatDoorMb
set_option linter.unusedSimpArgs false
set_option linter.unusedVariables false
open Bool renaming and_eq_true->ati,and_eq_true_iff->auG,and_self->auT,noConfusion->avP,not_eq_true'->auQ,or_eq_true->auj,false->as9,true->as5
open Classical renaming choose->avQ
open Go renaming Operand->atd,Program->atb,Value->as7
open List renaming all_cons->atX,all_eq_true->atq,eq_nil_of_length_eq_zero->aui,ext_getElem?->auw,flatMap_cons->auO,getD_eq_getElem?_getD->avF,getElem?_append_left->atN,getElem?_append_right->atM,getElem?_cons_succ->auo,getElem?_eq_getElem->atS,getElem?_eq_some_iff->atp,getElem?_map->aub,getElem?_set->atQ,length_append->aua,length_cons->aun,length_map->aus,length_set->aur,map_congr_left->avR,map_cons->aud,mem_append->atP,mem_cons->ats,mem_cons_of_mem->atC,mem_cons_self->atU,mem_map->atw,mem_of_getElem?->at3,range->atW
open Nat renaming add_mul->atJ,add_zero->at2,beq->ath,ble->atn,blt->aty,blt_eq->avv,eq_of_beq_eq_true->atl,le_of_ble_eq_true->ato,le_refl->atk,le_succ->atG,le_trans->atx,lt_of_lt_of_le->atu,zero_add->atB
open Option renaming bind->as8,getD_some->avq,map_eq_some_iff->auU,some->atj,none->as6,some->as4
section
namespace Go.ay
section
variable {P:atb} {D:Nat->Type} {X:et P D} {af:Type} {z z':Nat->bm} {e m m':Mem} {k:Option Nat} {vs:List as7} {fr:Nat->as7} {E:List (Nat×aV D)} {O:List (aR D)} {o:Oper} {r:af}
variable {x y:atd} {t u:TypeId} {K:aV D->List (aR D)->Option af}
def fY (m m':Mem) (q:Option Nat):Prop:=m.next<=m'.next/\∀b,b<m.next->q≠as4 b->m'.aS b=m.aS b
def nv (vs:List as7) (ts:List Nat) (q:Option Nat):Prop:=q=as6\/∃i,i∈ts/\∃v,vs[i]? =as4 v/\q=dy v
theorem cd.mono {af:atd->as7} {K kL:Tag->as7->Mem->Prop} (h:cd P af o m K) (ar:∀t v m',K t v m'->kL t v m'):cd P af o m kL:=by
 rcases h with ⟨v,h,g⟩|⟨v,I,h,g⟩|⟨v,h,g⟩|⟨Y,v,h,g⟩|⟨n,v,m',h,g⟩
 ·exact .inl ⟨v,h,ar _ _ _ g⟩
 ·exact .inr (.inl ⟨v,I,h,ar _ _ _ g⟩)
 ·exact .inr (.inr (.inl ⟨v,h,ar _ _ _ g⟩))
 ·exact .inr (.inr (.inr (.inl ⟨Y,v,h,ar _ _ _ g⟩)))
 ·exact .inr (.inr (.inr (.inr ⟨n,v,m',h,ar _ _ _ g⟩)))
def hV (X:et P D):Prop:=∀(f:Nat) (cp:List (aV D)) (O:List (aR D)) {af:Type} (K:aV D->List (aR D)->Option af) (r:af) {z:Nat->bm} {e m:Mem} {k:Option Nat} {vs:List as7} (args:List as7),
 bC X.G O z e m k vs->bp (rel X.G z vs) cp args->X.C f cp O K=as4 r->hi P f args.toArray m fun v m'=>dj X O z e k vs K r v m'/\(X.F f cp O=as5->m'=m)/\(X.W f=as9->∃q,fY m m' q/\nv vs (pf cp) q)
theorem bp.caps {caps:List (Nat×List (bY D))} {gs:List as7} (h:bp (fun c g=>lX X.G z vs c.2 0 g) caps gs):bp (rel X.G z vs) (caps.map fun p=>aV.gU p.1 p.2 0) gs:=by
 induction caps generalizing gs with
 |nil=>cases gs with
  |nil=>trivial
  |cons _ _=>exact h.elim
 |cons c caps aq=>cases gs with
  |nil=>exact h.elim
  |cons g gs=>exact ⟨h.1,aq h.2⟩
theorem VN {aB:Type} {T:cr aB} {gw:aB->List as7} (ab:∀z x ds,T.rd z x ds->ds=gw x) {L:List as7}:∀{xs:List aB} {o:Nat},(∀(i:Nat) (x:aB),xs[i]? =as4 x->∃cs,T.rd z x cs/\mX L (o+i*T.a9) cs)->(∀x∈xs,(gw x).length=T.a9)->
  ∀(i:Nat) (v:as7),(xs.flatMap gw)[i]? =as4 v->L[o+i]? =as4 v
 |[],o,_,_,i,v,h=>by grind
 |x::xs,o,h,ax,i,v,aj=>by
  obtain ⟨cs,U,aa⟩:=h 0 x rfl;have:=ab _ _ _ U;subst this;have M4:=ax x atU;rw[auO,List.getElem?_append] at aj;split at aj
  ·have:=aa i v aj
   grind
  ·rename_i gK;have:=VN ab (xs:=xs) (o:=o+T.a9) (L:=L) (fun j y a0=>by
    obtain ⟨cs,aU,aO⟩:=h (j+1) y (by grind)
    grind) (fun y aJ=>ax y (atC _ aJ)) _ v aj
   grind
theorem Xx {aB:Type} {gw:aB->List as7} {n:Nat}:∀{xs:List aB},(∀x∈xs,(gw x).length=n)->∀(i j:Nat) (x:aB) (v:as7),xs[i]? =as4 x->(gw x)[j]? =as4 v->(xs.flatMap gw)[i*n+j]? =as4 v
 |[],_,i,j,x,v,h,_=>by grind
 |y::xs,ax,0,j,x,v,h,a0=>by
  grind
 |y::xs,ax,i+1,j,x,v,h,a0=>by have aJ:=ax y atU;rw[auO,atJ,Nat.one_mul,atM (by omega),show i*n+n+j - (gw y).length=i*n+j by omega];exact Xx (fun x ad=>ax x (atC _ ad)) i j x v (by grind) a0
theorem OD {aB:Type} {gw:aB->List as7} {n:Nat}:∀{xs:List aB},(∀x∈xs,(gw x).length=n)->(xs.flatMap gw).length=xs.length*n
 |[],_=>by simp
 |x::xs,h=>by rw[auO,aua,h x atU,OD fun y aJ=>h y (atC _ aJ),aun,atJ];omega
theorem ai1 {cp:List (aV D)} {n:Nat} (h:Qg (Hp cp) n=as5):∃s,cp=[s, .fn n []]:=by
 unfold Hp at h;split at h
 ·rename_i s g;obtain rfl:=atl h
  grind
 ·cases h
theorem Fp {f:Nat} {caps:List (Nat×List (bY D))} {cp:List (aV D)} {fm:tm P X.G}:∀{l:List (tm P X.G)},u1 X l f caps cp=as4 fm->fm.f=f/\caps=[]/\∃s,cp=[s, .fn fm.g []]
 |[],h=>by cases h
 |s::l,h=>by
  unfold u1 at h;by_cases ah:(ath s.f f&&(caps.isEmpty&&Qg (Hp cp) s.g))=as5
  ·simp_all [ai1]
  ·rw[if_neg ah] at h;exact Fp h
theorem Wj {f:Nat} {cp:List (aV D)} {fm:tm P X.G} {args:List as7} {caps:List (Nat×List (bY D))} (bd:u1 X X.S f caps cp=as4 fm) (aw:bC X.G O z e m k vs) (cV:bp (rel X.G z vs) cp args) (h:Pw X fm cp O K=as4 r):
  hi P f args.toArray m fun v m'=>dj X O z e k vs K r v m'/\∃q,fY m m' q/\nv vs (zl cp) q:=by
 obtain ⟨rfl,_,s,rfl⟩:=Fp bd
 match args,cV with
 |[cG,dE],⟨U,⟨gs,aa,ao⟩,_⟩=>
  have tQ:gs=[]:=by cases gs with
   |nil=>rfl
   |cons _ _=>exact ao.elim
  subst tQ;subst aa;unfold Pw at h;split at h
  ·rename_i ig l aE;cases aE;have U:cG= .slice as6 0 0:=U;subst U;exact hi.sort fm.ok (.none as6 0 fm.g fm.bg rfl) ⟨dj.here (df:= .nb []) aw ⟨[],rfl,trivial⟩ h,as6,⟨atk _,fun _ _ _=>rfl⟩, .inl rfl⟩
  ·rename_i i l aE;cases aE;split at h
   ·rename_i t xs w an;split at h
    ·rename_i he;subst he;obtain ⟨b1,aJ,h⟩:=bind_some h;have cn:dL (X.G.T fm.e) z e m k xs cG:=aw.obj i _ cG an U.1;have ub:∀x∈xs,(fm.gw x).length=(X.G.T fm.e).a9:=fun x _=>(X.G.T fm.e).len z x _ (fm.aF z x);have UM:∀x∈b1,(fm.gw x).length=(X.G.T fm.e).a9:=fun x _=>(X.G.T fm.e).len z x _ (fm.aF z x);have a2:=fm.a2 xs b1 aJ;have tN:∀l:List (D fm.e),(l.flatMap fm.gw).all cQ=as5:=fun l=>by
      rw[atq];intro v ab;obtain ⟨x,_,ad⟩:=List.mem_flatMap.1 ab;exact atq.1 (fm.bd x) v ad
     rcases cn.bs with ⟨rfl,rfl⟩|⟨b,f0,L,c,rfl,aU,aO,bT,cP,eG,gN⟩
     ·have q9:b1=[]:=aui (by grind);subst q9;refine hi.sort fm.ok (.none as6 0 fm.g fm.bg rfl) ⟨⟨z,vs, .nb [],_,Inv.set O i (.inr rfl),dt.refl z,fun _ _ h=>h, ?_,⟨[],rfl,trivial⟩,h⟩,as6,⟨atk _,fun _ _ _=>rfl⟩, .inl rfl⟩;exact aw.mw (m':=m) an U.1 rfl ⟨atk _,aw.aM.dead,fun _ _ _=>rfl⟩ aw.aM cn
     ·by_cases fW:xs.length=0
      ·have ad5:xs=[]:=aui fW;subst ad5;have q9:b1=[]:=aui (by grind);subst q9;refine hi.sort fm.ok (.none _ c fm.g fm.bg rfl) ⟨⟨z,vs, .nb [],_,Inv.set O i (.inr rfl),dt.refl z,fun _ _ h=>h, ?_,⟨[],rfl,trivial⟩,h⟩,as6,⟨atk _,fun _ _ _=>rfl⟩, .inl rfl⟩;exact aw.mw (m':=m) an U.1 rfl ⟨atk _,aw.aM.dead,fun _ _ _=>rfl⟩ aw.aM cn
      ·have ar0:=OD ub;have ar1:=OD UM;have hlen:(e1 L f0 (b1.flatMap fm.gw)).length=L.length:=mZ _ _ _;have bb:=cn.bb b rfl;have Es:fD m (m.put b (.own (e1 L f0 (b1.flatMap fm.gw)) (X.G.T fm.e).tid)) (as4 b):=by
        refine ⟨atk _,fun c ah=> ?_,fun c ah ar=> ?_⟩
        ·have ah:m.next<=c:=ah;simp only[Mem.put];rw[if_neg (by omega)];exact aw.aM.dead c ah
        grind [Mem.put]
       refine hi.sort fm.ok (.row b f0 xs.length c fm.g L (X.G.T fm.e).tid (xs.flatMap fm.gw) (b1.flatMap fm.gw) (fm.aE xs b1 aJ (by omega)) rfl (by omega) aU ?_ (by grind) (by grind) (tN _) (tN _)) ⟨⟨z,vs, .nb [],_,Inv.set O i (.inr rfl),dt.refl z,fun _ _ h=>h, ?_,⟨[],rfl,trivial⟩,h⟩,as4 b,⟨atk _,Es.aS⟩, .inr ⟨i,by simp[zl],_,U.1,rfl⟩⟩
       ·refine auw fun j=> ?_;rw[List.getElem?_take];split
        ·rename_i a0;rw[List.getElem?_drop];have ab:=atS a0;rw[ab];exact VN fm.ab (fun i x ad=>gN i x ad) ub j _ ab
        grind
       ·refine aw.mw an U.1 rfl Es (aw.aM.put _ bT aO bb.2) ⟨.inr ⟨b,f0,e1 L f0 (b1.flatMap fm.gw),c,by grind,by simp[Mem.put],aO,bT,by grind,by grind,fun i x ad=> ?_⟩,cn.fresh⟩;refine ⟨fm.gw x,fm.aF z x,fun j v a0=> ?_⟩;have ar:=Xx UM i j x v ad a0;rw[oz _ _ _ _ (by grind)];have bS:=(atp.1 ar).1;rw[if_pos (by omega),show f0+i*(X.G.T fm.e).a9+j - f0=i*(X.G.T fm.e).a9+j by omega]
        grind
    grind
   grind
  grind
 |[],h=>exact h.elim
 |[_],⟨_,h⟩=>exact h.elim
 |_::_::_::_,⟨_,_,h⟩=>exact h.elim
theorem Wr:∀{is:List Nat} {gs:List as7},bp (qM vs) is gs->bp (rel X.G z vs) (is.map fun i=>aV.box i 0) gs
 |[],[],_=>trivial
 |[],_::_,h=>h.elim
 |_::_,[],h=>h.elim
 |_::_,_::_,⟨⟨bg,b,h⟩,aa⟩=>⟨⟨b,by grind,h⟩,Wr aa⟩
theorem ahH (ca:hV X) {c:Call} (an:o.op= .call c) (aw:bC X.G O z e m k vs) (a1:∀x,rel X.G z vs (cW E x) (a6 fr x)) (h:qc X c E O K=as4 r):cd P (a6 fr) o m fun _ v m'=>dj X O z e k vs K r v m':=by
 obtain ⟨ce,as,ts⟩:=c;cases ce with
 |invoke r m=>cases h
 |value f=>
  simp only[qc] at h;split at h
  ·rename_i k7 caps bd;have hg:=a1 f;rw[bd] at hg;obtain ⟨gs,tO,a5⟩:=hg;split at h
   ·rename_i fm o3;have MK:caps=[]:=(Fp o3).2.1;subst MK;have tQ:gs=[]:=by cases gs with
     |nil=>rfl
     |cons _ _=>exact a5.elim
    subst tQ;refine cd.call (y6 (args:=(as.toList.map (a6 fr)).toArray) (caps:=#[]) an tO (by grind) rfl) ?_;have:=(Wj o3 aw (uC a1) h).mono fun _ _ h=>h.1
    grind
   refine cd.call (y6 (args:=(as.toList.map (a6 fr)).toArray) (caps:=gs.toArray) an tO (by grind) rfl) ?_;have:=(ca k7 _ O K r (as.toList.map (a6 fr)++gs) aw ((uC a1).append a5.caps) h).mono fun _ _ h=>h.1
   grind
  ·rename_i k7 is bd;have hg:=a1 f;rw[bd] at hg;obtain ⟨gs,tO,a5⟩:=hg;refine cd.call (y6 (args:=(as.toList.map (a6 fr)).toArray) (caps:=gs.toArray) an tO (by grind) rfl) ?_;have:=(ca k7 _ O K r (as.toList.map (a6 fr)++gs) aw ((uC a1).append (Wr a5)) h).mono fun _ _ h=>h.1
   grind
  grind
 |builtin b=>
  cases b with
  |len=>
   simp only[qc] at h;split at h
   ·rename_i x t aY au;have sj:as=#[x]:=by grind
    have mi:ts=#[t]:=by grind
    subst sj mi;exact aic (ts:=#[t]) an aw (a1 x) h
   grind
  |append=>
   simp only[qc] at h;split at h
   ·rename_i x y t u aY au;have sj:as=#[x,y]:=by grind
    have mi:ts=#[t,u]:=by grind
    grind [aht,ahG,ahF,aiw]
   grind
  |cap=>
   simp only[qc] at h;split at h
   ·rename_i x t aY au;have sj:as=#[x]:=by grind
    have mi:ts=#[t]:=by grind
    subst sj mi;split at h
    ·rename_i gV ad hu;have ab:=a1 x;rw[ad] at ab;exact cd.pure (.xX x t gV an hu ab) (dj.here (df:= .c (.int .i64 0)) aw rfl h)
    grind
   grind
  |max=>
   simp only[qc] at h;split at h
   ·rename_i x y aY;have sj:as=#[x,y]:=by grind
    subst sj;have ad:=a1 x;have aJ:=a1 y;split at h
    ·rename_i b5 a cc b U aa;rw[U] at ad;rw[aa] at aJ;split at h
     ·rename_i ar;subst ar;exact iT aw h (YU an ad aJ) rfl
     grind
    grind
   grind
  |min=>
   simp only[qc] at h;split at h
   ·rename_i x y aY;have sj:as=#[x,y]:=by grind
    subst sj;have ad:=a1 x;have aJ:=a1 y;split at h
    ·rename_i b5 a cc b U aa;rw[U] at ad;rw[aa] at aJ;split at h
     ·rename_i ar;subst ar;exact iT aw h (YV an ad aJ) rfl
     grind
    grind
   grind
  |_=>cases h
theorem aik {s:aV D} {v:as7} {p:QK D} (aw:bC X.G O z e m k vs) (h:PN O s=as4 p) (ab:rel X.G z vs s v):lz (X.G.M p.u p.bh p.bc) z p.es v\/iw (X.G.M p.u p.bh p.bc) z e m k p.es v:=by
 unfold PN at h;split at h
 ·cases h;exact .inl ab
 ·split at h
  ·rename_i u bh bc es bi dk an;cases h;have cn:=aw.obj _ _ v an ab.1;cases bi with
   |true=>exact .inl cn
   |false=>exact .inr cn
  grind
 grind
theorem F2 (ca:hV X) {op:Op} (an:o.op=op) (aw:bC X.G O z e m k vs) (a1:∀x,rel X.G z vs (cW E x) (a6 fr x)) (h:hR X op E O K=as4 r):cd P (a6 fr) o m fun _ v m'=>dj X O z e k vs K r v m':=by
 cases op with
 |move x=>exact iT aw h (afE an rfl) (a1 x)
 |assign x=>exact iT aw h (aow an rfl) (a1 x)
 |nilCheck x=>
  have ad:=a1 x;simp only[hR] at h;split at h
  ·rename_i i off aE;have nF:=ad;rw[aE] at nF;obtain ⟨b,_,ab⟩:=nF;exact iT aw h (by rw[ab];exact .nilCheck x _ an ab) ad
  ·rename_i i aE;have nF:=ad;rw[aE] at nF;obtain ⟨b,l,_,ab⟩:=nF;exact iT aw h (by rw[ab];exact .nilCheck x _ an ab) ad
  ·rename_i i bt cJ off aE;have nF:=ad;rw[aE] at nF;obtain ⟨b,f0,l,c,_,ab⟩:=nF;exact iT aw h (by rw[ab];exact .nilCheck x _ an ab) ad
  ·rename_i t cs off aE;have nF:=ad;rw[aE] at nF;obtain ⟨b,pb,ds,ab,_⟩:=nF;exact iT aw h (by rw[ab];exact .nilCheck x _ an ab) ad
  ·cases h
 |extract x i=>
  have ad:=a1 x;simp only[hR] at h;split at h
  ·rename_i l aE;rw[aE] at ad;obtain ⟨ds,ab,ax⟩:=ad;split at h
   ·rename_i c ah;obtain ⟨w,hw,aF⟩:=ax.get i _ ah;exact iT aw h (WD an ab hw) aF
   ·rename_i p ah;obtain ⟨w,hw,aF⟩:=ax.get i _ ah;exact iT aw h (WD an ab hw) aF
   ·cases h
  ·cases h
 |pick c a b=>
  have ah:=a1 c;simp only[hR] at h;split at h
  ·rename_i aE;rw[aE] at ah;exact iT aw h (YY (t:=as5) an ah (if_pos rfl)) (a1 a)
  ·rename_i aE;rw[aE] at ah;exact iT aw h (YY (t:=as9) an ah (if_neg (by simp))) (a1 b)
  ·cases h
 |binOp op t x y u=>
  simp only[hR] at h;have ad:=a1 x;have aJ:=a1 y;split at h
  ·rename_i t1 c1 t2 c2 U aa;rw[U] at ad;rw[aa] at aJ;obtain ⟨c,v,fy,aL,aF⟩:=apk an ad aJ h;exact iT aw fy aL aF
  ·obtain ⟨c,v,fy,aL,aF⟩:=aji an aw ad aJ h;exact iT aw fy aL aF
 |unOp op t x=>
  have ad:=a1 x;cases op with
  |not=>
   simp only[hR] at h;split at h
   ·rename_i b aE;rw[aE] at ad;exact iT aw h (Vk an ad) rfl
   ·cases h
  |neg=>
   simp only[hR] at h;split at h
   ·rename_i kk a aE;rw[aE] at ad;exact iT aw h (Vi an ad) rfl
   ·cases h
  |_=>simp[hR] at h
 |convert s t x=>exact ahI an aw (a1 x) h
 |indexAddr t x y=>
  cases x with
  |global g=>exact aia an aw (a1 y) h
  |_=>exact aib an aw (a1 _) (a1 y) h
 |field t x n=>exact ahw an aw (a1 x) h
 |fieldAddr t x n=>exact ah9 an aw (a1 x) h
 |load t x=>
  simp only[hR] at h;split at h
  ·unfold XL at h;refine (Wi an aw (a1 x) h).mono fun _ v m' a2=> ?_;obtain ⟨cv,jo,df,b2,bg,U,aa,ao,aN,bI⟩:=a2;dsimp only at bI;split at bI
   ·rename_i j;split at bI
    ·rename_i c dK bd;obtain ⟨cT,cG,dE,gf,ik⟩:=XD ao bd aN.1;exact ⟨cT,jo, .c c,dK,bg.trans cG,U.trans dE,aa,gf,ik,bI⟩
    ·cases bI
   ·cases bI
  ·split at h
   ·exact ahx an aw (a1 x) h
   ·exact Wi an aw (a1 x) h
 |store t x y=>exact ahA an aw (a1 x) (a1 y) h
 |alloc t=>exact ahs an aw h
 |box t x=>
  simp only[hR] at h;split at h
  ·rename_i i cs aj ah;split at h
   ·rename_i ax;exact aix an aw (a1 x) aj ah ax h
   ·cases h
  ·cases h
 |makeSlice t x y=>
  have ad:=a1 x;simp only[hR] at h;split at h
  ·rename_i gG kk n au aE;rw[aE] at ad;split at h
   ·exact ahz an au aw ad h
   ·split at h
    ·rename_i ti hC v7;exact ah2 an au aw ad v7 h
    ·cases h
  ·cases h
 |buildSlice t l cm=>
  simp only[hR] at h;split at h
  ·exact aie an aw a1 h
  ·split at h
   ·rename_i gG au;split at h
    ·rename_i ti hC;exact ahv an au aw a1 h
    ·cases h
   ·cases h
 |build t cm=>
  simp only[hR] at h;split at h
  ·rename_i bl ti au hC;split at h
   ·rename_i aL;split at h
    ·rename_i cs ah;exact agW an au aw a1 aL ah h
    ·cases h
   ·cases h
  ·rename_i n DK ti au hC;split at h
   ·rename_i kk ar;split at h
    ·rename_i cs ah;exact ahu an au ar aw a1 ah h
    ·cases h
   ·cases h
  ·cases h
 |slice t x bD aj fl=>
  cases fl with
  |none=>exact ahJ an aw a1 (a1 x) h
  |some fl=>
   cases bD with
   |some _=>simp[hR] at h
   |none=>
    cases aj with
    |none=>simp[hR] at h
    |some y=>exact ahK an aw a1 h
 |index t x y=>
  have ad:=a1 x;have aJ:=a1 y;simp only[hR] at h;split at h
  ·rename_i s kk n au U aa;rw[U] at ad;rw[aa] at aJ;obtain ⟨c,ah,h⟩:=bind_some h;exact aj9 an au ad aJ ah (dj.here (df:= .c (.int .u8 (UInt8.toNat c:Int))) aw rfl h)
  ·exact ah0 an aw ad aJ h
 |makeFunc fn first cap=>
  cases fn with
  |func f=>
   simp only[hR] at h;split at h
   ·split at h
    ·rename_i is bd ah;exact ah' an bd aw a1 ah h
    ·cases h
   ·split at h
    ·rename_i caps b2 bd ah;exact aot an bd aw a1 ah h
    ·cases h
  |_=>simp[hR] at h
 |makeMap t rs=>
  cases rs with
  |none=>
   simp only[hR] at h;split at h
   ·rename_i bh bc au;exact aid an au aw h
   ·cases h
  |some _=>simp[hR] at h
 |lookup t x y ok=>
  have ad:=a1 x;have aJ:=a1 y;simp only[hR] at h;split at h
  ·rename_i u bh bc es ax;have hm:=aik aw ax ad;split at h
   ·rename_i b5 v1 cc v2 au hu;split at h
    ·rename_i ek;obtain ⟨rfl,rfl,rfl,rfl⟩:=ek;split at h
     ·rename_i eP T2;split at h
      ·rename_i a aY;exact ah1 an au hu aw hm aJ aY h
      ·cases h
     ·cases h
    ·cases h
   ·cases h
  ·cases h
 |mapUpdate t x y w=>
  have ad:=a1 x;have aJ:=a1 y;have hw:=a1 w;simp only[hR] at h;split at h
  ·rename_i i d U ao;rw[U] at ad;rw[ao] at hw;split at h
   ·rename_i u bh bc es dk bN;split at h
    ·rename_i b5 v1 cc v2 au hu;split at h
     ·rename_i ek;obtain ⟨rfl,rfl,rfl,rfl⟩:=ek;split at h
      ·rename_i eP T2;split at h
       ·rename_i a b aY ag;exact WB (.inl an) au hu aw bN ad.1 aJ hw aY ag h
       ·cases h
      ·cases h
     ·cases h
    ·cases h
   ·cases h
  ·cases h
 |insert t x y w=>
  have ad:=a1 x;have aJ:=a1 y;have hw:=a1 w;simp only[hR] at h;split at h
  ·rename_i i d U ao;rw[U] at ad;rw[ao] at hw;split at h
   ·rename_i u bh bc es dk bN;split at h
    ·rename_i b5 v1 cc v2 au hu;split at h
     ·rename_i ek;obtain ⟨rfl,rfl,rfl,rfl⟩:=ek;split at h
      ·rename_i eP T2;split at h
       ·rename_i a b aY ag;exact WB (.inr an) au hu aw bN ad.1 aJ hw aY ag h
       ·cases h
      ·cases h
     ·cases h
    ·cases h
   ·cases h
  ·cases h
 |call c=>exact ahH ca an aw a1 h
 |_=>simp[hR] at h
end
end Go.ay
end
section
namespace Go.ay
section
variable {P:atb} {D:Nat->Type} {X:et P D} {af:Type} {z z':Nat->bm} {e m m':Mem} {k:Option Nat} {vs vs':List as7} {fr:Nat->as7} {E:List (Nat×aV D)} {O bW:List (aR D)} {o:Oper} {r:af}
theorem fY.refl (m:Mem):fY m m as6:=⟨atk _,fun _ _ _=>rfl⟩
theorem fY.push (m:Mem) (Y:bm):fY m (m.push Y) as6:=⟨atG _,fun b ag _=>if_neg (by omega)⟩
theorem fY.put (m:Mem) (c:Nat) (Y:bm):fY m (m.put c Y) (as4 c):=⟨atk _,fun b ag a2=>if_neg (fun h=>a2 (by rw[h]))⟩
theorem fY.any (h:fY m m' as6) (q:Option Nat):fY m m' q:=⟨h.1,fun b ag _=>h.2 b ag (by simp)⟩
theorem cd.EP {af:atd->as7} {K kL:Tag->as7->Mem->Prop} (h:cd P af o m K)
  (U:∀v,cX P af o v->(∃t,K t v m)->kL .pure v m) (aa:∀v,eJ P af o m v->K (.read fun m=>eJ P af o m v) v m->kL (.read fun m=>eJ P af o m v) v m)
  (ao:∀Y v,ij P af o m.next Y v->K .new v (m.push Y)->kL .new v (m.push Y)) (aN:∀n v m',gI P (iq P n) af o m v m'->K .e4 v m'->kL .e4 v m'):cd P af o m kL:=by
 rcases h with ⟨v,h,g⟩|⟨v,I,h,g⟩|⟨v,h,g⟩|⟨Y,v,h,g⟩|⟨n,v,m',h,g⟩
 ·exact .inl ⟨v,h,U v h ⟨_,g⟩⟩
 ·exact .inl ⟨v,h,U v h ⟨_,g⟩⟩
 ·exact .inr (.inr (.inl ⟨v,h,aa v h g⟩))
 ·exact .inr (.inr (.inr (.inl ⟨Y,v,h,ao Y v h g⟩)))
 ·exact .inr (.inr (.inr (.inr ⟨n,v,m',h,aN n v m' h g⟩)))
theorem ajs {C:FuncId->Array as7->Mem->as7->Mem->Prop} {v:as7} (a1:∀x,rel X.G z vs (cW E x) (a6 fr x)) (h:gI P C (a6 fr) o m v m') {ts:List Nat} (au:qi X E o.op=as4 ts)
  (ab:∀x as qt,o.op≠ .call {callee:= .value x,args:=as,argTypes:=qt}):∃q,fY m m' q/\nv vs ts q:=by
 cases h with
 |store t x y b off i L e h ad aj hm ab aE ax=>
  simp only[qi,h] at au;have aF:=a1 x;split at au
  ·rename_i j p aE;cases au;rw[aE] at aF;obtain ⟨cR,aU,aO⟩:=aF;rw[ad] at aO;cases aO;exact ⟨_,fY.put m b _, .inr ⟨j,by simp,_,aU,rfl⟩⟩
  ·rename_i j u cJ p aE;cases au;rw[aE] at aF;obtain ⟨cR,f0,l,c,aU,aO⟩:=aF;rw[ad] at aO;cases aO;exact ⟨_,fY.put m b _, .inr ⟨j,by simp,_,aU,rfl⟩⟩
  grind
 |call f args v m' h ca=>
  obtain ⟨x,as,qt,first,cap,h,_⟩:=h
  grind
 |r9 x y t u e i a l c h _ _ _ _ _ _=>exact ⟨as6,fY.refl _, .inl rfl⟩
 |pK x y t u e i z a l c n dN new h _ _ _ _ _ _ _ _ _ _ _ _ _ _=>exact ⟨as6,fY.push _ _, .inl rfl⟩
 |vE x y t u e i b off l c k n L new h _ _ ad _ _ nC ac8 _ pV _=>
  simp only[qi,h] at au;have aF:=a1 x;split at au
  ·rename_i aE;rw[aE] at aF;have aF:a6 fr x= .slice as6 0 0:=aF
   grind
  ·rename_i j aE;cases au;rw[aE] at aF;exact ⟨_,fY.put m b _, .inr ⟨j,by simp,_,aF.1,by rw[ad];rfl⟩⟩
  ·rename_i j _ _ _ aE;cases au;rw[aE] at aF;obtain ⟨w,aU,aO⟩:=aF;exact ⟨_,fY.put m b _, .inr ⟨j,by simp,_,aU.1,by rw[<-aO.aS,ad];rfl⟩⟩
  ·rename_i aE;cases au;rw[aE] at aF;obtain ⟨_,_,a,aY⟩:=aF
   grind
  grind
 |tr x y t u e i b off l c n L new h _ _ ad _ nC ac8 _ pV _=>
  simp only[qi,h] at au;have aF:=a1 x;split at au
  ·rename_i aE;rw[aE] at aF;have aF:a6 fr x= .slice as6 0 0:=aF
   grind
  ·rename_i j aE;cases au;rw[aE] at aF;exact ⟨_,fY.put m b _, .inr ⟨j,by simp,_,aF.1,by rw[ad];rfl⟩⟩
  ·rename_i j _ _ _ aE;cases au;rw[aE] at aF;obtain ⟨w,aU,aO⟩:=aF;exact ⟨_,fY.put m b _, .inr ⟨j,by simp,_,aU.1,by rw[<-aO.aS,ad];rfl⟩⟩
  ·rename_i aE;cases au;rw[aE] at aF;obtain ⟨_,_,a,aY⟩:=aF;rw[ad] at aY;cases aY;have bg:n=0:=by omega
   have vY:new=[]:=aui (by grind);subst vY;refine ⟨as6,⟨atk _,fun c _ _=> ?_⟩, .inl rfl⟩
   grind [Mem.put,e1]
  grind
 |append x y t u e i z b off l n L new h _ _ _ _ _ _ ad _ _ _ _ _ _=>
  simp only[qi,h] at au;have aF:=a1 x;have ah:fY m ((m.put b .dead).push (.own ((L.drop off).take (l*i.size)++new) e)) (as4 b):=by have:=fY.put m b .dead;exact ⟨atG _,fun c ah a2=>by rw[show ((m.put b .dead).push _).aS c=(m.put b .dead).aS c from if_neg (by show c≠m.next;omega)];exact this.2 c ah a2⟩
  split at au
  ·rename_i aE;rw[aE] at aF;have aF:a6 fr x= .slice as6 0 0:=aF
   grind
  ·rename_i j aE;cases au;rw[aE] at aF;exact ⟨_,ah, .inr ⟨j,by simp,_,aF.1,by rw[ad];rfl⟩⟩
  ·rename_i j _ _ _ aE;cases au;rw[aE] at aF;obtain ⟨w,aU,aO⟩:=aF;exact ⟨_,ah, .inr ⟨j,by simp,_,aU.1,by rw[<-aO.aS,ad];rfl⟩⟩
  ·rename_i aE;cases au;rw[aE] at aF;obtain ⟨_,jZ,a,aY⟩:=aF
   grind
  grind
 |clear x t e i z b off l c L h _ _ _ _ _ _ _ _ _=>grind [qi]
 |copy x y t u e i b off l c L cs h _ _ _ _ _ _ _=>grind [qi]
 |mapUpdate fh x gC gj u bh bc b L eb vc F mF g6 h _ _ ad _ _ _ _ _ _ _ _ _ _ _ _ _ _ _=>
  have aF:=a1 x;have au:(match cW E x with| .c (.own j)=>as4 [j]|_=>as6)=as4 ts:=by rcases h with h|h<;>(rw[h] at au;exact au)
  split at au
  ·rename_i j aE;cases au;rw[aE] at aF;exact ⟨_,fY.put m b _, .inr ⟨j,by simp,_,aF.1,by rw[ad];rfl⟩⟩
  grind
theorem VH {caps:List (Nat×List (bY D))}:∀{l:List (aV D)},pf (l++caps.map fun p=>aV.gU p.1 p.2 0)=pf l
 |[]=>by
  induction caps with
  |nil=>rfl
  |cons c caps aq=>exact aq
 |s::l=>by cases s<;>simp only[List.cons_append,pf,VH (l:=l)]
theorem apT (ca:hV X) {K:aV D->List (aR D)->Option af} (aw:bC X.G O z e m k vs) (a1:∀x,rel X.G z vs (cW E x) (a6 fr x)) (oY:kp o.op=as5) {ts:List Nat} (au:qi X E o.op=as4 ts) (h:hR X o.op E O K=as4 r):
  cd P (a6 fr) o m fun _ v m'=>dj X O z e k vs K r v m'/\(rq X E O o.op=as5->m'=m)/\∃q,fY m m' q/\nv vs ts q:=by
 have U5:(∀x as qt,o.op≠ .call {callee:= .value x,args:=as,argTypes:=qt})->∀{p:Prop},rq X E O o.op=as5->p:=fun ab p bb=>by
  unfold rq at bb;split at bb
  ·rename_i c ah;split at bb
   ·rename_i f bd;obtain ⟨ce,as,ts⟩:=c
    grind
   grind
  grind
 have gen:(∀x as qt,o.op≠ .call {callee:= .value x,args:=as,argTypes:=qt})->cd P (a6 fr) o m fun _ v m'=>dj X O z e k vs K r v m'/\(rq X E O o.op=as5->m'=m)/\∃q,fY m m' q/\nv vs ts q:=fun ab=>
  (F2 ca rfl aw a1 h).EP (fun v _ ⟨_,ar⟩=>⟨ar,fun _=>rfl,as6,fY.refl _, .inl rfl⟩) (fun v _ ar=>⟨ar,fun _=>rfl,as6,fY.refl _, .inl rfl⟩) (fun Y v _ ar=>⟨ar,U5 ab,as6,fY.push _ _, .inl rfl⟩) fun n v m' he ar=>⟨ar,U5 ab,ajs a1 he au ab⟩
 by_cases ab:∀x as qt,o.op≠ .call {callee:= .value x,args:=as,argTypes:=qt}
 ·grind
 ·simp only[Classical.not_forall,ne_eq,Classical.not_not] at ab;obtain ⟨f,as,qt,an⟩:=ab;rw[an] at h au;simp only[qi] at au;have h:qc X {callee:= .value f,args:=as,argTypes:=qt} E O K=as4 r:=h;simp only[qc] at h;split at h
  ·rename_i k7 caps bd;rw[bd] at au;simp only at au;have hg:=a1 f;rw[bd] at hg;obtain ⟨gs,tO,a5⟩:=hg;split at h
   ·rename_i fm o3;rw[o3] at au;cases au;have MK:caps=[]:=(Fp o3).2.1;subst MK;have tQ:gs=[]:=by cases gs with
     |nil=>rfl
     |cons _ _=>exact a5.elim
    subst tQ;refine cd.call (y6 (args:=(as.toList.map (a6 fr)).toArray) (caps:=#[]) an tO (by grind) rfl) ?_
    grind [rq,Wj,uC]
   rename_i UG;rw[UG] at au;simp only at au;split at au
   ·grind
   rename_i hw;have hw:X.W k7=as9:=by grind
   cases au;refine cd.call (y6 (args:=(as.toList.map (a6 fr)).toArray) (caps:=gs.toArray) an tO (by grind) rfl) ?_;have:=(ca k7 _ O K r (as.toList.map (a6 fr)++gs) aw ((uC a1).append a5.caps) h).mono fun v m' bJ=>(⟨bJ.1,bJ.2.1,bJ.2.2 hw⟩:_/\_/\_)
   grind [VH,rq]
  ·grind
  grind
theorem Oy {C:FuncId->Array as7->Mem->as7->Mem->Prop} (ca:∀f args m v m',C f args m v m'->m.next<=m'.next) {af:atd->as7} {v:as7} (h:gI P C af o m v m'):m.next<=m'.next:=by
 cases h with
 |call f args v m' h ah=>grind
 |pK=>exact atG _
 |append=>exact atG _
 |_=>exact atk _
theorem ahY {C:FuncId->Array as7->Mem->as7->Mem->Prop} (ca:∀f args m v m',C f args m v m'->m.next<=m'.next) {af:atd->as7} {v:as7} (h:nu P C af o m v m'):m.next<=m'.next:=by
 cases h with
 |new h=>exact atG _
 |e4 h=>exact Oy ca h
 |_=>grind
theorem OM {C:FuncId->Array as7->Mem->as7->Mem->Prop} (ca:∀f args m v m',C f args m v m'->m.next<=m'.next) {ops:List Oper}:∀{l:List Oper} {fr bA:Nat->as7} {m m':Mem},jn P C ops l fr m bA m'->m.next<=m'.next
 |[],_,_,_,_,⟨_,h⟩=>by grind
 |o::l,fr,bA,m,m',h=>by
  unfold jn at h;split at h
  ·obtain ⟨v,bx,U,aa⟩:=h;exact atx (ahY ca U) (OM ca aa)
  ·exact OM ca h
theorem wK {C:FuncId->Array as7->Mem->as7->Mem->Prop} (ca:∀f args m v m',C f args m v m'->m.next<=m'.next) {ops:List Oper} {B:Array Nat}:∀{l:List Oper} {i:Nat} {A:Acc} {fr bA:Nat->as7} {m m':Mem},gT P C ops B i l A fr m bA m'->m.next<=m'.next
 |[],_,_,_,_,_,_,⟨_,h⟩=>by grind
 |o::l,i,A,fr,bA,m,m',h=>by
  unfold gT at h;split at h
  ·rcases h with ⟨v,_,h⟩|⟨v,_,_,h⟩|⟨Y,v,_,h⟩|⟨v,bx,U,_,_,h⟩
   ·exact wK ca h
   ·exact wK ca h
   ·exact atx (atG _) (wK ca h)
   ·exact atx (Oy ca U) (wK ca h)
  ·exact wK ca h
theorem ahk {C:FuncId->Array as7->Mem->as7->Mem->Prop} (ca:∀f args m v m',C f args m v m'->m.next<=m'.next):∀(n:Nat) {c:Code} {fr bA:Nat->as7} {m m':Mem} {e:eS},j6 P C n c fr m e bA m'->m.next<=m'.next:=by
 intro n;induction n with
 |zero=>intro c fr bA m m' e h;exact h.elim
 |succ n aq=>
  intro c fr bA m m' e h;cases c with
  |skip=>obtain ⟨_,rfl,rfl⟩:=h;grind
  |label l=>obtain ⟨_,rfl,rfl⟩:=h;grind
  |exit id=>obtain ⟨_,rfl,rfl⟩:=h;grind
  |ret=>obtain ⟨_,rfl,rfl⟩:=h;grind
  |region id ops d=>
   cases d with
   |false=>exact OM ca h.2
   |true=>exact wK ca h.2
  |seq a b=>
   rcases h with ⟨bt,cU,bx,U,aa⟩|h
   rotate_left
   ·exact h.2.next
   grind
  |cond c a b=>obtain ⟨t,_,U⟩:=h;grind
  |block id c=>obtain ⟨bt,U,_⟩:=h;grind
  |scope c=>exact aq h
  |loop c=>
   obtain ⟨bt,cU,bx,U,aa⟩:=h
   grind
  |rangeFunc f cm x y=>exact h.elim
  |goto l=>exact h.elim
  |refuse s=>exact h.elim
theorem VL:∀(n:Nat) (f:FuncId) (args:Array as7) (m:Mem) (v:as7) (m':Mem),iq P n f args m v m'->m.next<=m'.next
 |0,_,_,_,_,_,h=>h.elim
 |n+1,f,args,m,v,m',h=>by
  rcases h with ⟨_,h⟩|⟨fn,c,e,fr,bx,vs,_,_,_,_,h,_,_,_,_,aa⟩
  ·cases h<;>first|exact atk _|exact atG _|assumption
  ·have U:=ahk (VL n) n h;rcases aa with rfl|⟨rfl,_⟩
   ·exact U
   ·exact atk _
def xL (m:Mem) (I:Mem->Prop) (ob:Option Nat):Prop:=∀m',(∀b,ob=as4 b->m'.aS b=m.aS b)->I m'
theorem W2 {b off:Nat} {v:as7} (h:m.load b off=as4 v) (ag:m'.aS b=m.aS b):m'.load b off=as4 v:=by
 grind [Mem.load]
theorem FT {b:Nat} (ag:m'.aS b=m.aS b):∀(n off:Nat),fK m' b off n=fK m b off n
 |0,_=>rfl
 |n+1,off=>by
  have:∀o,m'.load b o=m.load b o:=fun o=>by grind [Mem.load]
  simp only[fK,this,FT ag n]
def r4 (z:Nat->bm) (vs:List as7) (ob:Option Nat):fa->Prop
 | .nI=>False
 | .lost=>False
 | .bi=>∀b,ob=as4 b->(z b).hv
 | .ob j=>∀b,ob=as4 b->∃u,vs[j]? =as4 u/\dy u=as4 b
def tn (z:Nat->bm) (vs:List as7) (b:Nat):fa->Prop
 | .nI=>False
 | .lost=>False
 | .bi=>(z b).hv
 | .ob j=>∃u,vs[j]? =as4 u/\dy u=as4 b
theorem tn.at {b:Nat} {s:fa} (h:tn z vs b s):r4 z vs (as4 b) s:=by
 cases s with
 |nI=>exact h
 |lost=>exact h
 |bi=>intro c ah;cases ah;exact h
 |ob j=>intro c ah;cases ah;exact h
theorem apH {s:fa} {v:as7} (aw:bC X.G O z e m k vs) (a1:∀x,rel X.G z vs (cW E x) (a6 fr x)) (aE:pk E o.op=as4 s) (h:eJ P (a6 fr) o m v):
  ∃ob,xL m (fun m=>eJ P (a6 fr) o m v) ob/\r4 z vs ob s:=by
 have abF:∀{t:Nat} {c:bY D} {cs:List (bY D)} {off b NQ:Nat},rel X.G z vs (.gU t (c::cs) off) (.pointer (as4 ⟨b,NQ,as6⟩))->(z b).hv:=by
  rintro t c cs off b NQ ⟨cR,o',ds,U,aa,ao⟩;cases U;cases ds with
  |nil=>exact ao.elim
  |cons d ds=>exact y7 (aa 0 d rfl)
 have ptr:∀{x:atd} {b off:Nat},a6 fr x= .pointer (as4 ⟨b,off,as6⟩)->(match cW E x with| .tF _ _=>as4 fa.bi| .gU _ (_::_) _=>as4 fa.bi| .box j _=>as4 (.ob j)| .el j _ _ _=>as4 (.ob j)|_=>as6)=as4 s->tn z vs b s:=by
  intro x b off ad aE;have aF:=a1 x;split at aE
  ·rename_i U;rw[U,ad] at aF;obtain ⟨_,_,aO⟩:=aF;cases aO
  ·rename_i U;cases aE;rw[U,ad] at aF;exact abF aF
  ·rename_i U;cases aE;rw[U,ad] at aF;obtain ⟨cR,aU,aO⟩:=aF;cases aO;exact ⟨_,aU,rfl⟩
  ·rename_i U;cases aE;rw[U,ad] at aF;obtain ⟨cR,f0,l,c,aU,aO⟩:=aF;cases aO;exact ⟨_,aU,rfl⟩
  ·cases aE
 have ae:∀{t:Nat} {xs:List (D t)} {b off l c:Nat},eC (X.G.T t) z xs (.slice (as4 ⟨b,off,as6⟩) l c)->(z b).hv:=by
  rintro t xs b off l c (⟨U,_⟩|⟨cR,o',bP,U,aa,_⟩)
  ·cases U
  ·cases U;exact aa
 cases h with
 |load t x b off d v h ad au aQ ab=>simp only[pk,h] at aE;exact ⟨as4 b,fun m' hm=> .load t x b off d v h ad au aQ (W2 ab (hm b rfl)),(ptr ad aE).at⟩
 |tG t x g n ig h ad a2 au a5=>
  have aF:=a1 x;simp only[pk,h] at aE;have vV:s= .bi:=by
   split at aE
   ·cases aE;rfl
   ·cases aE;rfl
   ·rename_i aU;rw[aU,ad] at aF;obtain ⟨_,_,aO⟩:=aF;cases aO
   ·rename_i aU;rw[aU,ad] at aF;obtain ⟨_,_,_,_,_,aO⟩:=aF;cases aO
   ·cases aE
  subst vV;exact ⟨as6,fun m' _=> .tG t x g n ig h ad a2 au a5,fun b ag=>by cases ag⟩
 |sz t x b off d i cs h ad au aQ aj ab=>simp only[pk,h] at aE;exact ⟨as4 b,fun m' hm=> .sz t x b off d i cs h ad au aQ aj (by rw[FT (hm b rfl)];exact ab),(ptr ad aE).at⟩
 |slice t x bD aj b0 i L b off l n ct h au eo ad hm ef dA U aa ao=>
  simp only[pk,h] at aE;refine ⟨as4 b,fun m' ki=> .slice t x bD aj b0 i L b off l n ct h au eo ad (by rw[ki b rfl];exact hm) ef dA U aa ao,tn.at ?_⟩;have aF:=a1 x;split at aE
  ·rename_i g;rw[g,ad] at aF;cases aF
  ·rename_i g;cases aE;rw[g,ad] at aF;exact ae aF
  ·rename_i g;cases aE;rw[g,ad] at aF;exact ⟨_,aF.1,rfl⟩
  ·cases aE
 |ve t x bD aj b0 i L b off l c k n ct h au eo ad ar hm ef dA U aa ao=>
  simp only[pk,h] at aE;refine ⟨as4 b,fun m' ki=> .ve t x bD aj b0 i L b off l c k n ct h au eo ad ar (by rw[ki b rfl];exact hm) ef dA U aa ao,tn.at ?_⟩;have aF:=a1 x;split at aE
  ·rename_i g;rw[g,ad] at aF;cases aF
  ·rename_i g;cases aE;rw[g,ad] at aF;exact ae aF
  ·rename_i g;cases aE;rw[g,ad] at aF;exact ⟨_,aF.1,rfl⟩
  ·cases aE
 |str ig t x b0 b off l c cs h mh he au ad ab=>
  simp only[pk,h] at aE;refine ⟨as4 b,fun m' ki=> .str ig t x b0 b off l c cs h mh he au ad (by rw[FT (ki b rfl)];exact ab),tn.at ?_⟩;have aF:=a1 x;split at aE
  ·rename_i g;cases aE;rw[g,ad] at aF;exact ae aF
  ·rename_i g;cases aE;rw[g,ad] at aF;exact ⟨_,aF.1,rfl⟩
  ·rename_i g;rw[g,ad] at aF;cases aF
  ·rename_i g;rw[g,ad] at aF;cases aF
  ·cases aE
 |vf ig t x b0 l c h mh he au ad=>
  simp only[pk,h] at aE;refine ⟨as6,fun m' ki=> .vf ig t x b0 l c h mh he au ad, ?_⟩;have aF:=a1 x;split at aE
  ·cases aE;intro b ag;cases ag
  ·cases aE;intro b ag;cases ag
  ·rename_i g;rw[g,ad] at aF;cases aF
  ·rename_i g;rw[g,ad] at aF;cases aF
  ·cases aE
 |lookup fh x cJ ok u bh bc b L F i z' kr t g6 h g0 hu ad lb q4 kL bd ar a5 aj a4 da ax=>
  simp only[pk,h] at aE;rcases ad with ⟨ad,hm,gJ⟩|⟨ad,gJ⟩
  ·refine ⟨as4 b,fun m' ki=> .lookup fh x cJ ok u bh bc b L F i z' kr t g6 h g0 hu (.inl ⟨ad,by rw[ki b rfl];exact hm,gJ⟩) lb q4 kL bd ar a5 aj a4 da ax,tn.at ?_⟩;have aF:=a1 x;split at aE
   ·rename_i g;cases aE;rw[g,ad] at aF;rcases aF with ⟨U,_⟩|⟨r,U,aa⟩
    ·cases U
    ·cases U;show (z _).hv;rw[aa];exact True.intro
   ·rename_i g;cases aE;rw[g,ad] at aF;exact ⟨_,aF.1,rfl⟩
   ·cases aE
  ·refine ⟨as6,fun m' ki=> .lookup fh x cJ ok u bh bc b L F i z' kr t g6 h g0 hu (.inr ⟨ad,gJ⟩) lb q4 kL bd ar a5 aj a4 da ax, ?_⟩;split at aE
   ·cases aE;intro b ag;cases ag
   ·cases aE;intro b ag;cases ag
   ·cases aE
def aac (z:Nat->bm) (m:Mem) (vs:List as7) (I:Mem->Prop) (s:fa):Prop:=
 s= .lost\/∃ob,xL m I ob/\(∀b,ob=as4 b->b<m.next)/\r4 z vs ob s
structure hH (z:Nat->bm) (m:Mem) (vs:List as7) (A:Acc) (L:fC):Prop where
 rd:∀x∈A.reads,∃y∈L.rd,y.1=x.1/\aac z m vs x.2 y.2
 iX:∀x∈A.gg,∃y∈L.iX,y.1=x.1/\(y.2.1=as5->m=x.2)/\∀j∈y.2.2,∃v,vs[j]? =as4 v/\∀b,dy v=as4 b->b<m.next/\m.aS b=x.2.aS b
 iO:∀x∈A.news,∃y∈L.iO,y.1=x.1/\x.2<m.next/\∃v,vs[y.2]? =as4 v/\dy v=as4 x.2
theorem xL.step {I:Mem->Prop} {ob q:Option Nat} (h:xL m I ob) (ag:∀b,ob=as4 b->b<m.next) (ah:fY m m' q) (bb:∀b,ob=as4 b->q≠as4 b):xL m' I ob:=fun p6 hm=>h p6 fun b ej=>by
 rw[hm b ej,ah.2 b (ag b ej) (bb b ej)]
theorem r4.mono {ob:Option Nat} {s:fa} (h:r4 z vs ob s) (a4:eM z z') (ab:∀(i:Nat) (u:as7),vs[i]? =as4 u->vs'[i]? =as4 u):r4 z' vs' ob s:=by
 cases s with
 |nI=>exact h
 |lost=>exact h
 |bi=>intro b ag;rw[a4 b (h b ag)];exact h b ag
 |ob j=>intro b ag;obtain ⟨u,aU,aO⟩:=h b ag;grind
theorem hH.step {A:Acc} {L:fC} {q:Option Nat} (h:hH z m vs A L) (a4:eM z z') (ab:∀(i:Nat) (u:as7),vs[i]? =as4 u->vs'[i]? =as4 u) (ah:fY m m' q)
  (L':fC) (aF:∀y∈L.rd,∃jP∈L'.rd,jP.1=y.1/\(jP.2= .lost\/jP.2=y.2/\∀ob,r4 z vs ob y.2->∀b,ob=as4 b->q≠as4 b))
  (he:∀y∈L.iX,∃jP∈L'.iX,jP.1=y.1/\(jP.2.1=as5->y.2.1=as5/\m'=m)/\∀j∈jP.2.2,j∈y.2.2/\∀v b,vs[j]? =as4 v->dy v=as4 b->q≠as4 b) (a2:∀y∈L.iO,y∈L'.iO):hH z' m' vs' A L' where
 rd:=fun x ad=>by
  obtain ⟨y,aJ,U,aa⟩:=h.rd x ad;obtain ⟨jP,q8,aU,aO⟩:=aF y aJ;refine ⟨jP,q8,by grind, ?_⟩;rcases aO with aO|⟨aO,bT⟩
  ·exact .inl aO
  ·rcases aa with aa|⟨ob,b5,cc,eH⟩
   ·exact .inl (by grind)
   ·exact .inr ⟨ob,b5.step cc ah (bT ob eH),fun b ag=>atu (cc b ag) ah.1,by rw[aO];exact eH.mono a4 ab⟩
 iX:=fun x ad=>by obtain ⟨y,aJ,U,bg,aa⟩:=h.iX x ad;obtain ⟨jP,q8,aU,eO,aO⟩:=he y aJ;refine ⟨jP,q8,by grind,fun bd=>by grind,fun j a0=> ?_⟩;obtain ⟨bT,cP⟩:=aO j a0;obtain ⟨v,b5,cc⟩:=aa j bT;refine ⟨v,ab _ _ b5,fun b ag=> ?_⟩;obtain ⟨eH,ja⟩:=cc b ag;exact ⟨atu eH ah.1,by rw[ah.2 b eH (cP v b b5 ag)];grind⟩
 iO:=fun x ad=>by obtain ⟨y,aJ,U,aa,v,ao,aN⟩:=h.iO x ad;exact ⟨y,a2 y aJ,U,atu aa ah.1,v,ab _ _ ao,aN⟩
theorem hH.quiet {A:Acc} {L:fC} (h:hH z m vs A L) (a4:eM z z') (ab:∀(i:Nat) (u:as7),vs[i]? =as4 u->vs'[i]? =as4 u) (hm:m'=m):hH z' m' vs' A L:=
 h.step (q:=as6) a4 ab (by grind [fY.refl]) L (fun y aJ=>⟨y,aJ,rfl, .inr ⟨rfl,fun _ _ _ _=>by simp⟩⟩) (fun y aJ=>⟨y,aJ,rfl,fun h=>⟨h,hm⟩,fun j a0=>⟨a0,fun _ _ _ _=>by simp⟩⟩) fun y aJ=>aJ
theorem XH {j:Nat} (aw:bC X.G O z e m k vs) (h:Gi O j=as5):∃v,vs[j]? =as4 v/\∀b,dy v=as4 b->b<m.next/\(z b≠ .dead\/∃o,O[j]? =as4 o/\o.live=as5):=by
 unfold Gi at h;have fin:∀{o:aR D},O[j]? =as4 o->o≠ .dead->(∀t w,o≠ .box t [] as5 w)->∃v,vs[j]? =as4 v/\∀b,dy v=as4 b->b<m.next/\(z b≠ .dead\/∃o,O[j]? =as4 o/\o.live=as5):=by
  intro o an aQ mb;obtain ⟨v,ab,cn⟩:=aw.at an;refine ⟨v,ab,fun b ag=> ?_⟩;cases ax:o.live with
  |true=>exact ⟨(cn.lt ax b ag).1, .inr ⟨o,an,ax⟩⟩
  |false=>
   have a4:z b≠ .dead:=by
    cases o with
    |dead=>grind
    |ae t xs bi w=>
     cases bi with
     |false=>cases ax
     |true=>
      rcases (cn:eC (X.G.T t) z xs v) with ⟨rfl,_⟩|⟨cR,o',bP,rfl,aa,_⟩
      ·cases ag
      ·cases ag;exact aa.ne
    |box t cs bi w=>
     cases bi with
     |false=>cases ax
     |true=>
      obtain ⟨cR,ds,rfl,aa,ao⟩:=cn;cases ag;cases cs with
      |nil=>grind
      |cons c cs=>
       cases ds with
       |nil=>exact ao.elim
       |cons d ds=>
        have:=aa 0 d rfl
        grind [ll]
    |recv t cs w=>cases ax
    |arr _ _ _ _ _=>cases ax
    |nest _ _ _ _ _ _=>cases ax
    |map t bh bc es bi w=>
     cases bi with
     |false=>cases ax
     |true=>
      rcases (cn:lz (X.G.M t bh bc) z es v) with ⟨rfl,_⟩|⟨r,rfl,aa⟩
      ·cases ag
      ·cases ag
       grind
   refine ⟨?_, .inl a4⟩;exact (aw.aM.bi b a4).2
 split at h
 ·grind
 ·grind
 ·grind
 grind
theorem ajd {l:List Nat} {j:Nat}:l.any (ath j)=as5↔j∈l:=by
 simp_all
theorem Xm {j:Nat} (h:ru O j=as5):∃o,O[j]? =as4 o/\o.live=as5:=by
 grind [ru]
theorem Fb {ts:List Nat} {q:Option Nat} (aw:bC X.G O z e m k vs) (ax:ts.all (ru O)=as5) (bb:nv vs ts q) {j:Nat} (h:sV O ts j=as5) {v:as7} {b:Nat} (ab:vs[j]? =as4 v) (ag:dy v=as4 b):q≠as4 b:=by
 simp only[sV,ati,auQ] at h;rcases bb with rfl|⟨i,aj,w,hw,rfl⟩
 ·simp
 ·intro st;have gP:i≠j:=by
   grind [ajd]
  obtain ⟨o,an,kQ⟩:=Xm (atq.1 ax i aj);have aQ:=((aw.obj i o w an hw).lt kQ b st).2.1;obtain ⟨bH,ua,U⟩:=XH aw h.1;rw[ab] at ua;cases ua;rcases (U b ag).2 with aa|⟨p,aL,yu⟩
  ·grind
  ·exact aw.e3 i j o p w v gP an aL kQ yu hw ab b st ag
theorem aiM {ts:List Nat} {q:Option Nat} (aw:bC X.G O z e m k vs) (ax:ts.all (ru O)=as5) (bb:nv vs ts q) {b:Nat} (a4:z b≠ .dead):q≠as4 b:=by
 rcases bb with rfl|⟨i,aj,w,hw,rfl⟩
 ·simp
 ·intro st;obtain ⟨o,an,kQ⟩:=Xm (atq.1 ax i aj);exact a4 ((aw.obj i o w an hw).lt kQ b st).2.1
theorem V3 {ts:List Nat} {q:Option Nat} (aw:bC X.G O z e m k vs) (ax:ts.all (ru O)=as5) (bb:nv vs ts q) {s:fa} (h:Cn O ts s=as5) {ob:Option Nat} (aE:r4 z vs ob s):∀b,ob=as4 b->q≠as4 b:=by
 intro b ag;cases s with
 |nI=>exact aE.elim
 |lost=>exact aE.elim
 |bi=>exact aiM aw ax bb (aE b ag).ne
 |ob j=>obtain ⟨u,aU,aO⟩:=aE b ag;exact Fb aw ax bb h aU aO
theorem VP:∀{l:List (aR D)} {i j:Nat},j∈sJ O i l->∃n o,j=i+n/\l[n]? =as4 o/\o.live=as5
 |[],i,j,h=>by grind [sJ]
 |o::l,i,j,h=>by
  simp only[sJ] at h;have tail:j∈sJ O (i+1) l->∃n p,j=i+n/\(o::l)[n]? =as4 p/\p.live=as5:=fun h=>by obtain ⟨n,p,U,aa,ao⟩:=VP h;exact ⟨n+1,p,by omega,aa,ao⟩
  split at h
  ·rename_i an;rcases ats.1 h with rfl|h
   ·grind
   grind
  grind
theorem hH.e4 {A:Acc} {L:fC} {q:Option Nat} {B:Array Nat} {i:Nat} {ts:List Nat} {pq:Bool} (h:hH z m vs A L) (aw:bC X.G O z e m k vs) (a4:eM z z') (ab:∀(i:Nat) (u:as7),vs[i]? =as4 u->vs'[i]? =as4 u) (ah:fY m m' q) (bb:nv vs ts q) (vZ:pq=as5->m'=m)
  (ar:PI B i O L ts=as5):sC B i A m .e4 m'/\hH z' m' vs' (oQ A i m .e4) (x1 i O ts pq L):=by
 simp only[PI,ati,atq,auj] at ar;obtain ⟨ax,MX,qV⟩:=ar;have ax:ts.all (ru O)=as5:=atq.2 ax;refine ⟨⟨fun x ad aY=> ?_,fun x ad aY=> ?_⟩, ?_⟩
 ·obtain ⟨y,aJ,U,aa⟩:=h.rd x ad;have:=MX y aJ;rw[U,aY] at this;have aE:Cn O ts y.2=as5:=by grind
  rcases aa with aa|⟨ob,b5,cc,eH⟩
  ·rw[aa] at aE;cases aE
  ·exact b5 m' fun b ag=>ah.2 b (cc b ag) (V3 aw ax bb aE eH b ag)
 ·obtain ⟨y,aJ,U,aa,v,ao,aN⟩:=h.iO x ad;have:=qV y aJ;rw[U,aY] at this;have aE:sV O ts y.2=as5:=by grind
  exact ah.2 _ aa (Fb aw ax bb aE ao aN)
 ·have aM:=h.step (L':=x1 i O ts pq L) a4 ab ah (fun y aJ=> ?_) (fun y aJ=> ?_) fun y aJ=>aJ
  ·refine ⟨aM.rd,fun x ad=> ?_,aM.iO⟩;rcases ats.1 ad with rfl|ad
   ·refine ⟨(i,as5&&pq,(sJ O 0 O).filter (sV O ts)),by simp[x1],rfl,fun bd=>vZ (by grind),fun j a0=> ?_⟩;obtain ⟨oZ,Un⟩:=List.mem_filter.1 a0;obtain ⟨n,o,aU,aO,bT⟩:=VP oZ;rw[atB] at aU;subst aU;obtain ⟨v,cP,eG⟩:=aw.at aO;refine ⟨v,ab _ _ cP,fun b ag=> ?_⟩;have bS:=(eG.lt bT b ag).1;exact ⟨atu bS ah.1,ah.2 b bS (Fb aw ax bb Un cP ag)⟩
   ·exact aM.iX x ad
  ·refine ⟨if Cn O ts y.2=as5 then y else (y.1, .lost),atw.2 ⟨y,aJ,rfl⟩,by grind, ?_⟩
   grind [V3]
  ·refine ⟨(y.1,y.2.1&&pq,y.2.2.filter (sV O ts)),atw.2 ⟨y,atC _ aJ,rfl⟩,rfl,fun bd=>by grind,fun j a0=> ?_⟩
   grind [Fb]
theorem hH.x2 {A:Acc} {L:fC} {B:Array Nat} {i:Nat} (h:hH z m vs A L) (ab:∀(i:Nat) (u:as7),vs[i]? =as4 u->vs'[i]? =as4 u) (a2:m.next<=m'.next)
  (ar:O8 B i L=as5):sC B i A m .e4 m'/\hH z' m' vs' (oQ A i m .e4) (PJ i L):=by
 simp only[O8,ati,atq] at ar;refine ⟨⟨fun x ad aY=> ?_,fun x ad aY=> ?_⟩,⟨fun x ad=> ?_,fun x ad=> ?_,fun x ad=> ?_⟩⟩
 ·obtain ⟨y,aJ,U,_⟩:=h.rd x ad
  grind
 ·obtain ⟨y,aJ,U,_⟩:=h.iO x ad
  grind
 ·obtain ⟨y,aJ,U,_⟩:=h.rd x ad;exact ⟨(y.1, .lost),atw.2 ⟨y,aJ,rfl⟩,U, .inl rfl⟩
 ·rcases ats.1 ad with rfl|ad
  ·exact ⟨(i,as9,[]),atU,rfl,fun bJ=>avP bJ,fun j a0=>absurd a0 (by simp)⟩
  ·obtain ⟨y,aJ,U,_⟩:=h.iX x ad;exact ⟨(y.1,as9,[]),atC _ (atw.2 ⟨y,aJ,rfl⟩),U,fun bJ=>avP bJ,fun j a0=>absurd a0 (by simp)⟩
 ·obtain ⟨y,aJ,U,aa,v,ao,aN⟩:=h.iO x ad;exact ⟨y,aJ,U,atu aa a2,v,ab _ _ ao,aN⟩
theorem hH.ZB {A:Acc} {L:fC} (h:hH z m vs A L) (i:Nat) (s:fa) (n:Option Nat):hH z m vs A (nP i s n L) where
 rd:=fun x ad=>by
  obtain ⟨y,aJ,U,aa⟩:=h.rd x ad;refine ⟨y, ?_,U,aa⟩;unfold nP
  grind
 iX:=fun x ad=>by
  obtain ⟨y,aJ,U,aa,ao⟩:=h.iX x ad;cases n with
  |none=>exact ⟨y,aJ,U,aa,ao⟩
  |some j=>exact ⟨(y.1,as9,y.2.2),atw.2 ⟨y,aJ,rfl⟩,U,(by simp),ao⟩
 iO:=fun x ad=>by
  obtain ⟨y,aJ,U⟩:=h.iO x ad;refine ⟨y, ?_,U⟩;unfold nP
  grind
structure fS (e5:Nat) (cg z:Nat->bm) (fr:Nat->as7) (E:List (Nat×aV D)) (m:Mem) (A:Acc) (L:fC):Prop where
 le:eM cg z
 n:e5<=m.next
 lt:∀b,(cg b).hv->b<e5
 jX:∀x∈A.gg,∀b,(cg b).hv->m.aS b=x.2.aS b
 dN:∀d,(L.ng.any (ath d))=as9->v9 (eh E d)=as5->∀b,dy (fr d)=as4 b->(cg b).hv
variable {cg:Nat->bm}
theorem fS.at {e5:Nat} {A:Acc} {L:fC} (h:fS e5 cg z fr E m A L) {x:atd} (ad:ri E L x=as5):∀b,dy (a6 fr x)=as4 b->(cg b).hv:=by
 unfold ri at ad;split at ad
 ·rename_i d;simp only[ati,auQ] at ad;exact h.dN d ad.1 ad.2
 grind
theorem fS.read {e5:Nat} {A:Acc} {L:fC} {B:Array Nat} {i:Nat} {v:as7} (h:fS e5 cg z fr E m A L) (ax:UT E L o.op=as5) (aF:eJ P (a6 fr) o m v):∀x∈A.gg,fq B i x.1=as9->eJ P (a6 fr) o x.2 v:=by
 intro x ad aY;have ag:=h.jX x ad;cases aF with
 |load t q b off d v ct bb au aQ ab=>rw[ct] at ax;have:=h.at ax b (by rw[bb];rfl);exact .load t q b off d v ct bb au aQ (W2 ab (ag b this).symm)
 |tG t q g n ig ct bb a2 au a5=>exact .tG t q g n ig ct bb a2 au a5
 |sz t q b off d i cs ct bb au aQ aj ab=>rw[ct] at ax;have:=h.at ax b (by rw[bb];rfl);exact .sz t q b off d i cs ct bb au aQ aj (by rw[FT (ag b this).symm];exact ab)
 |slice t q bD aj b0 i L' b off l n ct bg au eo bb hm ef dA aU aO bT=>rw[bg] at ax;have:=h.at ax b (by rw[bb];rfl);exact .slice t q bD aj b0 i L' b off l n ct bg au eo bb (by rw[<-ag b this];exact hm) ef dA aU aO bT
 |ve t q bD aj b0 i L' b off l c k n ct bg au eo bb ar hm ef dA aU aO bT=>rw[bg] at ax;have:=h.at ax b (by rw[bb];rfl);exact .ve t q bD aj b0 i L' b off l c k n ct bg au eo bb ar (by rw[<-ag b this];exact hm) ef dA aU aO bT
 |str ig t q b0 b off l c cs bg mh he au bb ab=>rw[bg] at ax;cases ax
 |vf ig t q b0 l c bg mh he au bb=>rw[bg] at ax;cases ax
 |lookup fh q cJ ok u bh bc b L' F i z' kr t g6 bg g0 hu bb lb q4 kL bd ar a5 aj a4 da gn=>rw[bg] at ax;cases ax
theorem fS.iF {e5:Nat} {A:Acc} {L:fC} (h:fS e5 cg z fr E m A L) (a4:eM z z'):fS e5 cg z' fr E m A L:=⟨h.le.trans a4,h.n,h.lt,h.jX,h.dN⟩
theorem aiS {L:fC} {v:as7} {e5:Nat} {A:Acc} (h:fS e5 cg z fr E m A L) (aQ:pP E L o.op=as5) (aL:cX P (a6 fr) o v):∀b,dy v=as4 b->(cg b).hv:=by
 have jX:∀{w:as7},flat w=as5->∀b,dy w=as4 b->(cg b).hv:=by
  intro w hw b ag;cases w with
  |pointer a=>cases a with
   |none=>cases ag
   |some a=>cases hw
  |slice a l c=>cases a with
   |none=>cases ag
   |some a=>cases hw
  |map r=>cases r with
   |none=>cases ag
   |some r=>cases hw
  |_=>cases ag
 cases aL with
 |flat v aE ad ab aF=>exact jX ab
 |move x an=>
  rcases an with an|an
  ·rw[an] at aQ;exact h.at aQ
  ·rw[an] at aQ;exact h.at aQ
 |nilCheck x a an ad=>rw[an] at aQ;intro b ag;exact h.at aQ b (by rw[ad];exact ag)
 |fieldAddr t x i bl f k b off an au bd ar aE ad=>rw[an] at aQ;intro c ah;exact h.at aQ c (by rw[ad];exact ah)
 |indexAddr t x y e i b off l c k n an au aj ad aJ bg U=>rw[an] at aQ;intro c ah;exact h.at aQ c (by rw[ad];exact ah)
 |DZ t x y bt i l g kk n ct au aj aE ad aJ bg U ax=>intro b ag;cases ag
 |yE t x y e i b off l k n an au aj ad aJ bg U=>rw[an] at aQ;intro c ah;exact h.at aQ c (by rw[ad];exact ah)
 |pick c a b t an ah=>rw[an] at aQ;cases aQ
 |extract x i us v an ad ab=>rw[an] at aQ;cases aQ
 |field t x i bl f d cs v an _ _ _ _ _=>rw[an] at aQ;cases aQ
 |EC t x y e d i l k n cs an=>rw[an] at aQ;cases aQ
 |build t cm bl i z cs an _ _ _ _ _ _=>rw[an] at aQ;cases aQ
 |xW t cm n e i k z cs an _ _ _ _ _ _=>rw[an] at aQ;cases aQ
 |slice t x bD aj e i b off l c n ct an _ _ _ _ _ _ _ _ _=>rw[an] at aQ;cases aQ
 |kK t x bD aj e i an _ _ _ _ _=>rw[an] at aQ;cases aQ
 |slice3 t x fl aj e i b off l c ct cK km an _ _ _ _ _ _ _=>rw[an] at aQ;cases aQ
 |JG t x bD aj fl e i b off l c n ct cK EI EG km an _ _ _ _ _ _ _ _ _=>rw[an] at aQ;cases aQ
 |Cm t x fl aj e i km an _ _ _ _ _=>rw[an] at aQ;cases aQ
 |len x t e a l c an _ _=>rw[an] at aQ;cases aQ
 |xX x t e an _ _=>rw[an] at aQ;cases aQ
 |tz neq x y t u e a l c an _ _ _=>rw[an] at aQ;cases neq<;>cases aQ
 |func fn first captured an _=>rw[an] at aQ;cases aQ
theorem fS.put {e5:Nat} {A:Acc} {L:fC} {v:as7} {df:aV D} (h:fS e5 cg z fr E m A L) (ab:pP E L o.op=as5->∀b,dy v=as4 b->(cg b).hv):fS e5 cg z (set fr o.dst v) (lp E o.dst df) m A (qx E o L):=by
 cases aQ:o.dst with
 |none=>
  have e:qx E o L=L:=by grind [qx]
  rw[e];exact ⟨h.le,h.n,h.lt,h.jX,h.dN⟩
 |some d=>
  refine ⟨h.le,h.n,h.lt,h.jX,fun c ah bd b ag=> ?_⟩;by_cases ML:c=d
  ·subst ML;simp only[set,if_true] at ag;by_cases Eb:pP E L o.op=as5
   ·grind
   simp_all [qx]
  ·simp only[set,if_neg ML] at ag;have ax:eh (lp E (as4 d) df) c=eh E c:=by
    grind [lp,eh,atl]
   rw[ax] at bd;refine h.dN c ?_ bd b ag
   grind [qx,atl]
theorem fS.log {e5:Nat} {A hG:Acc} {L L':fC} (h:fS e5 cg z fr E m A L) (dW:hG.gg=A.gg) (aJ:L'.ng=L.ng):fS e5 cg z fr E m hG L':=⟨h.le,h.n,h.lt,by rw[dW];exact h.jX,by rw[aJ];exact h.dN⟩
theorem fS.grow {e5:Nat} {A:Acc} {L:fC} (h:fS e5 cg z fr E m A L) (ah:fY m m' as6):fS e5 cg z fr E m' A L:=⟨h.le,atx h.n ah.1,h.lt,fun x ad b ag=>by
 rw[ah.2 b (atu (h.lt b ag) h.n) (by simp)];exact h.jX x ad b ag,h.dN⟩
theorem fS.e4 {e5 i:Nat} {A:Acc} {L:fC} {q:Option Nat} {ts:List Nat} {pq:Bool} (h:fS e5 cg z fr E m A L) (ah:fY m m' q) (bb:∀b,(cg b).hv->q≠as4 b):fS e5 cg z fr E m' (oQ A i m .e4) (x1 i O ts pq L):=by
 have key:∀b,(cg b).hv->m'.aS b=m.aS b:=fun b ag=>ah.2 b (atu (h.lt b ag) h.n) (fun bJ=>bb b ag bJ);refine ⟨h.le,atx h.n ah.1,h.lt,fun x ad b ag=> ?_,h.dN⟩;rcases ats.1 ad with rfl|ad
 ·grind
 ·rw[key b ag];exact h.jX x ad b ag
theorem fS.x2 {e5 i:Nat} {A:Acc} {L:fC} {cK:Option Nat} (h:fS e5 cg z fr E m A L) (a2:m.next<=m'.next) (a4:eM z z') (s1:dp z e m k) (s2:dp z' e m' cK):fS e5 cg z' fr E m' (oQ A i m .e4) (PJ i L):=by
 have key:∀b,(cg b).hv->m'.aS b=m.aS b:=fun b ag=>by have U:=h.le b ag;have aa:=a4 b (by grind);rw[(s1.bi b (by rw[U];exact ag.ne)).1,(s2.bi b (by rw[aa,U];exact ag.ne)).1,aa]
 refine ⟨h.le.trans a4,atx h.n a2,h.lt,fun x ad b ag=> ?_,h.dN⟩;rcases ats.1 ad with rfl|ad
 ·grind
 ·rw[key b ag];exact h.jX x ad b ag
theorem ai2 {ts:List Nat} {q:Option Nat} (aw:bC X.G O z e m k vs) (ax:ts.all (ru O)=as5) (bb:nv vs ts q) (a4:eM cg z):∀b,(cg b).hv->q≠as4 b:=by
 intro b ag st;rcases bb with bb|⟨i,aj,v,ab,he⟩
 ·grind
 ·have:=atq.1 ax i aj;unfold ru at this;split at this
  ·rename_i p aL;have:=((aw.obj i p v aL ab).lt this b (by grind)).2.1;rw[a4 b ag] at this;rw[this] at ag;exact ag.elim
  grind
theorem fS.start {E:List (Nat×aV D)} (aw:bC X.G O z e m k vs) (a1:∀d,rel X.G z vs (eh E d) (fr d)):fS m.next z z fr E m ⟨[],[],[]⟩ ⟨[],[],[],[],[]⟩:=by
 refine ⟨eM.refl z,atk _,fun b ag=>(aw.aM.bi b ag.ne).2,by simp,fun d _ bd b ag=> ?_⟩;have aF:=a1 d;unfold v9 at bd;split at bd
 ·rename_i bt xs aE;rw[aE] at aF;rcases (aF:eC (X.G.T bt) z xs (fr d)) with ⟨U,_⟩|⟨cR,o',bP,U,aa,_⟩
  ·rw[U] at ag;cases ag
  ·rw[U] at ag;cases ag
   grind
 ·rename_i t c cs off aE;rw[aE] at aF;obtain ⟨b,o',ds,U,aa,ao⟩:=aF;rw[U] at ag;cases ag;cases ds with
  |nil=>exact ao.elim
  |cons d ds=>
   have aN:=aa 0 d rfl
   grind [y7]
 grind
theorem uD {A:Acc} {L:fC} {E:List (Nat×aV D)} (h:hH z m vs A L):hH z m vs A (qx E o L):=by
 unfold qx;split
 ·grind
 ·split<;>exact ⟨h.rd,h.iX,h.iO⟩
theorem hH.read {A:Acc} {L:fC} {B:Array Nat} {i:Nat} {s:fa} {v:as7} {n:Option Nat} (h:hH z m vs A L) (aw:bC X.G O z e m k vs) (a1:∀x,rel X.G z vs (cW E x) (a6 fr x)) (a4:eM z z') (ab:∀(i:Nat) (u:as7),vs[i]? =as4 u->vs'[i]? =as4 u)
  {e5:Nat} (aE:pk E o.op=as4 s) (ar:(w3 B i O L s||Gm B i E L s o.op)=as5) (aF:eJ P (a6 fr) o m v) (a5:fS (D:=D) e5 cg z fr E m A L):
  sC B i A m (.read fun m=>eJ P (a6 fr) o m v) m/\hH z' m vs' (oQ A i m (.read fun m=>eJ P (a6 fr) o m v)) (nP i s n L):=by
 obtain ⟨ob,U,aa⟩:=apH aw a1 aE aF;rw[auj] at ar;have lt:∀b,ob=as4 b->b<m.next:=by
  intro b ag;cases s with
  |nI=>exact aa.elim
  |lost=>exact aa.elim
  |bi=>have a4:=aa b ag;exact (aw.aM.bi b a4.ne).2
  |ob j=>
   have ar:w3 B i O L (.ob j)=as5:=ar.resolve_right (by simp[Gm,TO]);simp only[w3,ati] at ar;obtain ⟨u,aU,aO⟩:=aa b ag
   grind [XH]
 refine ⟨fun x ad aY=> ?_, ?_⟩
 ·rcases ar with ar|ar
  case inr=>
   simp only[Gm,ati] at ar;exact a5.read (B:=B) ar.2 aF x ad aY
  obtain ⟨y,aJ,b5,j2,cc⟩:=h.iX x ad;refine U x.2 fun b ag=> ?_;cases s with
  |nI=>exact aa.elim
  |lost=>exact aa.elim
  |bi=>
   grind [w3]
  |ob j=>
   simp only[w3,ati,atq,auj] at ar;have:=ar.2 y aJ;rw[b5,aY] at this;have a0:y.2.1=as5\/j∈y.2.2:=by
    rcases this with h|h|h
    ·grind
    ·grind
    simp_all
   rcases a0 with a0|a0
   ·grind
   obtain ⟨bH,aU,aO⟩:=cc j a0;obtain ⟨u,bT,cP⟩:=aa b ag
   grind
 ·have aM:=((h.quiet (eM.refl z) (fun _ _ h=>h) rfl).ZB i s n).quiet (m':=m) a4 ab rfl;refine ⟨fun x ad=> ?_,aM.iX,aM.iO⟩;rcases ats.1 ad with rfl|ad
  ·refine ⟨(i,s), ?_,rfl, .inr ⟨ob,U,lt,aa.mono a4 ab⟩⟩;unfold nP;cases s<;>first|exact aa.elim|grind
  ·exact aM.rd x ad
theorem ao9 {Y:bm} {v:as7} {df:aV D} {n:Option Nat} {N:Nat} (h:ij P (a6 fr) o N Y v) (aF:rel X.G z vs df v) (a2:PO df=as4 n):∃j,n=as4 j/\∃u,vs[j]? =as4 u/\dy u=as4 N:=by
 have ab:dy v=as4 N:=by cases h<;>rfl
 unfold PO at a2;split at a2
 ·cases a2;exact ⟨_,rfl,v,aF.1,ab⟩
 ·cases a2;obtain ⟨b,aU,rfl⟩:=aF;exact ⟨_,rfl,_,aU,ab⟩
 ·cases a2;obtain ⟨b,l,aU,rfl⟩:=aF;exact ⟨_,rfl,_,aU,ab⟩
 ·have aF:v= .int _ _:=aF;rw[aF] at ab;cases ab
 ·have aF:v=ay.str _:=aF;rw[aF] at ab;cases ab
 grind
theorem hH.new {A:Acc} {L:fC} {i:Nat} {s:fa} {j:Nat} {Y:bm} (h:hH z m vs A L) (a4:eM z z') (ab:∀(i:Nat) (u:as7),vs[i]? =as4 u->vs'[i]? =as4 u) (a0:∃u,vs'[j]? =as4 u/\dy u=as4 m.next):
  hH z' (m.push Y) vs' (oQ A i m .new) (nP i s (as4 j) L):=by
 have aM:=h.step (m':=m.push Y) (q:=as6) a4 ab (fY.push m Y) (nP i s (as4 j) L) (fun y aJ=>⟨y,by unfold nP;grind,rfl, .inr ⟨rfl,fun _ _ _ _=>by simp⟩⟩)
  (fun y aJ=>⟨(y.1,as9,y.2.2),atw.2 ⟨y,aJ,rfl⟩,rfl,by simp,fun j a0=>⟨a0,fun _ _ _ _=>by simp⟩⟩) fun y aJ=>atC _ aJ
 refine ⟨aM.rd,aM.iX,fun x ad=> ?_⟩;rcases ats.1 ad with rfl|ad
 ·obtain ⟨u,aU,aO⟩:=a0;exact ⟨(i,j),by simp[nP],rfl,Nat.lt_succ_self _,u,aU,aO⟩
 ·exact aM.iO x ad
end
end Go.ay
end
section
namespace Go.ay
section
variable {P:atb} {D:Nat->Type} {X:et P D} {af:Type} {z z':Nat->bm} {e m m':Mem} {k:Option Nat} {vs:List as7} {fr:Nat->as7} {E:List (Nat×aV D)} {O:List (aR D)} {o:Oper} {r:af}
def eK (X:et P D) (z:Nat->bm) (vs:List as7) (E:List (Nat×aV D)) (fr:Nat->as7):Prop:=∀d,rel X.G z vs (eh E d) (fr d)
theorem eK.mono (h:eK X z vs E fr) {vs':List as7} (a4:eM z z') (ab:∀(i:Nat) (u:as7),vs[i]? =as4 u->vs'[i]? =as4 u):eK X z' vs' E fr:=fun d=>rel.mono (h d) a4 ab
theorem eK.cons (h:eK X z vs E fr) {d:Nat} {s:aV D} (aE:rel X.G z vs s (fr d)):eK X z vs ((d,s)::E) fr:=fun i=>by
 simp only[eh];split
 ·simp_all
 ·exact h i
theorem eK.put (h:eK X z vs E fr) {d:Option Nat} {s:aV D} {v:as7} (aE:rel X.G z vs s v):eK X z vs (lp E d s) (set fr d v):=by
 cases d with
 |none=>exact h
 |some d=>
  intro i;simp only[lp,eh,set];split
  ·simp_all
  ·rename_i aj;rw[if_neg]
   ·exact h i
   ·intro bJ;simp_all
def h6 (X:et P D) (O:List (aR D)) (z:Nat->bm) (e:Mem) (k:Option Nat) (vs:List as7) (K:List (Nat×aV D)->List (aR D)->Option af) (r:af) (bA:Nat->as7) (m':Mem):Prop:=
 ∃z' vs' E' bW,Inv O bW/\dt e.next z z'/\(∀(i:Nat) (u:as7),vs[i]? =as4 u->vs'[i]? =as4 u)/\bC X.G bW z' e m' k vs'/\eK X z' vs' E' bA/\K E' bW=as4 r
theorem h6.from {K:List (Nat×aV D)->List (aR D)->Option af} {bA:Nat->as7} {cv:Nat->bm} {jo:List as7} {b2:List (aR D)} (aj:Inv O b2) (a4:dt e.next z cv) (ab:∀(i:Nat) (u:as7),vs[i]? =as4 u->jo[i]? =as4 u) (h:h6 X b2 cv e k jo K r bA m'):h6 X O z e k vs K r bA m':=by
 obtain ⟨z',vs',df,bW,bg,U,aa,ao,aN,bI⟩:=h;exact ⟨z',vs',df,bW,aj.trans bg,a4.trans U,fun i u hu=>aa i u (ab i u hu),ao,aN,bI⟩
theorem h6.here {K:List (Nat×aV D)->List (aR D)->Option af} (aw:bC X.G O z e m k vs) (a1:eK X z vs E fr) (fy:K E O=as4 r):h6 X O z e k vs K r fr m:=⟨z,vs,E,O,Inv.refl O,dt.refl z,fun _ _ h=>h,aw,a1,fy⟩
theorem V2 {d:Nat} {K:List (Nat×aV D)->Option af} (a1:eK X z vs E fr) (h:sU E d K=as4 r):∃E',eK X z vs E' fr/\K E'=as4 r:=by
 unfold sU at h;have aQ:=a1 d;split at h
 ·rename_i b aE;rw[aE] at aQ;cases b with
  |true=>rw[if_pos rfl] at h;exact ⟨_,a1.cons (s:= .c (.bool as5)) aQ,h⟩
  |false=>rw[if_neg (by simp)] at h;exact ⟨_,a1.cons (s:= .c (.bool as9)) aQ,h⟩
 ·grind
 grind
theorem apS (ca:hV X) {K:List (Nat×aV D)->List (aR D)->Option af} (aw:bC X.G O z e m k vs) (a1:eK X z vs E fr) (h:yL X o E O K=as4 r):cd P (a6 fr) o m fun _ v m'=>h6 X O z e k vs K r (set fr o.dst v) m':=by
 have go:∀{E:List (Nat×aV D)},eK X z vs E fr->hR X o.op E O (fun v O=>K (lp E o.dst v) O)=as4 r->cd P (a6 fr) o m fun _ v m'=>h6 X O z e k vs K r (set fr o.dst v) m':=by intro E a1 h;refine cd.mono (F2 ca rfl aw (Ot a1) h) ?_;rintro t v m' ⟨z',vs',df,bW,bg,U,aa,ao,aN,bI⟩;exact ⟨z',vs',_,bW,bg,U,aa,ao,(a1.mono U.le aa).put aN,bI⟩
 unfold yL at h;split at h
 ·obtain ⟨E',gJ,h⟩:=V2 a1 h
  grind
 grind
theorem zi (ca:hV X) {ops:List Oper} {K:List (Nat×aV D)->List (aR D)->Option af}:∀{l:List Oper} {E:List (Nat×aV D)} {O:List (aR D)} {z:Nat->bm} {vs:List as7} {m:Mem} {fr:Nat->as7},bC X.G O z e m k vs->eK X z vs E fr->rM X ops l E O K=as4 r->gm P ops l (h6 X O z e k vs K r) fr m
 |[],E,O,z,vs,m,fr,aw,a1,h=>gm.nil (h6.here aw a1 h)
 |o::l,E,O,z,vs,m,fr,aw,a1,h=>by
  unfold rM at h;have step:∀{E:List (Nat×aV D)},eK X z vs E fr->(yL X o E O fun E O=>rM X ops l E O K)=as4 r->cd P (a6 fr) o m fun _ v bx=>gm P ops l (h6 X O z e k vs K r) (set fr o.dst v) bx:=by intro E a1 h;refine cd.mono (apS ca aw a1 h) ?_;rintro t v bx ⟨z',vs',E',bW,bg,U,aa,ao,aN,bI⟩;exact gm.mono (zi ca ao aN bI) fun _ _ a2=>a2.from bg U aa
  split at h
  ·grind [gm.L4,wanted]
  ·rename_i j want a5;split at h
   ·grind
   ·rename_i d aQ;obtain ⟨hW,qS,h⟩:=V2 a1 h;have ab:=qS d;split at h
    ·rename_i b aE;rw[aE] at ab;split at h
     ·rename_i ag;exact gm.L3 a5 aQ ab ag (step qS h)
     ·rename_i ag;exact gm.JF a5 aQ ab (by cases b<;>cases want<;>simp at ag⊢) (zi ca aw (qS.put (s:= .undef) rfl) h)
    ·rename_i aE;rw[aE] at ab;exact gm.Qh a5 aQ ab (zi ca aw (qS.put (s:= .undef) rfl) h)
    grind
variable {cg:Nat->bm}
theorem VW {d:Nat} {K:List (Nat×aV D)->Option af} (a1:eK X z vs E fr) (h:sU E d K=as4 r):∃E',eK X z vs E' fr/\(∀c,eh E' c=eh E c\/v9 (eh E' c)=as9)/\K E'=as4 r:=by
 have aQ:=a1 d;have U7:∀{b:Bool} (c:Nat),eh ((d, .c (.bool b))::E) c=eh E c\/v9 (eh ((d, .c (.bool b))::E) c)=as9:=by
  intro b c;simp only[eh];split
  ·exact .inr rfl
  grind
 unfold sU at h;split at h
 ·rename_i b ag;rw[ag] at aQ;have aQ:fr d= .bool b:=aQ;split at h
  ·rename_i au;exact ⟨_,a1.cons (by grind),U7,h⟩
  ·rename_i au;exact ⟨_,a1.cons (by grind),U7,h⟩
 ·grind
 grind
theorem fS.split {e5:Nat} {A:Acc} {L:fC} {E':List (Nat×aV D)} (h:fS e5 cg z fr E m A L) (bb:∀c,eh E' c=eh E c\/v9 (eh E' c)=as9):fS e5 cg z fr E' m A L:=⟨h.le,h.n,h.lt,h.jX,fun d aQ bd=>by
 rcases bb d with bb|bb
 ·rw[bb] at bd;exact h.dN d aQ bd
 grind⟩
theorem fS.skip {e5:Nat} {A:Acc} {L:fC} {dst:Option Nat} (h:fS e5 cg z fr E m A L):fS e5 cg z (set fr dst undef) (lp E dst .undef) m A L:=by
 cases dst with
 |none=>exact h
 |some d=>
  refine ⟨h.le,h.n,h.lt,h.jX,fun c ah bd b ag=> ?_⟩;simp only[lp,eh] at bd;split at bd
  ·cases bd
  ·rename_i ML;have:c≠d:=by rintro rfl;simp_all
   simp only[set,if_neg this] at ag;exact h.dN c ah bd b ag
theorem XK (ca:hV X) {B:Array Nat} {ops l:List Oper} {i:Nat} {A:Acc} {L:fC} {e5:Nat} {Q:(Nat->as7)->Mem->Prop} {K:fC->List (Nat×aV D)->List (aR D)->Option af} (aw:bC X.G O z e m k vs) (a1:eK X z vs E fr) (cV:hH z m vs A L) (a5:fS e5 cg z fr E m A L) (h:EY X B i o L E O K=as4 r)
  (ar:∀{z':Nat->bm} {vs':List as7} {m':Mem} {hG:Acc} {L':fC} {E':List (Nat×aV D)} {bW:List (aR D)} {v:as7},Inv O bW->dt e.next z z'->(∀(i:Nat) (u:as7),vs[i]? =as4 u->vs'[i]? =as4 u)->bC X.G bW z' e m' k vs'->eK X z' vs' E' (set fr o.dst v)->hH z' m' vs' hG L'->fS e5 cg z' (set fr o.dst v) E' m' hG L'->K L' E' bW=as4 r->g4 P ops B (i+1) l hG Q (set fr o.dst v) m'):
  cd P (a6 fr) o m fun t v bx=>sC B i A m t bx/\g4 P ops B (i+1) l (oQ A i m t) Q (set fr o.dst v) bx:=by
 have ch:=Ot a1;unfold EY at h;split at h
 ·rename_i oY;split at h
  ·rename_i ts au;obtain ⟨kg,h⟩:=fJ h;have qN:∀{v:as7},eJ P (a6 fr) o m v->False:=fun aF=>by
    have:=E6 aF;revert this oY;cases o.op<;>simp[kp,looks]
   have L1:∀{Y:bm} {v:as7},ij P (a6 fr) o m.next Y v->False:=fun aF=>by have:=yP aF;revert this oY;cases o.op<;>simp[kp,qg]
   have wj:pP E L o.op=as5->False:=fun aQ=>by revert aQ oY;cases o.op<;>simp[kp,pP]
   refine (apT ca aw ch oY au h).EP (fun v _ bJ=> ?_) (fun v aF _=>(qN aF).elim) (fun Y v aF _=>(L1 aF).elim) fun n v m' he bJ=> ?_
   ·obtain ⟨_,⟨z',vs',df,bW,bg,U,aa,ao,aN,bI⟩,vZ,q,ah,bb⟩:=bJ;obtain ⟨aU,aO⟩:=cV.e4 (B:=B) (pq:=rq X E O o.op) aw U.le aa (fY.any (fY.refl m) as6) (.inl rfl) (fun _=>rfl) kg;have e2:=(a5.e4 (O:=O) (ts:=ts) (q:=as6) (i:=i) (pq:=rq X E O o.op) (fY.refl m) (fun b _=>by simp)).iF U.le;exact ⟨trivial,ar bg U aa ao ((a1.mono U.le aa).put aN) (uD ⟨aO.rd,fun x ad=>aO.iX x (atC _ ad),aO.iO⟩) (fS.put ⟨e2.le,e2.n,e2.lt,fun x ad=>e2.jX x (atC _ ad),e2.dN⟩ fun aQ=>(wj aQ).elim) bI⟩
   ·obtain ⟨⟨z',vs',df,bW,bg,U,aa,ao,aN,bI⟩,vZ,q,ah,bb⟩:=bJ;obtain ⟨aU,aO⟩:=cV.e4 (B:=B) aw U.le aa ah bb vZ kg;exact ⟨aU,ar bg U aa ao ((a1.mono U.le aa).put aN) (uD aO) (fS.put ((a5.e4 ah (ai2 aw (auG.1 kg).1 bb a5.le)).iF U.le) fun aQ=>(wj aQ).elim) bI⟩
  ·obtain ⟨kg,h⟩:=fJ h;have qN:∀{v:as7},eJ P (a6 fr) o m v->False:=fun aF=>by
    have:=E6 aF;revert this oY;cases o.op<;>simp[kp,looks]
   have L1:∀{Y:bm} {v:as7},ij P (a6 fr) o m.next Y v->False:=fun aF=>by have:=yP aF;revert this oY;cases o.op<;>simp[kp,qg]
   have wj:pP E L o.op=as5->False:=fun aQ=>by revert aQ oY;cases o.op<;>simp[kp,pP]
   refine (F2 ca rfl aw ch h).EP (fun v _ bJ=> ?_) (fun v aF _=>(qN aF).elim) (fun Y v aF _=>(L1 aF).elim) fun n v m' he bJ=> ?_
   ·obtain ⟨_,z',vs',df,bW,bg,U,aa,ao,aN,bI⟩:=bJ;obtain ⟨aU,aO⟩:=cV.x2 (z':=z') (m':=m) aa (atk _) kg;have e2:=a5.x2 (i:=i) (atk _) U.le aw.aM ao.aM;exact ⟨trivial,ar bg U aa ao ((a1.mono U.le aa).put aN) (uD ⟨aO.rd,fun x ad=>aO.iX x (atC _ ad),aO.iO⟩) (fS.put ⟨e2.le,e2.n,e2.lt,fun x ad=>e2.jX x (atC _ ad),e2.dN⟩ fun aQ=>(wj aQ).elim) bI⟩
   ·obtain ⟨z',vs',df,bW,bg,U,aa,ao,aN,bI⟩:=bJ;have a2:=Oy (VL n) he;obtain ⟨aU,aO⟩:=cV.x2 (z':=z') aa a2 kg;exact ⟨aU,ar bg U aa ao ((a1.mono U.le aa).put aN) (uD aO) (fS.put (a5.x2 a2 U.le aw.aM ao.aM) fun aQ=>(wj aQ).elim) bI⟩
 ·rename_i oY;split at h
  ·rename_i s aE;obtain ⟨kg,h⟩:=fJ h;refine (F2 ca rfl aw ch h).EP (fun v aL bJ=> ?_) (fun v aF bJ=> ?_) (fun Y v aF bJ=> ?_) fun n v m' he _=>absurd (Od he) oY
   ·obtain ⟨_,z',vs',df,bW,bg,U,aa,ao,aN,bI⟩:=bJ;dsimp only at bI;split at bI
    ·rename_i n a2;exact ⟨trivial,ar bg U aa ao ((a1.mono U.le aa).put aN) (uD ((cV.quiet U.le aa rfl).ZB i s n)) (fS.put (L:=nP i s n L) ((a5.iF U.le).log rfl rfl) fun aQ=>aiS a5 aQ aL) bI⟩
    grind
   ·obtain ⟨z',vs',df,bW,bg,U,aa,ao,aN,bI⟩:=bJ;dsimp only at bI;split at bI
    ·rename_i n a2;obtain ⟨aU,aO⟩:=cV.read (n:=n) (B:=B) (i:=i) aw ch U.le aa aE kg aF a5;exact ⟨aU,ar bg U aa ao ((a1.mono U.le aa).put aN) (uD aO) (fS.put (L:=nP i s n L) ((a5.iF U.le).log rfl rfl) fun aQ=>(by
      have:=E6 aF;revert this aQ;cases o.op<;>simp[pP,looks])) bI⟩
    grind
   ·obtain ⟨z',vs',df,bW,bg,U,aa,ao,aN,bI⟩:=bJ;dsimp only at bI;split at bI
    ·rename_i n a2;rw[U6,if_pos (yP aF)] at a2;obtain ⟨j,rfl,a0⟩:=ao9 aF aN a2;exact ⟨trivial,ar bg U aa ao ((a1.mono U.le aa).put aN) (uD (cV.new (i:=i) (s:=s) (Y:=Y) U.le aa a0)) (fS.put (L:=nP i s (as4 j) L) (((a5.grow (fY.push m Y)).iF U.le).log rfl rfl) fun aQ=>(by
      have:=yP aF;revert this aQ;cases o.op<;>simp[pP,qg])) bI⟩
    grind
  grind
theorem apR (ca:hV X) {B:Array Nat} {ops l:List Oper} {i:Nat} {A:Acc} {L:fC} {e5:Nat} {Q:(Nat->as7)->Mem->Prop} {K:fC->List (Nat×aV D)->List (aR D)->Option af} (aw:bC X.G O z e m k vs) (a1:eK X z vs E fr) (cV:hH z m vs A L) (a5:fS e5 cg z fr E m A L) (h:yK X B i o L E O K=as4 r)
  (ar:∀{z':Nat->bm} {vs':List as7} {m':Mem} {hG:Acc} {L':fC} {E':List (Nat×aV D)} {bW:List (aR D)} {v:as7},Inv O bW->dt e.next z z'->(∀(i:Nat) (u:as7),vs[i]? =as4 u->vs'[i]? =as4 u)->bC X.G bW z' e m' k vs'->eK X z' vs' E' (set fr o.dst v)->hH z' m' vs' hG L'->fS e5 cg z' (set fr o.dst v) E' m' hG L'->K L' E' bW=as4 r->g4 P ops B (i+1) l hG Q (set fr o.dst v) m'):
  cd P (a6 fr) o m fun t v bx=>sC B i A m t bx/\g4 P ops B (i+1) l (oQ A i m t) Q (set fr o.dst v) bx:=by
 unfold yK at h;split at h
 ·rename_i L9 adx;obtain ⟨E',gJ,bb,h⟩:=VW a1 h;have MR:=a5.split bb;exact XK ca aw gJ cV MR h ar
 ·exact XK ca aw a1 cV a5 h ar
theorem g4.mono {ops l:List Oper} {B:Array Nat} {i:Nat} {A:Acc} {K kL:(Nat->as7)->Mem->Prop} (h:g4 P ops B i l A K fr m) (ar:∀fr m,K fr m->kL fr m):g4 P ops B i l A kL fr m:=
 let ⟨n,bA,m',U,aa⟩:=h;⟨n,bA,m',U,ar _ _ aa⟩
theorem FU (ca:hV X) {B:Array Nat} {ops:List Oper} {e5:Nat} {K:List (Nat×aV D)->List (aR D)->Option af}:∀{l:List Oper} {i:Nat} {A:Acc} {L:fC} {E:List (Nat×aV D)} {O:List (aR D)} {z:Nat->bm} {vs:List as7} {m:Mem} {fr:Nat->as7},bC X.G O z e m k vs->eK X z vs E fr->hH z m vs A L->fS e5 cg z fr E m A L->s4 X B ops i l L E O K=as4 r->g4 P ops B i l A (h6 X O z e k vs K r) fr m
 |[],i,A,L,E,O,z,vs,m,fr,aw,a1,cV,kN,h=>g4.done fun bA bd=>by rw[bd];exact h6.here aw a1 h
 |o::l,i,A,L,E,O,z,vs,m,fr,aw,a1,cV,kN,h=>by
  unfold s4 at h;have step:∀{E:List (Nat×aV D)},eK X z vs E fr->fS e5 cg z fr E m A L->(yK X B i o L E O fun L E O=>s4 X B ops (i+1) l L E O K)=as4 r->cd P (a6 fr) o m fun t v bx=>sC B i A m t bx/\g4 P ops B (i+1) l (oQ A i m t) (h6 X O z e k vs K r) (set fr o.dst v) bx:=by intro E a1 a5 h;refine apR ca aw a1 cV a5 h ?_;intro z' vs' m' hG L' E' bW v bg U aa ao aN bI g7 eg;exact g4.mono (FU ca ao aN bI g7 eg) fun _ _ a2=>a2.from bg U aa
  split at h
  ·grind [g4.cons,wanted]
  ·rename_i j want a5;split at h
   ·grind
   ·rename_i d aQ;obtain ⟨hW,qS,adF,h⟩:=VW a1 h;have tP:=kN.split adF;have ab:=qS d;split at h
    ·rename_i b aE;rw[aE] at ab;split at h
     ·rename_i ag;exact g4.L3 a5 aQ ab ag (step qS tP h)
     ·rename_i ag;exact g4.JF a5 aQ ab (by cases b<;>cases want<;>simp at ag⊢) (FU ca aw (qS.put (s:= .undef) rfl) cV tP.skip h)
    ·rename_i aE;rw[aE] at ab;exact g4.Qh a5 aQ ab (FU ca aw (qS.put (s:= .undef) rfl) cV tP.skip h)
    grind
theorem hH.start:hH z m vs ⟨[],[],[]⟩ ⟨[],[],[],[],[]⟩:=⟨by simp,by simp,by simp⟩
def oP (X:et P D) (B:Code) (u:k1 D):Prop:=∀{af:Type} (E:List (Nat×aV D)) (O:List (aR D)) (K:eS->List (Nat×aV D)->List (aR D)->Option af) (r:af) {z:Nat->bm} {e m:Mem} {k:Option Nat} {vs:List as7} {fr:Nat->as7},
 u.fits E O=as5->bC X.G O z e m k vs->eK X z vs E fr->u.run E O K=as4 r->W P (sub B u.path) (fun x=>h6 X O z e k vs (K x) r) fr m
theorem OZ:∀(c:Code) (p q:List Nat),sub (sub c p) q=sub c (p++q):=by
 intro c p;induction p generalizing c with
 |nil=>intro q;cases c<;>rfl
 |cons i p aq=>
  intro q;cases c with
  |seq a b=>cases i with
   |zero=>exact aq a q
   |succ i=>exact aq b q
  |cond x a b=>cases i with
   |zero=>exact aq a q
   |succ i=>exact aq b q
  |block n c=>cases i with
   |zero=>exact aq c q
   |succ i=>exact aq c q
  |scope c=>cases i with
   |zero=>exact aq c q
   |succ i=>exact aq c q
  |loop c=>cases i with
   |zero=>exact aq c q
   |succ i=>exact aq c q
  |_=>rcases q with _|⟨_|j,q⟩<;>cases i<;>rfl
theorem wJ {B c:Code} {p:List Nat} {i:Nat} (h:sub B p.reverse=c):sub B (i::p).reverse=sub c [i]:=by grind [OZ]
theorem qd (c:Code):sub c []=c:=by cases c<;>rfl
theorem X1:∀{p q:List Nat},DN p q=as5->p=q
 |[],[],_=>rfl
 |a::p,b::q,h=>by simp only[DN,ati] at h;rw[atl h.1,X1 h.2]
 |[],_::_,h=>by cases h
 |_::_,[],h=>by cases h
theorem aho {us:List (k1 D)} {p:List Nat} {u:k1 D} (h:qf us p E O=as4 u):u∈us/\u.path=p/\u.fits E O=as5:=by
 induction us with
 |nil=>cases h
 |cons w us aq=>
  grind [qf,X1]
theorem WT:∀{n:Nat} {O b2:List (aR D)} {z:Nat->bm} {m:Mem} {vs:List as7},bC X.G O z e m k vs->GG n O=as4 b2->∃z',Inv O b2/\dt e.next z z'/\bC X.G b2 z' e m k vs
 |0,O,b2,z,m,vs,aw,h=>by cases h;grind [Inv.refl,dt.refl]
 |n+1,O,b2,z,m,vs,aw,h=>by
  simp only[GG] at h;split at h
  ·rename_i dK aa;obtain ⟨cv,cG,dE,gf⟩:=WT aw aa;split at h
   ·split at h
    ·grind
    ·obtain ⟨cT,ew,h1,sa⟩:=y3 gf h;exact ⟨cT,cG.trans ew,dE.trans h1,sa⟩
   grind
  grind
theorem h6.fill {K:List (Nat×aV D)->List (aR D)->Option af} {r:af} {vs:List as7} {m':Mem} {bA:Nat->as7} (h:h6 X O z e k vs (sX K) r bA m'):h6 X O z e k vs K r bA m':=by
 obtain ⟨cv,jo,hW,b2,bg,U,aa,ao,aN,bI⟩:=h;unfold sX at bI;split at bI
 ·rename_i dK bd;obtain ⟨cT,cG,dE,gf⟩:=WT ao bd;exact ⟨cT,jo,hW,dK,bg.trans cG,U.trans dE,aa,gf,aN.mono dE.le fun _ _ h=>h,bI⟩
 grind
theorem Gd (ca:hV X) {B:Code} {us:List (k1 D)} {L:Nat} (q3:∀u∈us,L<u.path.length->oP X B u):
  ∀(c:Code) (top:Bool) (p:List Nat) (E:List (Nat×aV D)) (O:List (aR D)) (K:eS->List (Nat×aV D)->List (aR D)->Option af) (r:af) {z:Nat->bm} {vs:List as7} {m:Mem} {fr:Nat->as7},
   sub B p.reverse=c->L<=p.length->(top=as9->L<p.length)->bC X.G O z e m k vs->eK X z vs E fr->jD X us calm top p c E O K=as4 r->W P c (fun x=>h6 X O z e k vs (K x) r) fr m:=by
 intro c;have piece:∀{c:Code} {top:Bool} {p:List Nat} {E:List (Nat×aV D)} {O:List (aR D)} {K:eS->List (Nat×aV D)->List (aR D)->Option af} {r:af} {z:Nat->bm} {vs:List as7} {m:Mem} {fr:Nat->as7} {u:k1 D},
   sub B p.reverse=c->(top=as9->L<p.length)->bC X.G O z e m k vs->eK X z vs E fr->(if top=as5 then as6 else qf us p.reverse E O)=as4 u->u.run E O K=as4 r->W P c (fun x=>h6 X O z e k vs (K x) r) fr m:=by
  intro c top p E O K r z vs m fr u aL au aw a1 hu h;cases top with
  |true=>grind
  |false=>
   obtain ⟨U,aa,ao⟩:=aho hu;have:=q3 u U (by grind) E O K r ao aw a1 h
   grind
 induction c with
 |seq a b Nz NA=>
  intro top p E O K r z vs m fr aL cV au aw a1 h;simp only[jD] at h;split at h
  ·rename_i u hu;exact piece aL au aw a1 hu h
  ·refine W.seq ((Nz as9 (0::p) E O _ r (by rw[wJ aL];exact qd a) (by grind) (fun _=>by grind) aw a1 h).mono ?_);rintro x cU bx ⟨cv,jo,hW,b2,bg,U,aa,ao,aN,bI⟩;cases x with
   |normal=>have bI:=(if_pos rfl).symm.trans bI;exact (NA as9 (1::p) hW b2 K r (by rw[wJ aL];exact qd b) (by grind) (fun _=>by grind) ao aN bI).mono fun _ _ _ a2=>a2.from bg U aa
   |exit i=>exact ⟨cv,jo,hW,b2,bg,U,aa,ao,aN,(if_neg (by simp)).symm.trans bI⟩
   |ret=>exact ⟨cv,jo,hW,b2,bg,U,aa,ao,aN,(if_neg (by simp)).symm.trans bI⟩
 |cond x a b Nz NA=>
  intro top p E O K r z vs m fr aL cV au aw a1 h;simp only[jD] at h;split at h
  ·rename_i u hu;exact piece aL au aw a1 hu h
  ·split at h
   ·rename_i t aE;have ad:=Ot a1 x;rw[aE] at ad;cases t with
    |true=>rw[if_pos rfl] at h;exact W.abp ad rfl (Nz as9 (0::p) E O K r (by rw[wJ aL];exact qd a) (by grind) (fun _=>by grind) aw a1 h)
    |false=>rw[if_neg (by simp)] at h;exact W.abo ad rfl (NA as9 (1::p) E O K r (by rw[wJ aL];exact qd b) (by grind) (fun _=>by grind) aw a1 h)
   grind
 |scope c aq=>
  intro top p E O K r z vs m fr aL cV au aw a1 h;simp only[jD] at h;split at h
  ·rename_i u hu;exact piece aL au aw a1 hu h
  ·exact W.scope (aq as9 (0::p) E O K r (by rw[wJ aL];exact qd c) (by grind) (fun _=>by grind) aw a1 h)
 |block i c aq=>
  intro top p E O K r z vs m fr aL cV au aw a1 h;simp only[jD] at h;split at h
  ·rename_i u hu;exact piece aL au aw a1 hu h
  ·refine W.block ((aq as9 (0::p) E O _ r (by rw[wJ aL];exact qd c) (by grind) (fun _=>by grind) aw a1 h).mono ?_);rintro x cU bx a2;obtain ⟨cv,jo,hW,b2,bg,U,aa,ao,aN,bI⟩:=a2;cases x with
   |normal=>exact ⟨cv,jo,hW,b2,bg,U,aa,ao,aN,by grind⟩
   |exit j=>
    by_cases gP:j=i
    ·subst gP;exact n3.oe ⟨cv,jo,hW,b2,bg,U,aa,ao,aN,by grind⟩
    ·exact n3.mR (by grind) ⟨cv,jo,hW,b2,bg,U,aa,ao,aN,by grind⟩
   |ret=>exact ⟨cv,jo,hW,b2,bg,U,aa,ao,aN,by grind⟩
 |region id ops d=>
  intro top p E O K r z vs m fr aL cV au aw a1 h;simp only[jD] at h;split at h
  ·rename_i u hu;exact piece aL au aw a1 hu h
  ·cases d with
   |true=>
    rw[if_pos rfl] at h;split at h
    ·rename_i ah;exact (W.calm (Q:=fun x=>h6 X O z e k vs (sX (K x)) r) ah (zi ca aw a1 h)).mono fun _ _ _ a2=>a2.fill
    ·exact (W.draw (Q:=fun x=>h6 X O z e k vs (sX (K x)) r) (FU ca aw a1 hH.start (fS.start aw a1) h)).mono fun _ _ _ a2=>a2.fill
   |false=>rw[if_neg (by simp)] at h;exact (W.region (Q:=fun x=>h6 X O z e k vs (sX (K x)) r) (zi ca aw a1 h)).mono fun _ _ _ a2=>a2.fill
 |loop c aq=>
  intro top p E O K r z vs m fr aL cV au aw a1 h;simp only[jD] at h;split at h
  ·rename_i u hu;exact piece aL au aw a1 hu h
  grind
 |skip=>intro top p E O K r z vs m fr aL cV au aw a1 h;exact W.skip (h6.here aw a1 h)
 |label l=>intro top p E O K r z vs m fr aL cV au aw a1 h;exact W.label (h6.here aw a1 h)
 |exit i=>intro top p E O K r z vs m fr aL cV au aw a1 h;exact W.exit (h6.here aw a1 h)
 |ret=>intro top p E O K r z vs m fr aL cV au aw a1 h;exact W.ret (h6.here aw a1 h)
 |_=>grind [jD]
end
end Go.ay
end
section
namespace Go.ay
inductive gl where
 |int (k:IntKind)|bool|str
 |ae (e:Nat)|mp (t bh bc:Nat)
 |agg (t:Nat)|gU (t:Nat)
 |fn (f:Nat) (ts:List Nat)
 |cut (j e:Nat)
inductive bV where
 |ae (e:Nat)|box (t:Nat)|recv (t:Nat)|arr (e t n:Nat)|map (t bh bc:Nat)
 |bM (t:Nat) (l:List (Nat×Nat))
 |se (t f:Nat) (is:List Nat)
 |ne (e t:Nat)
inductive dr where
 |v (d:Nat) (c:gl)
 |o (d:Nat) (c:bV)
 |u (j:Nat) (c:bV)
noncomputable section
section
variable {P:atb} {D:Nat->Type}
def ud (D:Nat->Type):List Nat->Type
 |[]=>Unit
 |t::ts=>D t×ud D ts
def gl.ty (D:Nat->Type):gl->Type
 | .int _=>Int
 | .bool=>Bool
 | .str=>List UInt8
 | .ae e=>List (D e)
 | .mp _ bh bc=>List (D bh×D bc)
 | .agg t=>D t
 | .gU t=>D t
 | .fn _ ts=>ud D ts
 | .cut _ _=>Nat×Nat
def bV.ty (D:Nat->Type):bV->Type
 | .ae e=>List (D e)
 | .box t=>D t
 | .recv t=>D t
 | .arr e _ _=>List (D e)
 | .map _ bh bc=>List (D bh×D bc)
 | .bM t _=>D t
 | .se _ _ _=>Unit
 | .ne _ t=>List (List (D t))
def dr.ty (D:Nat->Type):dr->Type
 | .v _ c=>c.ty D
 | .o _ c=>c.ty D
 | .u _ c=>c.ty D
def eA (D:Nat->Type):List dr->Type
 |[]=>Unit
 |i::is=>i.ty D×eA D is
variable (X:et P D)
def ib (t:Nat) (x:D t):List (bY D):=match X.I t with|some ti=>ti.kD x|none=>[]
def kT (t:Nat) (cs:List (bY D)):Option (D t):=match X.I t with|some ti=>ti.ox cs|none=>as6
def ry:(ts:List Nat)->ud D ts->List (Nat×List (bY D))
 |[],_=>[]
 |t::ts,x=>(t,ib X t x.1)::ry ts x.2
def uK:(ts:List Nat)->List (Nat×List (bY D))->Option (ud D ts)
 |[],[]=>as4 ()
 |t::ts,p::l=>if p.1=t then (match kT X t p.2,uK ts l with|some a,as4 b=>as4 (a,b)|_,_=>as6) else as6
 |_,_=>as6
def gl.mk:(c:gl)->c.ty D->aV D
 | .int k,n=> .c (.int k n)
 | .bool,b=> .c (.bool b)
 | .str,s=> .c (.str s)
 | .ae e,xs=> .c (.ae e xs)
 | .mp t bh bc,es=> .c (.mp t bh bc es)
 | .agg t,x=> .agg t (ib X t x)
 | .gU t,x=> .gU t (ib X t x) 0
 | .fn f ts,x=> .fn f (ry X ts x)
 | .cut j e,x=> .cut j e x.1 x.2
def gl.get:(c:gl)->aV D->Option (c.ty D)
 | .int k, .c (.int cK n)=>if cK=k then as4 n else as6
 | .bool, .c (.bool b)=>as4 b
 | .str, .c (.str s)=>as4 s
 | .ae e, .c .gS=>as4 []
 | .mp t bh bc, .c .pa=>as4 []
 | .ae e, .c (.ae b0 xs)=>if h:b0=e then as4 (h▸xs) else as6
 | .mp t bh bc, .c (.mp dZ hE hF es)=>if h:hE=bh/\hF=bc then (if dZ=t then as4 (h.1▸h.2▸es) else as6) else as6
 | .agg t, .agg dZ cs=>if dZ=t then kT X t cs else as6
 | .gU t, .gU dZ cs off=>if dZ=t/\off=0 then kT X t cs else as6
 | .fn f ts, .fn k7 l=>if k7=f then uK X ts l else as6
 | .cut _ e, .cut _ b0 bD n=>if b0=e then as4 (bD,n) else as6
 |_,_=>as6
def lH:List (Nat×Nat)->Nat->Option Nat
 |[],_=>as6
 |p::l,i=>if ath p.1 i=as5 then as4 p.2 else lH l i
def ow (ck:Nat->Nat) (l:List (Nat×Nat)):Nat->List (bY D)->List (bY D)
 |_,[]=>[]
 |i,c::cs=>(match lH l i with|some n=> .own (ck n)|none=>c)::ow ck l (i+1) cs
def mD (t:Nat):List (bY D):=match X.I t with|some ti=>ti.pz|none=>[]
def sB (zs:List (bY D)) (l:List (Nat×Nat)):Nat->List (bY D)->List (bY D)
 |_,[]=>[]
 |i,c::cs=>(match lH l i with|some _=>zs.getD i .gS|none=>c)::sB zs l (i+1) cs
def bV.gh (ck:Nat->Nat):(c:bV)->c.ty D->Bool->aR D
 | .ae e,xs,w=> .ae e xs as9 w
 | .box t,x,w=> .box t (ib X t x) as9 w
 | .recv t,x,w=> .recv t (ib X t x) w
 | .arr e t n,xs,w=> .arr e t n xs w
 | .map t bh bc,es,w=> .map t bh bc es as9 w
 | .bM t l,x,w=> .box t (ow ck l 0 (ib X t x)) as9 w
 | .se t f is,_,w=> .box t [.fn f (is.map ck)] as9 w
 | .ne e t,dH,w=> .nest e t ((X.N e t).map tk.up) dH as6 w
def bV.mk (c:bV) (x:c.ty D) (w:Bool):aR D:=bV.gh X (fun n=>n) c x w
def bV.gD:bV->List Nat
 | .bM _ l=>l.map Prod.snd
 | .se _ _ is=>is
 |_=>[]
def ov (a:Option Nat) (i:Nat):Bool:=match a with|some j=>ath j i|none=>as9
def GJ (bn:List Nat) (cs:List (bY D)):List (Nat×Nat)->Bool
 |[]=>as5
 |p::l=>(match cs[p.1]? with|some (.own i)=>ov (bn[p.2]?) i|_=>as9)&&GJ bn cs l
def DC (bn:List Nat):List Nat->List Nat->Bool
 |[],[]=>as5
 |n::l,i::k=>ov (bn[n]?) i&&DC bn l k
 |_,_=>as9
def bV.get (bn:List Nat):(c:bV)->aR D->Option (c.ty D)
 | .ae e, .ae b0 xs as9 _=>if h:b0=e then as4 (h▸xs) else as6
 | .box t, .box dZ cs as9 _=>if dZ=t then kT X t cs else as6
 | .recv t, .recv dZ cs _=>if dZ=t then kT X t cs else as6
 | .arr e t n, .arr b0 dZ n' xs _=>if h:b0=e then (if dZ=t/\n'=n then as4 (h▸xs) else as6) else as6
 | .map t bh bc, .map dZ hE hF es as9 _=>if h:hE=bh/\hF=bc then (if dZ=t then as4 (h.1▸h.2▸es) else as6) else as6
 | .bM t l, .box dZ cs as9 _=>if dZ=t/\GJ bn cs l=as5 then kT X t (sB (mD X t) l 0 cs) else as6
 | .se t f is, .box dZ [.fn k7 sy] as9 _=>if dZ=t/\k7=f/\DC bn is sy=as5 then as4 () else as6
 | .ne e t, .nest b0 dZ _ dH as6 _=>if h:dZ=t then (if b0=e then as4 (h▸dH) else as6) else as6
 |_,_=>as6
def aR.clean:aR D->Bool
 | .box _ cs _ _=>cs.all w0
 | .recv _ cs _=>cs.all w0
 | .nest _ _ _ _ _ _=>as9
 |_=>as5
def Ms (O:List (aR D)):aV D->Option (aV D×List (aR D))
 | .c c=>(match qR O c with|some (bP,bW)=>as4 (.c bP,bW)|none=>as6)
 | .agg t cs=>(match vM O cs with|some (cs',bW)=>as4 (.agg t cs',bW)|none=>as6)
 | .cut i e bD n=>(match tC O i with|some (.ae b0 xs,bW)=>if b0=e then as4 (.c (.ae b0 ((xs.take n).drop bD)),bW) else as6|_=>as6)
 |s=>as4 (s,O)
def GI:aV D->Option Nat
 | .c (.own i)=>as4 i
 | .box i _=>as4 i
 | .arr i=>as4 i
 | .el i _ _ _=>as4 i
 |_=>as6
def vg (l:List (Nat×Nat)):Nat->List (bY D)->Bool
 |_,[]=>as9
 |i,c::cs=>(match c with| .own _=>(match lH l i with|none=>as5|_=>as9)|_=>as9)||vg l (i+1) cs
def DT (l:List (Nat×Nat)):Nat->List (bY D)->List (aR D)->Option (List (bY D)×List (aR D))
 |_,[],O=>as4 ([],O)
 |i,c::cs,O=>
  match (match lH l i with|some _=>as4 (c,O)|none=>qR O c) with
  |some (bP,bW)=>(match DT l (i+1) cs bW with|some (cs',r1)=>as4 (bP::cs',r1)|none=>as6)
  |none=>as6
def sf (l:List (Nat×Nat)) (O:List (aR D)) (i:Nat):Option (List (aR D)):=
 match O[i]? with
 |some (.box t cs as9 _)=>if vg l 0 cs=as5 then (match DT l 0 cs O with|some (cs',bW)=>as4 (bW.set i (.box t cs' as9 as5))|none=>as6) else as4 O
 |_=>as4 O
def Mt (c:gl) (O:List (aR D)) (s:aV D):Option (aV D×List (aR D)):=
 match c,s with
 | .cut _ _,s=>as4 (s,O)
 | .gU _, .box i off=>
  (match sf [] O i with
  |some b2=>(match uY b2 (.box i off) with|some (p,dK)=>as4 (.gU p.1 p.2 0,dK)|none=>as6)
  |none=>as6)
 |_,s=>Ms O s
def oU (E:List (Nat×aV D)):List dr->List (aR D)->Option (List (aV D)×List (aR D))
 |[],O=>as4 ([],O)
 | .v d c::aG,O=>
  match Mt c O (eh E d) with
  |some (s,bW)=>(match oU E aG bW with|some (l,r1)=>as4 (s::l,r1)|none=>as6)
  |none=>as6
 |_::aG,O=>match oU E aG O with|some (l,bW)=>as4 (.un::l,bW)|none=>as6
def pI:Nat:=2000000
def S8:Nat:=100000000
def S9:Nat:=200000000
def zF:List (bY D)->List Nat
 |[]=>[]
 | .own i::cs=>i::zF cs
 | .fn _ is::cs=>is++zF cs
 |_::cs=>zF cs
def YR (O:List (aR D)) (i:Nat):List Nat:=
 match O[i]? with
 |some (.box _ cs _ _)=>zF cs
 |some (.recv _ cs _)=>zF cs
 |_=>[]
def Pz (O:List (aR D)):Nat->List Nat->List Nat->List Nat
 |0,_,s=>s
 |_+1,[],s=>s
 |n+1,i::l,s=>if s.any (ath i)=as5 then Pz O n l s else Pz O n (YR O i++l) (s++[i])
def YJ:List (Nat×aV D)->List Nat
 |[]=>[]
 |p::E=>(match GI p.2 with|some i=>[i]|none=>[])++YJ E
def YI (E:List (Nat×aV D)) (O:List (aR D)):Nat->Nat->Option Nat
 |0,_=>as6
 |n+1,m=>if ath (m%64) 0=as5 then GI (eh E (m / 64)) else (match YI E O n (m / 64) with|some i=>(YR O i)[m%64 - 1]? |none=>as6)
def LS (E:List (Nat×aV D)) (O:List (aR D)) (d:Nat):Option Nat:=
 if atn 1000000000 d=as5 then GI (eh E d) else
 if atn S9 d=as5 then YI E O 8 (d - S9) else
 if aty d pI=as5 then GI (eh E d)
 else if atn S8 d=as5 then as4 (d - S8)
 else match eh E ((d - pI) / 1000) with
  | .box i 0=>(match O[i]? with|some (.box _ cs _ _)=>(match cs[(d - pI)%1000]? with|some (.own n)=>as4 n|_=>as6)|_=>as6)
  |_=>as6
def Dp (E:List (Nat×aV D)) (O:List (aR D)):List dr->Option (List Nat)
 |[]=>as4 []
 | .o d _::aG=>(match LS E O d,Dp E O aG with|some i,as4 l=>as4 (i::l)|_,_=>as6)
 |_::aG=>Dp E O aG
def ny (E:List (Nat×aV D)):List dr->List (aR D)->Option (List (aR D))
 |[],O=>as4 O
 | .o d (.box _)::aG,O=>(match LS E O d with|some i=>(match sf [] O i with|some bW=>ny E aG bW|none=>as6)|none=>as6)
 | .o d (.bM _ l)::aG,O=>(match LS E O d with|some i=>(match sf l O i with|some bW=>ny E aG bW|none=>as6)|none=>as6)
 | .u j (.box _)::aG,O=>(match sf [] O j with|some bW=>ny E aG bW|none=>as6)
 | .u j (.bM _ l)::aG,O=>(match sf l O j with|some bW=>ny E aG bW|none=>as6)
 |_::aG,O=>ny E aG O
def Tu (bn:List Nat):gl->aV D->Bool
 | .cut j _, .cut i _ _ _=>ov (bn[j]?) i
 |_,_=>as5
def fP (fH:List Nat) (O:List (aR D)):(aG:List dr)->List (aV D)->List Nat->Option (eA D aG)
 |[],_,[]=>as4 ()
 | .v d c::aG,s::l,bn=>if Tu fH c s=as5 then (match gl.get X c s,fP fH O aG l bn with|some x,as4 y=>as4 (x,y)|_,_=>as6) else as6
 | .o d c::aG,_::l,i::bn=>
  match O[i]? with
  |some o=>(match bV.get X fH c o,fP fH O aG l bn with|some x,as4 y=>as4 (x,y)|_,_=>as6)
  |none=>as6
 | .u j c::aG,_::l,bn=>
  match O[j]? with
  |some o=>(match bV.get X fH c o,fP fH O aG l bn with|some x,as4 y=>as4 (x,y)|_,_=>as6)
  |none=>as6
 |_,_,_=>as6
def eu:(aG:List dr)->eA D aG->List (aR D)
 |[],_=>[]
 | .o _ c::aG,x=>bV.mk X c x.1 as9::eu aG x.2
 | .v _ _::aG,x=>eu aG x.2
 | .u _ _::aG,x=>eu aG x.2
def gu:(aG:List dr)->eA D aG->List (Nat×aV D)
 |[],_=>[]
 | .v d c::aG,x=>(d,gl.mk X c x.1)::gu aG x.2
 | .o _ _::aG,x=>gu aG x.2
 | .u _ _::aG,x=>gu aG x.2
def sh (bn:List Nat):aV D->aV D->Bool
 | .c (.own j), .c (.own i)=>ov (bn[j]?) i
 | .box j o, .box i p=>ov (bn[j]?) i&&ath o p
 | .arr j, .arr i=>ov (bn[j]?) i
 | .c .gS, .c .gS=>as5
 | .c .wk, .c .wk=>as5
 | .c .pa, .c .pa=>as5
 | .undef, .undef=>as5
 | .un,_=>as5
 | .c (.int k n), .c (.int cK n')=>decide (k=cK)&&(n==n')
 | .c (.bool b), .c (.bool cR)=>b==cR
 | .fn f [], .fn k7 []=>ath f k7
 |_,_=>as9
def ps (ck:Nat->Nat):aV D->aV D
 | .c (.own j)=> .c (.own (ck j))
 | .box j o=> .box (ck j) o
 | .arr j=> .arr (ck j)
 |s=>s
def rz:List Nat->Bool
 |[]=>as5
 |i::l=> !(l.any fun j=>ath j i)&&rz l
def zp (l:List (Nat×Nat)):Nat->List (bY D)->Bool
 |_,[]=>as5
 |i,c::cs=>(match lH l i with|some _=>as5|none=>w0 c)&&zp l (i+1) cs
def bV.Tr:bV->aR D->Bool
 | .bM _ l, .box _ cs _ _=>zp l 0 cs
 |_,o=>o.clean
def w4 (c:bV) (O:List (aR D)) (i:Nat):Bool:=match O[i]? with|some o=>o.lv|| !(c.Tr o)|none=>as5
def ln (fH:List Nat):(aG:List dr)->eA D aG->List Nat->List (aR D)->List (aR D)
 | .o _ c::aG,x,i::bn,O=>ln fH aG x.2 bn (O.set i (bV.gh X (fun n=>fH.getD n 0) c x.1 (w4 c O i)))
 | .v _ _::aG,x,bn,O=>ln fH aG x.2 bn O
 | .u _ _::aG,x,bn,O=>ln fH aG x.2 bn O
 |_,_,_,O=>O
def Hm (aG:List dr) (fx:List (Nat×aV D)) (E:List (Nat×aV D)) (O:List (aR D)):Option (eA D aG×List Nat×List (aR D)):=
 match oU E aG O,Dp E O aG with
 |some (cp,b2),as4 bn=>
  if (rz bn&&fx.all fun p=>sh bn p.2 (eh E p.1))=as5 then
   match fP X bn b2 aG cp bn with
   |some x=>as4 (x,bn,ln X bn aG x bn b2)
   |none=>as6
  else as6
 |_,_=>as6
def qm (aG:List dr) (fx:List (Nat×aV D)) (E:List (Nat×aV D)) (O:List (aR D)):Option (eA D aG×List Nat×List (aR D)):=
 match ny E aG O with
 |some n0=>Hm X aG fx E n0
 |none=>as6
end
section
variable {P:atb} {D:Nat->Type} {X:et P D} {z z':Nat->bm} {e m m':Mem} {k:Option Nat} {vs vs':List as7} {fr:Nat->as7} {E:List (Nat×aV D)} {O bW:List (aR D)}
theorem rv {t:Nat} {x:D t} {ds:List as7} (h:bp (dJ X.G z vs) (ib X t x) ds):bp (dJ X.G z vs') (ib X t x) ds:=by
 unfold ib at h⊢;split at h
 ·rename_i ti _;exact ti.pr z vs' x ds (ti.p9 z vs _ x ds (ti.NV x) h)
 ·exact bp.mono (fun _ _ h=>h) (by cases ds with|nil=>trivial|cons _ _=>exact h.elim)
theorem sS {t:Nat} {x:D t} {cs:List (bY D)} {ds:List as7} (aL:kT X t cs=as4 x) (h:bp (dJ X.G z vs) cs ds):bp (dJ X.G z vs') (ib X t x) ds:=by
 unfold kT at aL;unfold ib;split at aL
 ·rename_i ti hC;exact ti.pr z vs' x ds (ti.p9 z vs cs x ds aL h)
 grind
theorem Gs {t:Nat} {x:D t} {cs:List (bY D)} (aL:kT X t cs=as4 x) (h:cs.all w0=as5):cs=ib X t x:=by
 unfold kT at aL;unfold ib;split at aL
 ·rename_i ti hC;exact (ti.E1 cs x aL).eq h
 grind
theorem agx {t:Nat} {x:D t} {cs:List (bY D)} (aL:kT X t cs=as4 x):nZ cs (ib X t x):=by
 unfold kT at aL;unfold ib;split at aL
 ·rename_i ti hC;exact ti.E1 cs x aL
 grind
theorem Wf:∀{ts:List Nat} {x:ud D ts} {gs:List as7},bp (fun c g=>lX X.G z vs c.2 0 g) (ry X ts x) gs->bp (fun c g=>lX X.G z vs' c.2 0 g) (ry X ts x) gs
 |[],_,[],_=>trivial
 |[],_,_::_,h=>h.elim
 |t::ts,x,[],h=>h.elim
 |t::ts,x,g::gs,⟨⟨b,o,ds,U,aa,ao⟩,aN⟩=>⟨⟨b,o,ds,U,aa,rv ao⟩,Wf aN⟩
theorem Wa:∀{ts:List Nat} {l:List (Nat×List (bY D))} {x:ud D ts} {gs:List as7},uK X ts l=as4 x->bp (fun c g=>lX X.G z vs c.2 0 g) l gs->bp (fun c g=>lX X.G z vs' c.2 0 g) (ry X ts x) gs
 |[],[],_,[],_,_=>trivial
 |[],[],_,_::_,_,h=>h.elim
 |[],_::_,_,_,h,_=>by cases h
 |_::_,[],_,_,h,_=>by cases h
 |t::ts,p::l,x,[],_,h=>h.elim
 |t::ts,p::l,x,g::gs,h,⟨⟨b,o,ds,U,aa,ao⟩,aN⟩=>by
  simp only[uK] at h;split at h
  ·split at h
   ·rename_i a cR aY ag;cases h;exact ⟨⟨b,o,ds,U,aa,sS aY ao⟩,Wa ag aN⟩
   grind
  grind
def gl.wi:gl->Bool
 | .cut _ _=>as9
 |_=>as5
theorem gl.NI {c:gl} {x:c.ty D} {v:as7} (ah:c.wi=as5) (h:rel X.G z vs (gl.mk X c x) v):rel X.G z vs' (gl.mk X c x) v:=by
 cases c with
 |cut j e=>cases ah
 |agg t=>obtain ⟨ds,U,aa⟩:=h;exact ⟨ds,U,rv aa⟩
 |gU t=>obtain ⟨b,o,ds,U,aa,ao⟩:=h;exact ⟨b,o,ds,U,aa,rv ao⟩
 |fn f ts=>obtain ⟨gs,U,aa⟩:=h;exact ⟨gs,U,Wf aa⟩
 |_=>exact h
theorem XN {a:Option Nat} {i:Nat} (h:ov a i=as5):a=as4 i:=by
 unfold ov at h
 grind [atl]
theorem gl.x6 {bn:List Nat} {c:gl} {x:c.ty D} {s:aV D} {v:as7} (hm:∀(j i:Nat) (u:as7),bn[j]? =as4 i->vs[i]? =as4 u->vs'[j]? =as4 u) (fc:Tu bn c s=as5) (a5:gl.get X c s=as4 x) (h:rel X.G z vs s v):rel X.G z vs' (gl.mk X c x) v:=by
 unfold gl.get at a5;split at a5
 ·split at a5
  ·rename_i ar;cases a5;subst ar;exact h
  grind
 ·cases a5;exact h
 ·cases a5;exact h
 ·cases a5;exact .inl ⟨h,rfl⟩
 ·cases a5;exact .inl ⟨h,rfl⟩
 ·split at a5
  ·rename_i ar;cases a5;subst ar;exact h
  grind
 ·split at a5
  ·rename_i ar;split at a5
   ·rename_i au;obtain ⟨U,aa⟩:=ar;subst U aa au;cases a5;exact h
   grind
  grind
 ·obtain ⟨_,a5⟩:=fJ a5;obtain ⟨ds,U,aa⟩:=h;exact ⟨ds,U,sS a5 aa⟩
 ·obtain ⟨ar,a5⟩:=fJ a5;obtain ⟨b,o,ds,U,aa,ao⟩:=h;exact ⟨b,o,ds,by grind,aa,sS a5 ao⟩
 ·obtain ⟨ar,a5⟩:=fJ a5;subst ar;obtain ⟨gs,U,aa⟩:=h;exact ⟨gs,U,Wa a5 aa⟩
 ·obtain ⟨ar,a5⟩:=fJ a5;subst ar;cases a5;obtain ⟨w,U,aa⟩:=h;exact ⟨w,⟨hm _ _ _ (XN fc) U.1,U.2⟩,aa⟩
 grind
theorem bV.re {ck:Nat->Nat} {c:bV} {x:c.ty D} {w:Bool}:(bV.gh X ck c x w).live=as5:=by cases c<;>rfl
theorem bV.EN {ck:Nat->Nat} {c:bV} {x:c.ty D} {w:Bool}:(bV.gh X ck c x w).lv=w:=by cases c<;>first|rfl|simp[bV.gh,aR.lv]
theorem bV.sA {c:bV} {x:c.ty D} {w:Bool}:(bV.mk X c x w).live=as5:=bV.re
theorem j5 {aB bK:Type} {R:aB->bK->Prop}:∀{l:List aB} {k:List bK},bp R l k↔l.length=k.length/\∀(i:Nat) (a:aB) (b:bK),l[i]? =as4 a->k[i]? =as4 b->R a b
 |[],[]=>by simp[bp]
 |[],_::_=>by simp[bp]
 |_::_,[]=>by simp[bp]
 |a::l,b::k=>by
  simp only[bp,j5 (l:=l) (k:=k),aun];constructor
  ·grind
  ·rintro ⟨U,aa⟩;exact ⟨aa 0 a b rfl rfl,by omega,fun i x y ad aJ=>aa (i+1) x y (by grind) (by grind)⟩
theorem za {ck:Nat->Nat} {l:List (Nat×Nat)}:∀{cs:List (bY D)} {i0 i:Nat},(ow ck l i0 cs)[i]? =(cs[i]?).map fun c=>match lH l (i0+i) with|some n=> .own (ck n)|none=>c
 |[],i0,i=>by rfl
 |c::cs,i0,0=>by rfl
 |c::cs,i0,i+1=>by simp only[ow,auo];rw[za (cs:=cs),show i0+1+i=i0+(i+1) by omega]
theorem W5 {zs:List (bY D)} {l:List (Nat×Nat)}:∀{cs:List (bY D)} {i0 i:Nat},(sB zs l i0 cs)[i]? =(cs[i]?).map fun c=>match lH l (i0+i) with|some _=>zs.getD (i0+i) .gS|none=>c
 |[],i0,i=>by rfl
 |c::cs,i0,0=>by rfl
 |c::cs,i0,i+1=>by simp only[sB,auo];rw[W5 (cs:=cs),show i0+1+i=i0+(i+1) by omega]
theorem OK {ck:Nat->Nat} {l:List (Nat×Nat)}:∀{cs:List (bY D)} {i0:Nat},(ow ck l i0 cs).length=cs.length
 |[],_=>rfl
 |c::cs,i0=>by simp[ow,OK (cs:=cs)]
theorem F1 {t:Nat} (i:Nat):∃v,∀(z:Nat->bm) (vs:List as7),dJ X.G z vs ((mD X t).getD i .gS) v:=by
 unfold mD;cases hC:X.I t with
 |none=>exact ⟨.slice as6 0 0,fun z vs=>rfl⟩
 |some ti=>
  simp only;cases ah:ti.pz[i]? with
  |none=>exact ⟨.slice as6 0 0,fun z vs=>by rw[avF,ah];rfl⟩
  |some c=>obtain ⟨v,ab,_⟩:=(ti.o7 (fun _=> .dead) []).get i c ah;refine ⟨v,fun z vs=> ?_⟩;rw[avF,ah];exact (j5.1 (ti.o7 z vs)).2 i c v ah ab
theorem W6 {zs:List (bY D)} {l:List (Nat×Nat)}:∀{cs:List (bY D)} {i0:Nat},(sB zs l i0 cs).length=cs.length
 |[],_=>rfl
 |c::cs,i0=>by simp[sB,W6 (cs:=cs)]
theorem y5:∀{l:List (Nat×Nat)} {i n:Nat},lH l i=as4 n->(i,n)∈l
 |[],_,_,h=>by cases h
 |p::l,i,n,h=>by
  simp only[lH] at h;split at h
  ·grind [atl]
  ·exact atC _ (y5 h)
theorem Fv {bn:List Nat} {cs:List (bY D)}:∀{l:List (Nat×Nat)},GJ bn cs l=as5->∀p∈l,∃i,cs[p.1]? =as4 (.own i)/\bn[p.2]? =as4 i
 |[],_,_,h=>by grind
 |q::l,h,p,aL=>by
  simp only[GJ,ati] at h;rcases ats.1 aL with rfl|aL
  ·grind [ov,atl]
  ·exact Fv h.2 p aL
theorem aka {t:Nat} {x:D t}:(ib X t x).all ot=as5:=by
 unfold ib;split
 ·rename_i ti _;exact ti.NG x
 rfl
theorem ahB {c:bY D} {v:as7} (ah:ot c=as5) (h:dJ X.G z vs c v) (bd:∀f is,c≠ .fn f is):dJ X.G z vs' c v:=by
 cases c<;>first|exact h|cases ah|grind
theorem ah7 {c:bY D} {v:as7} (ah:ot c=as5) (h:dJ X.G z vs c v):dJ X.G z vs' c v:=by
 cases c with
 |fn f is=>
  cases is with
  |nil=>obtain ⟨gs,U,aa⟩:=h;exact ⟨gs,U,by cases gs with|nil=>trivial|cons _ _=>exact aa.elim⟩
  |cons _ _=>cases ah
 |_=>grind [ahB]
def PC (i:Nat):aR D->Prop
 | .box _ cs _ _=> .own i∈cs\/∃f is, .fn f is∈cs/\i∈is
 |_=>False
theorem FK {bn:List Nat}:∀{l k:List Nat},DC bn l k=as5->bp (fun n i=>bn[n]? =as4 i) l k
 |[],[],_=>trivial
 |n::l,i::k,h=>by simp only[DC,ati] at h;exact ⟨XN h.1,FK h.2⟩
 |[],_::_,h=>by cases h
 |_::_,[],h=>by cases h
theorem Xi {ck l1:Nat->Nat}:∀{is:List Nat} {gs:List as7},(∀n∈is,∀u,vs[ck n]? =as4 u->vs'[l1 n]? =as4 u)->bp (qM vs) (is.map ck) gs->bp (qM vs') (is.map l1) gs
 |[],[],_,_=>trivial
 |[],_::_,_,h=>h.elim
 |_::_,[],_,h=>h.elim
 |n::is,g::gs,ab,⟨U,aa⟩=>⟨⟨ab n atU g U.1,U.2⟩,Xi (fun m hm=>ab m (atC _ hm)) aa⟩
theorem Xj {bn:List Nat} {ck:Nat->Nat} (ab:∀n i u,bn[n]? =as4 i->vs[i]? =as4 u->vs'[ck n]? =as4 u):∀{is sy:List Nat} {gs:List as7},bp (fun n i=>bn[n]? =as4 i) is sy->bp (qM vs) sy gs->bp (qM vs') (is.map ck) gs
 |[],[],[],_,_=>trivial
 |_::_,[],_,h,_=>h.elim
 |[],_::_,_,h,_=>h.elim
 |[],[],_::_,_,h=>h.elim
 |_::_,_::_,[],_,h=>h.elim
 |n::is,j::sy,g::gs,⟨U,aa⟩,⟨b5,cc⟩=>⟨⟨ab n j g U b5.1,b5.2⟩,Xj ab aa cc⟩
theorem bV.UZ {ck l1:Nat->Nat} {c:bV} {x:c.ty D} {v:as7} {w:Bool} (w':Bool) (h:gz X.G z e m k vs (bV.gh X ck c x w) v) (ab:∀n∈c.gD,PC (ck n) (bV.gh X ck c x w)->∀u,vs[ck n]? =as4 u->vs'[l1 n]? =as4 u):gz X.G z e m k vs' (bV.gh X l1 c x w') v:=by
 cases c with
 |box t=>obtain ⟨b,ds,U,aa,ao,aN⟩:=h;exact ⟨b,ds,U,aa,ao,rv aN⟩
 |recv t=>obtain ⟨b,ds,U,aa,aN⟩:=h;exact ⟨b,ds,U,aa,rv aN⟩
 |bM t l=>
  obtain ⟨b,ds,U,aa,ao,aN⟩:=h;refine ⟨b,ds,U,aa,ao,j5.2 ⟨?_,fun i a d aY aQ=> ?_⟩⟩
  ·grind [j5,OK]
  ·rw[za] at aY;obtain ⟨g5,bg,aY⟩:=auU.1 aY;have aF:=(j5.1 aN).2 i _ d (by rw[za,bg];rfl) aQ;rw[atB] at aY aF;cases bd:lH l i with
   |none=>
    grind [ah7,aka]
   |some n=>rw[bd] at aY aF;subst aY;exact ⟨ab n (atw.2 ⟨_,y5 bd,rfl⟩) (.inl (at3 (i:=i) (by grind [za]))) d aF.1,aF.2⟩
 |se t f is=>
  obtain ⟨b,ds,U,aa,ao,aN⟩:=h;refine ⟨b,ds,U,aa,ao, ?_⟩
  match ds,aN with
  |[d],⟨⟨gs,aU,aO⟩,_⟩=>exact ⟨⟨gs,aU,Xi (fun n a2=>ab n a2 (.inr ⟨f,_,atU,atw.2 ⟨n,a2,rfl⟩⟩)) aO⟩,trivial⟩
 |ne e t=>obtain ⟨hu,ws,h⟩:=h;exact ⟨hu,ws,h.bs,h.len,h.mP,fun p aL=>by grind⟩
 |_=>exact h
theorem bV.wh {ck l1:Nat->Nat} {c:bV} {x:c.ty D} {v:as7} {w:Bool} (w':Bool) (h:gz X.G z e m k vs (bV.gh X ck c x w) v) (ab:∀n∈c.gD,∀u,vs[ck n]? =as4 u->vs'[l1 n]? =as4 u):gz X.G z e m k vs' (bV.gh X l1 c x w') v:=bV.UZ w' h fun n a2 _=>ab n a2
theorem apI {e t:Nat}:S7 X.G e t ((X.N e t).map tk.up):=by
 intro f bd;cases a2:X.N e t with
 |none=>grind
 |some ei=>rw[a2] at bd;cases bd;exact ⟨ei.b6,ei.tid,ei.aF⟩
theorem bV.x6 {bn:List Nat} {ck:Nat->Nat} {c:bV} {x:c.ty D} {o:aR D} {v:as7} (a5:bV.get X bn c o=as4 x) (h:gz X.G z e m k vs o v) (ab:∀n i u,bn[n]? =as4 i->vs[i]? =as4 u->vs'[ck n]? =as4 u) (w:Bool):gz X.G z e m k vs' (bV.gh X ck c x w) v:=by
 unfold bV.get at a5;split at a5
 ·split at a5
  ·rename_i ar;cases a5;subst ar;exact h
  grind
 ·obtain ⟨ar,a5⟩:=fJ a5;subst ar;obtain ⟨b,ds,U,aa,ao,aN⟩:=h;exact ⟨b,ds,U,aa,ao,sS a5 aN⟩
 ·obtain ⟨ar,a5⟩:=fJ a5;subst ar;obtain ⟨b,ds,U,aa,aN⟩:=h;exact ⟨b,ds,U,aa,sS a5 aN⟩
 ·split at a5
  ·rename_i ar;split at a5
   ·rename_i au;obtain ⟨U,aa⟩:=au;subst ar U aa;cases a5;exact h
   grind
  grind
 ·split at a5
  ·rename_i ar;split at a5
   ·rename_i au;obtain ⟨U,aa⟩:=ar;subst U aa au;cases a5;exact h
   grind
  grind
 ·rename_i t l dZ cs bR;obtain ⟨ar,a5⟩:=fJ a5;obtain ⟨rfl,ax⟩:=ar;obtain ⟨b,ds,U,aa,ao,aN⟩:=h;have hlen:=(j5.1 aN).1;have a2:bp (dJ X.G z vs) (sB (mD X dZ) l 0 cs) ((atW ds.length).map fun i=>match lH l i with|some _=>avQ (F1 (X:=X) (t:=dZ) i)|none=>ds.getD i undef):=by
   grind [j5,W6,W5]
  have a2:=sS (vs':=vs') a5 a2;refine ⟨b,ds,U,aa,ao,j5.2 ⟨by grind [OK,j5],fun i a d aY aQ=> ?_⟩⟩;rw[za] at aY;obtain ⟨g5,bg,aY⟩:=auU.1 aY;rw[atB] at aY;have aj:i<ds.length:=(atp.1 aQ).1;cases bd:lH l i with
  |none=>
   grind [j5]
  |some n=>rw[bd] at aY;subst aY;obtain ⟨i0,aU,aO⟩:=Fv ax _ (y5 bd);have aF:=(j5.1 aN).2 i _ d aU aQ;exact ⟨ab n i0 d aO aF.1,aF.2⟩
 ·obtain ⟨⟨rfl,rfl,ah⟩,a5⟩:=fJ a5;obtain ⟨b,ds,U,aa,ao,aN⟩:=h;refine ⟨b,ds,U,aa,ao, ?_⟩
  match ds,aN with
  |[d],⟨⟨gs,aU,aO⟩,_⟩=>exact ⟨⟨gs,aU,Xj ab (FK ah) aO⟩,trivial⟩
 ·split at a5
  ·rename_i ar;subst ar;obtain ⟨ar,a5⟩:=fJ a5;subst ar;cases a5;obtain ⟨_,ws,h⟩:=h;exact ⟨apI,ws,h.bs,h.len,h.mP,fun p aL=>by grind⟩
  grind
 grind
theorem bV.abN {bn:List Nat} {c:bV} {x:c.ty D} {o:aR D} (a5:bV.get X bn c o=as4 x):∀n∈c.gD,∃i,bn[n]? =as4 i:=by
 intro n a2;unfold bV.get at a5;split at a5
 ·grind [bV.gD]
 ·grind [bV.gD]
 ·grind [bV.gD]
 ·grind [bV.gD]
 ·grind [bV.gD]
 ·obtain ⟨⟨_,ax⟩,_⟩:=fJ a5;obtain ⟨p,aL,rfl⟩:=atw.1 a2
  grind [Fv]
 ·rename_i t f is dZ k7 sy bR;obtain ⟨⟨_,_,ah⟩,_⟩:=fJ a5;have:∀{l k:List Nat},bp (fun n i=>bn[n]? =as4 i) l k->∀n∈l,∃i,bn[n]? =as4 i:=by
   intro l;induction l with
   |nil=>grind
   |cons a l aq=>
    intro k ar n a2;cases k with
    |nil=>exact ar.elim
    |cons b k=>
     rcases ats.1 a2 with rfl|a2
     ·exact ⟨b,ar.1⟩
     ·exact aq ar.2 n a2
  exact this (FK ah) n a2
 ·grind [bV.gD]
 grind
theorem bV.Mv {bn:List Nat} {c:bV} {x:c.ty D} {o:aR D} (a5:bV.get X bn c o=as4 x):o.live=as5:=by
 unfold bV.get at a5;split at a5<;>first|rfl|grind
theorem VY {ck:Nat->Nat} {zs:List (bY D)} {l:List (Nat×Nat)}:∀{cs ds:List (bY D)} {i:Nat},nZ (sB zs l i cs) ds->zp l i cs=as5->(∀j n,lH l (i+j)=as4 n->cs[j]? =as6\/cs[j]? =as4 (.own (ck n)))->ow ck l i ds=cs
 |[],[],_,_,_,_=>rfl
 |[],_::_,_,h,_,_=>h.elim
 |_::_,[],_,h,_,_=>h.elim
 |c::cs,d::ds,i,h,ah,an=>by
  simp only[zp,ati] at ah;have aa:=VY (cs:=cs) (ds:=ds) (i:=i+1) h.2 ah.2 fun j n a0=>by have:=an (j+1) n (by grind);simpa using this
  simp only[ow,aa];have bg:=an 0;rw[at2] at bg;cases bd:lH l i with
  |some n=>
   grind
  |none=>
   have U:=h.1
   grind
theorem bV.abL {bn:List Nat} {c:bV} {x:c.ty D} {o:aR D} (a5:bV.get X bn c o=as4 x) (h:c.Tr o=as5):o=bV.gh X (fun n=>bn.getD n 0) c x o.lv:=by
 unfold bV.get at a5;split at a5
 ·split at a5
  ·rename_i ar;cases a5;subst ar;rfl
  grind
 ·obtain ⟨ar,a5⟩:=fJ a5;subst ar;simp only[bV.gh,aR.lv];rw[<-Gs a5 h]
 ·obtain ⟨ar,a5⟩:=fJ a5;subst ar;simp only[bV.gh,aR.lv];rw[<-Gs a5 h]
 ·split at a5
  ·rename_i ar;split at a5
   ·rename_i au;obtain ⟨U,aa⟩:=au;subst ar U aa;cases a5;rfl
   grind
  grind
 ·split at a5
  ·rename_i ar;split at a5
   ·rename_i au;obtain ⟨U,aa⟩:=ar;subst U aa au;cases a5;rfl
   grind
  grind
 ·rename_i t l dZ cs bR;obtain ⟨⟨rfl,ax⟩,a5⟩:=fJ a5;simp only[bV.gh,aR.lv];rw[VY (agx a5) (h:zp l 0 cs=as5) fun j n a0=> .inr ?_];obtain ⟨i,aU,aO⟩:=Fv ax (j,n) (y5 (by grind))
  grind
 ·rename_i t f is dZ k7 sy bR;obtain ⟨⟨rfl,rfl,ah⟩,a5⟩:=fJ a5;have:∀{l k:List Nat},bp (fun n i=>bn[n]? =as4 i) l k->l.map (fun n=>bn.getD n 0)=k:=by
   intro l;induction l with
   |nil=>intro k ar;cases k with
    |nil=>rfl
    |cons _ _=>exact ar.elim
   |cons a l aq=>
    intro k ar;cases k with
    |nil=>exact ar.elim
    |cons b k=>rw[aud,aq ar.2,avF,ar.1];rfl
  simp only[bV.gh,aR.lv];rw[this (FK ah)]
 ·split at a5
  ·rename_i ar;subst ar;obtain ⟨ar,a5⟩:=fJ a5;subst ar;cases h
  grind
 grind
end
end
end Go.ay
end
section
namespace Go.ay
section
variable {P:atb} {D:Nat->Type} {X:et P D} {z z':Nat->bm} {e m m':Mem} {k:Option Nat} {vs vs':List as7} {fr:Nat->as7} {E:List (Nat×aV D)} {O bW:List (aR D)}
theorem bC.Cl (h:bC X.G O z e m k vs) (len:vs'.length=bW.length) (xC:Nat->Nat)
  (ax:∀(i:Nat) (o:aR D),bW[i]? =as4 o->o.live=as5->∃p v,O[xC i]? =as4 p/\p.live=as5/\vs[xC i]? =as4 v/\vs'[i]? =as4 v/\gz X.G z e m k vs' o v)
  (bd:∀(i:Nat) (o:aR D) (v:as7),bW[i]? =as4 o->o.live=as9->vs'[i]? =as4 v->gz X.G z e m k vs' o v)
  (inj:∀(i j:Nat) (o p:aR D),bW[i]? =as4 o->bW[j]? =as4 p->o.live=as5->p.live=as5->xC i=xC j->i=j):bC X.G bW z e m k vs' where
 aM:=h.aM
 len:=len
 obj:=fun i o v an ab=>by
  grind
 e3:=fun i j o p v w gP an aL bD b4 ab hw=>by obtain ⟨iB,v1,aU,aO,bT,cP,_⟩:=ax i o an bD;obtain ⟨iP,v2,b5,cc,eH,ja,_⟩:=ax j p aL b4;rw[ab] at cP;cases cP;rw[hw] at ja;cases ja;exact h.e3 (xC i) (xC j) iB iP v w (fun bJ=>gP (inj i j o p an aL bD b4 bJ)) aU b5 aO cc bT eH
theorem gz.frozen {o:aR D} {v:as7} (ax:o.live=as9) (h:gz X.G z e m k vs o v) (a4:eM z z') (ab:∀(i:Nat) (u:as7),vs[i]? =as4 u->vs'[i]? =as4 u):gz X.G z' e m' k vs' o v:=by
 cases o with
 |dead=>trivial
 |ae t xs bi _=>cases bi with
  |true=>exact eC.mono a4 h
  |false=>cases ax
 |box t cs bi _=>cases bi with
  |true=>obtain ⟨b,ds,U,aa,ao⟩:=h;exact ⟨b,ds,U,E8 a4 aa,m7.mono ao a4 ab⟩
  |false=>cases ax
 |map t bh bc es bi _=>cases bi with
  |true=>exact lz.mono h a4
  |false=>cases ax
 |_=>cases ax
theorem zD (h:∀p∈E,rel X.G z vs p.2 (fr p.1)):eK X z vs E fr:=by
 induction E with
 |nil=>intro d;trivial
 |cons p E aq=>exact (aq fun q bb=>h q (atC _ bb)).cons (h p atU)
theorem ai' {s ig:aV D} {v:as7} (aw:bC X.G O z e m k vs) (h:Ms O s=as4 (ig,bW)) (ab:rel X.G z vs s v):∃z',Inv O bW/\dt e.next z z'/\bC X.G bW z' e m k vs/\rel X.G z' vs ig v:=by
 unfold Ms at h;split at h
 ·split at h
  ·rename_i c bP b2 ah;cases h;exact wP aw ah ab
  grind
 ·split at h
  ·rename_i t cs cs' b2 ah;cases h;obtain ⟨ds,U,aa⟩:=ab;obtain ⟨z',eO,aU,aO,bT⟩:=FN aw ah aa;exact ⟨z',eO,aU,aO,ds,U,bT⟩
  grind
 ·split at h
  ·rename_i bt xs b2 ah;split at h
   ·rename_i he;subst he;cases h;obtain ⟨w,U,aa⟩:=ab;obtain ⟨z',eO,aU,aO,bT⟩:=wP (c:= .own _) aw ah U;exact ⟨z',eO,aU,aO,aa.ap1 bT⟩
   grind
  grind
 grind [Inv.refl,dt.refl]
theorem aiK {i j t:Nat} {c:bY D} {cs:List (bY D)} {bi w:Bool} (h:tC O j=as4 (c,bW)) (aj:O[i]? =as4 (.box t cs bi w)):bW[i]? =as4 (.box t cs bi w):=by
 unfold tC at h;split at h
 ·grind
 ·grind
 ·grind
 grind
theorem aiJ {i t:Nat} {c bP:bY D} {cs:List (bY D)} {bi w:Bool} (h:qR O c=as4 (bP,bW)) (aj:O[i]? =as4 (.box t cs bi w)):bW[i]? =as4 (.box t cs bi w):=by
 unfold qR at h
 grind [aiK]
theorem XC {l:List (Nat×Nat)}:∀{cs cs':List (bY D)} {n:Nat} {O bW:List (aR D)} {ds:List as7} {z:Nat->bm},bC X.G O z e m k vs->DT l n cs O=as4 (cs',bW)->bp (dJ X.G z vs) cs ds->
  ∃z',Inv O bW/\dt e.next z z'/\bC X.G bW z' e m k vs/\bp (dJ X.G z' vs) cs' ds/\∀(i t:Nat) (lE:List (bY D)) (bi w:Bool),O[i]? =as4 (.box t lE bi w)->bW[i]? =as4 (.box t lE bi w)
 |[],cs',n,O,bW,[],z,aw,h,_=>by cases h;grind [Inv.refl,dt.refl]
 |c::cs,cs',n,O,bW,d::ds,z,aw,h,⟨U,aa⟩=>by
  unfold DT at h;split at h
  ·rename_i bP b2 ah;split at h
   ·rename_i abq dK h3;cases h;have step:∃cv,Inv O b2/\dt e.next z cv/\bC X.G b2 cv e m k vs/\dJ X.G cv vs bP d/\∀(i t:Nat) (lE:List (bY D)) (bi w:Bool),O[i]? =as4 (.box t lE bi w)->b2[i]? =as4 (.box t lE bi w):=by
     split at ah
     ·grind [Inv.refl,dt.refl]
     ·obtain ⟨cv,eO,aU,aO,bT⟩:=wP aw ah U
      grind [aiJ]
    obtain ⟨cv,eO,aU,aO,bT,cP⟩:=step;obtain ⟨cT,j2,b5,cc,eH,ja⟩:=XC aO h3 (m7.mono aa aU.le fun _ _ h=>h);exact ⟨cT,eO.trans j2,aU.trans b5,cc,⟨dJ.mono bT b5.le fun _ _ h=>h,eH⟩,fun _ _ _ _ _ h=>ja _ _ _ _ _ (cP _ _ _ _ _ h)⟩
   grind
  grind
 |[],_,_,_,_,_::_,_,_,_,h=>h.elim
 |_::_,_,_,_,_,[],_,_,_,h=>h.elim
theorem XF {l:List (Nat×Nat)} {i:Nat} (aw:bC X.G O z e m k vs) (h:sf l O i=as4 bW):∃z',Inv O bW/\dt e.next z z'/\bC X.G bW z' e m k vs:=by
 unfold sf at h;split at h
 ·rename_i t cs w an;split at h
  ·split at h
   ·rename_i cs' b2 bd;cases h;obtain ⟨v,ab,b,ds,U,aa,ao,aN⟩:=aw.at an;obtain ⟨cv,eO,aU,aO,bT,cP⟩:=XC aw bd aN;have Uy:=cP _ _ _ _ _ an;obtain ⟨cR,lG,dn,dz,dX,eE⟩:=aO.obj i _ v Uy ab;have mb:iG cv e m k b ds t:=by
     rw[U] at dn;cases dn;exact ⟨aa.aS,dz.lt,dz.dead,dz.fresh⟩
    refine ⟨cv,eO.trans (Inv.set b2 i (.inr rfl)),aU,aO.mw (m':=m) Uy ab rfl ⟨atk _,aO.aM.dead,fun _ _ _=>rfl⟩ aO.aM ⟨b,ds,U,mb,ao,bT⟩⟩
   grind
  grind [Inv.refl,dt.refl]
 grind [Inv.refl,dt.refl]
theorem wO:∀{aG:List dr} {O bW:List (aR D)} {z:Nat->bm},bC X.G O z e m k vs->ny E aG O=as4 bW->∃z',Inv O bW/\dt e.next z z'/\bC X.G bW z' e m k vs
 |[],O,bW,z,aw,h=>by cases h;grind [Inv.refl,dt.refl]
 |it::aG,O,bW,z,aw,h=>by
  have go:∀{l:List (Nat×Nat)} {i:Nat},(match sf l O i with|some bW=>ny E aG bW|none=>as6)=as4 bW->∃z',Inv O bW/\dt e.next z z'/\bC X.G bW z' e m k vs:=by
   intro l i h;split at h
   ·rename_i b2 bd;obtain ⟨cv,eO,aU,aO⟩:=XF aw bd;obtain ⟨cT,j2,b5,cc⟩:=wO aO h;exact ⟨cT,eO.trans j2,aU.trans b5,cc⟩
   grind
  cases it with
  |v d c=>exact wO (aG:=aG) aw h
  |o d c=>
   cases c with
   |box t=>
    grind [ny]
   |bM t l=>
    grind [ny]
   |_=>exact wO (aG:=aG) aw h
  |u j c=>
   cases c with
   |box t=>grind [ny]
   |bM t l=>grind [ny]
   |_=>exact wO (aG:=aG) aw h
def vv (X:et P D) (z:Nat->bm) (vs:List as7) (fr:Nat->as7):List dr->List (aV D)->Prop
 |[],[]=>True
 | .v d _::aG,s::l=>rel X.G z vs s (fr d)/\vv X z vs fr aG l
 | .o _ _::aG,_::l=>vv X z vs fr aG l
 | .u _ _::aG,_::l=>vv X z vs fr aG l
 |_,_=>False
theorem aja {c:gl} {s ig:aV D} {v:as7} (aw:bC X.G O z e m k vs) (h:Mt c O s=as4 (ig,bW)) (ab:rel X.G z vs s v):∃z',Inv O bW/\dt e.next z z'/\bC X.G bW z' e m k vs/\rel X.G z' vs ig v:=by
 unfold Mt at h;split at h
 ·grind [Inv.refl,dt.refl]
 ·rename_i t i off;split at h
  ·rename_i b2 ad;split at h
   ·rename_i p dK aL;cases h;obtain ⟨cv,eO,aU,aO⟩:=XF aw ad;obtain ⟨cT,j2,b5,cc,eH⟩:=Ov aO (rel.mono ab aU.le fun _ _ h=>h) aL;exact ⟨cT,eO.trans j2,aU.trans b5,cc,eH⟩
   grind
  grind
 ·exact ai' aw h ab
theorem sI:∀{aG:List dr} {O bW:List (aR D)} {l:List (aV D)} {z:Nat->bm},bC X.G O z e m k vs->eK X z vs E fr->oU E aG O=as4 (l,bW)->∃z',Inv O bW/\dt e.next z z'/\bC X.G bW z' e m k vs/\vv X z' vs fr aG l
 |[],O,bW,l,z,aw,a1,h=>by cases h;exact ⟨z,Inv.refl _,dt.refl z,aw,trivial⟩
 | .v d c::aG,O,bW,l,z,aw,a1,h=>by
  simp only[oU] at h;split at h
  ·rename_i s b2 aE;split at h
   ·rename_i rb dK ax;cases h;obtain ⟨cv,eO,aU,aO,bT⟩:=aja aw aE (a1 d);obtain ⟨cT,j2,b5,cc,eH⟩:=sI aO (a1.mono aU.le fun _ _ h=>h) ax;exact ⟨cT,eO.trans j2,aU.trans b5,cc,rel.mono bT b5.le fun _ _ h=>h,eH⟩
   grind
  grind
 | .o d c::aG,O,bW,l,z,aw,a1,h=>by
  simp only[oU] at h;split at h
  ·rename_i rb dK ax;cases h;exact sI (aG:=aG) aw a1 ax
  grind
 | .u d c::aG,O,bW,l,z,aw,a1,h=>by
  simp only[oU] at h;split at h
  ·rename_i rb dK ax;cases h;exact sI (aG:=aG) aw a1 ax
  grind
structure vx (D:Nat->Type) where
 c:bV
 x:c.ty D
def cos:(aG:List dr)->eA D aG->List (vx D)
 |[],_=>[]
 | .o _ c::aG,x=>⟨c,x.1⟩::cos aG x.2
 | .v _ _::aG,x=>cos aG x.2
 | .u _ _::aG,x=>cos aG x.2
theorem kV:∀{aG:List dr} {x:eA D aG},eu X aG x=(cos aG x).map fun q=>bV.mk X q.c q.x as9
 |[],_=>rfl
 | .o d c::aG,x=>by show bV.mk X c x.1 as9::eu X aG x.2=bV.mk X c x.1 as9::(cos aG x.2).map _;rw[kV]
 | .v d c::aG,x=>kV (aG:=aG)
 | .u d c::aG,x=>kV (aG:=aG)
def vz (X:et P D) (fH:List Nat) (O:List (aR D)):List Nat->List (vx D)->Prop:=bp fun i q=>∃o,O[i]? =as4 o/\bV.get X fH q.c o=as4 q.x
theorem w2 {fH:List Nat} (hm:∀(j i:Nat) (u:as7),fH[j]? =as4 i->vs[i]? =as4 u->vs'[j]? =as4 u):∀{aG:List dr} {l:List (aV D)} {bn:List Nat} {x:eA D aG},fP X fH O aG l bn=as4 x->vv X z vs fr aG l->∀p∈gu X aG x,rel X.G z vs' p.2 (fr p.1)
 |[],_,_,_,_,_=>by simp[gu]
 | .v d c::aG,[],_,_,_,h=>h.elim
 | .o d c::aG,[],_,_,_,h=>h.elim
 | .u d c::aG,[],_,_,_,h=>h.elim
 | .v d c::aG,s::l,bn,x,h,aY=>by
  simp only[fP] at h;obtain ⟨fc,h⟩:=fJ h;split at h
  ·rename_i a b U aa;cases h;intro p aL;simp only[gu,ats] at aL;rcases aL with rfl|aL
   ·exact gl.x6 hm fc U aY.1
   ·exact w2 hm aa aY.2 p aL
  grind
 | .o d c::aG,s::l,[],x,h,aY=>by cases h
 | .o d c::aG,s::l,i::bn,x,h,aY=>by
  simp only[fP] at h;split at h
  ·split at h
   ·rename_i a b U aa;cases h;intro p aL;exact w2 hm aa aY p aL
   grind
  grind
 | .u d c::aG,s::l,bn,x,h,aY=>by
  simp only[fP] at h;split at h
  ·split at h
   ·rename_i a b U aa;cases h;intro p aL;exact w2 hm aa aY p aL
   grind
  grind
theorem Ae {fH:List Nat}:∀{aG:List dr} {l:List (aV D)} {bn:List Nat} {x:eA D aG},fP X fH O aG l bn=as4 x->vz X fH O bn (cos aG x)
 |[],[],[],_,_=>trivial
 |[],_::_,[],_,_=>trivial
 |[],_,_::_,_,h=>by grind [fP]
 | .v d c::aG,[],_,_,h=>by grind [fP]
 | .o d c::aG,[],_,_,h=>by grind [fP]
 | .u d c::aG,[],_,_,h=>by grind [fP]
 | .v d c::aG,s::l,bn,x,h=>by
  simp only[fP] at h;obtain ⟨_,h⟩:=fJ h;split at h
  ·rename_i a b U aa;cases h;show vz X fH O bn (cos aG b);exact Ae aa
  grind
 | .o d c::aG,s::l,[],x,h=>by cases h
 | .o d c::aG,s::l,i::bn,x,h=>by
  simp only[fP] at h;split at h
  ·rename_i o an;split at h
   ·rename_i a b U aa;cases h;exact ⟨⟨o,an,U⟩,Ae aa⟩
   grind
  grind
 | .u d c::aG,s::l,bn,x,h=>by
  simp only[fP] at h;split at h
  ·split at h
   ·rename_i a b U aa;cases h;show vz X fH O bn (cos aG b);exact Ae aa
   grind
  grind
theorem Vy {i:Nat} {l:List Nat} (h:rz (i::l)=as5):i∉l/\rz l=as5:=by
 simp only[rz,ati,auQ,List.any_eq_false] at h;refine ⟨fun aj=> ?_,h.2⟩;exact h.1 i aj (by simp)
theorem N6:∀{l:List Nat},rz l=as5->∀(a b i:Nat),l[a]? =as4 i->l[b]? =as4 i->a=b
 |[],_,a,b,i,h,_=>by grind
 |x::l,h,a,b,i,aY,ag=>by
  obtain ⟨U,aa⟩:=Vy h;cases a with
  |zero=>
   grind
  |succ a=>
   cases b with
   |zero=>
    grind
   |succ b=>simp at aY ag;rw[N6 aa a b i aY ag]
def QM (X:et P D) (fH:List Nat) (O:List (aR D)):List Nat->List (vx D)->Prop:=bp fun i q=>∃w,O[i]? =as4 (bV.gh X (fun n=>fH.getD n 0) q.c q.x w)
theorem ao6 {fH:List Nat} (aw:bC X.G O z e m k vs) {i:Nat} {o:aR D} {c:bV} {x:c.ty D} (an:O[i]? =as4 o) (a5:bV.get X fH c o=as4 x) (w:Bool):bC X.G (O.set i (bV.gh X (fun n=>fH.getD n 0) c x w)) z e m k vs:=by
 obtain ⟨v,ab,cn⟩:=aw.at an;have aj:=(atp.1 an).1;refine aw.Cl (by rw[aur];exact aw.len) id (fun j p aL ax=> ?_) (fun j p u aL ax hu=> ?_) (fun i j _ _ _ _ _ _ h=>h)
 ·rw[atQ] at aL;split at aL
  ·grind [bV.Mv,bV.x6]
  ·obtain ⟨u,hu,tW⟩:=aw.at aL
   grind
 ·rw[atQ] at aL;split at aL
  ·grind [bV.re]
  ·exact aw.obj j p u aL hu
theorem X5 {fH:List Nat} {i:Nat} {p:aR D}:∀{bn:List Nat} {C:List (vx D)},vz X fH O bn C->i∉bn->vz X fH (O.set i p) bn C
 |[],[],_,_=>trivial
 |j::bn,q::C,⟨⟨o,U,aa⟩,ao⟩,aj=>by
  refine ⟨⟨o, ?_,aa⟩,X5 ao fun h=>aj (atC _ h)⟩
  grind
 |[],_::_,h,_=>h.elim
 |_::_,[],h,_=>h.elim
theorem ai0 {aB:Type} {l:List aB} {i:Nat} {a:aB} (h:l[i]? =as4 a):l.set i a=l:=by
 apply auw
 grind
theorem Gl {fH:List Nat}:∀{aG:List dr} {x:eA D aG} {bn:List Nat} {O:List (aR D)},bC X.G O z e m k vs->vz X fH O bn (cos aG x)->rz bn=as5->
  Inv O (ln X fH aG x bn O)/\bC X.G (ln X fH aG x bn O) z e m k vs/\QM X fH (ln X fH aG x bn O) bn (cos aG x)/\∀i,i∉bn->(ln X fH aG x bn O)[i]? =O[i]?
 |[],x,[],O,aw,_,_=>⟨Inv.refl _,aw,trivial,fun _ _=>rfl⟩
 |[],x,_::_,O,aw,h,_=>h.elim
 | .v d c::aG,x,bn,O,aw,h,a2=>by
  have:=Gl (aG:=aG) (x:=x.2) (bn:=bn) aw h a2
  grind [ln,cos]
 | .u d c::aG,x,bn,O,aw,h,a2=>by
  have:=Gl (aG:=aG) (x:=x.2) (bn:=bn) aw h a2
  grind [ln,cos]
 | .o d c::aG,x,[],O,aw,h,a2=>h.elim
 | .o d c::aG,x,i::bn,O,aw,⟨⟨o,U,aa⟩,ao⟩,a2=>by
  obtain ⟨lS,jv⟩:=Vy a2;have h7:=ao6 aw U aa (w4 c O i);obtain ⟨aU,aO,bT,cP⟩:=Gl (aG:=aG) (x:=x.2) (bn:=bn) h7 (X5 ao lS) jv;have aj:=(atp.1 U).1;refine ⟨Inv.trans ?_ aU,aO,⟨⟨w4 c O i, ?_⟩,bT⟩,fun j a0=> ?_⟩
  ·grind [w4,Inv.set,bV.EN,bV.abL,ai0,Inv.refl]
  ·grind [ln]
  grind [ln]
theorem FQ {a:Option Nat} {i:Nat} (h:ov a i=as5):a=as4 i:=by
 unfold ov at h
 grind [atl]
theorem Pl {bn:List Nat} {s ig:aV D} {v:as7} (ck:Nat->Nat) (h:sh bn s ig=as5) (aF:rel X.G z vs ig v) (ab:∀(j i:Nat) (u:as7),bn[j]? =as4 i->vs[i]? =as4 u->vs'[ck j]? =as4 u):rel X.G z vs' (ps ck s) v:=by
 unfold sh at h;split at h
 ·exact ⟨ab _ _ _ (FQ h) aF.1,aF.2⟩
 ·simp only[ati] at h;obtain ⟨b,U,aa⟩:=aF;have:=atl h.2;subst this;exact ⟨b,ab _ _ _ (FQ h.1) U,aa⟩
 ·obtain ⟨b,l,U,aa⟩:=aF;exact ⟨b,l,ab _ _ _ (FQ h) U,aa⟩
 ·exact aF
 ·exact aF
 ·exact aF
 ·exact aF
 ·trivial
 ·simp only[ati,decide_eq_true_eq,beq_iff_eq] at h;obtain ⟨rfl,rfl⟩:=h;exact aF
 ·have:=eq_of_beq h;subst this;exact aF
 ·have:=atl h;subst this;obtain ⟨gs,U,aa⟩:=aF;refine ⟨gs,U, ?_⟩;cases gs with
  |nil=>trivial
  |cons _ _=>exact aa.elim
 grind
theorem F5 (s:aV D):ps id s=s:=by
 cases s with
 |c c=>cases c<;>rfl
 |_=>rfl
structure QH (X:et P D) (aG:List dr) (fx:List (Nat×aV D)) (x:eA D aG) (bn:List Nat) (dK:List (aR D)) (z:Nat->bm) (e m:Mem) (k:Option Nat) (vs dc:List as7) (fr:Nat->as7):Prop where
 U0:bC X.G dK z e m k vs
 U1:bC X.G (eu X aG x) z e m k dc
 Zx:eK X z dc (gu X aG x++fx) fr
 wj:rz bn=as5
 uq:QM X bn dK bn (cos aG x)
 len:dc.length=bn.length
 dI:∀(j i:Nat),bn[j]? =as4 i->∃u,dc[j]? =as4 u/\vs[i]? =as4 u
 gt:∀q∈cos aG x,∀n∈q.c.gD,∃i,bn[n]? =as4 i
theorem apj {aG:List dr} {fx:List (Nat×aV D)} {x:eA D aG} {bn:List Nat} {dK:List (aR D)} (aw:bC X.G O z e m k vs) (a1:eK X z vs E fr) (h:Hm X aG fx E O=as4 (x,bn,dK)):
  ∃z' dc,Inv O dK/\dt e.next z z'/\QH X aG fx x bn dK z' e m k vs dc fr:=by
 unfold Hm at h;split at h
 ·rename_i cp b2 as3 bd aY;split at h
  ·rename_i ah;simp only[ati] at ah;split at h
   ·rename_i ha ag;cases h;obtain ⟨cv,eO,aU,aO,bT⟩:=sI aw a1 bd;have uo:=Ae ag;obtain ⟨lS,jv,hp,jl⟩:=Gl aO uo ah.1;have v3:∀(j i:Nat),bn[j]? =as4 i->∃u,(bn.map fun i=>vs.getD i undef)[j]? =as4 u/\vs[i]? =as4 u:=by
     intro j i a0;obtain ⟨q,_,w,hw⟩:=hp.get j i a0;obtain ⟨v,ab,_⟩:=jv.at hw
     grind
    have hlen:(eu X aG x).length=bn.length:=by rw[kV,aus];exact hp.length.symm
    have acN:∀(j:Nat) (ml:aR D),(eu X aG x)[j]? =as4 ml->∃i q,q∈cos aG x/\ml=bV.mk X q.c q.x as9/\bn[j]? =as4 i/\∃w,(ln X bn aG x bn b2)[i]? =as4 (bV.gh X (fun n=>bn.getD n 0) q.c q.x w):=by
     intro j ml a0;have bS:=(atp.1 a0).1;have aE:bn[j]? =as4 (bn[j]'(by omega)):=atS (by omega);obtain ⟨q,eH,w,ja⟩:=hp.get j _ aE
     grind [kV]
    have pW:∀q∈cos aG x,∀n∈q.c.gD,∃i,bn[n]? =as4 i:=by
     intro q bb;obtain ⟨j,a0,he⟩:=List.mem_iff_getElem.1 bb;have arU:(cos aG x)[j]? =as4 q:=by grind
     have aE:bn[j]? =as4 (bn[j]'(by rw[uo.length];grind)):=atS _;obtain ⟨iC,b5,o,_,cc⟩:=uo.get j _ aE
     grind [bV.abN]
    refine ⟨cv,bn.map fun i=>vs.getD i undef,eO.trans lS,aU,jv, ?_, ?_,ah.1,hp,by simp,v3,pW⟩
    ·refine jv.Cl (by grind) (fun j=>bn.getD j 0) (fun j ml a0 ax=> ?_) (fun j ml u a0 ax hu=> ?_) (fun i j o p aj a0 _ _ gP=> ?_)
     ·obtain ⟨i,q,bb,rfl,aE,w,hw⟩:=acN j ml a0;obtain ⟨u,adV,adW⟩:=v3 j i aE;have aQ:bn.getD j 0=i:=by grind
      refine ⟨_,u,by rw[aQ];omega,bV.re,by grind,adV, ?_⟩;have:=jv.obj i _ u hw adW;refine bV.wh as9 this fun n a2 nS kl=> ?_
      grind
     ·grind [bV.sA]
     grind [N6]
    ·refine zD fun p aL=> ?_;rcases atP.1 aL with aL|aL
     ·grind [w2]
     ·have au:=atq.1 ah.2 p aL;have:=Pl (X:=X) (z:=cv) (vs:=vs) (vs':=bn.map fun i=>vs.getD i undef) id au ((a1.mono aU.le fun _ _ h=>h) p.1) fun j i u a0 hu=>by
       grind
      grind [F5]
   grind
  grind
 grind
theorem entry {aG:List dr} {fx:List (Nat×aV D)} {x:eA D aG} {bn:List Nat} {dK:List (aR D)} (aw:bC X.G O z e m k vs) (a1:eK X z vs E fr) (h:qm X aG fx E O=as4 (x,bn,dK)):
  ∃z' dc,Inv O dK/\dt e.next z z'/\QH X aG fx x bn dK z' e m k vs dc fr:=by
 unfold qm at h;split at h
 ·rename_i n0 bd;obtain ⟨cv,eO,aU,aO⟩:=wO aw bd;obtain ⟨cT,dc,j2,b5,cc⟩:=apj aO (a1.mono aU.le fun _ _ h=>h) h;exact ⟨cT,dc,eO.trans j2,aU.trans b5,cc⟩
 grind
def Yw (E:List (Nat×aV D)) (O:List (aR D)) (q off:Nat):Option (Nat×Nat×List (bY D)×Bool):=
 match eh E q with
 | .box i 0=>(match O[i]? with|some (.box t cs as9 w)=>(match cs[off]? with|some .gS=>as4 (i,t,cs,w)|_=>as6)|_=>as6)
 |_=>as6
def iA:List dr->List (Nat×aV D)->List (aR D)->List (Nat×aV D)×List (aR D)
 | .o d (.ae t)::aG,E,O=>
  if aty d pI=as5 then (match eh E d with| .c .gS=>iA aG ((d, .c (.own O.length))::E) (O++[.ae t [] as9 as9])|_=>iA aG E O)
  else (match Yw E O ((d - pI) / 1000) ((d - pI)%1000) with|some (i,u,cs,_)=>iA aG E (O.set i (.box u (cs.set ((d - pI)%1000) (.own O.length)) as9 as5)++[.ae t [] as9 as9])|none=>iA aG E O)
 | .o d (.ne e t)::aG,E,O=>if aty d pI=as5 then (match eh E d with| .c .gS=>iA aG ((d, .c (.own O.length))::E) (O++[.nest e t as6 [] as6 as9])|_=>iA aG E O) else iA aG E O
 |_::aG,E,O=>iA aG E O
 |[],E,O=>(E,O)
theorem kI:∀{aG:List dr} {E:List (Nat×aV D)} {O:List (aR D)} {vs:List as7},bC X.G O z e m k vs->eK X z vs E fr->∃vs',Inv O (iA aG E O).2/\(∀(i:Nat) (u:as7),vs[i]? =as4 u->vs'[i]? =as4 u)/\bC X.G (iA aG E O).2 z e m k vs'/\eK X z vs' (iA aG E O).1 fr
 |[],E,O,vs,aw,a1=>⟨vs,Inv.refl _,fun _ _ h=>h,aw,a1⟩
 | .v _ _::aG,E,O,vs,aw,a1=>kI (aG:=aG) aw a1
 | .u _ _::aG,E,O,vs,aw,a1=>kI (aG:=aG) aw a1
 | .o _ (.box _)::aG,E,O,vs,aw,a1=>kI (aG:=aG) aw a1
 | .o _ (.recv _)::aG,E,O,vs,aw,a1=>kI (aG:=aG) aw a1
 | .o _ (.arr _ _ _)::aG,E,O,vs,aw,a1=>kI (aG:=aG) aw a1
 | .o _ (.map _ _ _)::aG,E,O,vs,aw,a1=>kI (aG:=aG) aw a1
 | .o _ (.bM _ _)::aG,E,O,vs,aw,a1=>kI (aG:=aG) aw a1
 | .o _ (.se _ _ _)::aG,E,O,vs,aw,a1=>kI (aG:=aG) aw a1
 | .o d (.ne fb t)::aG,E,O,vs,aw,a1=>by
  have D4:bC X.G (O++[.nest fb t as6 [] as6 as9]) z e m k (vs++[.slice as6 0 0]):=by refine aw.push (q:=as6) ⟨atk _,aw.aM.dead,fun _ _ _=>rfl⟩ aw.aM (fun _ _ _ _ _ _=>eB.nH) ?_ fun _ _ _=>eB.nH;exact ⟨fun f bd=>(by cases bd),[],⟨⟨.inl ⟨rfl,rfl⟩,fun b ag=>(by cases ag)⟩,rfl,fun j w xs h=>(by simp at h),fun p aL=>(by cases aL)⟩⟩
  unfold iA;split
  ·split
   ·rename_i aE;have aQ:=a1 d;rw[aE] at aQ;have aQ:fr d= .slice as6 0 0:=aQ;obtain ⟨vs',aU,aO,bT,cP⟩:=kI (aG:=aG) (E:=(d, .c (.own O.length))::E) D4 ((a1.mono (eM.refl z) iS).cons ⟨by rw[aQ,<-aw.len];simp,by rw[aQ];rfl,by rw[aQ];rfl⟩);exact ⟨vs',(Inv.push O _).trans aU,fun i u hu=>aO i u (iS i u hu),bT,cP⟩
   ·exact kI (aG:=aG) aw a1
  ·exact kI (aG:=aG) aw a1
 | .o d (.ae t)::aG,E,O,vs,aw,a1=>by
  have D4:∀{O:List (aR D)},bC X.G O z e m k vs->bC X.G (O++[.ae t [] as9 as9]) z e m k (vs++[.slice as6 0 0]):=fun {O} aw=>by refine aw.push (q:=as6) ⟨atk _,aw.aM.dead,fun _ _ _=>rfl⟩ aw.aM (fun _ _ _ _ _ _=>eB.nH) ?_ fun _ _ _=>eB.nH;exact (⟨.inl ⟨rfl,rfl⟩,fun b ag=>by cases ag⟩:dL (X.G.T t) z e m k [] (.slice as6 0 0))
  unfold iA;split
  ·split
   ·rename_i aE;have aQ:=a1 d;rw[aE] at aQ;have aQ:fr d= .slice as6 0 0:=aQ;obtain ⟨vs',aU,aO,bT,cP⟩:=kI (aG:=aG) (E:=(d, .c (.own O.length))::E) (D4 aw) ((a1.mono (eM.refl z) iS).cons ⟨by rw[aQ,<-aw.len];simp,by rw[aQ];rfl,by rw[aQ];rfl⟩);exact ⟨vs',(Inv.push O _).trans aU,fun i u hu=>aO i u (iS i u hu),bT,cP⟩
   ·exact kI (aG:=aG) aw a1
  ·generalize (d - pI) / 1000=q;generalize (d - pI)%1000=off;split
   ·rename_i i u cs w a2;have ag:O[i]? =as4 (.box u cs as9 w)/\cs[off]? =as4 .gS:=by
     unfold Yw at a2;split at a2
     ·split at a2
      ·split at a2
       ·rename_i aa _ ao;cases a2;exact ⟨aa,ao⟩
       ·cases a2
      ·cases a2
     ·cases a2
    obtain ⟨v,ab,b,ds,U,aa,ao,aN⟩:=aw.at ag.1;have yb:=D4 aw;have aj:=(atp.1 ag.1).1;have Et:O.set i (.box u (cs.set off (.own O.length)) as9 as5)++[(.ae t [] as9 as9:aR D)]=(O++[(.ae t [] as9 as9:aR D)]).set i (.box u (cs.set off (.own O.length)) as9 as5):=by rw[List.set_append_left _ _ aj]
    have yc:bC X.G (O.set i (.box u (cs.set off (.own O.length)) as9 as5)++[.ae t [] as9 as9]) z e m k (vs++[.slice as6 0 0]):=by
     rw[Et];refine yb.mw (m':=m) (v:=v) (o:= .box u cs as9 w) (by rw[atN aj];exact ag.1) (iS _ _ ab) rfl ⟨atk _,aw.aM.dead,fun _ _ _=>rfl⟩ aw.aM ?_;refine ⟨b,ds,U,aa,ao,j5.2 ⟨by rw[aur];exact (j5.1 aN).1,fun j a d aY aQ=> ?_⟩⟩;rw[atQ] at aY;split at aY
     ·rename_i a0;split at aY
      ·cases aY;subst a0;have aF:d= .slice as6 0 0:=(j5.1 aN).2 off _ d ag.2 aQ;exact ⟨by rw[aF,<-aw.len];simp,by rw[aF];rfl,by rw[aF];rfl⟩
      ·cases aY
     ·exact dJ.mono ((j5.1 aN).2 j a d aY aQ) (eM.refl z) iS
    obtain ⟨vs',aU,aO,bT,cP⟩:=kI (aG:=aG) (E:=E) yc (a1.mono (eM.refl z) iS);exact ⟨vs',((Inv.set O i (.inr rfl)).trans (Inv.push _ _)).trans aU,fun i u hu=>aO i u (iS i u hu),bT,cP⟩
   ·exact kI (aG:=aG) aw a1
end
end Go.ay
end
section
namespace Go.ay
structure l3 (D:Nat->Type) where
 ex:eS
 outs:List dr
 fx:List (Nat×aV D)
noncomputable section
section
variable {P:atb} {D:Nat->Type}
def j4 (D:Nat->Type):List dr->Type
 |[]=>Unit
 |[i]=>i.ty D
 |i::j::is=>i.ty D×j4 D (j::is)
def Hq:(aG:List dr)->eA D aG->j4 D aG
 |[],_=>()
 |[_],x=>x.1
 |_::j::is,x=>(x.1,Hq (j::is) x.2)
def fs:(aG:List dr)->j4 D aG->eA D aG
 |[],_=>()
 |[_],y=>(y,())
 |_::j::is,y=>(y.1,fs (j::is) y.2)
def qs:List (l3 D)->Type
 |[]=>Empty
 |[x]=>j4 D x.outs
 |x::y::xs=>j4 D x.outs⊕qs (y::xs)
def Dr {aB:Type}:(iJ:List (l3 D))->qs iJ->((x:l3 D)->j4 D x.outs->aB)->aB
 |[],e,_=>nomatch (e:Empty)
 |[x],y,k=>k x y
 |x::y::xs,r,k=>match (r:j4 D x.outs⊕qs (y::xs)) with| .inl a=>k x a| .inr b=>Dr (y::xs) b k
variable (X:et P D)
def YZ (n:Nat):aR D->Bool
 | .box _ cs _ _=>cs.all fun c=>match c with| .own i=>aty i n| .fn _ is=>is.all fun i=>aty i n|_=>as5
 |_=>as5
def zE (n:Nat) (O:List (aR D)):Nat->List Nat->Bool
 |_,[]=>as5
 |j,k::ks=>(if k=1 then (match O[j]? with|some o=>o.live&& !o.lv&&YZ n o|none=>as9) else as5)&&zE n O (j+1) ks
def Qd (n:Nat) (ks:List Nat) (x:l3 D) (E:List (Nat×aV D)) (O:List (aR D)):Option (j4 D x.outs):=
 match oU E x.outs O,Dp E O x.outs with
 |some (cp,b2),as4 bn=>
  if (rz bn&&(bn.all fun i=>atn n i||ath (ks.getD i 0) 0)&&zE n b2 0 ks&&x.fx.all fun p=>sh (atW n++bn) p.2 (eh E p.1))=as5 then
   match fP X (atW n++bn) b2 x.outs cp bn with
   |some y=>as4 (Hq x.outs y)
   |none=>as6
  else as6
 |_,_=>as6
def u5 (n:Nat) (ks:List Nat) (x:l3 D) (E:List (Nat×aV D)) (O:List (aR D)):Option (j4 D x.outs):=
 match ny (iA x.outs E O).1 x.outs (iA x.outs E O).2 with
 |some bW=>Qd X n ks x (iA x.outs E O).1 bW
 |none=>as6
def rL (n:Nat) (ks:List Nat):(iJ:List (l3 D))->eS->List (Nat×aV D)->List (aR D)->Option (qs iJ)
 |[],_,_,_=>as6
 |[x],e,E,O=>if e=x.ex then u5 X n ks x E O else as6
 |x::y::xs,e,E,O=>if e=x.ex then (match u5 X n ks x E O with|some a=>as4 (Sum.inl a)|none=>as6) else (match rL n ks (y::xs) e E O with|some b=>as4 (Sum.inr b)|none=>as6)
def jd (ck:Nat->Nat):(aG:List dr)->eA D aG->Nat->aR D
 | .u i c::aG,x,j=>if ath i j=as5 then bV.gh X ck c x.1 as5 else jd ck aG x.2 j
 | .v _ _::aG,x,j=>jd ck aG x.2 j
 | .o _ _::aG,x,j=>jd ck aG x.2 j
 |[],_,_=> .dead
def uc (n:Nat):Nat:=n
def mV (outs:List dr) (y:eA D outs):Nat->List Nat->List (aR D)->List (aR D)
 |i,k::ks,o::O=>(if k=1 then o else if k=2 then jd X uc outs y i else .dead)::mV outs y (i+1) ks O
 |i,[],o::O=> .dead::mV outs y (i+1) [] O
 |_,_,[]=>[]
def j7 (ks:List Nat) (n0:List (aR D)) (outs:List dr) (y:eA D outs):List (aR D):=mV X outs y 0 ks n0++eu X outs y
end
section
variable {P:atb} {D:Nat->Type} {X:et P D} {z z':Nat->bm} {e m m':Mem} {k:Option Nat} {vs vs':List as7} {fr:Nat->as7} {E:List (Nat×aV D)} {O bW:List (aR D)}
theorem Zi:∀{aG:List dr} (x:eA D aG),fs aG (Hq aG x)=x
 |[],_=>rfl
 |[_],_=>rfl
 |_::j::is,x=>by show (x.1,fs (j::is) (Hq (j::is) x.2))=x;rw[Zi (aG:=j::is) x.2];rfl
theorem Fl {n:Nat} {ks:List Nat} {ex:eS}:∀{iJ:List (l3 D)} {ev:qs iJ},rL X n ks iJ ex E O=as4 ev->∃x y,x∈iJ/\ex=x.ex/\u5 X n ks x E O=as4 y/\∀{aB:Type} (K:(x:l3 D)->j4 D x.outs->aB),Dr iJ ev K=K x y
 |[],_,h=>by cases h
 |[x],ev,h=>by obtain ⟨U,aa⟩:=fJ h;exact ⟨x,ev,atU,U,aa,fun _=>rfl⟩
 |x::y::xs,ev,h=>by
  simp only[rL] at h;split at h
  ·rename_i ad;split at h
   ·rename_i a aY;cases h;exact ⟨x,a,atU,ad,aY,fun _=>rfl⟩
   grind
  ·split at h
   ·rename_i b ag;cases h;obtain ⟨ha,jP,U,aa,ao,aN⟩:=Fl ag;exact ⟨ha,jP,atC _ U,aa,ao,fun K=>aN K⟩
   grind
theorem FD {fH:List Nat} {n:Nat}:∀{aG:List dr} {l:List (aV D)} {bn:List Nat} {x:eA D aG} {j:Nat},fP X fH O aG l bn=as4 x->(∀ck,jd X ck aG x j= .dead)\/∃c y o,O[j]? =as4 o/\bV.get X fH c o=as4 y/\∀ck,jd X ck aG x j=bV.gh X ck c y as5
 |[],_,_,_,_,_=> .inl fun _=>rfl
 | .v d c::aG,[],_,_,_,h=>by grind [fP]
 | .o d c::aG,[],_,_,_,h=>by grind [fP]
 | .u d c::aG,[],_,_,_,h=>by grind [fP]
 | .v d c::aG,s::l,bn,x,j,h=>by
  simp only[fP] at h;obtain ⟨_,h⟩:=fJ h;split at h
  ·rename_i a b U aa;cases h;exact FD (n:=n) (aG:=aG) aa
  grind
 | .o d c::aG,s::l,[],x,j,h=>by cases h
 | .o d c::aG,s::l,i::bn,x,j,h=>by
  simp only[fP] at h;split at h
  ·split at h
   ·rename_i a b U aa;cases h;exact FD (n:=n) (aG:=aG) aa
   grind
  grind
 | .u d c::aG,s::l,bn,x,j,h=>by
  simp only[fP] at h;split at h
  ·rename_i o an;split at h
   ·rename_i a b U aa;cases h;by_cases aQ:ath d j=as5
    ·have:=atl aQ;subst this;refine .inr ⟨c,a,o,an,U,fun ck=> ?_⟩;show (if ath d d=as5 then bV.gh X ck c a as5 else _)=_
     grind
    ·have bt:∀ck,jd X ck (.u d c::aG) (a,b) j=jd X ck aG b j:=fun ck=>by
      show (if ath d j=as5 then bV.gh X ck c a as5 else _)=_
      grind
     simp only[bt];exact FD (n:=n) (aG:=aG) (j:=j) aa
   grind
  grind
def dr.gD:dr->List Nat
 | .v _ _=>[]
 | .o _ c=>c.gD
 | .u _ c=>c.gD
def dr.wi:dr->Bool
 | .v _ c=>c.wi
 |_=>as5
theorem rl:∀{aG:List dr} {x:eA D aG} {j:Nat},(∀ck,jd X ck aG x j= .dead)\/∃d c y,dr.u d c∈aG/\∀ck,jd X ck aG x j=bV.gh X ck c y as5
 |[],_,_=> .inl fun _=>rfl
 | .v d c::aG,x,j=>by
  rcases rl (aG:=aG) (x:=x.2) (j:=j) with h|⟨d,c,y,U,aa⟩
  ·exact .inl h
  ·exact .inr ⟨d,c,y,atC _ U,aa⟩
 | .o d c::aG,x,j=>by
  rcases rl (aG:=aG) (x:=x.2) (j:=j) with h|⟨d,c,y,U,aa⟩
  ·exact .inl h
  ·exact .inr ⟨d,c,y,atC _ U,aa⟩
 | .u d c::aG,x,j=>by
  by_cases aQ:ath d j=as5
  ·exact .inr ⟨d,c,x.1,atU,fun ck=>if_pos aQ⟩
  ·have bt:∀ck,jd X ck (.u d c::aG) x j=jd X ck aG x.2 j:=fun ck=>if_neg aQ;simp only[bt];rcases rl (aG:=aG) (x:=x.2) (j:=j) with h|⟨d,c,y,U,aa⟩
   ·grind
   ·exact .inr ⟨d,c,y,atC _ U,aa⟩
theorem uM:∀{aG:List dr} {x:eA D aG} {o:aR D},o∈eu X aG x->∃d c y,dr.o d c∈aG/\o=bV.mk X c y as9
 |[],_,_,h=>by grind [eu]
 | .v d c::aG,x,o,h=>let ⟨d,c,y,U,aa⟩:=uM (aG:=aG) (x:=x.2) h;⟨d,c,y,atC _ U,aa⟩
 | .u d c::aG,x,o,h=>let ⟨d,c,y,U,aa⟩:=uM (aG:=aG) (x:=x.2) h;⟨d,c,y,atC _ U,aa⟩
 | .o d c::aG,x,o,h=>by
  simp only[eu,ats] at h;rcases h with rfl|h
  ·exact ⟨d,c,x.1,atU,rfl⟩
  ·obtain ⟨d,c,y,U,aa⟩:=uM (aG:=aG) (x:=x.2) h
   grind
theorem wV:∀{aG:List dr} {x:eA D aG} {p:Nat×aV D},p∈gu X aG x->∃d c y,dr.v d c∈aG/\p.2=gl.mk X c y
 |[],_,_,h=>by grind [gu]
 | .o d c::aG,x,o,h=>by
  obtain ⟨pO,bP,y,U,aa⟩:=wV (aG:=aG) (x:=x.2) h
  grind
 | .u d c::aG,x,o,h=>by
  obtain ⟨pO,bP,y,U,aa⟩:=wV (aG:=aG) (x:=x.2) h
  grind
 | .v d c::aG,x,o,h=>by
  simp only[gu,ats] at h;rcases h with rfl|h
  ·exact ⟨d,c,x.1,atU,rfl⟩
  ·obtain ⟨pO,bP,y,U,aa⟩:=wV (aG:=aG) (x:=x.2) h
   grind
theorem pi {outs:List dr} {y:eA D outs}:∀{i:Nat} {ks:List Nat} {O:List (aR D)},(mV X outs y i ks O).length=O.length
 |i,[],[]=>rfl
 |i,_::_,[]=>rfl
 |i,k::ks,o::O=>by simp[mV,pi]
 |i,[],o::O=>by simp[mV,pi]
theorem uN {outs:List dr} {y:eA D outs}:∀{i:Nat} {ks:List Nat} {O:List (aR D)} {j:Nat} {o:aR D},O[j]? =as4 o->(mV X outs y i ks O)[j]? =as4 (if ks.getD j 0=1 then o else if ks.getD j 0=2 then jd X uc outs y (i+j) else .dead)
 |i,ks,[],j,o,h=>by grind
 |i,k::ks,p::O,0,o,h=>by grind [mV]
 |i,k::ks,p::O,j+1,o,h=>by
  simp only[auo] at h;have:=uN (outs:=outs) (y:=y) (i:=i+1) (ks:=ks) h
  grind [mV]
 |i,[],p::O,0,o,h=>by rfl
 |i,[],p::O,j+1,o,h=>by
  simp only[auo] at h;have:=uN (outs:=outs) (y:=y) (i:=i+1) (ks:=[]) h
  grind [mV]
theorem aiW {n:Nat} {o:aR D} (h:YZ n o=as5):∀i,PC i o->i<n:=by
 intro i aj;cases o with
 |box t cs bi w=>
  rcases aj with aj|⟨f,is,aj,hm⟩
  ·have:=atq.1 h _ aj;simp_all
  ·have:=atq.1 h _ aj;simp_all
 |_=>exact aj.elim
theorem W0 {n:Nat}:∀{ks:List Nat} {i j:Nat},zE n O i ks=as5->ks.getD j 0=1->∃o,O[i+j]? =as4 o/\o.live=as5/\o.lv=as9/\∀i,PC i o->i<n
 |[],i,j,_,h=>by grind
 |k::ks,i,0,ar,h=>by
  grind [zE,aiW]
 |k::ks,i,j+1,ar,h=>by
  simp only[zE,ati] at ar;simp only[List.getD_cons_succ] at h;obtain ⟨o,U,aa⟩:=W0 ar.2 h
  grind
theorem aiR {ins:List dr} {ks:List Nat} {x:eA D ins} {dB:l3 D} {y:j4 D dB.outs} {dc:List as7} (aj:Inv (eu X ins x) O) (ab:∀(i:Nat) (u:as7),dc[i]? =as4 u->vs[i]? =as4 u) (fW:dc.length=(eu X ins x).length)
  (aw:bC X.G O z e m k vs) (a1:eK X z vs E fr) (h:Qd X dc.length ks dB E O=as4 y):
  ∃z' dI,dt e.next z z'/\bC X.G (j7 X ks (eu X ins x) dB.outs (fs _ y)) z' e m k (dc++dI)/\∀p∈gu X dB.outs (fs _ y)++dB.fx,rel X.G z' (dc++dI) p.2 (fr p.1):=by
 unfold Qd at h;split at h
 ·rename_i cp b2 bn bd aY;split at h
  ·rename_i ah;simp only[ati] at ah;obtain ⟨⟨⟨c1,c2⟩,c3⟩,c4⟩:=ah;split at h
   ·rename_i jP ag;cases h;rw[Zi];obtain ⟨cv,eO,aU,aO,bT⟩:=sI aw a1 bd;have uo:=Ae ag;have ju:=aj.trans eO;have adk:∀(j i:Nat),bn[j]? =as4 i->∃u,(bn.map fun i=>vs.getD i undef)[j]? =as4 u/\vs[i]? =as4 u:=by
     intro j i a0;obtain ⟨q,_,o,an,_⟩:=uo.get j i a0;obtain ⟨v,ab,_⟩:=aO.at an
     grind
    have hlen:(eu X dB.outs jP).length=bn.length:=by rw[kV,aus];exact uo.length.symm
    have hD:∀(j:Nat) (o:aR D),(j7 X ks (eu X ins x) dB.outs jP)[j]? =as4 o->
      (j<dc.length/\∃ml,(eu X ins x)[j]? =as4 ml/\o=(if ks.getD j 0=1 then ml else if ks.getD j 0=2 then jd X uc dB.outs jP j else .dead))\/
      (dc.length<=j/\(eu X dB.outs jP)[j - dc.length]? =as4 o):=by
     grind [j7,pi,uN]
    have M0:∀(j:Nat) (u:as7),j<dc.length->vs[j]? =as4 u->(dc++bn.map fun i=>vs.getD i undef)[j]? =as4 u:=by
     grind
    have pW:∀(n i:Nat) (u:as7),(atW dc.length++bn)[n]? =as4 i->vs[i]? =as4 u->(dc++bn.map fun i=>vs.getD i undef)[n]? =as4 u:=by
     grind
    refine ⟨cv,bn.map fun i=>vs.getD i undef,aU, ?_, ?_⟩
    ·refine aO.Cl ?_ (fun j=>if j<dc.length then j else bn.getD (j - dc.length) 0) (fun j o a0 ax=> ?_) (fun j o u a0 ax hu=> ?_) (fun i j o p eo a0 Us Ut gP=> ?_)
     ·grind [j7,pi]
     ·rcases hD j o a0 with ⟨bS,ml,tV,an⟩|⟨gK,an⟩
      ·simp only[if_pos bS];by_cases b5:ks.getD j 0=1
       ·rw[if_pos b5] at an;subst an;obtain ⟨p,iB,iP,pd,ur⟩:=W0 c3 b5;rw[atB] at iB;have:=ju.dN j p (by omega) iB iP pd;rw[tV] at this;cases this;obtain ⟨v,v1,v2⟩:=aO.at iB;obtain ⟨_,c,w,_,rfl⟩:=uM (at3 tV);exact ⟨_,v,iB,iP,v1,M0 j v bS v1,bV.UZ as9 v2 fun n _ an u hu=>M0 n u (ur n an) hu⟩
       ·rw[if_neg b5] at an;by_cases cc:ks.getD j 0=2
        ·rw[if_pos cc] at an;rcases FD (n:=0) (j:=j) ag with aQ|⟨c,w,p,iB,iP,pd⟩
         ·rw[an,aQ] at ax;cases ax
         ·obtain ⟨v,v1,v2⟩:=aO.at iB;refine ⟨p,v,iB,bV.Mv iP,v1,M0 j v bS v1, ?_⟩;rw[an,pd];exact bV.x6 iP v2 pW as5
        ·rw[if_neg cc] at an;rw[an] at ax;cases ax
      ·have a2:¬j<dc.length:=by omega
       simp only[if_neg a2];have bS:=(atp.1 an).1;have aE:bn[j - dc.length]? =as4 (bn[j - dc.length]'(by omega)):=atS (by omega);obtain ⟨q,dn,p,iB,iP⟩:=uo.get _ _ aE;rw[kV,aub,dn] at an;have an:=(atj.inj an).symm;subst an;obtain ⟨u,Co,Qo⟩:=adk _ _ aE;obtain ⟨v,v1,v2⟩:=aO.at iB;rw[Qo] at v1;cases v1;have aQ:bn.getD (j - dc.length) 0=bn[j - dc.length]'(by omega):=by grind
       refine ⟨p,u,by grind,bV.Mv iP,by grind, ?_, ?_⟩
       ·grind
       ·exact bV.x6 iP v2 pW as9
     ·rcases hD j o a0 with ⟨bS,ml,tV,an⟩|⟨gK,an⟩
      ·by_cases b5:ks.getD j 0=1
       ·rw[if_pos b5] at an;subst an;obtain ⟨_,c,w,_,rfl⟩:=uM (at3 tV)
        grind [bV.sA]
       ·rw[if_neg b5] at an;by_cases cc:ks.getD j 0=2
        ·rw[if_pos cc] at an;rcases rl (X:=X) (aG:=dB.outs) (x:=jP) (j:=j) with aQ|⟨_,c,w,_,aQ⟩
         ·rw[an,aQ];trivial
         grind [bV.re]
        ·rw[if_neg cc] at an;rw[an];trivial
      ·obtain ⟨_,c,w,_,rfl⟩:=uM (at3 an)
       grind [bV.sA]
     ·have dead:∀(i j:Nat) (o p:aR D),i<dc.length->dc.length<=j->(j7 X ks (eu X ins x) dB.outs jP)[i]? =as4 o->(j7 X ks (eu X ins x) dB.outs jP)[j]? =as4 p->o.live=as5->i=bn.getD (j - dc.length) 0->False:=by
       intro i j o p MV Un an aL ef gP;rcases hD j p aL with ⟨bS,_⟩|⟨_,tW⟩
       ·omega
       ·have bS:=(atp.1 tW).1;have aE:bn[j - dc.length]? =as4 (bn[j - dc.length]'(by omega)):=atS (by omega);have aQ:bn.getD (j - dc.length) 0=bn[j - dc.length]'(by omega):=by grind
        have hm:i∈bn:=by grind
        have:=atq.1 c2 i hm;simp only[auj] at this;have lb:ks.getD i 0=0:=by
         grind [ato,atl]
        rcases hD i o an with ⟨_,ml,_,kC⟩|⟨gK,_⟩
        ·rw[lb] at kC;simp at kC;rw[kC] at ef;cases ef
        grind
      by_cases U:i<dc.length
      ·by_cases aa:j<dc.length
       ·grind
       grind
      ·by_cases aa:j<dc.length
       ·grind
       grind [N6]
    ·intro p aL;rcases atP.1 aL with aL|aL
     ·grind [w2]
     ·have au:=atq.1 c4 p aL;have:=Pl (X:=X) (z:=cv) (vs:=vs) (vs':=dc++bn.map fun i=>vs.getD i undef) id au ((a1.mono aU.le fun _ _ h=>h) p.1) fun j i u a0 hu=>by
       grind
      grind [F5]
   grind
  grind
 grind
theorem zg {ins:List dr} {ks:List Nat} {x:eA D ins} {dB:l3 D} {y:j4 D dB.outs} {dc:List as7} (aj:Inv (eu X ins x) O) (ab:∀(i:Nat) (u:as7),dc[i]? =as4 u->vs[i]? =as4 u) (fW:dc.length=(eu X ins x).length)
  (aw:bC X.G O z e m k vs) (a1:eK X z vs E fr) (h:u5 X dc.length ks dB E O=as4 y):
  ∃z' dI,dt e.next z z'/\bC X.G (j7 X ks (eu X ins x) dB.outs (fs _ y)) z' e m k (dc++dI)/\∀p∈gu X dB.outs (fs _ y)++dB.fx,rel X.G z' (dc++dI) p.2 (fr p.1):=by
 obtain ⟨vs',aU,aO,bT,cP⟩:=kI (aG:=dB.outs) aw a1;unfold u5 at h;split at h
 ·rename_i n0 bd;obtain ⟨cv,j2,b5,cc⟩:=wO bT bd;obtain ⟨cT,dI,sF,dn,dz⟩:=aiR ((aj.trans aU).trans j2) (fun i u hu=>aO i u (ab i u hu)) fW cc (cP.mono b5.le fun _ _ h=>h) h;exact ⟨cT,dI,b5.trans sF,dn,dz⟩
 grind
end
end
end Go.ay
end
section
namespace Go.ay
structure ht (D:Nat->Type) where
 path:List Nat
 ins:List dr
 fx:List (Nat×aV D)
 ks:List Nat
 iJ:List (l3 D)
 keep:List Nat
noncomputable section
section
variable {P:atb} {D:Nat->Type}
def ht.F (p:ht D):Type:=eA D p.ins->Option (qs p.iJ)
def gv:List dr->Nat
 |[]=>0
 | .o _ _::aG=>gv aG+1
 |_::aG=>gv aG
def rF:aV D->Bool
 | .c (.own _)| .box _ _| .arr _| .c .gS| .c .wk| .c .pa| .undef| .un| .c (.int _ _)| .c (.bool _)| .fn _ []=>as5
 |_=>as9
def Ci:aV D->Option Nat
 | .c (.own j)| .box j _| .arr j=>as4 j
 |_=>as6
def DV (n:Nat) (ks:List Nat) (s:aV D):Bool:=rF s&&match Ci s with|some j=>atn n j|| !Nat.beq (ks.getD j 0) 0|none=>as5
def pn:List Nat->Nat->Option Nat
 |[],_=>as6
 |a::bn,i=>if ath a i=as5 then as4 0 else (match pn bn i with|some j=>as4 (j+1)|none=>as6)
variable (X:et P D)
def qj (ck:Nat->Nat) (bn ks:List Nat) (outs:List dr) (y:eA D outs):Nat->List (aR D)->List (aR D)
 |_,[]=>[]
 |i,o::O=>(match pn bn i with|some j=>(if ks.getD j 0=1 then o else if ks.getD j 0=2 then jd X ck outs y j else .dead)|none=>if o.live=as5 then .dead else o)::qj ck bn ks outs y (i+1) O
def mkOr (ck:Nat->Nat):(aG:List dr)->eA D aG->List (aR D)
 |[],_=>[]
 | .o _ c::aG,x=>bV.gh X ck c x.1 as9::mkOr ck aG x.2
 | .v _ _::aG,x=>mkOr ck aG x.2
 | .u _ _::aG,x=>mkOr ck aG x.2
def num (bn:List Nat) (n N:Nat) (j:Nat):Nat:=if aty j n=as5 then bn.getD j 0 else N+(j - n)
def LN (p:ht D) (bn:List Nat) (N:Nat) (dB:l3 D) (y:eA D dB.outs) (E:List (Nat×aV D)):List (Nat×aV D):=
 gu X dB.outs y++((dB.fx.map fun q=>(q.1,ps (num bn (gv p.ins) N) q.2))++p.keep.map fun d=>(d,eh E d))
def r8 (p:ht D) (bn:List Nat) (dK:List (aR D)) (dB:l3 D) (y:eA D dB.outs):List (aR D):=qj X (num bn (gv p.ins) dK.length) bn p.ks dB.outs y 0 dK++mkOr X (num bn (gv p.ins) dK.length) dB.outs y
def ht.Ck (p:ht D) (F:p.F) (E:List (Nat×aV D)) (O:List (aR D)) {af:Type} (K:eS->List (Nat×aV D)->List (aR D)->Option af):Option af:=
 match qm X p.ins p.fx E O with
 |some (x,bn,dK)=>as8 (F x) fun ev=>Dr p.iJ ev fun dB y=>K dB.ex (LN X p bn dK.length dB (fs _ y) E) (r8 X p bn dK dB (fs _ y))
 |none=>as6
def ht.run (p:ht D) (F:p.F) (E:List (Nat×aV D)) (O:List (aR D)) {af:Type} (K:eS->List (Nat×aV D)->List (aR D)->Option af):Option af:=p.Ck X F (iA p.ins E O).1 (iA p.ins E O).2 K
def ht.wv (p:ht D) (F:p.F):k1 D where
 path:=p.path
 fits:=fun E O=>(qm X p.ins p.fx (iA p.ins E O).1 (iA p.ins E O).2).isSome
 run:=fun E O {_} K=>p.run X F E O K
def EW (n:Nat) (ks:List Nat) (r:Nat):Bool:=atn n r|| !Nat.beq (ks.getD r 0) 0
def wU (n:Nat) (ks:List Nat):Nat->List dr->Bool
 |_,[]=>as5
 |j, .o _ c::aG=>(!Nat.beq (ks.getD j 0) 1||c.gD.all (EW n ks))&&wU n ks (j+1) aG
 |j,_::aG=>wU n ks j aG
def ht.n4 (B:Code) (p:ht D):Bool:=((p.iJ.all fun dB=>dB.outs.all fun i=>i.wi&&i.gD.all (EW (gv p.ins) p.ks))&&wU (gv p.ins) p.ks 0 p.ins)&&(p.iJ.all (fun dB=>dB.fx.all fun q=>DV (gv p.ins) p.ks q.2)&&p.keep.all fun d=> !(pj (sub B p.path)).contains d)
def we:Nat->List Nat->List Nat->List (aR D)->Bool
 |_,[],_,_=>as5
 |j,k::ks,bn,O=>(if k=0 then as5 else ov (bn[j]?) j&&(if k=1 then (match O[j]? with|some o=> !o.lv|none=>as9) else as5))&&we (j+1) ks bn O
def Yv (p:ht D) (F:p.F) (ex:eS) (E:List (Nat×aV D)) (O:List (aR D)):Option (qs p.iJ):=
 if ex= .normal then
  match qm X p.ins p.fx (iA p.ins E O).1 (iA p.ins E O).2 with
  |some (x,bn,dK)=>if we 0 p.ks bn dK=as5 then F x else as6
  |none=>as6
 else rL X (gv p.ins) p.ks p.iJ ex E O
end
section
variable {P:atb} {D:Nat->Type} {X:et P D} {z z':Nat->bm} {e m m':Mem} {k:Option Nat} {vs vs':List as7} {fr:Nat->as7} {E:List (Nat×aV D)} {O bW:List (aR D)}
theorem Yd {n:Nat} {ks:List Nat} {r:Nat} (h:EW n ks r=as5):n<=r\/ks.getD r 0≠0:=by
 simp only[EW,auj,auQ] at h;rcases h with h|h
 ·simp_all
 ·refine .inr fun bJ=> ?_;simp_all
theorem yO {n:Nat} {ks:List Nat}:∀{aG:List dr} {x:eA D aG} {i j:Nat} {q:vx D},wU n ks i aG=as5->(cos aG x)[j]? =as4 q->ks.getD (i+j) 0=1->∀r∈q.c.gD,n<=r\/ks.getD r 0≠0
 |[],_,_,_,_,_,h,_=>by grind [cos]
 | .v d c::aG,x,i,j,q,ar,h,U=>yO (aG:=aG) (x:=x.2) ar h U
 | .u d c::aG,x,i,j,q,ar,h,U=>yO (aG:=aG) (x:=x.2) ar h U
 | .o d c::aG,x,i,0,q,ar,h,U=>by simp only[cos,List.getElem?_cons_zero] at h;cases h;simp only[wU,ati] at ar;intro r aF;have aa:=ar.1;rw[at2] at U;rw[U] at aa;exact Yd (atq.1 (by simp_all) r aF)
 | .o d c::aG,x,i,j+1,q,ar,h,U=>by simp only[cos,auo] at h;simp only[wU,ati] at ar;exact yO (aG:=aG) (x:=x.2) ar.2 h (by grind)
theorem WC {ck l1:Nat->Nat} {l:List (Nat×Nat)} (h:∀p∈l,ck p.2=l1 p.2):∀{cs:List (bY D)} {i:Nat},ow ck l i cs=ow l1 l i cs
 |[],_=>rfl
 |c::cs,i=>by
  simp only[ow,WC h (cs:=cs)];congr 1;cases bd:lH l i with
  |none=>rfl
  |some n=>simp only;rw[h _ (y5 bd)]
theorem akc {ck l1:Nat->Nat} {c:bV} {x:c.ty D} {w:Bool} (h:∀r∈c.gD,ck r=l1 r):bV.gh X ck c x w=bV.gh X l1 c x w:=by
 cases c with
 |bM t l=>simp only[bV.gh];rw[WC fun p aL=>h p.2 (atw.2 ⟨p,aL,rfl⟩)]
 |se t f is=>simp only[bV.gh];rw[show is.map ck=is.map l1 from avR fun n a2=>h n a2]
 |_=>rfl
theorem sM {ck:Nat->Nat}:∀{aG:List dr} {x:eA D aG},mkOr X ck aG x=(cos aG x).map fun q=>bV.gh X ck q.c q.x as9
 |[],_=>rfl
 | .o d c::aG,x=>by show bV.gh X ck c x.1 as9::mkOr X ck aG x.2=bV.gh X ck c x.1 as9::(cos aG x.2).map _;rw[sM]
 | .v d c::aG,x=>sM (aG:=aG)
 | .u d c::aG,x=>sM (aG:=aG)
theorem kH:∀{aG:List dr} {x:eA D aG},(eu X aG x).length=gv aG
 |[],_=>rfl
 | .v _ _::aG,x=>kH (aG:=aG)
 | .u _ _::aG,x=>kH (aG:=aG)
 | .o _ _::aG,x=>by show ((eu X aG x.2).length+1)=gv aG+1;rw[kH]
def PD (X:et P D) (p:ht D) (x:eA D p.ins) (ev:qs p.iJ) (z:Nat->bm) (e:Mem) (k:Option Nat) (dc:List as7) (ex:eS) (bA:Nat->as7) (m':Mem):Prop:=
 ∃z' dI dB y,dB∈p.iJ/\ex=dB.ex/\(∀{aB:Type} (K:(x:l3 D)->j4 D x.outs->aB),Dr p.iJ ev K=K dB y)/\dt e.next z z'/\
  bC X.G (j7 X p.ks (eu X p.ins x) dB.outs (fs _ y)) z' e m' k (dc++dI)/\∀q∈gu X dB.outs (fs _ y)++dB.fx,rel X.G z' (dc++dI) q.2 (bA q.1)
def qB (pD:eS->eS) (X:et P D) (B:Code) (p:ht D) (F:p.F):Prop:=∀(x:eA D p.ins) (ev:qs p.iJ) {z:Nat->bm} {e m:Mem} {k:Option Nat} {dc:List as7} {fr:Nat->as7},
 F x=as4 ev->bC X.G (eu X p.ins x) z e m k dc->eK X z dc (gu X p.ins x++p.fx) fr->W P (sub B p.path) (fun ex=>PD X p x ev z e k dc (pD ex)) fr m
def oN (X:et P D) (B:Code) (p:ht D) (F:p.F):Prop:=∀(x:eA D p.ins) (ev:qs p.iJ) {z:Nat->bm} {e m:Mem} {k:Option Nat} {dc:List as7} {fr:Nat->as7},
 F x=as4 ev->bC X.G (eu X p.ins x) z e m k dc->eK X z dc (gu X p.ins x++p.fx) fr->W P (sub B p.path) (PD X p x ev z e k dc) fr m
theorem qB.of {pD:eS->eS} (ca:hV X) {B:Code} {us:List (k1 D)} {p:ht D} {F:p.F} (q3:∀u∈us,p.path.length<u.path.length->oP X B u)
  (ek:∀x,jD X us calm as5 p.path.reverse (sub B p.path) (gu X p.ins x++p.fx) (eu X p.ins x) (fun ex=>rL X (gv p.ins) p.ks p.iJ (pD ex))=F x):qB pD X B p F:=by
 intro x ev z e m k dc fr dQ aw a1;have h:=ek x;rw[dQ] at h;have a2:dc.length=gv p.ins:=by rw[aw.len,kH]
 refine (Gd ca (L:=p.path.length) q3 (sub B p.path) as5 p.path.reverse _ _ _ ev (by grind) (by simp) (by simp) aw a1 h).mono ?_;rintro ex cU bx ⟨cv,jo,hW,b2,bg,U,aa,ao,aN,bI⟩;obtain ⟨dB,y,aU,aO,bT,cP⟩:=Fl bI;obtain ⟨cT,dI,b5,cc,eH⟩:=zg (ks:=p.ks) (x:=x) bg aa aw.len ao aN (by rw[a2];omega);exact ⟨cT,dI,dB,y,aU,aO,cP,U.trans b5,cc,eH⟩
theorem oN.of (ca:hV X) {B:Code} {us:List (k1 D)} {p:ht D} {F:p.F} (q3:∀u∈us,p.path.length<u.path.length->oP X B u)
  (ek:∀x,jD X us calm as5 p.path.reverse (sub B p.path) (gu X p.ins x++p.fx) (eu X p.ins x) (rL X (gv p.ins) p.ks p.iJ)=F x):oN X B p F:=by
 intro x ev z e m k dc fr dQ aw a1;have h:=ek x;rw[dQ] at h;have a2:dc.length=gv p.ins:=by rw[aw.len,kH]
 refine (Gd ca (L:=p.path.length) q3 (sub B p.path) as5 p.path.reverse _ _ _ ev (by grind) (by simp) (by simp) aw a1 h).mono ?_;rintro ex cU bx ⟨cv,jo,hW,b2,bg,U,aa,ao,aN,bI⟩;obtain ⟨dB,y,aU,aO,bT,cP⟩:=Fl bI;obtain ⟨cT,dI,b5,cc,eH⟩:=zg (ks:=p.ks) (x:=x) bg aa aw.len ao aN (by rw[a2];omega);exact ⟨cT,dI,dB,y,aU,aO,cP,U.trans b5,cc,eH⟩
theorem P5 {s:aV D} {v:as7} {ck:Nat->Nat} (h:rF s=as5) (aF:rel X.G z vs s v) (ab:∀(j:Nat) (u:as7),Ci s=as4 j->vs[j]? =as4 u->vs'[ck j]? =as4 u):rel X.G z vs' (ps ck s) v:=by
 unfold rF at h;split at h
 ·exact ⟨ab _ _ rfl aF.1,aF.2⟩
 ·obtain ⟨b,U,aa⟩:=aF;exact ⟨b,ab _ _ rfl U,aa⟩
 ·obtain ⟨b,l,U,aa⟩:=aF;exact ⟨b,l,ab _ _ rfl U,aa⟩
 ·exact aF
 ·exact aF
 ·exact aF
 ·exact aF
 ·exact aF
 ·exact aF
 ·exact aF
 ·obtain ⟨gs,U,aa⟩:=aF;refine ⟨gs,U, ?_⟩;cases gs with
  |nil=>trivial
  |cons _ _=>exact aa.elim
 grind
theorem XG {n:Nat} {ks:List Nat} {s:aV D} (h:DV n ks s=as5):rF s=as5/\∀j,Ci s=as4 j->n<=j\/ks.getD j 0≠0:=by
 simp only[DV,ati] at h;refine ⟨h.1,fun j a0=> ?_⟩;have aa:=h.2;rw[a0] at aa;simp only[auj,auQ] at aa;rcases aa with aa|aa
 ·simp_all
 ·refine .inr fun bJ=> ?_;simp_all
theorem FG:∀{ks:List Nat} {i j:Nat} {bn:List Nat},we i ks bn O=as5->ks.getD j 0≠0->bn[i+j]? =as4 (i+j)/\(ks.getD j 0=1->∃o,O[i+j]? =as4 o/\o.lv=as9)
 |[],i,j,bn,_,h=>by grind
 |k::ks,i,0,bn,ar,h=>by
  grind [we,FQ]
 |k::ks,i,j+1,bn,ar,h=>by
  simp only[we,ati] at ar;simp only[List.getD_cons_succ] at h⊢;have:=FG ar.2 h
  grind
theorem afF {outs:List dr} {y:eA D outs} {ks:List Nat} {A B:List (aR D)} (ax:A.length=B.length) (h:∀j,ks.getD j 0=1->A[j]? =B[j]?):mV X outs y 0 ks A=mV X outs y 0 ks B:=by
 apply auw
 grind [uN,pi]
theorem oN.loop (ca:hV X) {B c:Code} {us:List (k1 D)} {p:ht D} {F:Nat->p.F} (jZ:sub B p.path= .loop c) (ar:p.n4 B=as5) (q3:∀u∈us,p.path.length+1<u.path.length->oP X B u) (bg:∀x,F 0 x=as6)
  (ek:∀n x,jD X us calm as5 (0::p.path.reverse) c (gu X p.ins x++p.fx) (eu X p.ins x) (Yv X p (F n))=F (n+1) x):∀n,oN X B p (F n):=by
 intro n;induction n with
 |zero=>intro x ev z e m k dc fr dQ;grind
 |succ n aq=>
  intro x ev z e m k dc fr dQ aw a1;have h:=ek n x;rw[dQ] at h;rw[jZ];have a2:dc.length=gv p.ins:=by rw[aw.len,kH]
  refine W.aep ((Gd ca (L:=p.path.length+1) q3 c as5 (0::p.path.reverse) _ _ _ ev (by rw[List.reverse_cons,List.reverse_reverse,<-OZ,jZ];exact qd c) (by simp) (by simp) aw a1 h).mono ?_);rintro ex cU bx ⟨cv,jo,hW,b2,bg,U,aa,ao,aN,bI⟩;have other:rL X (gv p.ins) p.ks p.iJ ex hW b2=as4 ev->PD X p x ev z e k dc ex cU bx:=by intro bI;obtain ⟨dB,y,aU,aO,bT,cP⟩:=Fl bI;obtain ⟨cT,dI,b5,cc,eH⟩:=zg (ks:=p.ks) (x:=x) bg aa aw.len ao aN (by rw[a2];omega);exact ⟨cT,dI,dB,y,aU,aO,cP,U.trans b5,cc,eH⟩
  cases ex with
  |exit i=>exact other bI
  |ret=>exact other bI
  |normal=>
   show W P (.loop c) _ cU bx;have bI:(match qm X p.ins p.fx (iA p.ins hW b2).1 (iA p.ins hW b2).2 with
    |some (x,bn,dK)=>if we 0 p.ks bn dK=as5 then F n x else as6
    |none=>as6)=as4 ev:=bI
   split at bI
   ·rename_i ha bn dK aF;obtain ⟨M3,ma⟩:=fJ bI;obtain ⟨aqO,dk,g2,my,fo⟩:=kI (aG:=p.ins) ao aN;obtain ⟨cT,JK,i1,i2,jC⟩:=entry my fo aF;have i1:=dk.trans i1;have aa:∀(i:Nat) (u:as7),dc[i]? =as4 u->aqO[i]? =as4 u:=fun i u hu=>g2 i u (aa i u hu);have Uj:=aq ha ev ma jC.U1 jC.Zx;rw[jZ] at Uj;refine Uj.mono ?_;rintro ex hl p6 ⟨hU,dI,dB,y,aU,aO,bT,cP,eG,gN⟩;have same:∀j,p.ks.getD j 0≠0->∀u,JK[j]? =as4 u->dc[j]? =as4 u:=by
     intro j a0 u hu;obtain ⟨s1,_⟩:=FG M3 a0;rw[atB] at s1;obtain ⟨nS,t1,t2⟩:=jC.dI _ _ s1;rw[hu] at t1;cases t1;have bS:j<dc.length:=by have:=(atp.1 hu).1;rw[jC.len,jC.uq.length,<-aus (f:=fun q=>bV.mk X q.c q.x as9),<-kV,kH] at this;omega
     grind
    have j1:JK.length=dc.length:=by rw[jC.len,jC.uq.length,<-aus (f:=fun q=>bV.mk X q.c q.x as9),<-kV,kH,a2]
    have Qf:∀(j:Nat) (u:as7),gv p.ins<=j\/p.ks.getD j 0≠0->(JK++dI)[j]? =as4 u->(dc++dI)[j]? =as4 u:=by
     grind
    have lO:=ar;simp only[ht.n4,ati] at lO;have Uq:=lO.1.1;have acV:=lO.1.2;have asd:mV X dB.outs (fs _ y) 0 p.ks (eu X p.ins ha)=mV X dB.outs (fs _ y) 0 p.ks (eu X p.ins x):=by
     refine afF (by grind [kH]) fun j a0=> ?_;obtain ⟨s1,s2⟩:=FG M3 (show p.ks.getD j 0≠0 by grind);obtain ⟨o,pb,mm⟩:=s2 a0;rw[atB] at s1 pb;obtain ⟨q,dn,w,dz⟩:=jC.uq.get j j s1;rw[pb] at dz;have dz:=atj.inj dz;subst dz;rw[bV.EN] at mm;subst mm;have NX:(eu X p.ins ha)[j]? =as4 (bV.mk X q.c q.x as9):=by grind [kV]
     have Uo:j<(eu X p.ins x).length:=by grind [kH]
     have dN:=(bg.trans i1).dN j _ Uo pb bV.re bV.EN;rw[NX,dN];refine congrArg as4 (akc fun r aF=> ?_);obtain ⟨aef,Ul⟩:=jC.gt q (at3 dn) r aF;have Nm:r<gv p.ins:=by
      have:=(atp.1 Ul).1;rw[jC.uq.length,<-aus (f:=fun q=>bV.mk X q.c q.x as9),<-kV,kH] at this
      grind
     rcases yO (i:=0) acV dn (by grind) r aF with h|h
     ·omega
     ·obtain ⟨m8,_⟩:=FG M3 h
      grind
    have MQ:∀q∈dB.fx,DV (gv p.ins) p.ks q.2=as5:=by
     grind
    have qX:∀i∈dB.outs,∀r∈i.gD,gv p.ins<=r\/p.ks.getD r 0≠0:=fun i aj r aF=>Yd (atq.1 (auG.1 (atq.1 (atq.1 Uq dB aU) i aj)).2 r aF);refine ⟨hU,dI,dB,y,aU,aO,bT,(U.trans i2).trans cP, ?_,fun q bb=> ?_⟩
    ·have tY:j7 X p.ks (eu X p.ins ha) dB.outs (fs _ y)=j7 X p.ks (eu X p.ins x) dB.outs (fs _ y):=by grind [j7]
     rw[tY] at eG;have key:∀(i:Nat) (o:aR D),(j7 X p.ks (eu X p.ins x) dB.outs (fs _ y))[i]? =as4 o->o.live=as5->(gv p.ins<=i\/p.ks.getD i 0≠0):=by
      intro i o an ax;by_cases bS:i<gv p.ins
      ·refine .inr fun lb=> ?_;unfold j7 at an;rw[atN (by grind [pi,kH])] at an;have aE:(eu X p.ins x)[i]? =as4 ((eu X p.ins x)[i]'(by grind [kH])):=atS _;rw[uN aE,lb] at an;simp at an;subst an;cases ax
      grind
     have mk:∀(i:Nat) (o:aR D),(j7 X p.ks (eu X p.ins x) dB.outs (fs _ y))[i]? =as4 o->o= .dead\/∃c a w,o=bV.mk X c a w/\∀r∈c.gD,gv p.ins<=r\/p.ks.getD r 0≠0:=by
      intro i o an;unfold j7 at an;by_cases bS:i<gv p.ins
      ·rw[atN (by grind [pi,kH])] at an;have aE:(eu X p.ins x)[i]? =as4 ((eu X p.ins x)[i]'(by grind [kH])):=atS _;rw[uN aE] at an;have an:=(atj.inj an).symm;by_cases b5:p.ks.getD i 0=1
       ·grind [kV,yO]
       ·rw[if_neg b5] at an;by_cases cc:p.ks.getD i 0=2
        ·rw[if_pos cc] at an;rcases rl (X:=X) (aG:=dB.outs) (x:=fs _ y) (j:=0+i) with aQ|⟨d,c,a,aQ,he⟩
         ·grind
         ·exact .inr ⟨c,a,as5,by rw[an,he];rfl,qX _ aQ⟩
        grind
      ·rw[atM (by grind [pi,kH])] at an;obtain ⟨d,c,a,aQ,bJ⟩:=uM (at3 an);exact .inr ⟨c,a,as9,bJ,qX _ aQ⟩
     refine eG.Cl (by rw[<-eG.len];grind) id (fun i o an ax=> ?_) (fun i o u an ax hu=> ?_) (fun i j _ _ _ _ _ _ h=>h)
     ·obtain ⟨v,v1,v2⟩:=eG.at an;refine ⟨o,v,an,ax,v1,Qf i v (key i o an ax) v1, ?_⟩;rcases mk i o an with rfl|⟨c,a,w,rfl,aF⟩
      ·trivial
      ·exact bV.wh w v2 fun r lf u hu=>Qf r u (aF r lf) hu
     ·rcases mk i o an with rfl|⟨c,a,w,rfl,_⟩
      ·trivial
      grind [bV.sA]
    ·have aF:=gN q bb;rcases atP.1 bb with bb|bb
     ·obtain ⟨d,c,a,aQ,ah⟩:=wV bb;rw[ah] at aF⊢;exact gl.NI (auG.1 (atq.1 (atq.1 Uq dB aU) _ aQ)).1 aF
     ·obtain ⟨s1,s2⟩:=XG (MQ q bb);have:=P5 (X:=X) (ck:=id) (vs':=dc++dI) s1 aF fun j u a0 hu=>Qf j u (s2 j a0) hu
      grind [F5]
   grind
theorem wA:∀{bn:List Nat} {i j:Nat},pn bn i=as4 j->bn[j]? =as4 i
 |[],_,_,h=>by cases h
 |a::bn,i,j,h=>by
  simp only[pn] at h;split at h
  ·grind [atl]
  ·split at h
   ·rename_i bZ a0;cases h;rw[auo];exact wA a0
   grind
theorem Fe {ck:Nat->Nat} {bn ks:List Nat} {outs:List dr} {y:eA D outs}:∀{i:Nat} {O:List (aR D)},(qj X ck bn ks outs y i O).length=O.length
 |i,[]=>rfl
 |i,o::O=>by simp[qj,Fe]
theorem Ww {ck:Nat->Nat} {bn ks:List Nat} {outs:List dr} {y:eA D outs}:∀{i:Nat} {O:List (aR D)} {a:Nat} {o:aR D},O[a]? =as4 o->(qj X ck bn ks outs y i O)[a]? =as4 (match pn bn (i+a) with|some j=>(if ks.getD j 0=1 then o else if ks.getD j 0=2 then jd X ck outs y j else .dead)|none=>if o.live=as5 then .dead else o)
 |i,[],a,o,h=>by grind
 |i,p::O,0,o,h=>by grind [qj]
 |i,p::O,a+1,o,h=>by
  simp only[auo] at h;have:=Ww (ck:=ck) (bn:=bn) (ks:=ks) (outs:=outs) (y:=y) (i:=i+1) h
  grind [qj]
theorem qB.E0 {pD:eS->eS} {B:Code} {p:ht D} {F:p.F} (h:qB pD X B p F) (ar:p.n4 B=as5) {af:Type} (E:List (Nat×aV D)) (O:List (aR D)) (K:eS->List (Nat×aV D)->List (aR D)->Option af) (r:af) {z:Nat->bm} {e m:Mem} {k:Option Nat} {vs:List as7} {fr:Nat->as7}
  (aw:bC X.G O z e m k vs) (a1:eK X z vs E fr) (aF:p.Ck X F E O K=as4 r):W P (sub B p.path) (fun x=>h6 X O z e k vs (K (pD x)) r) fr m:=by
 unfold ht.Ck at aF;split at aF
 ·rename_i x bn dK aj;obtain ⟨ev,dQ,aF⟩:=bind_some aF;obtain ⟨cv,dc,i1,i2,jC⟩:=entry aw a1 aj;simp only[ht.n4,ati] at ar;have a2:bn.length=gv p.ins:=by rw[<-kH (X:=X) (x:=x),kV,aus];exact jC.uq.length
  have tU:dc.length=gv p.ins:=by rw[jC.len,a2]
  refine (h x ev dQ jC.U1 jC.Zx).keep ?_;rintro ex cU bx acU ⟨cT,dI,dB,y,aU,aO,bT,cP,eG,gN⟩;rw[bT] at aF;rw[aO];have pV:dI.length=(eu X dB.outs (fs _ y)).length:=by
   have:=eG.len
   grind [j7,pi,kH]
  have ap:vs.length=dK.length:=jC.U0.len;have ym:∀(i:Nat) (u:as7),vs[i]? =as4 u->(vs++dI)[i]? =as4 u:=iS;have pW:∀(j:Nat) (u:as7),(dc++dI)[j]? =as4 u->(vs++dI)[num bn (gv p.ins) dK.length j]? =as4 u:=by
   intro j u hu;unfold num;by_cases bS:j<gv p.ins
   ·have ag:aty j (gv p.ins)=as5:=by simp_all
    rw[if_pos ag];rw[atN (by omega)] at hu;have aE:bn[j]? =as4 (bn.getD j 0):=by grind
    obtain ⟨nS,t1,t2⟩:=jC.dI _ _ aE
    grind
   grind [avv]
  have hD:∀(i:Nat) (o:aR D),(r8 X p bn dK dB (fs _ y))[i]? =as4 o->
    (i<dK.length/\∃mm,dK[i]? =as4 mm/\o=(match pn bn i with|some j=>(if p.ks.getD j 0=1 then mm else if p.ks.getD j 0=2 then jd X (num bn (gv p.ins) dK.length) dB.outs (fs _ y) j else .dead)|none=>if mm.live=as5 then .dead else mm))\/
    (dK.length<=i/\(mkOr X (num bn (gv p.ins) dK.length) dB.outs (fs _ y))[i - dK.length]? =as4 o):=by
   grind [r8,Fe,Ww]
  have tY:∀(j:Nat) (ml:aR D),(eu X p.ins x)[j]? =as4 ml->(j7 X p.ks (eu X p.ins x) dB.outs (fs _ y))[j]? =as4 (if p.ks.getD j 0=1 then ml else if p.ks.getD j 0=2 then jd X uc dB.outs (fs _ y) j else .dead):=by
   grind [j7,pi,uN]
  have adA:∀(i:Nat) (o:aR D),(eu X dB.outs (fs _ y))[i]? =as4 o->(j7 X p.ks (eu X p.ins x) dB.outs (fs _ y))[gv p.ins+i]? =as4 o:=by
   grind [j7,pi,kH]
  have tT:∀(i:Nat) (o:aR D),(r8 X p bn dK dB (fs _ y))[i]? =as4 o->o.live=as5->
    (∃j,pn bn i=as4 j/\((p.ks.getD j 0=1/\dK[i]? =as4 o)\/(p.ks.getD j 0≠1/\p.ks.getD j 0=2/\o=jd X (num bn (gv p.ins) dK.length) dB.outs (fs _ y) j)))\/(dK.length<=i/\(mkOr X (num bn (gv p.ins) dK.length) dB.outs (fs _ y))[i - dK.length]? =as4 o):=by
   intro i o an ax;rcases hD i o an with ⟨bS,mm,aa,ao⟩|h
   ·left;cases aL:pn bn i with
    |some j=>
     rw[aL] at ao;dsimp only at ao;refine ⟨j,rfl, ?_⟩;by_cases b5:p.ks.getD j 0=1
     ·grind
     ·rw[if_neg b5] at ao;by_cases cc:p.ks.getD j 0=2
      ·grind
      ·rw[if_neg cc] at ao;rw[ao] at ax;cases ax
    |none=>
     rw[aL] at ao;dsimp only at ao;by_cases aN:mm.live=as5
     ·rw[if_pos aN] at ao;rw[ao] at ax;cases ax
     grind
   grind
  refine ⟨cT,vs++dI,_,_,i1.trans ?_,i2.trans cP,ym, ?_,zD ?_,aF⟩
  ·refine ⟨?_,fun i o aj an ax au=> ?_⟩
   ·grind [r8,Fe]
   ·rcases tT i o an ax with ⟨j,_,h|⟨_,_,h⟩⟩|h
    ·grind
    ·rcases rl (X:=X) (aG:=dB.outs) (x:=fs _ y) (j:=j) with aQ|⟨_,c,a,_,aQ⟩
     ·rw[h,aQ] at ax;cases ax
     grind [bV.EN]
    grind
  ·refine eG.Cl ?_ (fun i=>if i<dK.length then (pn bn i).getD 0 else gv p.ins+(i - dK.length)) (fun i o an ax=> ?_) (fun i o u an ax hu=> ?_) (fun i j o q eo a0 Us Ut gP=> ?_)
   ·grind [r8,Fe,sM,kV]
   ·rcases tT i o an ax with ⟨j,aL,ah⟩|⟨gK,ah⟩
    ·have aE:=wA aL;obtain ⟨q,NX,w,dz⟩:=jC.uq.get j i aE;have dn:(eu X p.ins x)[j]? =as4 (bV.mk X q.c q.x as9):=by grind [kV]
     obtain ⟨u,t1,t2⟩:=jC.dI _ _ aE;have bS:i<dK.length:=(atp.1 dz).1;simp only[if_pos bS,aL,avq];have qY:=tY j _ dn;have Eu:(dc++dI)[j]? =as4 u:=iS _ _ t1;rcases ah with ⟨b5,ah⟩|⟨b5,cc,ah⟩
     ·rw[if_pos b5] at qY;rw[dz] at ah;have ah:=atj.inj ah;subst ah;have cn:=eG.obj j _ u qY Eu;refine ⟨_,u,qY,bV.sA,Eu,ym _ _ t2,bV.wh w cn fun r aF nS kl=> ?_⟩;obtain ⟨aef,Ul⟩:=jC.gt q (at3 NX) r aF
      grind [num,avv]
     ·rw[if_neg b5,if_pos cc] at qY;have cn:=eG.obj j _ u qY Eu;rcases rl (X:=X) (aG:=dB.outs) (x:=fs _ y) (j:=j) with aQ|⟨_,c,a,_,aQ⟩
      ·rw[ah,aQ] at ax;cases ax
      ·rw[aQ] at cn;refine ⟨_,u,qY,by grind [bV.re],Eu,ym _ _ t2, ?_⟩;rw[ah,aQ];exact bV.wh as5 cn fun r _ nS kl=>pW r nS kl
    ·have adh:¬i<dK.length:=by omega
     simp only[if_neg adh];rw[sM,aub] at ah;obtain ⟨q,bb,rfl⟩:=auU.1 ah;have qY:=adA (i - dK.length) (bV.mk X q.c q.x as9) (by grind [kV]);obtain ⟨u,Co,Qo⟩:=eG.at qY;refine ⟨_,u,qY,bV.sA,Co, ?_, ?_⟩
     ·rw[atM (by omega),tU,show gv p.ins+(i - dK.length) - gv p.ins=i - dK.length by omega] at Co
      grind
     ·exact bV.wh as9 Qo fun r _ nS kl=>pW r nS kl
   ·rcases hD i o an with ⟨bS,mm,aa,ao⟩|⟨_,h⟩
    ·cases aL:pn bn i with
     |some j=>
      rw[aL] at ao;dsimp only at ao;have aE:=wA aL;obtain ⟨q,dn,w,dz⟩:=jC.uq.get j i aE;rw[aa] at dz;by_cases b5:p.ks.getD j 0=1
      ·grind [bV.re]
      ·rw[if_neg b5] at ao;by_cases cc:p.ks.getD j 0=2
       ·rw[if_pos cc] at ao;rcases rl (X:=X) (aG:=dB.outs) (x:=fs _ y) (j:=j) with aQ|⟨_,c,a,_,aQ⟩
        ·rw[ao,aQ];trivial
        grind [bV.re]
       ·rw[if_neg cc] at ao;rw[ao];trivial
     |none=>
      rw[aL] at ao;dsimp only at ao;by_cases aN:mm.live=as5
      ·rw[if_pos aN] at ao;rw[ao];trivial
      ·rw[if_neg aN] at ao;subst ao;rw[atN (by omega)] at hu;exact (jC.U0.obj i o u aa hu).frozen ax cP.le ym
    grind [sM,bV.re]
   ·have one:∀(i:Nat) (o:aR D),(r8 X p bn dK dB (fs _ y))[i]? =as4 o->o.live=as5->(i<dK.length/\∃j,pn bn i=as4 j/\j<gv p.ins)\/dK.length<=i:=by
     intro i o an ax;rcases tT i o an ax with ⟨j,aL,_⟩|⟨gK,_⟩
     ·have aE:=wA aL
      grind
     grind
    rcases one i o eo Us with ⟨cG,dE,gf,ik⟩|cG
    ·rcases one j q a0 Ut with ⟨ew,h1,sa,Tj⟩|ew
     ·simp only[if_pos cG,if_pos ew,gf,sa,avq] at gP;subst gP;have s1:=wA gf;have s2:=wA sa
      grind
     grind
    grind
  ·intro q bb;unfold LN at bb;rcases atP.1 bb with bb|bb
   ·obtain ⟨d,c,a,aQ,ah⟩:=wV bb;have:=gN q (atP.2 (.inl bb));rw[ah] at this⊢;exact gl.NI (auG.1 (atq.1 (atq.1 ar.1.1 dB aU) _ aQ)).1 this
   ·rcases atP.1 bb with bb|bb
    ·obtain ⟨sF,Nk,rfl⟩:=atw.1 bb
     grind [XG,P5]
    ·obtain ⟨d,aQ,rfl⟩:=atw.1 bb;have hw:=atq.1 ar.2.2 d aQ;have:=acU d (by grind);show rel X.G cT (vs++dI) (eh E d) (cU d);rw[this];exact rel.mono (a1 d) (i2.le.trans cP.le) ym
 grind
theorem oN.E0 {B:Code} {p:ht D} {F:p.F} (h:oN X B p F) (ar:p.n4 B=as5) {af:Type} (E:List (Nat×aV D)) (O:List (aR D)) (K:eS->List (Nat×aV D)->List (aR D)->Option af) (r:af) {z:Nat->bm} {e m:Mem} {k:Option Nat} {vs:List as7} {fr:Nat->as7}
  (aw:bC X.G O z e m k vs) (a1:eK X z vs E fr) (aF:p.Ck X F E O K=as4 r):W P (sub B p.path) (fun x=>h6 X O z e k vs (K x) r) fr m:=
 qB.E0 (pD:=id) h ar E O K r aw a1 aF
theorem qB.wv {pD:eS->eS} {B:Code} {p:ht D} {F:p.F} (h:qB pD X B p F) (ar:p.n4 B=as5) {af:Type} (E:List (Nat×aV D)) (O:List (aR D)) (K:eS->List (Nat×aV D)->List (aR D)->Option af) (r:af) {z:Nat->bm} {e m:Mem} {k:Option Nat} {vs:List as7} {fr:Nat->as7}
  (aw:bC X.G O z e m k vs) (a1:eK X z vs E fr) (aF:p.run X F E O K=as4 r):W P (sub B p.path) (fun x=>h6 X O z e k vs (K (pD x)) r) fr m:=by
 obtain ⟨vs',aU,aO,bT,cP⟩:=kI (aG:=p.ins) aw a1;exact (h.E0 ar _ _ K r bT cP aF).mono fun _ _ _ a2=>a2.from aU (dt.refl z) aO
theorem oN.wv {B:Code} {p:ht D} {F:p.F} (h:oN X B p F) (ar:p.n4 B=as5):oP X B (p.wv X F):=by
 intro af E O K r z e m k vs fr _ aw a1 aF;obtain ⟨vs',aU,aO,bT,cP⟩:=kI (aG:=p.ins) aw a1;exact (h.E0 ar _ _ K r bT cP aF).mono fun _ _ _ a2=>a2.from aU (dt.refl z) aO
end
end
end Go.ay
end
section
namespace Go.ay
structure ff (D:Nat->Type) where
 f:Nat
 np:Nat
 ins:List dr
 fx:List (Nat×aV D)
 iU:Option (Nat×Nat)
 qn:Nat
 outs:List dr
 e0:List (Nat×aV D)
 kJ:List ResultVar
 flat:Bool
def lC:Nat:=1000000
def ko:Nat->List ResultVar->List Nat
 |_,[]=>[]
 |n, .tmp d::rs=>d::ko (n+1) rs
 |n, .cell _ _::rs=>n::ko (n+1) rs
def ff.ev {D:Nat->Type} (d:ff D):List Nat:=ko lC d.kJ
noncomputable section
section
variable {P:atb} {D:Nat->Type}
def PL (P:atb) (t:Nat) (a:aV D) (O:List (aR D)):Option (aV D):=
 match a with
 | .box i off=>
  match O[i]? with
  |some (.box _ cs _ _)=>m4 (P:=P) t cs off as4
  |some (.recv _ cs _)=>m4 (P:=P) t cs off as4
  |_=>as6
 |_=>as6
def u9 (P:atb) (E:List (Nat×aV D)) (O:List (aR D)):Nat->List ResultVar->Option (List (Nat×aV D))
 |_,[]=>as4 []
 |n, .tmp d::rs=>if aty d lC=as5 then u9 P E O (n+1) rs else as6
 |n, .cell a t::rs=>match PL P t (eh E a) O,u9 P E O (n+1) rs with|some V,as4 l=>as4 ((n,V)::l)|_,_=>as6
def nO (D:Nat->Type):Option (Nat×Nat)->Type
 |none=>Unit
 |some p=>D p.2
def ff.F (d:ff D):Type:=nO D d.iU->eA D d.ins->Option (j4 D d.outs)
variable (X:et P D)
def rJ:(c:Option (Nat×Nat))->nO D c->List (aR D)
 |none,_=>[]
 |some p,x=>[.recv p.2 (ib X p.2 x) as9]
def ql:Option (Nat×Nat)->List (Nat×aV D)
 |none=>[]
 |some p=>[(p.1, .box 0 0)]
def qo (d:ff D):List Nat:=match d.iU with|none=>[]|some _=>[d.qn]
def ff.dB (d:ff D):l3 D:=⟨.ret,d.outs,d.e0⟩
@[irreducible] def eL:Nat:=1000000000
def p7 (e0:List (Nat×aV D)) (b i:Nat):Bool:=aty i 63&&(match eh e0 (b+1+i) with| .c (.own _)=>as5|_=>as9)
def rU (e0:List (Nat×aV D)) (zs:List (bY D)) (b:Nat):Nat->List (bY D)->List (bY D)
 |_,[]=>[]
 |i,c::cs=>(if p7 e0 b i=as5 then zs.getD i .gS else c)::rU e0 zs b (i+1) cs
def LZ (E:List (Nat×aV D)) (n:Nat):aV D:=
 if ath (n%64) 0=as5 then .un else
 match eh E (n / 64) with
 | .agg _ cs=>(match cs[n%64 - 1]? with|some c=> .c c|none=> .un)
 |_=> .un
def vL (E:List (Nat×aV D)):List (Nat×aV D)->List (Nat×aV D)
 |[]=>[]
 |p::l=>if atn eL p.1=as5 then (p.1,LZ E (p.1 - eL))::vL E l else vL E l
def sd (e0 E:List (Nat×aV D)):List dr->Option (List (Nat×aV D))
 |[]=>as4 []
 | .v s c::aG=>
  if atn eL s=as5 then
   if ath ((s - eL)%64) 0=as5 then
    match eh E ((s - eL) / 64) with
    | .agg t cs=>(match sd e0 E aG with|some l=>as4 ((s, .agg t (rU e0 (mD X t) s 0 cs))::l)|none=>as6)
    |_=>as6
   else as6
  else sd e0 E aG
 | .o _ _::aG=>sd e0 E aG
 | .u _ _::aG=>sd e0 E aG
def tK:List dr->Bool
 |[]=>as9
 | .v s _::aG=>atn eL s||tK aG
 |_::aG=>tK aG
def Zw (d:ff D) (ex:eS) (E:List (Nat×aV D)) (O:List (aR D)):Option (j4 D d.outs):=
 if ex= .normal\/ex= .ret then as8 (u9 P E O lC d.kJ) fun l=>
  if tK d.outs=as5 then
   if ((l++E).all (fun p=>aty p.1 eL)&&d.ev.all fun x=>aty x eL)=as5 then
    as8 (sd X d.e0 (l++E) d.outs) fun yG=>u5 X (qo d).length (qo d) d.dB (yG++(vL (l++E) d.e0++(l++E))) O
   else as6
  else u5 X (qo d).length (qo d) d.dB (l++E) O
 else as6
def P3 (b:Bool) (s:aV D) (c:bY D):bY D:=match b,s with|true, .c (.own n)=> .own n|_,_=>c
def rk (E:List (Nat×aV D)) (b:Nat):Nat->List (bY D)->List (bY D)
 |_,[]=>[]
 |i,c::cs=>P3 (aty i 63) (eh E (b+1+i)) c::rk E b (i+1) cs
def yD (hW qD:List (Nat×aV D)):List Nat->List (Nat×aV D)
 |[]=>[]
 |d::ds=>match eh hW (eL+64*d) with| .agg t cs=>(d, .agg t (rk qD (eL+64*d) 0 cs))::yD hW qD ds|_=>yD hW qD ds
def Dd (outs:List dr) (e0:List (Nat×aV D)) (fr:Nat->as7):Prop:=∀d t,dr.v (eL+64*d) (.agg t)∈outs->∃vH ds:List as7,fr (eL+64*d)= .agg vH.toArray/\fr d= .agg ds.toArray/\ds.length=vH.length/\
 ∀(i:Nat) (w:as7),ds[i]? =as4 w->if p7 e0 (eL+64*d) i=as5 then fr (eL+64*d+1+i)=w else vH[i]? =as4 w
def w9 (hW qD:List (Nat×aV D)) (ev:List Nat):List (Nat×aV D):=yD hW qD ev++(hW++qD)
def jK:Nat->List (aV D)->List (Nat×aV D)
 |_,[]=>[]
 |i,s::l=>(i,s)::jK (i+1) l
def JI (E:List (Nat×aV D)):List Nat->Option (List (bY D⊕(Nat×List (bY D))))
 |[]=>as4 []
 |d::ds=>
  match eh E d,JI E ds with
  | .c c,as4 l=>as4 (.inl c::l)
  | .agg t cs,as4 l=>as4 (.inr (t,cs)::l)
  |_,_=>as6
def u7 (E:List (Nat×aV D)):List Nat->Option (aV D)
 |[d]=>as4 (eh E d)
 |ds=>match JI E ds with|some l=>as4 (.nb l)|none=>as6
def zL:bY D->Option as7
 | .int k n=>as4 (.int k n)
 | .bool b=>as4 (.bool b)
 | .str s=>as4 (ay.str s)
 |_=>as6
def u2:List (bY D)->Option (List as7)
 |[]=>as4 []
 |c::cs=>match zL c,u2 cs with|some v,as4 l=>as4 (v::l)|_,_=>as6
def rE:List (bY D⊕(Nat×List (bY D)))->Option (List as7)
 |[]=>as4 []
 | .inl c::l=>(match zL c,rE l with|some v,as4 vs=>as4 (v::vs)|_,_=>as6)
 | .inr p::l=>(match u2 p.2,rE l with|some ds,as4 vs=>as4 (.agg ds.toArray::vs)|_,_=>as6)
def zM:aV D->Option as7
 | .c c=>zL c
 | .agg _ cs=>(match u2 cs with|some ds=>as4 (.agg ds.toArray)|none=>as6)
 | .nb l=>(match rE l with|some vs=>as4 (.tuple vs.toArray)|none=>as6)
 |_=>as6
def w7 (t:Nat):Option (aR D)->Option (D t)
 |some (.box dZ cs as9 _)=>if dZ=t then kT X t cs else as6
 |some (.recv dZ cs _)=>if dZ=t then kT X t cs else as6
 |_=>as6
def Cg (t:Nat) (cs:List (bY D)):aR D->aR D
 | .box _ _ _ _=> .box t cs as9 as5
 |_=> .recv t cs as5
def qh:List dr->Bool
 |[]=>as5
 | .o _ (.recv _)::_=>as9
 | .o _ _::aG=>qh aG
 | .v _ c::aG=>c.wi&&qh aG
 | .u _ _::aG=>qh aG
def uj (i N j:Nat):Nat:=if ath j 0=as5 then i else N+(j - 1)
def Gg (outs:List dr) (e0:List (Nat×aV D)) (ev:List Nat) (flat:Bool) (qn:Nat) (cp:List (aV D)) (O b2:List (aR D)) {af:Type} (K:aV D->List (aR D)->Option af):(iU:Option (Nat×Nat))->(nO D iU->Option (j4 D outs))->Option af
 |none,G=>
  as8 (G ()) fun y=>
   match u7 (w9 (gu X outs (fs _ y)) (e0.map fun q=>(q.1,ps (fun j=>b2.length+j) q.2)) ev) ev with
   |some df=>if flat=as5 then (match zM df with|some _=>K df O|none=>as6) else K df (b2++mkOr X (fun j=>b2.length+j) outs (fs _ y))
   |none=>as6
 |some p,G=>
  match eh (jK 0 cp) p.1 with
  | .box i 0=>
   match b2[i]? with
   |some o=>
    as8 (w7 X p.2 (as4 o)) fun r=>
    as8 (G r) fun y=>
     match u7 (w9 (gu X outs (fs _ y)) (e0.map fun q=>(q.1,ps (uj i b2.length) q.2)) ev) ev with
     |some df=>
      if qn=2 then
       match jd X uc outs (fs _ y) 0 with
       | .recv t cs _=>if t=p.2 then K df (b2.set i (Cg p.2 cs o)++mkOr X (uj i b2.length) outs (fs _ y)) else as6
       |_=>as6
      else if qn=1 then (if o.clean=as5 then K df (b2++mkOr X (uj i b2.length) outs (fs _ y)) else K df (b2.set i (Cg p.2 (ib X p.2 r) o)++mkOr X (uj i b2.length) outs (fs _ y))) else as6
     |none=>as6
   |none=>as6
  |_=>as6
def ff.call (d:ff D) (F:d.F) (cp:List (aV D)) (O:List (aR D)) {af:Type} (K:aV D->List (aR D)->Option af):Option af:=
 if ath cp.length d.np=as5 then
  match oU (jK 0 cp) d.ins O with
  |some (jW,b2)=>
   if (d.fx.all fun p=>sh [] p.2 (eh (jK 0 cp) p.1))=as5 then
    match fP X [] b2 d.ins jW [] with
    |some x=>Gg X d.outs d.e0 d.ev d.flat d.qn cp O b2 K d.iU fun r=>F r x
    |none=>as6
   else as6
  |none=>as6
 else as6
end
section
variable {P:atb} {D:Nat->Type} {X:et P D} {z cv cT:Nat->bm} {e m bx:Mem} {k q:Option Nat} {vs:List as7} {fr:Nat->as7} {E:List (Nat×aV D)} {O bW:List (aR D)}
theorem bC.call (h:bC X.G O cv e m k vs) (a4:dt m.next cv cT) (s:fD m bx q) (aM:dp cT e bx k) (ax:bW.length=O.length)
  (an:∀(j:Nat) (o':aR D),bW[j]? =as4 o'->(O[j]? =as4 o'/\(o'.live=as5->∀v,vs[j]? =as4 v->eB (dy v) q))\/(∃o,O[j]? =as4 o/\o.live=as5/\∀v,vs[j]? =as4 v->gz X.G cT e bx k vs o' v)):bC X.G bW cT e bx k vs where
 aM:=aM
 len:=by rw[ax];exact h.len
 obj:=fun j o' v a0 ab=>by
  rcases an j o' a0 with ⟨U,aa⟩|⟨o,U,aa,ao⟩
  ·have cn:=h.obj j o' v U ab;cases cV:o'.live with
   |false=>exact cn.frozen cV a4.le fun _ _ h=>h
   |true=>exact (cn.same s (fun _=>aa cV v ab) fun _ _ h=>h).iF a4.le (fun _ b ag=>a4.low b (cn.lt cV b ag).1) fun _ b j L t ag=>a4.low b (h.aM.bi b (by grind)).2
  grind
 e3:=fun a b o p v w kf aY ag jb kn ab hw=>by
  have key:∀(j:Nat) (o':aR D),bW[j]? =as4 o'->o'.live=as5->∃o,O[j]? =as4 o/\o.live=as5:=by
   grind
  obtain ⟨pb,aU,aO⟩:=key a o aY jb;obtain ⟨mm,bT,cP⟩:=key b p ag kn;exact h.e3 a b pb mm v w kf aU bT aO cP ab hw
theorem bC.aa9 {N:List (aR D)} {dI:List as7} {UU:Nat} (h:bC X.G O z e m k vs) (ax:dI.length=N.length)
  (bS:∀(j:Nat) (o:aR D) (v:as7),O[j]? =as4 o->vs[j]? =as4 v->o.live=as5->∀b,dy v=as4 b->b<UU)
  (a2:∀(j:Nat) (o:aR D) (v:as7),N[j]? =as4 o->dI[j]? =as4 v->gz X.G z e m k (vs++dI) o v/\∀b,dy v=as4 b->UU<=b)
  (aY:∀(i j:Nat) (o p:aR D) (v w:as7),i≠j->N[i]? =as4 o->N[j]? =as4 p->dI[i]? =as4 v->dI[j]? =as4 w->eB (dy v) (dy w)):bC X.G (O++N) z e m k (vs++dI):=by
 have cs:∀(j:Nat) (o:aR D) (v:as7),(O++N)[j]? =as4 o->(vs++dI)[j]? =as4 v->(j<O.length/\O[j]? =as4 o/\vs[j]? =as4 v)\/(O.length<=j/\N[j - O.length]? =as4 o/\dI[j - O.length]? =as4 v):=by
  intro j o v an ab;by_cases a0:j<O.length
  ·rw[atN a0] at an;rw[atN (by rw[h.len];grind)] at ab
   grind
  ·rw[atM (by omega)] at an;rw[atM (by rw[h.len];omega),h.len] at ab
   grind
 refine ⟨h.aM,by rw[aua,aua,h.len,ax],fun j o v an ab=> ?_,fun i j o p v w gP an aL bD b4 ab hw=> ?_⟩
 ·rcases cs j o v an ab with ⟨_,U,aa⟩|⟨_,U,aa⟩
  ·exact (h.obj j o v U aa).same (m':=m) (q:=as6) ⟨atk _,h.aM.dead,fun _ _ _=>rfl⟩ (fun _=>eB.nH) iS
  grind
 ·have mix:∀(i j:Nat) (o p:aR D) (v w:as7),O[i]? =as4 o->vs[i]? =as4 v->o.live=as5->N[j]? =as4 p->dI[j]? =as4 w->eB (dy v) (dy w):=by
   intro i j o p v w an ab bD aL hw b ag ej
   grind
  rcases cs i o v an ab with ⟨_,U,aa⟩|⟨_,U,aa⟩
  ·rcases cs j p w aL hw with ⟨_,ao,aN⟩|⟨_,ao,aN⟩
   ·exact h.e3 i j o p v w gP U ao bD b4 aa aN
   grind
  ·rcases cs j p w aL hw with ⟨_,ao,aN⟩|⟨_,ao,aN⟩
   ·exact (mix j _ p o w v ao aN b4 U aa).symm
   grind
theorem Fx:∀{aG:List dr} {x:eA D aG} {q:vx D},qh aG=as5->q∈cos aG x->∀t,q.c≠ .recv t
 |[],_,_,_,h=>by grind [cos]
 | .v d c::aG,x,o,a2,h=>Fx (aG:=aG) (x:=x.2) (auG.1 a2).2 h
 | .u d c::aG,x,o,a2,h=>Fx (aG:=aG) (x:=x.2) a2 h
 | .o d c::aG,x,o,a2,h=>by
  simp only[cos,ats] at h;have oh:(∀t,c≠ .recv t)/\qh aG=as5:=by
   cases c with
   |recv t=>cases a2
   |_=>exact ⟨fun t h=>(by grind),a2⟩
  rcases h with rfl|h
  ·grind
  ·exact Fx (aG:=aG) (x:=x.2) oh.2 h
theorem born {c:bV} {x:c.ty D} {w:Bool} {v:as7} {kk:Option Nat} {ck:Nat->Nat} (ah:∀t,c≠ .recv t) (he:e.next<=m.next) (h:gz X.G z m bx kk vs (bV.gh X ck c x w) v):gz X.G z e bx k vs (bV.gh X ck c x w) v/\∀b,dy v=as4 b->m.next<=b:=by
 cases c with
 |recv t=>grind
 |bM t l=>obtain ⟨b,ds,rfl,U,aa,ao⟩:=h;exact ⟨⟨b,ds,rfl,⟨U.aS,U.lt,U.dead, .inl (atx he aa)⟩,atx he aa,ao⟩,fun c ah=>by cases ah;grind⟩
 |se t f is=>obtain ⟨b,ds,rfl,U,aa,ao⟩:=h;exact ⟨⟨b,ds,rfl,⟨U.aS,U.lt,U.dead, .inl (atx he aa)⟩,atx he aa,ao⟩,fun c ah=>by cases ah;grind⟩
 |ae t=>have h:dL (X.G.T t) z m bx kk x v:=h;refine ⟨(⟨h.bs,fun b ag=>atx he (h.fresh b ag)⟩:dL (X.G.T t) z e bx k x v), ?_⟩;rw[gE (by obtain ⟨a,c,rfl⟩:=h.bs.len;grind)];exact h.fresh
 |box t=>obtain ⟨b,ds,rfl,U,aa,ao⟩:=h;exact ⟨⟨b,ds,rfl,⟨U.aS,U.lt,U.dead, .inl (atx he aa)⟩,atx he aa,ao⟩,fun c ah=>by cases ah;grind⟩
 |arr t u n=>obtain ⟨⟨b,rfl⟩,h⟩:=h;exact ⟨⟨⟨b,rfl⟩,h.bs,fun b ag=>atx he (h.fresh b ag)⟩,fun c ah=>h.fresh c ah⟩
 |map t bh bc=>have h:iw (X.G.M t bh bc) z m bx kk x v:=h;obtain ⟨r,rfl,U,aa,ao,aN⟩:=h.bs;exact ⟨(⟨⟨r,rfl,U,aa,ao,atx he aN⟩⟩:iw (X.G.M t bh bc) z e bx k x _),fun c ah=>by cases ah;grind⟩
 |ne fb t=>obtain ⟨hu,ws,h⟩:=h;refine ⟨⟨hu,ws,⟨h.bs.bs,fun b ag=>atx he (h.bs.fresh b ag)⟩,h.len,fun j w xs U aa ao=>(h.mP j w xs U aa ao).xS he,fun p aL=>by grind⟩, ?_⟩;rw[gE (by obtain ⟨a,c,rfl⟩:=h.bs.bs.len;grind)];exact h.bs.fresh
theorem O0:∀{ev:List Nat} {l:List (bY D⊕(Nat×List (bY D)))},eK X z vs E fr->JI E ev=as4 l->bp (s3 X.G z vs) l (ev.map fr)/\∀x∈ev.map fr,storable x=as5
 |[],l,a1,h=>by cases h;exact ⟨trivial,by simp⟩
 |d::ds,l,a1,h=>by
  simp only[JI] at h;have aQ:=a1 d;split at h
  ·rename_i c rb ah ax;cases h;rw[ah] at aQ;obtain ⟨aU,aO⟩:=O0 a1 ax;refine ⟨⟨aQ,aU⟩,fun x ad=> ?_⟩;rcases ats.1 ad with rfl|ad
   ·exact (dJ.ZA aQ).1
   grind
  ·rename_i t cs rb ah ax;cases h;rw[ah] at aQ;obtain ⟨aU,aO⟩:=O0 a1 ax;refine ⟨⟨aQ,aU⟩,fun x ad=> ?_⟩;rcases ats.1 ad with rfl|ad
   ·obtain ⟨ds,aQ,_⟩:=aQ;rw[aQ];rfl
   grind
  grind
theorem OX {ev:List Nat} {df:aV D} (a1:eK X z vs E fr) (h:u7 E ev=as4 df):rel X.G z vs df (pack (ev.map fr))/\((ev.map fr).length=1\/∀x∈ev.map fr,storable x=as5):=by
 unfold u7 at h;split at h
 ·cases h;exact ⟨a1 _, .inl rfl⟩
 ·rename_i ds mM;split at h
  ·rename_i l ax;cases h;obtain ⟨aU,aO⟩:=O0 a1 ax;refine ⟨?_, .inr aO⟩;have:pack (ev.map fr)= .tuple (ev.map fr).toArray:=by
    simp_all [pack]
   rw[this];exact ⟨_,rfl,aU⟩
  grind
theorem OA {c:bY D} {v w:as7} (h:zL c=as4 w) (aF:dJ X.G z vs c v):v=w/\cQ w=as5:=by
 cases c<;>first|(cases h;done)|(cases h;exact ⟨aF,rfl⟩)
theorem OB:∀{cs:List (bY D)} {ds ws:List as7},u2 cs=as4 ws->bp (dJ X.G z vs) cs ds->ds=ws/\ws.all cQ=as5
 |[],[],_,h,_=>by cases h;grind
 |c::cs,d::ds,ws,h,⟨U,aa⟩=>by
  simp only[u2] at h;split at h
  ·rename_i v l ab ax;cases h;obtain ⟨rfl,aU⟩:=OA ab U;obtain ⟨rfl,aO⟩:=OB ax aa
   grind
  grind
 |[],_::_,_,_,h=>h.elim
 |_::_,[],_,_,h=>h.elim
theorem OC:∀{l:List (bY D⊕(Nat×List (bY D)))} {ds ws:List as7},rE l=as4 ws->bp (s3 X.G z vs) l ds->ds=ws/\ws.all iR=as5
 |[],[],_,h,_=>by cases h;grind
 | .inl c::l,d::ds,ws,h,⟨U,aa⟩=>by
  simp only[rE] at h;split at h
  ·rename_i v rb ab ax;cases h;obtain ⟨rfl,aU⟩:=OA ab U;obtain ⟨rfl,aO⟩:=OC ax aa;have:iR d=as5:=by cases d<;>first|exact aU|cases aU
   grind
  grind
 | .inr p::l,d::ds,ws,h,⟨⟨cs,bg,U⟩,aa⟩=>by
  simp only[rE] at h;split at h
  ·rename_i v rb ab ax;cases h;obtain ⟨rfl,aU⟩:=OB ab U;obtain ⟨rfl,aO⟩:=OC ax aa;subst bg;exact ⟨rfl,by simp only[atX,aO,Bool.and_true];exact aU⟩
  grind
 |[],_::_,_,_,h=>h.elim
 |_::_,[],_,_,h=>h.elim
theorem aiI {s:aV D} {v w:as7} (h:zM s=as4 w) (aF:rel X.G z vs s v):v=w/\ay.flat w=as5:=by
 unfold zM at h;split at h
 ·obtain ⟨rfl,g⟩:=OA h aF;refine ⟨rfl, ?_⟩;cases v<;>first|exact g|cases g
 ·split at h
  ·rename_i ds aQ;cases h;obtain ⟨es,rfl,aa⟩:=aF;obtain ⟨rfl,g⟩:=OB aQ aa;exact ⟨rfl,g⟩
  grind
 ·split at h
  ·rename_i ws aQ;cases h;obtain ⟨es,rfl,aa⟩:=aF;obtain ⟨rfl,g⟩:=OC aQ aa;exact ⟨rfl,g⟩
  grind
 grind
def JB:Option (Nat×Nat)->List dr
 |none=>[]
 |some p=>[.o p.1 (.recv p.2)]
def Qc:(c:Option (Nat×Nat))->nO D c->eA D (JB c)
 |none,_=>()
 |some _,r=>(r,())
theorem agy (c:Option (Nat×Nat)) (r:nO D c):eu X (JB c) (Qc c r)=rJ X c r:=by cases c<;>rfl
theorem apG {c:Option (Nat×Nat)} {r:nO D c} {n:Nat}:(match c with|none=>[]|some _=>[n]).length=(rJ X c r).length:=by cases c<;>rfl
theorem aoC {d:ff D} {r:nO D d.iU}:(rJ X d.iU r).length=(qo d).length:=by
 unfold qo;rw[<-apG (X:=X) (r:=r) (n:=d.qn)]
def apC (X:et P D) (d:ff D) (r:nO D d.iU) (y:j4 D d.outs) (z:Nat->bm) (m:Mem) (kk:Option Nat) (dc:List as7) (ex:eS) (bA:Nat->as7) (bx:Mem):Prop:=
 (ex= .normal\/ex= .ret)/\∃hl,oy P bA bx d.kJ (d.ev.map hl)/\∃cT dI,dt m.next z cT/\bC X.G (j7 X (qo d) (rJ X d.iU r) d.outs (fs _ y)) cT m bx kk (dc++dI)/\(∀q∈gu X d.outs (fs _ y)++d.e0,rel X.G cT (dc++dI) q.2 (hl q.1))/\Dd d.outs d.e0 hl
def C4 (X:et P D) (B:Code) (d:ff D) (F:d.F):Prop:=∀(r:nO D d.iU) (x:eA D d.ins) (y:j4 D d.outs) {z:Nat->bm} {m:Mem} {kk:Option Nat} {dc:List as7} {fr:Nat->as7},
 F r x=as4 y->bC X.G (rJ X d.iU r) z m m kk dc->eK X z dc (gu X d.ins x++(d.fx++ql d.iU)) fr->W P B (apC X d r y z m kk dc) fr m
theorem aih {t:Nat} {a:aV D} {V:aV D} {v:as7} (aw:bC X.G O z e m k vs) (aY:rel X.G z vs a v) (h:PL P t a O=as4 V):∃b off w,v= .pointer (as4 ⟨b,off,as6⟩)/\rel X.G z vs V w/\∃d,P.underlying t=as4 d/\
  (if jz d=as5 then ∃i cs,P.info? t=as4 i/\fK m b off i.size=as4 cs/\w= .agg cs.toArray else m.load b off=as4 w):=by
 have fin:∀{b n:Nat} {cs:List (bY D)} {ds:List as7},(∀(j:Nat) (w:as7),ds[j]? =as4 w->m.load b (0+j)=as4 w)->bp (dJ X.G z vs) cs ds->m4 (P:=P) t cs n as4=as4 V->∃w,rel X.G z vs V w/\∃d,P.underlying t=as4 d/\(if jz d=as5 then ∃i cs,P.info? t=as4 i/\fK m b n i.size=as4 cs/\w= .agg cs.toArray else m.load b n=as4 w):=by
  intro b n cs ds ah aF h;unfold m4 at h;split at h
  ·grind
  ·rename_i d aQ;split at h
   ·rename_i pS;split at h
    ·grind
    ·rename_i i aj;split at h
     ·rename_i hlen;cases h;have lf:bp (dJ X.G z vs) ((cs.drop n).take i.size) ((ds.drop n).take i.size):=bp.take _ (bp.drop _ aF);have j1:((ds.drop n).take i.size).length=i.size:=by rw[<-lf.length];grind
      refine ⟨.agg ((ds.drop n).take i.size).toArray,⟨_,rfl,lf⟩,d,aQ, ?_⟩
      grind [F4]
     grind
   ·rename_i pS;split at h
    ·rename_i c h3;cases h;obtain ⟨w,hw,yy⟩:=aF.get n c h3;refine ⟨w,yy,d,aQ, ?_⟩
     grind
    grind
 unfold PL at h;split at h
 ·rename_i i off;obtain ⟨b,ab,ad⟩:=aY;split at h
  ·rename_i u cs bi dk bN;have cn:=aw.obj i _ _ bN ab;cases bi with
   |true=>
    obtain ⟨cR,ds,he,ah,aF⟩:=cn;cases he;obtain ⟨w,U,aa⟩:=fin (b:=b) (aw.aM.rc ah) aF h
    grind
   |false=>
    obtain ⟨cR,ds,he,ag,_,aF⟩:=cn;cases he;obtain ⟨w,U,aa⟩:=fin (b:=b) ag.rc aF h
    grind
  ·rename_i u cs dk bN;obtain ⟨cR,ds,he,ag,aF⟩:=aw.obj i _ _ bN ab;cases he;obtain ⟨w,U,aa⟩:=fin (b:=b) ag.rc aF h
   grind
  grind
 grind
theorem Ps:∀{rs:List ResultVar} {n:Nat} {l:List (Nat×aV D)},u9 P E O n rs=as4 l->∀x∈ko n rs,x<lC\/n<=x
 |[],n,l,_,x,ad=>by grind [ko]
 | .tmp d::rs,n,l,h,x,ad=>by
  obtain ⟨U,aa⟩:=fJ h;simp only[ko,ats] at ad;rcases ad with rfl|ad
  ·simp_all
  ·rcases Ps aa x ad with h|h
   ·grind
   grind
 | .cell a t::rs,n,l,h,x,ad=>by
  simp only[u9] at h;split at h
  ·rename_i V lk _ aa;simp only[ko,ats] at ad;rcases ad with rfl|ad
   ·grind
   ·rcases Ps aa x ad with h|h
    ·grind
    grind
  grind
theorem Pt (aw:bC X.G O z e m k vs) (a1:eK X z vs E fr):∀{rs:List ResultVar} {n:Nat} {l:List (Nat×aV D)},lC<=n->u9 P E O n rs=as4 l->∃hl,(∀d,d<n->hl d=fr d)/\eK X z vs (l++E) hl/\oy P fr m rs ((ko n rs).map hl)
 |[],n,l,_,h=>by cases h;exact ⟨fr,fun _ _=>rfl,a1,trivial⟩
 | .tmp d::rs,n,l,a2,h=>by
  obtain ⟨U,aa⟩:=fJ h;have aQ:d<lC:=by simp_all
  obtain ⟨hl,aU,aO,bT⟩:=Pt aw a1 (Nat.le_succ_of_le a2) aa;exact ⟨hl,fun d aQ=>aU d (Nat.lt_succ_of_lt aQ),aO,aU d (Nat.lt_succ_of_lt (atu aQ a2)),bT⟩
 | .cell a t::rs,n,l,a2,h=>by
  simp only[u9] at h;split at h
  ·rename_i V lk U aa;cases h;obtain ⟨hl,aU,aO,bT⟩:=Pt aw a1 (Nat.le_succ_of_le a2) aa;obtain ⟨b,off,w,dk,g2,my⟩:=aih aw (a1 a) U;refine ⟨fun i=>if i=n then w else hl i,fun d aQ=> ?_,fun i=> ?_, ?_⟩
   ·grind
   ·show rel X.G z vs (eh ((n,V)::(lk++E)) i) (if i=n then w else hl i);simp only[eh];split
    ·simp_all
    ·rename_i aj;rw[if_neg (by rintro rfl;simp_all)];exact aO i
   ·have hm:(ko (n+1) rs).map (fun i=>if i=n then w else hl i)=(ko (n+1) rs).map hl:=by
     apply avR;intro x ad;rw[if_neg];rintro rfl;rcases Ps aa _ ad with h|h<;>omega
    refine ⟨⟨b,off,dk, ?_⟩, ?_⟩
    ·grind
    grind
  grind
theorem Wy {e0:List (Nat×aV D)} {zs:List (bY D)} {b:Nat}:∀{cs:List (bY D)} {i0 i:Nat},(rU e0 zs b i0 cs)[i]? =(cs[i]?).map fun c=>if p7 e0 b (i0+i)=as5 then zs.getD (i0+i) .gS else c
 |[],i0,i=>by simp[rU]
 |c::cs,i0,0=>by simp[rU]
 |c::cs,i0,i+1=>by simp only[rU,auo];rw[Wy (cs:=cs),show i0+1+i=i0+(i+1) by omega]
theorem Wz {e0:List (Nat×aV D)} {zs:List (bY D)} {b:Nat}:∀{cs:List (bY D)} {i0:Nat},(rU e0 zs b i0 cs).length=cs.length
 |[],_=>rfl
 |c::cs,i0=>by simp[rU,Wz (cs:=cs)]
theorem eK.app {A:List (Nat×aV D)} (a1:eK X z vs E fr) (h:∀p∈A,rel X.G z vs p.2 (fr p.1)):eK X z vs (A++E) fr:=by
 induction A with
 |nil=>exact a1
 |cons p A aq=>exact (aq fun q bb=>h q (atC _ bb)).cons (h p atU)
theorem O5 {n:Nat}:∀{E:List (Nat×aV D)},(E.all fun p=>aty p.1 n)=as5->∀s,n<=s->eh E s= .un
 |[],_,s,_=>rfl
 |p::E,h,s,aE=>by
  simp only[atX,ati] at h;have U:p.1<n:=by simpa[avv] using h.1
  simp only[eh];rw[if_neg (by simp;omega)];exact O5 h.2 s aE
theorem y2 {e0:List (Nat×aV D)}:∀{aG:List dr} {l:List (Nat×aV D)},sd X e0 E aG=as4 l->(∀p∈l,eL<=p.1/\(p.1 - eL)%64=0/\∃t cs,eh E ((p.1 - eL) / 64)= .agg t cs/\p.2= .agg t (rU e0 (mD X t) p.1 0 cs))/\
  ∀s c,dr.v s c∈aG->eL<=s->∃t cs,eh E ((s - eL) / 64)= .agg t cs
 |[],l,h=>by cases h;exact ⟨by simp,by simp⟩
 | .o _ _::aG,l,h=>by obtain ⟨aU,aO⟩:=y2 (aG:=aG) h;exact ⟨aU,fun s c hm=>aO s c (by simpa using hm)⟩
 | .u _ _::aG,l,h=>by obtain ⟨aU,aO⟩:=y2 (aG:=aG) h;exact ⟨aU,fun s c hm=>aO s c (by simpa using hm)⟩
 | .v je pM::aG,l,h=>by
  simp only[sd] at h;split at h
  ·rename_i hle;obtain ⟨Uw,h⟩:=fJ h;split at h
   ·rename_i t cs og;split at h
    ·rename_i rb U;cases h;obtain ⟨aU,aO⟩:=y2 (aG:=aG) U;refine ⟨fun p aL=> ?_,fun s c hm aE=> ?_⟩
     ·rcases ats.1 aL with rfl|aL
      ·exact ⟨ato hle,atl Uw,t,cs,og,rfl⟩
      ·exact aU p aL
     ·rcases ats.1 hm with hm|hm
      ·cases hm;exact ⟨t,cs,og⟩
      ·exact aO s c hm aE
    ·cases h
   ·cases h
  ·rename_i hle;obtain ⟨aU,aO⟩:=y2 (aG:=aG) h;refine ⟨aU,fun s c hm aE=> ?_⟩;rcases ats.1 hm with hm|hm
   ·cases hm;exact absurd (Nat.ble_eq_true_of_le aE) hle
   ·exact aO s c hm aE
theorem Oz:∀{l:List (Nat×aV D)},∀p∈vL E l,eL<=p.1/\p.2=LZ E (p.1 - eL)
 |[],p,h=>by cases h
 |q::l,p,h=>by
  simp only[vL] at h;split at h
  ·rename_i hle;rcases ats.1 h with rfl|h
   ·exact ⟨ato hle,rfl⟩
   ·exact Oz p h
  ·exact Oz p h
theorem apn {e0:List (Nat×aV D)} {outs:List dr} {yG:List (Nat×aV D)} (a1:eK X z vs E fr) (lK:(E.all fun p=>aty p.1 eL)=as5) (h:sd X e0 E outs=as4 yG):
  ∃oT,(∀s,s<eL->oT s=fr s)/\eK X z vs (yG++(vL E e0++E)) oT/\Dd outs e0 oT:=by
 obtain ⟨bx,p6⟩:=y2 h
 let ZC:Nat->Nat:=fun s=>match eh E s with| .agg t _=>t|_=>0
 let oT:Nat->as7:=fun s=>if s<eL then fr s else match fr ((s - eL) / 64) with
  | .agg ds=>if (s - eL)%64=0 then .agg ((atW ds.toList.length).map fun i=>if p7 e0 s i=as5 then avQ (F1 (X:=X) (t:=ZC ((s - eL) / 64)) i) else ds.toList.getD i undef).toArray else ds.toList.getD ((s - eL)%64 - 1) undef
  |v=>v
 have o0:∀s,s<eL->oT s=fr s:=fun s aE=>if_pos aE;have D6:∀s t cs,eL<=s->eh E ((s - eL) / 64)= .agg t cs->∃ds:List as7,fr ((s - eL) / 64)= .agg ds.toArray/\bp (dJ X.G z vs) cs ds/\
   oT s=if (s - eL)%64=0 then .agg ((atW ds.length).map fun i=>if p7 e0 s i=as5 then avQ (F1 (X:=X) (t:=t) i) else ds.getD i undef).toArray else ds.getD ((s - eL)%64 - 1) undef:=by
  intro s t cs aE ax;have aF:=a1 ((s - eL) / 64);rw[ax] at aF;obtain ⟨ds,U,aa⟩:=aF;refine ⟨ds,U,aa, ?_⟩;show (if s<eL then _ else _)=_;rw[if_neg (by omega)];simp only[U,ZC,ax]
 have abW:eK X z vs E oT:=fun s=>by
  by_cases aE:s<eL
  ·rw[o0 s aE];exact a1 s
  ·rw[O5 lK s (by omega)];trivial
 refine ⟨oT,o0,(abW.app fun p aL=> ?_).app fun p aL=> ?_,fun d t hm=> ?_⟩
 ·obtain ⟨U,aa⟩:=Oz p aL;rw[aa];unfold LZ;split
  ·trivial
  ·rename_i bg;split
   ·rename_i t cs ax;obtain ⟨ds,_,aO,bT⟩:=D6 p.1 t cs U ax;split
    ·rename_i c ah;obtain ⟨w,hw,aF⟩:=aO.get _ c ah;rw[bT,if_neg (by intro bJ;rw[bJ] at bg;exact bg rfl)];have yp:ds.getD ((p.1 - eL)%64 - 1) undef=w:=by simp[List.getD,hw]
     rw[yp];exact aF
    ·trivial
   ·trivial
 ·obtain ⟨U,aa,t,cs,ax,aN⟩:=bx p aL;obtain ⟨ds,_,aO,bT⟩:=D6 p.1 t cs U ax;rw[aN,bT,if_pos aa];have hlen:=(j5.1 aO).1;refine ⟨_,rfl,j5.2 ⟨by rw[Wz];simp[hlen],fun i a b aY ag=> ?_⟩⟩;rw[Wy] at aY;obtain ⟨g5,bg,aY⟩:=auU.1 aY;rw[atB] at aY;have aj:i<ds.length:=by rw[<-hlen];exact (atp.1 bg).1
  rw[aub,List.getElem?_range aj] at ag;have ag:=atj.inj ag;dsimp only at ag;by_cases an:p7 e0 p.1 i=as5
  ·rw[if_pos an] at aY ag;subst aY ag;exact Classical.choose_spec (F1 (X:=X) (t:=t) i) z vs
  ·rw[if_neg an] at aY ag;subst aY ag;exact (j5.1 aO).2 i g5 _ bg (by simp[List.getD,atS aj])
 ·obtain ⟨dZ,cs,ax⟩:=p6 _ _ hm (by omega);obtain ⟨ds,aU,aO,bT⟩:=D6 (eL+64*d) dZ cs (by omega) ax;have bt:(eL+64*d - eL) / 64=d:=by omega
  have e2:(eL+64*d - eL)%64=0:=by omega
  rw[if_pos e2] at bT;rw[bt] at aU ax;have aQ:d<eL:=by
   rcases Nat.lt_or_ge d eL with bS|gK
   ·exact bS
   ·rw[O5 lK d gK] at ax;cases ax
  refine ⟨_,ds,bT,by rw[o0 d aQ];exact aU,by simp,fun i w hw=> ?_⟩;have aj:=(atp.1 hw).1;split
  ·rename_i an;have D2:i<63:=by
    unfold p7 at an;simp only[ati] at an;simpa[avv] using an.1
   obtain ⟨lG,b5,_,eH⟩:=D6 (eL+64*d+1+i) dZ cs (by omega) (by rw[show (eL+64*d+1+i - eL) / 64=d by omega];exact ax);rw[show (eL+64*d+1+i - eL) / 64=d by omega,aU] at b5;have b5:ds=lG:=by have:=as7.agg.inj b5;simpa using congrArg Array.toList this
   subst b5;rw[eH,if_neg (by omega),show (eL+64*d+1+i - eL)%64 - 1=i by omega];simp[List.getD,hw]
  ·rename_i an;rw[aub,List.getElem?_range aj];simp[an,List.getD,hw]
theorem C4.of (ca:hV X) {B:Code} {us:List (k1 D)} {d:ff D} {F:d.F} (q3:∀u∈us,0<u.path.length->oP X B u)
  (ek:∀r x,jD X us calm as5 [] B (gu X d.ins x++(d.fx++ql d.iU)) (rJ X d.iU r) (Zw X d)=F r x):C4 X B d F:=by
 intro r x y z m kk dc fr dQ aw a1;have h:=ek r x;rw[dQ] at h;refine (Gd ca (L:=0) q3 B as5 [] _ _ _ y (qd B) (by simp) (by simp) aw a1 h).mono ?_;rintro ex cU bx ⟨cv,jo,hW,b2,bg,U,aa,ao,aN,bI⟩;obtain ⟨ad,bI⟩:=fJ bI;obtain ⟨l,fW,eg⟩:=bind_some bI;obtain ⟨hl,dn,dz,dX⟩:=Pt ao aN (atk _) fW;have ax:(qo d).length=dc.length:=by rw[aw.len,aoC]
 rw[ax] at eg;have aF:=agy (X:=X) d.iU r;by_cases M9:tK d.outs=as5
 ·replace eg:=(if_pos M9).symm.trans eg
  obtain ⟨lK,eg⟩:=fJ eg;simp only[ati] at lK;obtain ⟨yG,ac2,eg⟩:=bind_some eg;obtain ⟨oT,iB,iP,pd⟩:=apn dz lK.1 ac2;obtain ⟨cT,dI,b5,cc,eH⟩:=zg (ks:=qo d) (ins:=JB d.iU) (x:=Qc d.iU r) (dB:=d.dB) (by rw[aF];exact bg) aa (by rw[aF];exact aw.len) ao iP eg;rw[aF] at cc;have sv:d.ev.map hl=d.ev.map oT:=avR fun x ad=>(iB x (by simpa[avv] using atq.1 lK.2 x ad)).symm;exact ⟨ad,oT,sv▸dX,cT,dI,U.trans b5,cc,eH,pd⟩
 replace eg:=(if_neg M9).symm.trans eg
 obtain ⟨cT,dI,b5,cc,eH⟩:=zg (ks:=qo d) (ins:=JB d.iU) (x:=Qc d.iU r) (dB:=d.dB) (by rw[aF];exact bg) aa (by rw[aF];exact aw.len) ao dz eg;rw[aF] at cc;refine ⟨ad,hl,dX,cT,dI,U.trans b5,cc,eH,fun L9 t hm=>absurd ?_ M9⟩;have:∀{aG:List dr},dr.v (eL+64*L9) (.agg t)∈aG->tK aG=as5:=by
  intro aG;induction aG with
  |nil=>intro h;cases h
  |cons i aG aq=>
   intro h;rcases ats.1 h with rfl|h
   ·simp[tK]
   ·have:=aq h;cases i<;>simp[tK,this]
 exact this hm
end
end
end Go.ay
end
section
namespace Go.ay
noncomputable section
section
variable {P:atb} {D:Nat->Type} {X:et P D} {z cv cT:Nat->bm} {e m bx:Mem} {k q:Option Nat} {vs:List as7} {fr:Nat->as7} {E:List (Nat×aV D)} {O bW:List (aR D)} {af:Type} {r:af}
theorem Fo:∀{l:List (aV D)} {args:List as7} {i:Nat},bp (rel X.G z vs) l args->(∀(j:Nat) (v:as7),args[j]? =as4 v->fr (i+j)=v)->eK X z vs (jK i l) fr
 |[],[],i,_,_=>fun d=>trivial
 |s::l,a::args,i,⟨U,aa⟩,bd=>by
  refine (Fo (i:=i+1) aa fun j v a0=> ?_).cons ?_
  ·rw[show i+1+j=i+(j+1) by omega];simp_all
  ·have:=bd 0 a rfl
   grind
 |[],_::_,_,h,_=>h.elim
 |_::_,[],_,h,_=>h.elim
structure Lt (P:atb) (X:et P D) (d:ff D) (F:d.F):Prop where
 ex:∃fn c,P.funcs[d.f]? =as4 fn/\qe P fn c/\kS P d.f=as5/\atn d.np fn.ntmps=as5/\fn.results.toList=d.kJ/\C4 X c d F
 new:qh d.outs=as5
 asL:(d.fx.all fun p=>rF p.2)=as5
 ap2:(d.e0.all fun p=>rF p.2)=as5
 ap3:(d.fx.all fun p=>(Ci p.2).isNone)=as5
theorem N3 {c:bY D} {w:as7} (h:zL c=as4 w):dJ X.G z vs c w/\cQ w=as5/\iR w=as5/\ay.flat w=as5:=by
 cases c<;>first|(cases h;done)|(cases h;exact ⟨rfl,rfl,rfl,rfl⟩)
theorem N4:∀{cs:List (bY D)} {ws:List as7},u2 cs=as4 ws->bp (dJ X.G z vs) cs ws/\ws.all cQ=as5
 |[],_,h=>by cases h;exact ⟨trivial,rfl⟩
 |c::cs,ws,h=>by
  simp only[u2] at h;split at h
  ·rename_i v l ab ax;cases h;obtain ⟨aU,aO,_⟩:=N3 (X:=X) (z:=z) (vs:=vs) ab;obtain ⟨bT,cP⟩:=N4 ax;exact ⟨⟨aU,bT⟩,by grind⟩
  grind
theorem N5:∀{l:List (bY D⊕(Nat×List (bY D)))} {ws:List as7},rE l=as4 ws->bp (s3 X.G z vs) l ws/\ws.all iR=as5
 |[],_,h=>by cases h;exact ⟨trivial,rfl⟩
 | .inl c::l,ws,h=>by
  simp only[rE] at h;split at h
  ·rename_i v rb ab ax;cases h;obtain ⟨aU,_,aO,_⟩:=N3 (X:=X) (z:=z) (vs:=vs) ab;obtain ⟨bT,cP⟩:=N5 ax;exact ⟨⟨aU,bT⟩,by grind⟩
  grind
 | .inr p::l,ws,h=>by
  simp only[rE] at h;split at h
  ·rename_i v rb ab ax;cases h;obtain ⟨aU,aO⟩:=N4 (X:=X) (z:=z) (vs:=vs) ab;obtain ⟨bT,cP⟩:=N5 ax;exact ⟨⟨⟨v,rfl,aU⟩,bT⟩,by simp only[atX,cP,Bool.and_true];exact aO⟩
  grind
theorem ahp {s:aV D} {w:as7} (h:zM s=as4 w):rel X.G z vs s w/\ay.flat w=as5:=by
 unfold zM at h;split at h
 ·obtain ⟨aU,_,_,aO⟩:=N3 (X:=X) (z:=z) (vs:=vs) h;exact ⟨aU,aO⟩
 ·split at h
  ·rename_i ds aQ;cases h;obtain ⟨aU,aO⟩:=N4 (X:=X) (z:=z) (vs:=vs) aQ;exact ⟨⟨ds,rfl,aU⟩,aO⟩
  grind
 ·split at h
  ·rename_i ws aQ;cases h;obtain ⟨aU,aO⟩:=N5 (X:=X) (z:=z) (vs:=vs) aQ;exact ⟨⟨ws,rfl,aU⟩,aO⟩
  grind
 grind
theorem Inv.app (O N:List (aR D)):Inv O (O++N):=⟨by simp,fun i p aj aL _ _=>by grind⟩
theorem bC.nil (aw:bC X.G O z e m k vs):bC X.G ([]:List (aR D)) z m m as6 []:=⟨dp.start aw.aM.bi aw.aM.dead,rfl,by simp,by simp⟩
theorem XI {kk:Option Nat} (h:dp cv e m k) (aa:dp cT m bx kk) (ar:∀b,kk=as4 b->e.next<=b\/k=as4 b):dp cT e bx k/\fD m bx kk:=
 ⟨⟨aa.bi,aa.dead,h.l8,atx h.next aa.next,fun b ag a2=>by
  rw[aa.kept b (atu ag h.next) (fun bJ=>by grind)];exact h.kept b ag a2⟩,⟨aa.next,aa.dead,aa.kept⟩⟩
theorem ON {ins:List dr} {fx:List (Nat×aV D)} {cp jW:List (aV D)} {b2:List (aR D)} {x:eA D ins} {dc:List as7} (a1:eK X z vs (jK 0 cp) fr) (aY:vv X z vs fr ins jW) (ag:fP X [] b2 ins jW []=as4 x)
  (ad:(fx.all fun p=>sh [] p.2 (eh (jK 0 cp) p.1))=as5):∀p∈gu X ins x++fx,rel X.G z dc p.2 (fr p.1):=by
 intro p aL;rcases atP.1 aL with aL|aL
 ·grind [w2]
 ·have au:=atq.1 ad p aL;have:=Pl (X:=X) (vs':=dc) id au (a1 p.1) (by simp)
  grind [F5]
theorem after {outs:List dr} {y:eA D outs} {n0:List (aR D)} {dc dI:List as7} {kk:Option Nat} {dK qJ:List (aR D)} {ck:Nat->Nat} (U:bC X.G dK cv e m k vs) (ao:bC X.G qJ cT e bx k vs) (bg:bC X.G (n0++eu X outs y) cT m bx kk (dc++dI)) (ax:dc.length=n0.length) (a2:qh outs=as5)
  (bS:∀(j:Nat) (o:aR D) (v:as7),qJ[j]? =as4 o->vs[j]? =as4 v->o.live=as5->∀b,dy v=as4 b->b<m.next) (aec:∀(j:Nat) (u:as7),(dc++dI)[j]? =as4 u->(vs++dI)[ck j]? =as4 u):bC X.G (qJ++mkOr X ck outs y) cT e bx k (vs++dI):=by
 have nC:(eu X outs y).length=(mkOr X ck outs y).length:=by grind [kV,sM]
 have pV:dI.length=(eu X outs y).length:=by
  have:=bg.len
  grind
 have up:∀(j:Nat) (o:aR D) (v:as7),(mkOr X ck outs y)[j]? =as4 o->dI[j]? =as4 v->∃q∈cos outs y,o=bV.gh X ck q.c q.x as9/\(n0++eu X outs y)[n0.length+j]? =as4 (bV.mk X q.c q.x as9)/\(dc++dI)[n0.length+j]? =as4 v:=by
  grind [sM,kV]
 refine ao.aa9 (pV.trans nC) bS (fun j o v an ab=> ?_) (fun i j o p v w gP an aL ab hw=> ?_)
 ·obtain ⟨q,bb,rfl,aU,aO⟩:=up j o v an ab;have cn:=bg.obj _ _ v aU aO;exact born (Fx a2 bb) U.aM.next (bV.wh (l1:=ck) (vs':=vs++dI) as9 cn fun n _ u hu=>aec n u hu)
 ·obtain ⟨q,bb,rfl,aU,aO⟩:=up i o v an ab;obtain ⟨iC,adE,rfl,bT,cP⟩:=up j p w aL hw;exact bg.e3 _ _ _ _ v w (by omega) aU bT bV.sA bV.sA aO cP
theorem Fy:∀{aG:List dr},qh aG=as5->∀d c,dr.v d c∈aG->c.wi=as5
 | .v d c::aG,h,pO,bP,hm=>by
  have h:=auG.1 h;rcases ats.1 hm with he|hm
  ·grind
  ·exact Fy (aG:=aG) h.2 pO bP hm
 | .u d c::aG,h,pO,bP,hm=>by
  rcases ats.1 hm with he|hm
  ·grind
  ·exact Fy (aG:=aG) h pO bP hm
 | .o d c::aG,h,pO,bP,hm=>by
  rcases ats.1 hm with he|hm
  ·grind
  ·refine Fy (aG:=aG) ?_ pO bP hm;cases c<;>first|exact h|cases h
theorem FI:∀{aG:List dr} {x:eA D aG} {p:Nat×aV D},p∈gu X aG x->∃c y,dr.v p.1 c∈aG/\p.2=gl.mk X c y
 |[],_,_,h=>by simp[gu] at h
 | .o d c::aG,x,p,h=>by obtain ⟨bP,y,U,aa⟩:=FI (aG:=aG) (x:=x.2) h;exact ⟨bP,y,atC _ U,aa⟩
 | .u d c::aG,x,p,h=>by obtain ⟨bP,y,U,aa⟩:=FI (aG:=aG) (x:=x.2) h;exact ⟨bP,y,atC _ U,aa⟩
 | .v d c::aG,x,p,h=>by
  rcases ats.1 h with rfl|h
  ·exact ⟨c,x.1,atU,rfl⟩
  ·obtain ⟨bP,y,U,aa⟩:=FI (aG:=aG) (x:=x.2) h;exact ⟨bP,y,atC _ U,aa⟩
theorem O6:∀{E:List (Nat×aV D)} {s:Nat} {v:aV D},eh E s=v->v≠ .un->(s,v)∈E
 |[],_,_,h,a2=>absurd h.symm a2
 |p::E,s,v,h,a2=>by
  simp only[eh] at h;split at h
  ·rename_i aE;have:=atl aE;subst h this;exact atU
  ·exact atC _ (O6 h a2)
theorem Xn {ck:Nat->Nat}:∀{l:List (Nat×aV D)} {s:Nat},eh (l.map fun q=>(q.1,ps ck q.2)) s=ps ck (eh l s)
 |[],_=>rfl
 |p::l,s=>by
  simp only[aud,eh];split
  ·rfl
  ·exact Xn
theorem WG {b:Nat}:∀{cs:List (bY D)} {i0 i:Nat},(rk E b i0 cs)[i]? =(cs[i]?).map (P3 (aty (i0+i) 63) (eh E (b+1+(i0+i))))
 |[],i0,i=>by simp[rk]
 |c::cs,i0,0=>by simp[rk]
 |c::cs,i0,i+1=>by simp only[rk,auo];rw[WG (cs:=cs),show i0+1+i=i0+(i+1) by omega]
theorem WH {b:Nat}:∀{cs:List (bY D)} {i0:Nat},(rk E b i0 cs).length=cs.length
 |[],_=>rfl
 |c::cs,i0=>by simp[rk,WH (cs:=cs)]
theorem OE {hW qD:List (Nat×aV D)}:∀{ev:List Nat},∀p∈yD hW qD ev,∃t cs,eh hW (eL+64*p.1)= .agg t cs/\p.2= .agg t (rk qD (eL+64*p.1) 0 cs)
 |[],p,h=>by cases h
 |d::ds,p,h=>by
  simp only[yD] at h;split at h
  ·rename_i t cs ax;rcases ats.1 h with rfl|h
   ·exact ⟨t,cs,ax,rfl⟩
   ·exact OE p h
  ·exact OE p h
theorem apv {outs:List dr} {y:eA D outs} {e0:List (Nat×aV D)} {ck:Nat->Nat} {ev:List Nat} (h:∀q∈gu X outs y++e0.map fun q=>(q.1,ps ck q.2),rel X.G z vs q.2 (fr q.1)) (aj:Dd outs e0 fr):eK X z vs (w9 (gu X outs y) (e0.map fun q=>(q.1,ps ck q.2)) ev) fr:=by
 refine (zD h).app fun p aL=> ?_;obtain ⟨t,cs,U,aa⟩:=OE p aL;have hm:=O6 U (by simp);obtain ⟨c,a,aU,aO⟩:=FI hm;have ah:c= .agg t:=by cases c<;>simp[gl.mk] at aO;rw[aO.1]
 subst ah;obtain ⟨vH,ds,b5,cc,eH,ja⟩:=aj _ _ aU;obtain ⟨TF,p4,EE⟩:=h _ (atP.2 (.inl hm));rw[p4] at b5;have b5:TF=vH:=by have:=as7.agg.inj b5;simpa using congrArg Array.toList this
 subst b5;rw[aa];have hlen:=(j5.1 EE).1;refine ⟨ds,cc,j5.2 ⟨by rw[WH,hlen,eH],fun i a' w aY hw=> ?_⟩⟩;rw[WG] at aY;obtain ⟨g5,bg,aY⟩:=auU.1 aY;rw[atB,Xn] at aY;have aN:=ja i w hw;cases bb:p7 e0 (eL+64*p.1) i with
 |true=>
  rw[if_pos bb] at aN;unfold p7 at bb;simp only[ati] at bb;obtain ⟨dn,dz⟩:=bb;split at dz
  ·rename_i n a2;rw[dn,a2] at aY;have aY:bY.own (ck n)=a':=aY;subst aY;have El:=O6 a2 (by simp);have:=h (eL+64*p.1+1+i, .c (.own (ck n))) (atP.2 (.inr (atw.2 ⟨_,El,rfl⟩)));rw[<-aN];exact this
  ·cases dz
 |false=>
  rw[if_neg (by rw[bb];simp)] at aN;have aF:=(j5.1 EE).2 i g5 w bg aN;unfold P3 at aY;split at aY
  ·rename_i n ag a2;exfalso;have:eh e0 (eL+64*p.1+1+i)= .c (.own n)\/∃m,eh e0 (eL+64*p.1+1+i)= .c (.own m):=by
    generalize eh e0 (eL+64*p.1+1+i)=q at a2;cases q with
    |c q=>cases q<;>first|exact .inr ⟨_,rfl⟩|cases a2
    |_=>cases a2
   unfold p7 at bb;rcases this with bI|⟨m,bI⟩<;>rw[ag,bI] at bb<;>cases bb
  ·subst aY;exact aF
theorem Ye {ev:List Nat} {outs:List dr} {y:eA D outs} {e0:List (Nat×aV D)} {dc jo:List as7} {ck:Nat->Nat} (a2:qh outs=as5) (an:(e0.all fun p=>rF p.2)=as5) (h:(∀q∈gu X outs y++e0,rel X.G z dc q.2 (fr q.1))/\Dd outs e0 fr) (ab:∀(j:Nat) (u:as7),dc[j]? =as4 u->jo[ck j]? =as4 u):
  eK X z jo (w9 (gu X outs y) (e0.map fun q=>(q.1,ps ck q.2)) ev) fr:=by
 obtain ⟨h,aj⟩:=h;refine apv (fun q bb=> ?_) aj;rcases atP.1 bb with bb|bb
 ·obtain ⟨d,c,a,aQ,ah⟩:=wV bb;have:=h q (atP.2 (.inl bb));rw[ah] at this⊢;exact gl.NI (Fy a2 d c aQ) this
 ·obtain ⟨sF,Nk,rfl⟩:=atw.1 bb;exact P5 (atq.1 an sF Nk) (h sF (atP.2 (.inr Nk))) fun j u _ hu=>ab j u hu
theorem aoy {t b:Nat} {o:aR D} {x:D t} (a5:w7 X t (as4 o)=as4 x) (an:gz X.G z e m k vs o (.pointer (as4 ⟨b,0,as6⟩))):
  o.live=as5/\(e.next<=b\/k=as4 b)/\(∀vs',gz X.G z m m (as4 b) vs' (.recv t (ib X t x) as9:aR D) (.pointer (as4 ⟨b,0,as6⟩)))/\
  (∀{cT:Nat->bm} {bx:Mem} {w:Bool} {a:D t} {ws:List as7},gz X.G cT m bx (as4 b) ws (.recv t (ib X t a) w:aR D) (.pointer (as4 ⟨b,0,as6⟩))->gz X.G cT e bx k vs (Cg t (ib X t a) o) (.pointer (as4 ⟨b,0,as6⟩))/\(o.clean=as5->a=x->gz X.G cT e bx k vs o (.pointer (as4 ⟨b,0,as6⟩)))):=by
 unfold w7 at a5;split at a5
 ·rename_i dZ cs w ek;cases ek;obtain ⟨au,a5⟩:=fJ a5;subst au;obtain ⟨c,ds,U,aa,ao,aN⟩:=an;cases U;refine ⟨rfl, .inl ao,fun vs'=>⟨b,ds,rfl,⟨aa.aS,aa.lt,aa.dead, .inr rfl⟩,sS a5 aN⟩, ?_⟩;intro cT bx w a ws aF;obtain ⟨c,lG,aU,aO,bT⟩:=aF;cases aU;refine ⟨⟨b,lG,rfl,⟨aO.aS,aO.lt,aO.dead, .inl ao⟩,ao,rv bT⟩,fun ah aY=> ?_⟩;subst aY;rw[Gs a5 ah];exact ⟨b,lG,rfl,⟨aO.aS,aO.lt,aO.dead, .inl ao⟩,ao,rv bT⟩
 ·rename_i dZ cs w ek;cases ek;obtain ⟨au,a5⟩:=fJ a5;subst au;obtain ⟨c,ds,U,aa,aN⟩:=an;cases U;refine ⟨rfl,aa.fresh,fun vs'=>⟨b,ds,rfl,⟨aa.aS,aa.lt,aa.dead, .inr rfl⟩,sS a5 aN⟩, ?_⟩;intro cT bx w a ws aF;obtain ⟨c,lG,aU,aO,bT⟩:=aF;cases aU;refine ⟨⟨b,lG,rfl,⟨aO.aS,aO.lt,aO.dead,aa.fresh⟩,rv bT⟩,fun ah aY=> ?_⟩;subst aY;rw[Gs a5 ah];exact ⟨b,lG,rfl,⟨aO.aS,aO.lt,aO.dead,aa.fresh⟩,rv bT⟩
 grind
def ff.quiet (d:ff D):Bool:=d.flat&&d.iU.isNone
def ih (X:et P D) (d:ff D) (F:d.F):Prop:=∀(cp:List (aV D)) (O:List (aR D)) {af:Type} (K:aV D->List (aR D)->Option af) (r:af) {z:Nat->bm} {e m:Mem} {k:Option Nat} {vs:List as7} (args:List as7),
 bC X.G O z e m k vs->bp (rel X.G z vs) cp args->d.call X F cp O K=as4 r->hi P d.f args.toArray m fun v m'=>dj X O z e k vs K r v m'/\(d.quiet=as5->m'=m)/\∃q,fY m m' q/\nv vs (pf cp) q
theorem fD.L0 {q:Option Nat} (h:fD m bx q):fY m bx q:=⟨h.next,h.aS⟩
theorem Wo {i off d:Nat}:∀{l:List (aV D)} {n:Nat},eh (jK n l) d= .box i off->i∈pf l
 |[],n,h=>by cases h
 |s::l,n,h=>by
  simp only[jK,eh] at h;split at h
  ·subst h;exact atU
  ·have:=Wo h;cases s<;>first|exact this|exact atC _ this
theorem Lt.call {d:ff D} {F:d.F} (dQ:Lt P X d F):ih X d F:=by
 intro cp O af K r z e m k vs args aw cV h;obtain ⟨fn,c,f1,f2,f3,f4,f5,jZ⟩:=dQ.ex;have lR:=dQ.new;have UH:=dQ.ap2;unfold ff.call at h;obtain ⟨hlen,h⟩:=fJ h;have hlen:=atl hlen;split at h
 ·rename_i jW b2 bd;obtain ⟨ad,h⟩:=fJ h;split at h
  ·rename_i x ag;have b6:args.toArray.size<=fn.ntmps:=by
    rw[List.size_toArray,<-cV.length,hlen];simp_all
   have a1:∀fr:Nat->as7,(∀i v,args.toArray.toList[i]? =as4 v->fr i=v)->eK X z vs (jK 0 cp) fr:=fun fr hg=>Fo cV fun j v a0=>by grind
   obtain ⟨f,np,ins,fx,iU,qn,outs,e0,kJ,flat⟩:=d;cases iU with
   |none=>
    obtain ⟨y,aJ,h⟩:=bind_some h;split at h
    ·rename_i df tZ;have body:∀fr:Nat->as7,(∀i v,args.toArray.toList[i]? =as4 v->fr i=v)->W P c (fun ex cU bx=>(ex= .normal\/ex= .ret)/\∃cv cT dI,Inv O b2/\dt e.next z cv/\bC X.G b2 cv e m k vs/\dt m.next cv cT/\bC X.G (eu X outs (fs outs y)) cT m bx as6 dI/\∃hl,oy P cU bx kJ ((ko lC kJ).map hl)/\(rel X.G cT (vs++dI) df (pack ((ko lC kJ).map hl))/\(((ko lC kJ).map hl).length=1\/∀x∈(ko lC kJ).map hl,storable x=as5))) fr m:=by
      intro fr hg;obtain ⟨cv,eO,aU,aO,bT⟩:=sI aw (a1 fr hg) bd;have Nm:=ON (dc:=[]) ((a1 fr hg).mono aU.le fun _ _ h=>h) bT ag ad;refine (jZ () x y (z:=cv) (m:=m) (kk:=as6) (dc:=[]) aJ aO.nil (zD fun p aL=>Nm p (by grind [ql]))).mono ?_;rintro ex cU bx ⟨he,hl,dn,cT,dI,b5,cc,eH⟩;have cc:bC X.G (eu X outs (fs outs y)) cT m bx as6 dI:=cc;refine ⟨he,cv,cT,dI,eO,aU,aO,b5,cc,hl,dn,OX (Ye (dc:=dI) lR UH eH fun j u hu=> ?_) tZ⟩;show (vs++dI)[b2.length+j]? =as4 u;rw[atM (by rw[aO.len];omega),aO.len,show b2.length+j - b2.length=j by omega]
      grind
     split at h
     ·split at h
      ·rename_i w hw;obtain ⟨dk,g2⟩:=ahp (X:=X) (z:=z) (vs:=vs) hw;refine (hi.flat (z:=z) f1 f2 f3 b6 g2 fun fr hg=>(body fr hg).mono ?_).mono ?_
       ·rintro ex cU bx ⟨he,cv,cT,dI,_,_,_,_,cc,hl,dn,eH,ja⟩;exact ⟨he,cT,cc.aM,_,by grind,ja,(aiI hw eH).1⟩
       ·rintro v m' ⟨rfl,rfl⟩;exact ⟨dj.here aw dk h,fun _=>rfl,as6,fY.refl _, .inl rfl⟩
      grind
     ·rename_i adg;refine hi.any f1 f2 f3 b6 fun fr hg=>(body fr hg).mono ?_;rintro ex cU bx ⟨he,cv,cT,dI,eO,aU,aO,b5,cc,hl,dn,eH,ja⟩;obtain ⟨s1,s2⟩:=XI (e:=e) (k:=k) aO.aM cc.aM (by simp);refine ⟨he,_,by grind,ja,⟨cT,vs++dI,df,_,eO.trans (Inv.app _ _),aU.trans (b5.xS aw.aM.next),iS, ?_,eH,h⟩,fun bb=>absurd (by grind [ff.quiet]) adg,as6,s2.L0, .inl rfl⟩;have ao:=aO.call b5 s2 s1 rfl fun j o' a0=> .inl ⟨a0,fun _ v _=>eB.nH⟩;have adj:∀(j:Nat) (u:as7),([]++dI)[j]? =as4 u->(vs++dI)[b2.length+j]? =as4 u:=fun j u hu=>by
       rw[atM (by rw[aO.len];omega),aO.len,show b2.length+j - b2.length=j by omega]
       grind
      exact after (n0:=[]) (dc:=[]) aO ao cc rfl lR (fun j o v an ab ax b ag=>((aO.obj j o v an ab).lt ax b ag).1) adj
    grind
   |some p=>
    unfold Gg at h;dsimp only at h;split at h
    ·rename_i i aj;split at h
     ·rename_i o an;obtain ⟨Cj,UF,h⟩:=bind_some h;obtain ⟨y,aJ,h⟩:=bind_some h;split at h
      ·rename_i df tZ;refine hi.any f1 f2 f3 b6 fun fr hg=> ?_;obtain ⟨cv,eO,aU,aO,bT⟩:=sI aw (a1 fr hg) bd;have Nm:=fun dc=>ON (dc:=dc) ((a1 fr hg).mono aU.le fun _ _ h=>h) bT ag ad;have aL:=a1 fr hg p.1;rw[aj] at aL;obtain ⟨b,ew,h1⟩:=aL;have cn:=aO.obj i o _ an ew;obtain ⟨kW,lu,apV,apW⟩:=aoy UF cn;have ab4:bC X.G (rJ X (as4 p) Cj) cv m m (as4 b) [.pointer (as4 ⟨b,0,as6⟩)]:=by
        refine ⟨dp.start aO.aM.bi aO.aM.dead,rfl,fun j o' v a0 ab=> ?_,fun a cR o' p8 v w kf aY ej=> ?_⟩
        ·grind [rJ]
        grind
       refine (jZ Cj x y (z:=cv) (m:=m) (kk:=as4 b) (dc:=[.pointer (as4 ⟨b,0,as6⟩)]) aJ ab4 (zD fun q bb=> ?_)).mono ?_
       ·rcases atP.1 bb with bb|bb
        ·grind
        ·rcases atP.1 bb with bb|bb
         ·grind
         ·simp only[ql,ats,List.not_mem_nil,or_false] at bb;subst bb;exact ⟨b,rfl,h1⟩
       rintro ex cU bx ⟨he,hl,dn,cT,dI,b5,cc,eH⟩;obtain ⟨s1,s2⟩:=XI (e:=e) (k:=k) aO.aM cc.aM (fun c ah=>by grind);have arS:i<b2.length:=(atp.1 an).1;have pW:∀(j:Nat) (u:as7),([as7.pointer (as4 ⟨b,0,as6⟩)]++dI)[j]? =as4 u->(vs++dI)[uj i b2.length j]? =as4 u:=by
        intro j u hu;cases j with
        |zero=>
         simp at hu;subst hu;show (vs++dI)[i]? =_
         grind
        |succ j=>
         simp at hu;show (vs++dI)[b2.length+(j+1 - 1)]? =_;rw[atM (by rw[aO.len];omega),aO.len,show b2.length+(j+1 - 1) - b2.length=j by omega]
         grind
       have sv:=OX (Ye lR UH eH pW) tZ;have cc:bC X.G (([if qn=1 then (.recv p.2 (ib X p.2 Cj) as9:aR D) else if qn=2 then jd X uc outs (fs outs y) 0 else .dead]:List (aR D))++eu X outs (fs outs y)) cT m bx (as4 b) ([.pointer (as4 ⟨b,0,as6⟩)]++dI):=cc;have bJ:=cc.obj 0 _ (.pointer (as4 ⟨b,0,as6⟩)) rfl rfl;have apart:∀(j:Nat) (o':aR D),j≠i->b2[j]? =as4 o'->o'.live=as5->∀v,vs[j]? =as4 v->eB (dy v) (as4 b):=fun j o' Ef a0 ax v ab=>aO.e3 j i o' o v _ Ef a0 an ax kW ab ew;have NF:∀(j:Nat) (o':aR D) (v:as7),b2[j]? =as4 o'->vs[j]? =as4 v->o'.live=as5->∀c,dy v=as4 c->c<m.next:=fun j o' v an ab ax c ah=>((aO.obj j o' v an ab).lt ax c ah).1;have fin:∀{qJ:List (aR D)},Inv b2 qJ->bC X.G qJ cT e bx k vs->(∀(j:Nat) (o':aR D) (v:as7),qJ[j]? =as4 o'->vs[j]? =as4 v->o'.live=as5->∀c,dy v=as4 c->c<m.next)->K df (qJ++mkOr X (uj i b2.length) outs (fs outs y))=as4 r->dj X O z e k vs K r (pack ((ko lC kJ).map hl)) bx:=by intro qJ acO ao bS fy;exact ⟨cT,vs++dI,df,_,(eO.trans acO).trans (Inv.app _ _),aU.trans (b5.xS aw.aM.next),iS,after aO ao cc rfl lR bS pW,sv.1,fy⟩
       have mw:∀{wm:aR D},wm.lv=as5->(∀v,vs[i]? =as4 v->gz X.G cT e bx k vs wm v)->K df (b2.set i wm++mkOr X (uj i b2.length) outs (fs outs y))=as4 r->dj X O z e k vs K r (pack ((ko lC kJ).map hl)) bx:=by
        intro wm au ao fy;refine fin (Inv.set b2 i (.inr au)) (aO.call b5 s2 s1 (by simp) fun j o' a0=> ?_) (fun j o' v a0 ab ax c ah=> ?_) fy
        ·grind
        grind
       refine ⟨he,_,by grind,sv.2, ?_,fun bb=>absurd bb (by simp[ff.quiet]),as4 b,s2.L0, .inr ⟨i,Wo aj,_,ew,rfl⟩⟩;split at h
       ·rename_i qV;rw[if_neg (by omega),if_pos qV] at bJ;split at h
        ·rename_i t cs w hu;obtain ⟨au,h⟩:=fJ h;rcases rl (X:=X) (aG:=outs) (x:=fs outs y) (j:=0) with aQ|⟨_,bP,a',_,aQ⟩
         ·grind
         ·cases bP with
          |recv dZ=>
           have aQ:=aQ uc;have yk:=aQ;rw[hu] at aQ;simp only[bV.gh] at aQ;cases aQ;subst au;rw[yk] at bJ;refine mw ?_ (fun v ab=> ?_) h
           ·unfold Cg;split<;>rfl
           grind
          |_=>rw[aQ] at hu;cases hu
        grind
       ·obtain ⟨MX,h⟩:=fJ h;rw[if_pos MX] at bJ;split at h
        ·rename_i nC;refine fin (Inv.refl b2) (aO.call b5 s2 s1 rfl fun j o' a0=> ?_) NF h
         grind
        ·refine mw ?_ (fun v ab=> ?_) h
         ·unfold Cg;split<;>rfl
         grind
      grind
     grind
    grind
  grind
 grind
structure qF (D:Nat->Type) where
 d:ff D
 F:d.F
def ff.fits (X:et P D) (d:ff D) (cp:List (aV D)) (O:List (aR D)):Bool:=
 ath cp.length d.np&&match oU (jK 0 cp) d.ins O with
 |some (jW,b2)=>(d.fx.all fun p=>sh [] p.2 (eh (jK 0 cp) p.1))&&(fP X [] b2 d.ins jW []).isSome
 |none=>as9
def FO (X:et P D):List (qF D)->Nat->List (aV D)->List (aR D)->{af:Type}->(aV D->List (aR D)->Option af)->Option af
 |[],_,_,_,_,_=>as6
 |x::l,f,cp,O,_,K=>if (ath x.d.f f&&x.d.fits X cp O)=as5 then x.d.call X x.F cp O K else FO X l f cp O K
def Gh (X:et P D):List (qF D)->Nat->List (aV D)->List (aR D)->Bool
 |[],_,_,_=>as9
 |x::l,f,cp,O=>if (ath x.d.f f&&x.d.fits X cp O)=as5 then x.d.quiet else Gh X l f cp O
structure iW (D:Nat->Type) where
 F:(f:Nat)->List (aV D)->List (aR D)->Bool
 hJ:atd->Option atd->Option atd->Nat
 C:(f:Nat)->List (aV D)->List (aR D)->{af:Type}->(aV D->List (aR D)->Option af)->Option af
 W:(f:Nat)->Bool
def et.fE (X:et P D) (q:iW D):et P D:={X with C:=q.C,F:=q.F,hJ:=q.hJ,W:=q.W}
def et.with (X:et P D) (l:List (qF D)):et P D:=X.fE ⟨Gh X l,X.hJ,FO X l,X.W⟩
def et.oS (X:et P D) (f:atd->Option atd->Option atd->Nat):et P D:=X.fE ⟨X.F,f,X.C,X.W⟩
theorem ai3 (l:iW D) (t:Nat):mD (X.fE l) t=mD X t:=by
 cases hC:X.I t with
 |none=>
  have aa:(X.fE l).I t=as6:=hC
  grind [mD]
 |some ti=>have aa:(X.fE l).I t=as4 ti:=hC;simp_all [mD]
theorem uE (l:iW D) (t:Nat) (x:D t):ib (X.fE l) t x=ib X t x:=by
 cases hC:X.I t with
 |none=>
  have aa:(X.fE l).I t=as6:=hC
  grind [ib]
 |some ti=>have aa:(X.fE l).I t=as4 ti:=hC;simp_all [ib]
theorem sN (l:iW D) (t:Nat) (cs:List (bY D)):kT (X.fE l) t cs=kT X t cs:=by
 cases hC:X.I t with
 |none=>
  have aa:(X.fE l).I t=as6:=hC
  grind [kT]
 |some ti=>have aa:(X.fE l).I t=as4 ti:=hC;simp_all [kT]
theorem Vx (l:iW D):∀(ts:List Nat) (x:ud D ts),ry (X.fE l) ts x=ry X ts x
 |[],_=>rfl
 |t::ts,x=>by show (t,ib (X.fE l) t x.1)::ry (X.fE l) ts x.2=(t,ib X t x.1)::ry X ts x.2;rw[Vx l ts x.2,uE l t x.1]
theorem Vw (l:iW D):∀(ts:List Nat) (x:List (Nat×List (bY D))),uK (X.fE l) ts x=uK X ts x
 |[],[]=>rfl
 |[],_::_=>rfl
 |_::_,[]=>rfl
 |t::ts,p::x=>by simp only[uK,Vw l ts x,sN]
theorem gl.NJ (l:iW D) (c:gl) (x:c.ty D):gl.mk (X.fE l) c x=gl.mk X c x:=by
 cases c with
 |fn f ts=>exact congrArg (aV.fn f) (Vx l ts x)
 |agg t=>exact congrArg (aV.agg t) (uE l t x)
 |gU t=>exact congrArg (fun cs=>aV.gU t cs 0) (uE l t x)
 |_=>rfl
theorem gl.DY (l:iW D) (c:gl) (s:aV D):gl.get (X.fE l) c s=gl.get X c s:=by
 unfold gl.get;split
 ·rfl
 ·rfl
 ·rfl
 ·rfl
 ·rfl
 ·rfl
 ·rfl
 ·grind [sN]
 ·grind [sN]
 ·grind [Vw]
 ·rfl
 rfl
theorem bV.EO (l:iW D) (ck:Nat->Nat) (c:bV) (x:c.ty D) (w:Bool):bV.gh (X.fE l) ck c x w=bV.gh X ck c x w:=by
 cases c with
 |box t=>exact congrArg (fun cs=>aR.box t cs as9 w) (uE l t x)
 |recv t=>exact congrArg (fun cs=>aR.recv t cs w) (uE l t x)
 |bM t p=>exact congrArg (fun cs=>aR.box t (ow ck p 0 cs) as9 w) (uE l t x)
 |_=>rfl
theorem bV.NJ (l:iW D) (c:bV) (x:c.ty D) (w:Bool):bV.mk (X.fE l) c x w=bV.mk X c x w:=bV.EO l _ c x w
theorem bV.DY (l:iW D) (bn:List Nat) (c:bV) (o:aR D):bV.get (X.fE l) bn c o=bV.get X bn c o:=by
 unfold bV.get;split
 ·rfl
 ·grind [sN]
 ·grind [sN]
 ·rfl
 ·rfl
 ·grind [ai3,sN]
 ·rfl
 ·rfl
 rfl
theorem ah4 (l:iW D) (t:Nat) (o:Option (aR D)):w7 (X.fE l) t o=w7 X t o:=by
 unfold w7;split
 ·rw[sN]
 ·rw[sN]
 rfl
theorem zb (l:iW D) {fH:List Nat}:∀(aG:List dr) (jW:List (aV D)) (bn:List Nat),fP (X.fE l) fH O aG jW bn=fP X fH O aG jW bn
 |[],_,[]=>rfl
 |[],_,_::_=>by rfl
 | .v _ _::_,[],_=>by rfl
 | .o _ _::_,[],_=>by rfl
 | .u _ _::_,[],_=>by rfl
 | .v d c::aG,s::jW,bn=>by simp only[fP,gl.DY,zb l aG jW bn]
 | .o d c::aG,s::jW,[]=>rfl
 | .o d c::aG,s::jW,i::bn=>by simp only[fP,bV.DY,zb l aG jW bn]
 | .u d c::aG,s::jW,bn=>by simp only[fP,bV.DY,zb l aG jW bn]
theorem OH (l:iW D):∀(aG:List dr) (x:eA D aG),eu (X.fE l) aG x=eu X aG x
 |[],_=>rfl
 | .v d c::aG,x=>OH l aG x.2
 | .u d c::aG,x=>OH l aG x.2
 | .o d c::aG,x=>by
  show bV.mk (X.fE l) c x.1 as9::eu (X.fE l) aG x.2=bV.mk X c x.1 as9::eu X aG x.2;rw[OH l aG x.2]
  grind [bV.NJ]
theorem wL (l:iW D) {ck:Nat->Nat}:∀(aG:List dr) (x:eA D aG),mkOr (X.fE l) ck aG x=mkOr X ck aG x
 |[],_=>rfl
 | .v d c::aG,x=>wL l aG x.2
 | .u d c::aG,x=>wL l aG x.2
 | .o d c::aG,x=>by
  show bV.gh (X.fE l) ck c x.1 as9::mkOr (X.fE l) ck aG x.2=bV.gh X ck c x.1 as9::mkOr X ck aG x.2;rw[wL l aG x.2]
  grind [bV.EO]
theorem wG (l:iW D):∀(aG:List dr) (x:eA D aG),gu (X.fE l) aG x=gu X aG x
 |[],_=>rfl
 | .v d c::aG,x=>by
  show (d,gl.mk (X.fE l) c x.1)::gu (X.fE l) aG x.2=(d,gl.mk X c x.1)::gu X aG x.2;rw[wG l aG x.2]
  grind [gl.NJ]
 | .u d c::aG,x=>wG l aG x.2
 | .o d c::aG,x=>wG l aG x.2
theorem yV (l:iW D) {ck:Nat->Nat}:∀(aG:List dr) (x:eA D aG) (j:Nat),jd (X.fE l) ck aG x j=jd X ck aG x j
 |[],_,_=>rfl
 | .v d c::aG,x,j=>yV l aG x.2 j
 | .u d c::aG,x,j=>by
  show (if ath d j=as5 then bV.gh (X.fE l) ck c x.1 as5 else jd (X.fE l) ck aG x.2 j)=(if ath d j=as5 then bV.gh X ck c x.1 as5 else jd X ck aG x.2 j);rw[yV l aG x.2 j]
  grind [bV.EO]
 | .o d c::aG,x,j=>yV l aG x.2 j
theorem Wm (l:iW D) (d:ff D) (F:d.F) (cp:List (aV D)) (O:List (aR D)) {af:Type} (K:aV D->List (aR D)->Option af):d.call (X.fE l) F cp O K=d.call X F cp O K:=by
 obtain ⟨f,np,ins,fx,iU,qn,outs,e0,ev,flat⟩:=d;unfold ff.call;dsimp only;simp only[zb];cases iU with
 |none=>simp_all [Gg,wG,wL]
 |some p=>simp only[Gg,wG,wL,yV,ah4,uE]
theorem hV.oS {f:atd->Option atd->Option atd->Nat} (h:hV X):hV (X.oS f):=h
theorem ih.oS {f:atd->Option atd->Option atd->Nat} {d:ff D} {F:d.F} (h:ih (X.oS f) d F):ih X d F:=by
 intro cp O af K r z e m k vs args aw cV ah;rw[<-Wm ⟨X.F,f,X.C,X.W⟩] at ah;exact h cp O K r args aw cV ah
theorem VO {f:Nat} {cp:List (aV D)} {K:aV D->List (aR D)->Option af} {args:List as7} (aw:bC X.G O z e m k vs) (cV:bp (rel X.G z vs) cp args):∀{l:List (qF D)},(∀x∈l,ih X x.d x.F)->FO X l f cp O K=as4 r->hi P f args.toArray m fun v m'=>dj X O z e k vs K r v m'/\(Gh X l f cp O=as5->m'=m)/\∃q,fY m m' q/\nv vs (pf cp) q
 |[],_,ah=>by cases ah
 |x::l,h,ah=>by
  unfold FO at ah;unfold Gh;split at ah
  ·rename_i ad;rw[if_pos ad];simp only[ati] at ad;have:=atl ad.1;subst this;exact h x atU cp O K r args aw cV ah
  ·rename_i ad;rw[if_neg ad];exact VO aw cV (fun y aJ=>h y (atC _ aJ)) ah
theorem hV.of {l:List (qF D)} (h:∀x∈l,ih X x.d x.F):hV (X.with l):=by
 intro f cp O af K r z e m k vs args aw cV ah;exact (VO (X:=X) aw cV h ah).mono fun v m' bJ=>⟨bJ.1,bJ.2.1,fun _=>bJ.2.2⟩
theorem ahc {l:List (qF D)} {x:qF D} (h:ih X x.d x.F) (ax:∀y∈l,ih X y.d y.F):∀y∈x::l,ih X y.d y.F:=by
 grind
end
end
end Go.ay
end
section
namespace Go.ay
inductive LT:Type 1 where
 |int (k:IntKind)|bool|str
 |ae (aB:Type) (T:cr aB)
 |mp (aB bK:Type) (M:nn aB bK)
 |fn
def LT.ty:LT->Type
 | .int _=>Int
 | .bool=>Bool
 | .str=>List UInt8
 | .ae aB _=>List aB
 | .mp aB bK _=>List (aB×bK)
 | .fn=>Option Nat
def TM:Option Nat->as7
 |none=> .nilFunc
 |some n=> .func (.func n) #[] #[]
def LT.rd (z:Nat->bm):(l:LT)->l.ty->as7->Prop
 | .int k,n,v=>v= .int k n
 | .bool,b,v=>v= .bool b
 | .str,s,v=>v=ay.str s
 | .ae _ T,xs,v=>eC T z xs v
 | .mp _ _ M,es,v=>lz M z es v
 | .fn,o,v=>v=TM o
def im:List LT->Type
 |[]=>Unit
 |l::ls=>l.ty×im ls
def iu (z:Nat->bm):(ls:List LT)->im ls->List as7->Prop
 |[],_,[]=>True
 |l::ls,x,v::vs=>l.rd z x.1 v/\iu z ls x.2 vs
 |_,_,_=>False
theorem XQ {z:Nat->bm}:∀{ls:List LT} {x:im ls} {cs:List as7},iu z ls x cs->cs.length=ls.length
 |[],_,[],_=>rfl
 |l::ls,x,v::vs,h=>by simp[XQ h.2]
 |[],_,_::_,h=>h.elim
 |_::_,_,[],h=>h.elim
theorem WI {z z':Nat->bm} (a4:eM z z'):∀{ls:List LT} {x:im ls} {cs:List as7},iu z ls x cs->iu z' ls x cs
 |[],_,[],_=>trivial
 |l::ls,x,v::vs,h=>⟨by
  have U:=h.1;cases l with
  |ae aB T=>exact eC.mono a4 U
  |mp aB bK M=>exact lz.mono U a4
  |_=>exact U,WI a4 h.2⟩
 |[],_,_::_,h=>h.elim
 |_::_,_,[],h=>h.elim
theorem XR {z:Nat->bm}:∀{ls:List LT} {x:im ls} {cs:List as7},iu z ls x cs->∀c∈cs,storable c=as5/\c.cells=#[c]
 |[],_,[],_,c,ah=>by grind
 |l::ls,x,v::vs,h,c,ah=>by
  rcases ats.1 ah with rfl|ah
  ·have U:=h.1;cases l with
   |ae aB T=>obtain ⟨a,c,rfl⟩:=eC.len U;exact ⟨rfl,rfl⟩
   |mp aB bK M=>rcases U with ⟨rfl,_⟩|⟨r,rfl,_⟩<;>exact ⟨rfl,rfl⟩
   |fn=>obtain ⟨x,y⟩:=x;cases x<;>(obtain rfl:=U;exact ⟨rfl,rfl⟩)
   |_=>obtain rfl:=U;exact ⟨rfl,rfl⟩
  ·exact XR h.2 c ah
 |[],_,_::_,h,_,_=>h.elim
 |_::_,_,[],h,_,_=>h.elim
def fT (t:TypeId) (ls:List LT) {aB:Type} (to:aB->im ls):cr aB where
 a9:=ls.length
 tid:=t
 rd:=fun z x cs=>iu z ls (to x) cs
 len:=fun _ _ _ h=>XQ h
 mono:=fun _ _ a4 _ _ h=>WI a4 h
 one:=fun _ _ _ h=>XR h
noncomputable section
inductive iH where
 |int (k:IntKind)|bool|str
 |ae (e:Nat)
 |mp (t bh bc:Nat)
 |fn
section
variable {P:atb} {D:Nat->Type} (G:l5 D)
def DR:Option Nat->bY D
 |none=> .ui
 |some n=> .fn n []
def iH.lt:iH->LT
 | .int k=> .int k
 | .bool=> .bool
 | .str=> .str
 | .ae e=> .ae (D e) (G.T e)
 | .mp t bh bc=> .mp (D bh) (D bc) (G.M t bh bc)
 | .fn=> .fn
def hr:List iH->List LT
 |[]=>[]
 |c::cs=>c.lt G::hr cs
def iL:(ls:List iH)->im (hr G ls)->List (bY D)
 |[],_=>[]
 | .int k::ls,x=> .int k x.1::iL ls x.2
 | .bool::ls,x=> .bool x.1::iL ls x.2
 | .str::ls,x=> .str x.1::iL ls x.2
 | .ae e::ls,x=> .ae e x.1::iL ls x.2
 | .mp t bh bc::ls,x=> .mp t bh bc x.1::iL ls x.2
 | .fn::ls,x=>DR x.1::iL ls x.2
def ic:(ls:List iH)->List (bY D)->Option (im (hr G ls))
 |[],[]=>as4 ()
 | .int k::ls, .int cK n::cs=>if cK=k then (match ic ls cs with|some y=>as4 (n,y)|none=>as6) else as6
 | .bool::ls, .bool b::cs=>(match ic ls cs with|some y=>as4 (b,y)|none=>as6)
 | .str::ls, .str s::cs=>(match ic ls cs with|some y=>as4 (s,y)|none=>as6)
 | .ae e::ls, .ae b0 xs::cs=>if h:b0=e then (match ic ls cs with|some y=>as4 ((h▸xs:List (D e)),y)|none=>as6) else as6
 | .ae e::ls, .gS::cs=>(match ic ls cs with|some y=>as4 (([]:List (D e)),y)|none=>as6)
 | .mp t bh bc::ls, .mp dZ hE hF es::cs=>if h:hE=bh/\hF=bc then (if dZ=t then (match ic ls cs with|some y=>as4 ((h.1▸h.2▸es:List (D bh×D bc)),y)|none=>as6) else as6) else as6
 | .mp t bh bc::ls, .pa::cs=>(match ic ls cs with|some y=>as4 (([]:List (D bh×D bc)),y)|none=>as6)
 | .fn::ls, .ui::cs=>(match ic ls cs with|some y=>as4 ((as6:Option Nat),y)|none=>as6)
 | .fn::ls, .fn n []::cs=>(match ic ls cs with|some y=>as4 ((as4 n:Option Nat),y)|none=>as6)
 |_,_=>as6
variable {G}
theorem apo {z:Nat->bm} {vs:List as7} {o:Option Nat} {v:as7} (h:v=TM o):dJ G z vs (DR o) v:=by
 cases o with
 |none=>exact h
 |some n=>exact ⟨[],h,trivial⟩
theorem uL {z:Nat->bm} {vs:List as7}:∀{ls:List iH} {x:im (hr G ls)} {cs:List as7},iu z (hr G ls) x cs->bp (dJ G z vs) (iL G ls x) cs
 |[],_,[],_=>trivial
 | .int k::ls,x,v::w,h=>⟨h.1,uL h.2⟩
 | .bool::ls,x,v::w,h=>⟨h.1,uL h.2⟩
 | .str::ls,x,v::w,h=>⟨h.1,uL h.2⟩
 | .ae e::ls,x,v::w,h=>⟨h.1,uL h.2⟩
 | .mp t bh bc::ls,x,v::w,h=>⟨h.1,uL h.2⟩
 | .fn::ls,x,v::w,h=>⟨apo h.1,uL h.2⟩
 | .mp _ _ _::_,_,[],h=>h.elim
 | .fn::_,_,[],h=>h.elim
 |[],_,_::_,h=>h.elim
 | .int _::_,_,[],h=>h.elim
 | .bool::_,_,[],h=>h.elim
 | .str::_,_,[],h=>h.elim
 | .ae _::_,_,[],h=>h.elim
theorem sR:∀{ls:List iH} (x:im (hr G ls)),ic G ls (iL G ls x)=as4 x
 |[],_=>rfl
 | .int k::ls,x=>by show (if k=k then (match ic G ls (iL G ls x.2) with|some y=>as4 (x.1,y)|none=>as6) else as6)=_;rw[sR x.2,if_pos rfl];rfl
 | .bool::ls,x=>by show (match ic G ls (iL G ls x.2) with|some y=>as4 (x.1,y)|none=>as6)=_;rw[sR x.2];rfl
 | .str::ls,x=>by show (match ic G ls (iL G ls x.2) with|some y=>as4 (x.1,y)|none=>as6)=_;rw[sR x.2];rfl
 | .ae e::ls,x=>by show (if h:e=e then (match ic G ls (iL G ls x.2) with|some y=>as4 ((h▸x.1:List (D e)),y)|none=>as6) else as6)=_;rw[sR x.2,dif_pos rfl];rfl
 | .mp t bh bc::ls,x=>by show (if h:bh=bh/\bc=bc then (if t=t then (match ic G ls (iL G ls x.2) with|some y=>as4 ((h.1▸h.2▸x.1:List (D bh×D bc)),y)|none=>as6) else as6) else as6)=_;rw[sR x.2,dif_pos ⟨rfl,rfl⟩,if_pos rfl];rfl
 | .fn::ls,(as6,y)=>by show (match ic G ls (iL G ls y) with|some y=>as4 ((as6:Option Nat),y)|none=>as6)=_;rw[sR y];rfl
 | .fn::ls,(as4 n,y)=>by show (match ic G ls (iL G ls y) with|some y=>as4 ((as4 n:Option Nat),y)|none=>as6)=_;rw[sR y];rfl
theorem apF {z:Nat->bm} {vs:List as7}:∀{ls:List iH} {cs:List (bY D)} {x:im (hr G ls)} {ds:List as7},ic G ls cs=as4 x->bp (dJ G z vs) cs ds->iu z (hr G ls) x ds:=by
 intro ls;induction ls with
 |nil=>
  intro cs x ds h aF;cases cs with
  |nil=>cases ds with
   |nil=>trivial
   |cons _ _=>exact aF.elim
  |cons c cs=>cases h
 |cons l ls aq=>
  intro cs x ds h aF;cases cs with
  |nil=>cases l<;>cases h
  |cons c cs=>
   cases ds with
   |nil=>exact aF.elim
   |cons d ds=>
    obtain ⟨U,aa⟩:=aF;have fin:∀{aB:Type} {f:im (hr G ls)->aB} {o:Option (im (hr G ls))} {r:aB},(match o with|some y=>as4 (f y)|none=>as6)=as4 r->∃y,o=as4 y/\r=f y:=by
     grind
    cases l with
    |int k=>
     cases c with
     |int cK n=>obtain ⟨ar,h⟩:=fJ (aB:=im (hr G (.int k::ls))) h;subst ar;obtain ⟨y,aJ,rfl⟩:=fin h;exact ⟨U,aq aJ aa⟩
     |_=>cases h
    |bool=>
     cases c with
     |bool n=>obtain ⟨y,aJ,rfl⟩:=fin h;exact ⟨U,aq aJ aa⟩
     |_=>cases h
    |str=>
     cases c with
     |str n=>obtain ⟨y,aJ,rfl⟩:=fin h;exact ⟨U,aq aJ aa⟩
     |_=>cases h
    |ae t=>
     cases c with
     |ae b0 xs=>
      by_cases ar:b0=t
      ·subst ar;have h:(if h:b0=b0 then (match ic G ls cs with|some y=>as4 ((h▸xs:List (D b0)),y)|none=>as6) else as6)=as4 x:=h;rw[dif_pos rfl] at h;obtain ⟨y,aJ,rfl⟩:=fin h;exact ⟨U,aq aJ aa⟩
      grind [ic]
     |gS=>obtain ⟨y,aJ,rfl⟩:=fin h;exact ⟨.inl ⟨U,rfl⟩,aq aJ aa⟩
     |_=>cases h
    |mp t bh bc=>
     cases c with
     |mp dZ hE hF es=>
      by_cases ar:hE=bh/\hF=bc
      ·obtain ⟨rfl,rfl⟩:=ar;have h:(if h:hE=hE/\hF=hF then (if dZ=t then (match ic G ls cs with|some y=>as4 ((h.1▸h.2▸es:List (D hE×D hF)),y)|none=>as6) else as6) else as6)=as4 x:=h;rw[dif_pos ⟨rfl,rfl⟩] at h;obtain ⟨ar,h⟩:=fJ h;subst ar;obtain ⟨y,aJ,rfl⟩:=fin h;exact ⟨U,aq aJ aa⟩
      grind [ic]
     |pa=>obtain ⟨y,aJ,rfl⟩:=fin h;exact ⟨.inl ⟨U,rfl⟩,aq aJ aa⟩
     |_=>cases h
    |fn=>
     cases c with
     |ui=>obtain ⟨y,aJ,rfl⟩:=fin h;exact ⟨U,aq aJ aa⟩
     |fn n is=>
      cases is with
      |nil=>
       obtain ⟨y,aJ,rfl⟩:=fin h;obtain ⟨gs,aU,aO⟩:=U;cases gs with
       |nil=>exact ⟨aU,aq aJ aa⟩
       |cons _ _=>exact aO.elim
      |cons _ _=>cases h
     |_=>cases h
theorem afG:∀{ls:List iH} {cs:List (bY D)} {x:im (hr G ls)},ic G ls cs=as4 x->nZ cs (iL G ls x):=by
 intro ls;induction ls with
 |nil=>
  intro cs x h;cases cs with
  |nil=>trivial
  |cons c cs=>cases h
 |cons l ls aq=>
  intro cs x h;cases cs with
  |nil=>cases l<;>cases h
  |cons c cs=>
   have fin:∀{aB:Type} {f:im (hr G ls)->aB} {o:Option (im (hr G ls))} {r:aB},(match o with|some y=>as4 (f y)|none=>as6)=as4 r->∃y,o=as4 y/\r=f y:=by
    grind
   cases l with
   |int k=>
    cases c with
    |int cK n=>obtain ⟨ar,h⟩:=fJ (aB:=im (hr G (.int k::ls))) h;subst ar;obtain ⟨y,aJ,rfl⟩:=fin h;exact ⟨fun _=>rfl,aq aJ⟩
    |_=>cases h
   |bool=>
    cases c with
    |bool n=>obtain ⟨y,aJ,rfl⟩:=fin h;exact ⟨fun _=>rfl,aq aJ⟩
    |_=>cases h
   |str=>
    cases c with
    |str n=>obtain ⟨y,aJ,rfl⟩:=fin h;exact ⟨fun _=>rfl,aq aJ⟩
    |_=>cases h
   |ae t=>
    cases c with
    |ae b0 xs=>
     by_cases ar:b0=t
     ·subst ar;have h:(if h:b0=b0 then (match ic G ls cs with|some y=>as4 ((h▸xs:List (D b0)),y)|none=>as6) else as6)=as4 x:=h;rw[dif_pos rfl] at h;obtain ⟨y,aJ,rfl⟩:=fin h;exact ⟨fun _=>rfl,aq aJ⟩
     grind [ic]
    |gS=>obtain ⟨y,aJ,rfl⟩:=fin h;exact ⟨fun h=>(by cases h),aq aJ⟩
    |_=>cases h
   |mp t bh bc=>
    cases c with
    |mp dZ hE hF es=>
     by_cases ar:hE=bh/\hF=bc
     ·obtain ⟨rfl,rfl⟩:=ar;have h:(if h:hE=hE/\hF=hF then (if dZ=t then (match ic G ls cs with|some y=>as4 ((h.1▸h.2▸es:List (D hE×D hF)),y)|none=>as6) else as6) else as6)=as4 x:=h;rw[dif_pos ⟨rfl,rfl⟩] at h;obtain ⟨ar,h⟩:=fJ h;subst ar;obtain ⟨y,aJ,rfl⟩:=fin h;exact ⟨fun _=>rfl,aq aJ⟩
     grind [ic]
    |pa=>obtain ⟨y,aJ,rfl⟩:=fin h;exact ⟨fun h=>(by cases h),aq aJ⟩
    |_=>cases h
   |fn=>
    cases c with
    |ui=>obtain ⟨y,aJ,rfl⟩:=fin h;exact ⟨fun _=>rfl,aq aJ⟩
    |fn n is=>
     cases is with
     |nil=>obtain ⟨y,aJ,rfl⟩:=fin h;exact ⟨fun _=>rfl,aq aJ⟩
     |cons _ _=>cases h
    |_=>cases h
theorem Qn:∀{ls:List iH},(hr G ls).length=ls.length
 |[]=>rfl
 |l::ls=>by simp[hr,Qn]
def nV:List iH->List (bY D)
 |[]=>[]
 | .int k::ls=> .int k 0::nV ls
 | .bool::ls=> .bool as9::nV ls
 | .str::ls=> .str []::nV ls
 | .ae _::ls=> .gS::nV ls
 | .mp _ _ _::ls=> .pa::nV ls
 | .fn::ls=> .ui::nV ls
def ni:List iH->List as7
 |[]=>[]
 | .int k::ls=> .int k 0::ni ls
 | .bool::ls=> .bool as9::ni ls
 | .str::ls=> .string ⟨#[]⟩::ni ls
 | .ae _::ls=> .slice as6 0 0::ni ls
 | .mp _ _ _::ls=> .map as6::ni ls
 | .fn::ls=> .nilFunc::ni ls
theorem uH {z:Nat->bm} {vs:List as7}:∀{ls:List iH},bp (dJ G z vs) (nV ls:List (bY D)) (ni ls)
 |[]=>trivial
 | .int k::ls=>⟨rfl,uH⟩
 | .bool::ls=>⟨rfl,uH⟩
 | .str::ls=>⟨rfl,uH⟩
 | .ae _::ls=>⟨rfl,uH⟩
 | .mp _ _ _::ls=>⟨rfl,uH⟩
 | .fn::ls=>⟨rfl,uH⟩
theorem sK:∀{ls:List iH} {x:im (hr G ls)},(iL G ls x).all ot=as5
 |[],_=>rfl
 | .int k::ls,x=>by simp only[iL,atX,sK,ot,auT]
 | .bool::ls,x=>by simp only[iL,atX,sK,ot,auT]
 | .str::ls,x=>by simp only[iL,atX,sK,ot,auT]
 | .ae _::ls,x=>by simp only[iL,atX,sK,ot,auT]
 | .mp _ _ _::ls,x=>by simp only[iL,atX,sK,ot,auT]
 | .fn::ls,(as6,y)=>by simp only[iL,DR,atX,sK,ot,auT]
 | .fn::ls,(as4 n,y)=>by simp only[iL,DR,atX,sK,ot,List.isEmpty,auT]
def rT:(ls:List iH)->im (hr G ls)
 |[]=>()
 | .int _::ls=>((0:Int),rT ls)
 | .bool::ls=>(as9,rT ls)
 | .str::ls=>(([]:List UInt8),rT ls)
 | .ae e::ls=>(([]:List (D e)),rT ls)
 | .mp _ bh bc::ls=>(([]:List (D bh×D bc)),rT ls)
 | .fn::ls=>((as6:Option Nat),rT ls)
theorem u6 {z:Nat->bm}:∀(ls:List iH),iu z (hr G ls) (rT (G:=G) ls) (ni ls)
 |[]=>trivial
 | .int _::ls=>⟨rfl,u6 ls⟩
 | .bool::ls=>⟨rfl,u6 ls⟩
 | .str::ls=>⟨rfl,u6 ls⟩
 | .ae _::ls=>⟨.inl ⟨rfl,rfl⟩,u6 ls⟩
 | .mp _ _ _::ls=>⟨.inl ⟨rfl,rfl⟩,u6 ls⟩
 | .fn::ls=>⟨rfl,u6 ls⟩
theorem OP:∀(ls:List iH),(ni ls).all cQ=as5/\(ni ls).length=ls.length
 |[]=>⟨rfl,rfl⟩
 |c::ls=>by have:=OP ls;cases c<;>exact ⟨by simp only[ni,atX,this.1];rfl,by simp only[ni,aun,this.2]⟩
def gi {t:Nat} (ls:List iH) (to:D t->im (hr G ls)) (of:im (hr G ls)->D t) (U:∀x,of (to x)=x) (aa:∀y,to (of y)=y) (i:TypeInfo)
  (jj:G.T t=fT t (hr G ls) to) (aj:P.info? t=as4 i) (b6:i.size=ls.length) (gA:(ls.length==0)=as9) (gO:atn i.bytes 32768=as5) (a4:i.zero=as4 (i.zero.getD undef)) (gR:(i.zero.getD undef).cells.toList=ni ls):dM P G t where
 pz:=nV ls
 o7:=fun z vs=>by rw[gR];exact uH
 NG:=fun x=>sK
 kD:=fun x=>iL G ls (to x)
 ox:=fun cs=>match ic G ls cs with|some y=>as4 (of y)|none=>as6
 x0:=of (rT ls)
 i:=i
 cN:=i.zero.getD undef
 tid:=by rw[jj];rfl
 aj:=aj
 b6:=by rw[jj,b6];exact Qn.symm
 gA:=by rw[jj];show ((hr G ls).length==0)=as9;rw[Qn];exact gA
 gO:=gO
 a4:=a4
 da:=by rw[gR];exact (OP ls).1
 dU:=by rw[<-Array.length_toList,gR,(OP ls).2,b6]
 Ch:=fun z=>by rw[jj,gR];show iu z (hr G ls) (to (of (rT ls))) (ni ls);rw[aa];exact u6 ls
 pr:=fun z vs x cs h=>by rw[jj] at h;exact uL h
 p9:=fun z vs cs x ds h aF=>by
  rw[jj];split at h
  ·rename_i y aJ;cases h;show iu z (hr G ls) (to (of y)) ds;rw[aa];exact apF aJ aF
  ·cases h
 NV:=fun x=>by show (match ic G ls (iL G ls (to x)) with|some y=>as4 (of y)|none=>as6)=as4 x;rw[sR];exact congrArg as4 (U x)
 E1:=fun cs x h=>by
  split at h
  ·rename_i y aJ;cases h;rw[aa];exact afG aJ
  ·cases h
theorem ahZ (u:UInt8):e7 (u.toNat:Int)=as4 u:=by
 unfold e7;have:=u.toNat_lt;rw[if_pos (by omega)];simp
def aqD {t:Nat} (to:D t->UInt8) (of:UInt8->D t) (U9:Option UInt8->Option (D t)) (Nd:∀o,U9 o=o.map of) (U:∀x,of (to x)=x) (aa:∀y,to (of y)=y) (i:TypeInfo) (adS:(G.T t).tid=t) (q2:(G.T t).a9=1) (ez:∀z x cs,(G.T t).rd z x cs↔cs=[.int .u8 (to x).toNat])
  (aj:P.info? t=as4 i) (b6:i.size=1) (gO:atn i.bytes 32768=as5) (a4:i.zero=as4 (.int .u8 0)):dM P G t where
 pz:=[.int .u8 0]
 o7:=fun z vs=>⟨rfl,trivial⟩
 NG:=fun x=>rfl
 kD:=fun x=>[.int .u8 (to x).toNat]
 ox:=fun cs=>match cs with|[.int .u8 n]=>U9 (e7 n)|_=>as6
 x0:=of 0
 i:=i
 cN:= .int .u8 0
 tid:=adS
 aj:=aj
 b6:=by rw[q2,b6]
 gA:=by rw[q2];rfl
 gO:=gO
 a4:=a4
 da:=rfl
 dU:=by rw[b6];rfl
 Ch:=fun z=>(ez z _ _).2 (by rw[aa];rfl)
 pr:=fun z vs x cs h=>by rw[(ez z x cs).1 h];exact ⟨rfl,trivial⟩
 p9:=fun z vs cs x ds h aF=>by
  split at h
  ·rename_i n;cases ds with
   |nil=>exact aF.elim
   |cons d ds=>
    cases ds with
    |cons _ _=>exact aF.2.elim
    |nil=>
     rw[Nd] at h;cases hu:e7 n with
     |none=>rw[hu] at h;cases h
     |some u=>rw[hu] at h;cases h;have:d= .int .u8 n:=aF.1;rw[this,Wv hu];exact (ez z _ _).2 (by rw[aa])
  ·cases h
 NV:=fun x=>by simp only[ahZ,Nd,Option.map_some,U]
 E1:=fun cs x h=>by
  split at h
  ·rename_i n;rw[Nd] at h;cases hu:e7 n with
   |none=>rw[hu] at h;cases h
   |some u=>rw[hu] at h;cases h;rw[aa,Wv hu];exact nZ.refl _
  ·cases h
def kR:(ls:List iH)->im (hr G ls)->List as7
 |[],_=>[]
 | .int k::ls,x=> .int k x.1::kR ls x.2
 | .bool::ls,x=> .bool x.1::kR ls x.2
 | .str::ls,x=>ay.str x.1::kR ls x.2
 | .ae _::ls,x=>undef::kR ls x.2
 | .mp _ _ _::ls,x=>undef::kR ls x.2
 | .fn::ls,x=>undef::kR ls x.2
def lU (P:atb):List Field->Nat->List iH->Bool
 |[],_,[]=>as5
 | f :: bl, i, .int _ :: ls => (f.offset == i && f.name != "_") && ((match P.underlying f.type with | as4 (.int _) => as5 | _ => as9) && lU P bl (i + 1) ls)
 | f :: bl, i, .bool :: ls => (f.offset == i && f.name != "_") && ((match P.underlying f.type with | as4 .bool => as5 | _ => as9) && lU P bl (i + 1) ls)
 | f :: bl, i, .str :: ls => (f.offset == i && f.name != "_") && ((match P.underlying f.type with | as4 .string => as5 | _ => as9) && lU P bl (i + 1) ls)
 |_,_,_=>as9
theorem Fc:∀{bl:List Field} {i:Nat} {ls:List iH} {x y:im (hr G ls)},lU P bl i ls=as5->pF P bl i (kR ls x) (kR ls y)
 |[],_,[],_,_,_=>trivial
 |f::bl,i, .int k::ls,x,y,h=>by
  simp only[lU,ati,beq_iff_eq,bne_iff_ne] at h;obtain ⟨⟨U,aa⟩,ao,aN⟩:=h;refine ⟨U,aa, .inl ?_,Fc aN⟩;split at ao
  ·exact ⟨k,_,_,_,‹_›,rfl,rfl⟩
  grind
 |f::bl,i, .bool::ls,x,y,h=>by
  simp only[lU,ati,beq_iff_eq,bne_iff_ne] at h;obtain ⟨⟨U,aa⟩,ao,aN⟩:=h;refine ⟨U,aa, .inr (.inl ?_),Fc aN⟩;split at ao
  ·exact ⟨_,_,‹_›,rfl,rfl⟩
  grind
 |f::bl,i, .str::ls,x,y,h=>by
  simp only[lU,ati,beq_iff_eq,bne_iff_ne] at h;obtain ⟨⟨U,aa⟩,ao,aN⟩:=h;refine ⟨U,aa, .inr (.inr ?_),Fc aN⟩;split at ao
  ·exact ⟨_,_,‹_›,rfl,rfl⟩
  grind
 |_::_,_, .ae _::_,_,_,h=>by cases h
 |_::_,_, .mp _ _ _::_,_,_,h=>by cases h
 |_::_,_, .fn::_,_,_,h=>by cases h
 |[],_,_::_,_,_,h=>by cases h
 |_::_,_,[],_,_,h=>by cases h
theorem FH:∀{bl:List Field} {i:Nat} {ls:List iH} {x y:im (hr G ls)},lU P bl i ls=as5->kR ls x=kR ls y->x=y
 |_,_,[],_,_,_,_=>rfl
 |f::bl,i, .int k::ls,x,y,h,e=>by simp only[lU,ati] at h;simp only[kR,List.cons.injEq] at e;exact Prod.ext (as7.int.inj e.1).2 (FH h.2.2 e.2)
 |f::bl,i, .bool::ls,x,y,h,e=>by simp only[lU,ati] at h;simp only[kR,List.cons.injEq] at e;exact Prod.ext (as7.bool.inj e.1) (FH h.2.2 e.2)
 |f::bl,i, .str::ls,x,y,h,e=>by simp only[lU,ati] at h;simp only[kR,List.cons.injEq] at e;exact Prod.ext (aoh e.1) (FH h.2.2 e.2)
 |_::_,_, .ae _::_,_,_,h,_=>by cases h
 |[],_, .ae _::_,_,_,h,_=>by cases h
 |[],_, .int _::_,_,_,h,_=>by cases h
 |[],_, .bool::_,_,_,h,_=>by cases h
 |[],_, .str::_,_,_,h,_=>by cases h
 |_::_,_, .mp _ _ _::_,_,_,h,_=>by cases h
 |_::_,_, .fn::_,_,_,h,_=>by cases h
 |[],_, .mp _ _ _::_,_,_,h,_=>by cases h
 |[],_, .fn::_,_,_,h,_=>by cases h
theorem Gk {z:Nat->bm}:∀{bl:List Field} {i:Nat} {ls:List iH} {x:im (hr G ls)} {ds:List as7},lU P bl i ls=as5->iu z (hr G ls) x ds->ds=kR ls x
 |_,_,[],_,[],_,_=>rfl
 |_,_,[],_,_::_,_,h=>h.elim
 |f::bl,i, .int k::ls,x,d::ds,h,e=>by simp only[lU,ati] at h;have U:d= .int k x.1:=e.1;rw[kR,U,<-Gk h.2.2 e.2]
 |f::bl,i, .bool::ls,x,d::ds,h,e=>by simp only[lU,ati] at h;have U:d= .bool x.1:=e.1;rw[kR,U,<-Gk h.2.2 e.2]
 |f::bl,i, .str::ls,x,d::ds,h,e=>by simp only[lU,ati] at h;have U:d=ay.str x.1:=e.1;rw[kR,U,<-Gk h.2.2 e.2]
 |_::_,_, .ae _::_,_,_,h,_=>by cases h
 |_::_,_, .mp _ _ _::_,_,_,h,_=>by cases h
 |_::_,_, .fn::_,_,_,h,_=>by cases h
 |[],_,_::_,_,_,h,_=>by cases h
 |_::_,_, .int _::_,_,[],_,h=>h.elim
 |_::_,_, .bool::_,_,[],_,h=>h.elim
 |_::_,_, .str::_,_,[],_,h=>h.elim
def ahg {t:Nat} (ls:List iH) (to:D t->im (hr G ls)) (of:im (hr G ls)->D t) (U:∀x,of (to x)=x) (bl:Array Field) (eq:D t->D t->Bool) (jj:G.T t=fT t (hr G ls) to) (he:∀x y,eq x y=as5↔x=y)
  (au:P.underlying t=as4 (.struct bl)) (aL:P.stoodInHeld t=as9) (a5:P.eqGuardType P.depth t=as9) (aE:lU P bl.toList 0 ls=as5):LC P G t where
 bl:=bl
 eq:=eq
 gw:=fun x=>kR ls (to x)
 au:=au
 aL:=aL
 a5:=a5
 aE:=fun x y=>Fc aE
 ab:=fun z x ds h=>by rw[jj] at h;exact Gk aE h
 he:=fun x y=>by
  rw[he];constructor
  ·rintro rfl;rfl
  ·intro h;have:=FH aE h;rw[<-U x,<-U y,this]
structure aq5 (P:atb) (G:l5 D) (bh:Nat) where
 dec:DecidableEq (D bh)
 K:oO P bh (G.eb bh)
 ug:aV D->Option (D bh)
 MY:∀z vs s a v,ug s=as4 a->rel G z vs s v->v=dY (dG P bh) (G.eb bh a)
structure aq' (P:atb) (G:l5 D) (bc:Nat) where
 V:pJ P bc (G.eb bc)
 Cr:bY D->Option (D bc)
 rP:D bc->bY D
 cg:D bc
 i:TypeInfo
 aj:P.info? bc=as4 i
 adZ:dG P bc=as9
 a4:i.zero=as4 (dY as9 (G.eb bc cg))
 UL:∀z vs c a v,Cr c=as4 a->dJ G z vs c v->v=dY as9 (G.eb bc a)
 yA:∀z vs a,dJ G z vs (rP a) (dY as9 (G.eb bc a))
theorem aox {X:et P D} {B:Code} {u:k1 D} {us:List (k1 D)} (h:oP X B u) (aE:∀v∈us,oP X B v):∀v∈u::us,oP X B v:=by
 grind
theorem apE {X:et P D} {B:Code}:∀v∈([]:List (k1 D)),oP X B v:=by simp
theorem ih.law {X:et P D} {d:ff D} {F:d.F} (dQ:ih X d F) {m:Mem} {z:Nat->bm} (a4:jU z m) (aQ:∀b,m.next<=b->m.aS b= .dead) {cp:List (aV D)} {args:List as7} (cV:bp (rel X.G z []) cp args)
  (h:d.call X F cp [] (fun df _=>as4 df)=as4 (.c (.bool as5))):hi P d.f args.toArray m fun v _=>v= .bool as5:=by
 have aw:bC X.G ([]:List (aR D)) z m m as6 []:=⟨dp.start a4 aQ,rfl,by simp,by simp⟩
 refine (dQ cp [] (fun df _=>as4 df) _ args aw cV h).mono fun v m' ab=> ?_;obtain ⟨⟨z',vs',df,bW,_,_,_,_,aF,fy⟩,_⟩:=ab;cases fy;exact aF
end
end
end Go.ay
end
section
namespace Go.ay
noncomputable section
section
variable {P:atb} {D:Nat->Type} {X:et P D} {af:Type} {z z':Nat->bm} {e m m':Mem} {k:Option Nat} {vs vs':List as7} {fr:Nat->as7} {E:List (Nat×aV D)} {O bW:List (aR D)}
theorem Fz (l:iW D) {fH:List Nat}:∀(aG:List dr) (x:eA D aG) (bn:List Nat) (O:List (aR D)),ln (X.fE l) fH aG x bn O=ln X fH aG x bn O
 |[],_,_,_=>rfl
 | .o _ c::aG,x,[],O=>rfl
 | .o _ c::aG,x,i::bn,O=>by
  show ln (X.fE l) fH aG x.2 bn (O.set i (bV.gh (X.fE l) (fun n=>fH.getD n 0) c x.1 (w4 c O i)))=ln X fH aG x.2 bn (O.set i (bV.gh X (fun n=>fH.getD n 0) c x.1 (w4 c O i)));rw[Fz l aG x.2 bn]
  grind [bV.EO]
 | .v _ _::aG,x,bn,O=>Fz l aG x.2 bn O
 | .u _ _::aG,x,bn,O=>Fz l aG x.2 bn O
theorem VF (l:iW D) {ck:Nat->Nat} {bn ks:List Nat} {outs:List dr} {y:eA D outs}:∀(O:List (aR D)) (i:Nat),qj (X.fE l) ck bn ks outs y i O=qj X ck bn ks outs y i O
 |[],i=>rfl
 |o::O,i=>by simp only[qj,yV,VF l O (i+1)]
theorem ah5 (l:iW D) (aG:List dr) (fx:List (Nat×aV D)) (E:List (Nat×aV D)) (O:List (aR D)):qm (X.fE l) aG fx E O=qm X aG fx E O:=by
 grind [qm,Hm,zb,Fz]
theorem WM (l:iW D) (p:ht D) (F:p.F) (E:List (Nat×aV D)) (O:List (aR D)) {af:Type} (K:eS->List (Nat×aV D)->List (aR D)->Option af):p.run (X.fE l) F E O K=p.run X F E O K:=by
 simp_all [LN,wG,r8,VF,wL,ht.run,ht.Ck,ah5]
def yI:eS->eS
 | .normal=> .ret
 |ex=>ex
theorem aip {ex:eS} (h:yI ex= .ret):ex= .normal\/ex= .ret:=by
 cases ex<;>first|grind|exact .inr rfl|cases h
structure fO (D:Nat->Type) where
 f:Nat
 np:Nat
 ins:List dr
 fx:List (Nat×aV D)
 ks:List Nat
 outs:List dr
 e0:List (Nat×aV D)
 ev:List Nat
 bi:Bool:=as9
def DS (keep:List Nat) (i:Nat) (O:List (aR D)):List (aR D):=
 match O[i]? with
 |some (.box t cs as9 w)=>if (!(keep.any (ath i))&&cs.all Yy)=as5 then O.set i (.box t cs as5 w) else O
 |_=>O
def GH (keep:List Nat):Nat->List (aR D)->List (aR D)
 |0,O=>O
 |n+1,O=>DS keep n (GH keep n O)
theorem ai9 {keep:List Nat} {i:Nat} (aw:bC X.G O z e m k vs):∃z',Inv O (DS keep i O)/\dt e.next z z'/\bC X.G (DS keep i O) z' e m k vs:=by
 unfold DS;split
 ·rename_i t cs w an;split
  ·rename_i ah;simp only[ati] at ah;obtain ⟨v,ab,cn⟩:=aw.at an;have adn:=cn;obtain ⟨b,ds,rfl,_⟩:=adn;have iy:uY O (.box i 0)=as4 ((t,cs),O.set i (.box t cs as5 w)):=by
    grind [uY]
   obtain ⟨z',bg,U,aa,_⟩:=Ov (X:=X) aw (s:= .box i 0) (g:= .pointer (as4 ⟨b,0,as6⟩)) ⟨b,ab,rfl⟩ iy
   grind
  grind [Inv.refl,dt.refl]
 grind [Inv.refl,dt.refl]
theorem WW {keep:List Nat} (aw:bC X.G O z e m k vs):∀n:Nat,∃z',Inv O (GH keep n O)/\dt e.next z z'/\bC X.G (GH keep n O) z' e m k vs
 |0=>⟨z,Inv.refl _,dt.refl z,aw⟩
 |n+1=>by obtain ⟨cv,bg,U,aa⟩:=WW aw n;obtain ⟨cT,eO,aU,aO⟩:=ai9 (keep:=keep) (i:=n) aa;exact ⟨cT,bg.trans eO,U.trans aU,aO⟩
def fO.pre (d:fO D) (cp:List (aV D)) (O:List (aR D)):List (aR D):=if d.bi=as5 then GH (Pz O 100 (YJ (jK 0 cp)) []) O.length O else O
theorem fO.aeA {d:fO D} {cp:List (aV D)} (aw:bC X.G O z e m k vs):∃z',Inv O (d.pre cp O)/\dt e.next z z'/\bC X.G (d.pre cp O) z' e m k vs:=by
 grind [fO.pre,WW,Inv.refl,dt.refl]
def fO.hS (d:fO D):ht D:={path:=[],ins:=d.ins,fx:=d.fx,ks:=d.ks,iJ:=[⟨.ret,d.outs,d.e0⟩],keep:=[]}
def afh:eS->Bool
 | .ret=>as5
 |_=>as9
variable (X) in
def fO.call (d:fO D) (F:d.hS.F) (cp:List (aV D)) (O:List (aR D)) {af:Type} (K:aV D->List (aR D)->Option af):Option af:=
 if ath cp.length d.np=as5 then d.hS.run X F (jK 0 cp) (d.pre cp O) fun ex E O=>if afh ex=as5 then (match u7 E d.ev with|some df=>K df O|none=>as6) else as6
 else as6
variable (X) in
def fO.fits (d:fO D) (cp:List (aV D)) (O:List (aR D)):Bool:=
 ath cp.length d.np&&(qm X d.ins d.fx (iA d.ins (jK 0 cp) O).1 (iA d.ins (jK 0 cp) O).2).isSome
structure Lv (P:atb) (X:et P D) (d:fO D) (F:d.hS.F):Prop where
 ex:∃fn c,P.funcs[d.f]? =as4 fn/\qe P fn c/\kS P d.f=as5/\atn d.np fn.ntmps=as5/\fn.results.toList=d.ev.map .tmp/\d.hS.n4 c=as5/\qB yI X c d.hS F
def gH (X:et P D) (d:fO D) (F:d.hS.F):Prop:=∀(cp:List (aV D)) (O:List (aR D)) {af:Type} (K:aV D->List (aR D)->Option af) (r:af) {z:Nat->bm} {e m:Mem} {k:Option Nat} {vs:List as7} (args:List as7),
 bC X.G O z e m k vs->bp (rel X.G z vs) cp args->d.call X F cp O K=as4 r->hi P d.f args.toArray m fun v m'=>dj X O z e k vs K r v m'
theorem XT {m:Mem}:∀(l:List Nat),oy P fr m (l.map .tmp) (l.map fr)
 |[]=>trivial
 |_::l=>⟨rfl,XT l⟩
theorem Lv.call {d:fO D} {F:d.hS.F} (dQ:Lv P X d F):gH X d F:=by
 intro cp O af K r z e m k vs args aw cV h;obtain ⟨fn,c,f1,f2,f3,f4,f5,f6,jZ⟩:=dQ.ex;unfold fO.call at h;obtain ⟨hlen,h⟩:=fJ h;have hlen:=atl hlen;have b6:args.toArray.size<=fn.ntmps:=by rw[List.size_toArray,<-cV.length,hlen];exact ato f4
 refine hi.any f1 f2 f3 b6 fun fr hg=> ?_;have a1:eK X z vs (jK 0 cp) fr:=Fo cV fun j v a0=>by rw[atB];exact hg j v (by simpa using a0)
 obtain ⟨as2,sD,iB,iP⟩:=fO.aeA (d:=d) (cp:=cp) aw;have ag:=jZ.wv f6 (jK 0 cp) (d.pre cp O) _ r iP (a1.mono iB.le fun _ _ h=>h) h;rw[show sub c d.hS.path=c from qd c] at ag;refine ag.mono ?_;rintro ex cU bx ⟨cv,jo,hW,b2,bg,U,aa,ao,aN,bI⟩;obtain ⟨aF,bI⟩:=fJ bI;have hex:yI ex= .ret:=by revert aF;cases yI ex<;>intro aF<;>first|rfl|cases aF
 split at bI
 ·rename_i df tZ;obtain ⟨b5,cc⟩:=OX aN tZ;exact ⟨aip hex,_,by rw[f5];exact XT d.ev,cc,cv,jo,df,b2,sD.trans bg,iB.trans U,aa,ao,b5,bI⟩
 ·cases bI
theorem gH.base {q:iW D} {d:fO D} {F:d.hS.F} (h:gH (X.fE q) d F):gH X d F:=by
 intro cp O af K r z e m k vs args aw cV ah;have ah:d.call (X.fE q) F cp O K=as4 r:=by unfold fO.call at ah⊢;rw[WM];exact ah
 exact h cp O K r args aw cV ah
structure GE (D:Nat->Type) where
 d:fO D
 F:d.hS.F
def fO.Ts (d:fO D) (cp:List (aV D)) (O:List (aR D)):Bool:=ath ((iA d.ins (jK 0 cp) O).2.filter aR.live).length (gv d.ins)
variable (X) in
def Tf (l:List (GE D)) (d:fO D) (f:Nat) (cp:List (aV D)) (O:List (aR D)):Bool:=d.fits X cp O&&(d.Ts cp O|| !(l.any fun y=>ath y.d.f f&&(y.d.Ts cp O&&y.d.fits X cp O)))
variable (X) in
def D0:List (GE D)->Nat->List (aV D)->List (aR D)->{af:Type}->(aV D->List (aR D)->Option af)->Option af
 |[],f,cp,O,_,K=>X.C f cp O K
 |x::l,f,cp,O,_,K=>if (ath x.d.f f&&Tf X l x.d f cp O)=as5 then x.d.call X x.F cp O K else D0 l f cp O K
variable (X) in
def D1:List (GE D)->Nat->List (aV D)->List (aR D)->Bool
 |[],f,cp,O=>X.F f cp O
 |x::l,f,cp,O=>if (ath x.d.f f&&Tf X l x.d f cp O)=as5 then as9 else D1 l f cp O
variable (X) in
def x7:List (GE D)->Nat->Bool
 |[],f=>X.W f
 |x::l,f=>ath x.d.f f||x7 l f
def et.gen (X:et P D) (l:List (GE D)):et P D:=X.fE ⟨D1 X l,X.hJ,D0 X l,x7 X l⟩
theorem X4 (ca:hV X) {f:Nat} {cp:List (aV D)} {K:aV D->List (aR D)->Option af} {r:af} {args:List as7} (aw:bC X.G O z e m k vs) (cV:bp (rel X.G z vs) cp args):∀{l:List (GE D)},(∀x∈l,gH X x.d x.F)->D0 X l f cp O K=as4 r->
  hi P f args.toArray m fun v m'=>dj X O z e k vs K r v m'/\(D1 X l f cp O=as5->m'=m)/\(x7 X l f=as9->∃q,fY m m' q/\nv vs (pf cp) q)
 |[],_,ah=>ca f cp O K r args aw cV ah
 |x::l,h,ah=>by
  unfold D0 at ah;unfold D1 x7;split at ah
  ·rename_i ad;rw[if_pos ad];simp only[ati] at ad;have:=atl ad.1;subst this;refine (h x atU cp O K r args aw cV ah).mono fun v m' a2=>⟨a2,fun bJ=>avP bJ,fun bJ=> ?_⟩
   rw[ad.1] at bJ;cases bJ
  ·rename_i ad;rw[if_neg ad];refine (X4 ca aw cV (fun y aJ=>h y (atC _ aJ)) ah).mono fun v m' a2=>⟨a2.1,a2.2.1,fun bJ=>a2.2.2 ?_⟩
   cases ag:x7 X l f with
   |false=>rfl
   |true=>rw[ag,Bool.or_true] at bJ;cases bJ
theorem hV.gen {l:List (GE D)} (ca:hV X) (h:∀x∈l,gH X x.d x.F):hV (X.gen l):=by
 intro f cp O af K r z e m k vs args aw cV ah;exact X4 (X:=X) ca aw cV h ah
theorem ih.fE {q:iW D} {d:ff D} {F:d.F} (h:ih (X.fE q) d F):ih X d F:=by
 intro cp O af K r z e m k vs args aw cV ah;rw[<-Wm q] at ah;exact h cp O K r args aw cV ah
theorem gH.up {q:iW D} {d:fO D} {F:d.hS.F} (h:gH X d F):gH (X.fE q) d F:=by
 intro cp O af K r z e m k vs args aw cV ah;have ah:d.call X F cp O K=as4 r:=by unfold fO.call at ah⊢;rw[WM] at ah;exact ah
 exact h cp O K r args aw cV ah
theorem hV.abK {bl:List (qF D)} {l:List (GE D)} (ca:hV (X.with bl)) (h:∀x∈l,gH X x.d x.F):hV ((X.with bl).gen l):=hV.gen ca fun x ad=>(h x ad).up
theorem aj2:∀y∈([]:List (GE D)),gH X y.d y.F:=by simp
theorem aiz {l:List (GE D)} {x:GE D} (h:gH X x.d x.F) (ax:∀y∈l,gH X y.d y.F):∀y∈x::l,gH X y.d y.F:=by
 grind
end
end
end Go.ay
end
section
namespace Go.ay
noncomputable section
section
variable {P:atb} {D:Nat->Type} {bB:et P D}
structure qE (bB:et P D) where
 X:et P D
 ok:hV X
 hM:∀{d:ff D} {F:d.F},ih X d F->ih bB d F
 TC:∀{d:fO D} {F:d.hS.F},gH X d F->gH bB d F
def qE.oS (E:qE bB) (f:atd->Option atd->Option atd->Nat):qE bB:=⟨E.X.oS f,hV.oS E.ok,fun h=>E.hM (ih.oS h),fun h=>E.TC (gH.base h)⟩
structure bX (bB:et P D) where
 bl:List (qF D)
 gs:List (GE D)
 ok:∀y∈bl,ih bB y.d y.F
 Mw:∀y∈gs,gH bB y.d y.F
def bX.nil:bX bB:=⟨[],[],by simp,aj2⟩
def bX.cj (T:bX bB) (d:ff D) (F:d.F) (h:ih bB d F):bX bB:=⟨⟨d,F⟩::T.bl,T.gs,ahc (x:=⟨d,F⟩) h T.ok,T.Mw⟩
def bX.hZ (T:bX bB) (d:fO D) (F:d.hS.F) (h:gH bB d F):bX bB:=⟨T.bl,⟨d,F⟩::T.gs,T.ok,aiz (x:=⟨d,F⟩) h T.Mw⟩
def bX.a6 (T:bX bB):qE bB:=⟨(bB.with T.bl).gen T.gs,hV.abK (hV.of T.ok) T.Mw,fun h=>ih.fE (ih.fE h),fun h=>gH.base (gH.base h)⟩
structure dv (E:qE bB) (B:Code) where
 us:List (k1 D)
 ok:∀u∈us,oP E.X B u
variable {E:qE bB} {B:Code}
def dv.nil:dv E B:=⟨[],apE⟩
def dv.add (hJ:dv E B) (p:ht D) (F:p.F) (h:oN E.X B p F) (ar:p.n4 B=as5):dv E B:=⟨p.wv E.X F::hJ.us,aox (h.wv ar) hJ.ok⟩
def dv.aM (hJ:dv E B) (p:ht D) (F:p.F) (ar:p.n4 B=as5:=by kernel_rfl)
  (ek:∀x,jD E.X hJ.us calm as5 p.path.reverse (ay.sub B p.path) (gu E.X p.ins x++p.fx) (eu E.X p.ins x) (rL E.X (gv p.ins) p.ks p.iJ)=F x:=by intro x;kernel_rfl):dv E B:=
 hJ.add p F (oN.of E.ok (fun u h _=>hJ.ok u h) ek) ar
def X6:Code->Bool
 | .loop _=>as5
 |_=>as9
theorem ahq {B:Code} {p:List Nat} (h:X6 (ay.sub B p)=as5):ay.sub B p= .loop (ay.sub B (p++[0])):=by
 rw[<-OZ];cases ah:ay.sub B p<;>rw[ah] at h<;>first|(cases h;done)|exact congrArg Code.loop (qd _).symm
def dv.b4 (hJ:dv E B) (N:Nat) (p:ht D) (F:Nat->p.F) (ar:(X6 (ay.sub B p.path)&&p.n4 B)=as5:=by kernel_rfl) (bg:∀x,F 0 x=as6:=by exact fun x=>rfl)
  (ek:∀n x,jD E.X hJ.us calm as5 (0::p.path.reverse) (ay.sub B (p.path++[0])) (gu E.X p.ins x++p.fx) (eu E.X p.ins x) (Yv E.X p (F n))=F (n+1) x:=by intro n x;kernel_rfl):dv E B:=
 hJ.add p (F N) (oN.loop E.ok (ahq (auG.1 ar).1) (auG.1 ar).2 (fun u h _=>hJ.ok u h) bg ek N) (auG.1 ar).2
def GC (P:atb) (f np:Nat) (fn:Func):Bool:=fn.body.isSome&&(kS P f&&atn np fn.ntmps)
theorem Xg {fn:Func} (h:fn.body.isSome=as5):fn.body=as4 (hq fn):=by
 unfold hq;cases ag:fn.body with
 |none=>grind
 |some c=>rfl
def ff.g6 (P:atb) (d:ff D) (fn:Func):Bool:=GC P d.f d.np fn&&(qh d.outs&&((d.fx.all fun p=>rF p.2)&&((d.e0.all fun p=>rF p.2)&&(d.fx.all fun p=>(Ci p.2).isNone))))
theorem dv.fn {fn:Func} (hJ:dv E (hq fn)) {d:ff D} {F:d.F} (bg:P.funcs[d.f]? =as4 fn) (U:d.g6 P fn=as5:=by kernel_rfl) (aa:fn.results.toList=d.kJ:=by exact rfl)
  (ek:∀r x,jD E.X hJ.us calm as5 [] (hq fn) (gu E.X d.ins x++(d.fx++ql d.iU)) (rJ E.X d.iU r) (Zw E.X d)=F r x:=by intro r x;kernel_rfl):ih bB d F:=by
 unfold ff.g6 GC at U;simp only[ati] at U;obtain ⟨⟨cG,dE,gf⟩,ik,xR,vB,vC⟩:=U;exact E.hM (Lt.call ⟨⟨fn,_,bg, .inl (Xg cG),dE,gf,aa,C4.of E.ok (us:=hJ.us) (fun u h _=>hJ.ok u h) ek⟩,ik,xR,vB,vC⟩)
def fO.g6 (P:atb) (d:fO D) (fn:Func):Bool:=GC P d.f d.np fn&&d.hS.n4 (hq fn)
theorem dv.h2 {fn:Func} (hJ:dv E (hq fn)) {d:fO D} {F:d.hS.F} (bg:P.funcs[d.f]? =as4 fn) (U:d.g6 P fn=as5:=by kernel_rfl) (aa:fn.results.toList=d.ev.map .tmp:=by exact rfl)
  (ek:∀x,jD E.X hJ.us calm as5 d.hS.path.reverse (ay.sub (hq fn) d.hS.path) (gu E.X d.hS.ins x++d.hS.fx) (eu E.X d.hS.ins x) (fun ex=>rL E.X (gv d.hS.ins) d.hS.ks d.hS.iJ (yI ex))=F x:=by intro x;kernel_rfl):gH bB d F:=by
 unfold fO.g6 GC at U;simp only[ati] at U;obtain ⟨⟨cG,dE,gf⟩,ik⟩:=U;exact E.TC (Lv.call ⟨⟨fn,_,bg, .inl (Xg cG),dE,gf,aa,ik,qB.of E.ok (us:=hJ.us) (fun u h _=>hJ.ok u h) ek⟩⟩)
end
end
end Go.ay
end
