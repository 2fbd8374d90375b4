import Derived.Test.YtfmpkhcaifbonaaGreatDoorMb
set_option linter.unusedSimpArgs false
set_option linter.unusedVariables false
open Bool renaming and_eq_true->avk,and_eq_true_iff->awJ,and_self->awT,noConfusion->axQ,not_eq_true'->awR,or_eq_true->awl,false->ava,true->au7
open Classical renaming choose->axR
open Go renaming Operand->avf,Program->avd,Value->au9
open List renaming all_cons->av0,all_eq_true->avt,eq_nil_of_length_eq_zero->awd,ext_getElem?->aww,flatMap_cons->awQ,getD_eq_getElem?_getD->axE,getElem?_append_left->avP,getElem?_append_right->avO,getElem?_cons_succ->awp,getElem?_eq_getElem->avV,getElem?_eq_some_iff->avr,getElem?_map->awb,getElem?_set->avU,length_append->awa,length_cons->awh,length_map->awk,length_set->awt,map_congr_left->axS,map_cons->awe,mem_append->avT,mem_cons->avu,mem_cons_of_mem->avE,mem_cons_self->avX,mem_map->avy,mem_of_getElem?->av4,range->avQ
open Nat renaming add_mul->avL,add_zero->av2,beq->avj,ble->avp,blt->avA,blt_eq->axu,eq_of_beq_eq_true->avn,le_of_ble_eq_true->avq,le_refl->avm,le_succ->avJ,le_trans->avz,lt_of_lt_of_le->avx,zero_add->avD
open Option renaming bind->au',getD_some->axq,map_eq_some_iff->awU,some->avl,none->au8,some->au6
section
namespace Go.av
section
variable {P:avd} {D:Nat->Type} {X:ez P D} {af:Type} {z z':Nat->bo} {e m m':Mem} {k:Option Nat} {vs:List au9} {fr:Nat->au9} {E:List (Nat×aX D)} {O:List (aT D)} {o:Oper} {r:af}
variable {x y:avf} {t u:TypeId} {K:aX D->List (aT D)->Option af}
def gh (m m':Mem) (q:Option Nat):Prop:=m.next<=m'.next/\∀b,b<m.next->q≠au6 b->m'.aS b=m.aS b
def nN (vs:List au9) (ts:List Nat) (q:Option Nat):Prop:=q=au8\/∃i,i∈ts/\∃v,vs[i]? =au6 v/\q=dz v
theorem cj.mono {af:avf->au9} {K k1:Tag->au9->Mem->Prop} (h:cj P af o m K) (au:∀t v m',K t v m'->k1 t v m'):cj P af o m k1:=by
 rcases h with ⟨v,h,g⟩|⟨v,I,h,g⟩|⟨v,h,g⟩|⟨Y,v,h,g⟩|⟨n,v,m',h,g⟩
 ·exact .inl ⟨v,h,au _ _ _ g⟩
 ·exact .inr (.inl ⟨v,I,h,au _ _ _ g⟩)
 ·exact .inr (.inr (.inl ⟨v,h,au _ _ _ g⟩))
 ·exact .inr (.inr (.inr (.inl ⟨Y,v,h,au _ _ _ g⟩)))
 ·exact .inr (.inr (.inr (.inr ⟨n,v,m',h,au _ _ _ g⟩)))
def h6 (X:ez P D):Prop:=∀(f:Nat) (cq:List (aX D)) (O:List (aT D)) {af:Type} (K:aX D->List (aT D)->Option af) (r:af) {z:Nat->bo} {e m:Mem} {k:Option Nat} {vs:List au9} (args:List au9),
 bF X.G O z e m k vs->br (rel X.G z vs) cq args->X.C f cq O K=au6 r->hs P f args.toArray m fun v m'=>dk X O z e k vs K r v m'/\(X.F f cq O=au7->m'=m)/\(X.W f=ava->∃q,gh m m' q/\nN vs (pD cq) q)
theorem br.caps {caps:List (Nat×List (bZ D))} {gs:List au9} (h:br (fun c g=>mq X.G z vs c.2 0 g) caps gs):br (rel X.G z vs) (caps.map fun p=>aX.g4 p.1 p.2 0) gs:=by
 induction caps generalizing gs with
 |nil=>cases gs with
  |nil=>trivial
  |cons _ _=>exact h.elim
 |cons c caps ar=>cases gs with
  |nil=>exact h.elim
  |cons g gs=>exact ⟨h.1,ar h.2⟩
theorem WJ {aA:Type} {T:ct aA} {gB:aA->List au9} (ab:∀z x ds,T.rd z x ds->ds=gB x) {L:List au9}:∀{xs:List aA} {o:Nat},(∀(i:Nat) (x:aA),xs[i]? =au6 x->∃cs,T.rd z x cs/\nk L (o+i*T.a7) cs)->(∀x∈xs,(gB x).length=T.a7)->
  ∀(i:Nat) (v:au9),(xs.flatMap gB)[i]? =au6 v->L[o+i]? =au6 v
 |[],o,_,_,i,v,h=>by grind
 |x::xs,o,h,az,i,v,aj=>by
  obtain ⟨cs,U,aa⟩:=h 0 x rfl;have:=ab _ _ _ U;subst this;have NN:=az x avX;rw[awQ,List.getElem?_append] at aj;split at aj
  ·have:=aa i v aj
   grind
  ·rename_i gU;have:=WJ ab (xs:=xs) (o:=o+T.a7) (L:=L) (fun j y aZ=>by
    obtain ⟨cs,aU,aQ⟩:=h (j+1) y (by grind)
    grind) (fun y aI=>az y (avE _ aI)) _ v aj
   grind
theorem Ys {aA:Type} {gB:aA->List au9} {n:Nat}:∀{xs:List aA},(∀x∈xs,(gB x).length=n)->∀(i j:Nat) (x:aA) (v:au9),xs[i]? =au6 x->(gB x)[j]? =au6 v->(xs.flatMap gB)[i*n+j]? =au6 v
 |[],_,i,j,x,v,h,_=>by grind
 |y::xs,az,0,j,x,v,h,aZ=>by
  grind
 |y::xs,az,i+1,j,x,v,h,aZ=>by have aI:=az y avX;rw[awQ,avL,Nat.one_mul,avO (by omega),show i*n+n+j - (gB y).length=i*n+j by omega];exact Ys (fun x ae=>az x (avE _ ae)) i j x v (by grind) aZ
theorem Pn {aA:Type} {gB:aA->List au9} {n:Nat}:∀{xs:List aA},(∀x∈xs,(gB x).length=n)->(xs.flatMap gB).length=xs.length*n
 |[],_=>by simp
 |x::xs,h=>by rw[awQ,awa,h x avX,Pn fun y aI=>h y (avE _ aI),awh,avL];omega
theorem aku {cq:List (aX D)} {n:Nat} (h:Q2 (HX cq) n=au7):∃s,cq=[s, .fn n []]:=by
 unfold HX at h;split at h
 ·rename_i s g;obtain rfl:=avn h
  grind
 ·cases h
theorem F1 {f:Nat} {caps:List (Nat×List (bZ D))} {cq:List (aX D)} {fw:tS P X.G}:∀{l:List (tS P X.G)},vz X l f caps cq=au6 fw->fw.f=f/\caps=[]/\∃s,cq=[s, .fn fw.g []]
 |[],h=>by cases h
 |s::l,h=>by
  unfold vz at h;by_cases ai:(avj s.f f&&(caps.isEmpty&&Q2 (HX cq) s.g))=au7
  ·simp_all [aku]
  ·rw[if_neg ai] at h;exact F1 h
theorem WU {f:Nat} {cq:List (aX D)} {fw:tS P X.G} {args:List au9} {caps:List (Nat×List (bZ D))} (bb:vz X X.S f caps cq=au6 fw) (ay:bF X.G O z e m k vs) (cU:br (rel X.G z vs) cq args) (h:Qf X fw cq O K=au6 r):
  hs P f args.toArray m fun v m'=>dk X O z e k vs K r v m'/\∃q,gh m m' q/\nN vs (zT cq) q:=by
 obtain ⟨rfl,_,s,rfl⟩:=F1 bb
 match args,cU with
 |[cz,dw],⟨U,⟨gs,aa,ap⟩,_⟩=>
  have uy:gs=[]:=by cases gs with
   |nil=>rfl
   |cons _ _=>exact ap.elim
  subst uy;subst aa;unfold Qf at h;split at h
  ·rename_i h3 l aC;cases aC;have U:cz= .slice au8 0 0:=U;subst U;exact hs.sort fw.ok (.none au8 0 fw.g fw.bf rfl) ⟨dk.here (dh:= .nz []) ay ⟨[],rfl,trivial⟩ h,au8,⟨avm _,fun _ _ _=>rfl⟩, .inl rfl⟩
  ·rename_i i l aC;cases aC;split at h
   ·rename_i t xs w ao;split at h
    ·rename_i he;subst he;obtain ⟨b7,aI,h⟩:=bind_some h;have cp:dM (X.G.T fw.e) z e m k xs cz:=ay.obj i _ cz ao U.1;have uJ:∀x∈xs,(fw.gB x).length=(X.G.T fw.e).a7:=fun x _=>(X.G.T fw.e).len z x _ (fw.aE z x);have Vy:∀x∈b7,(fw.gB x).length=(X.G.T fw.e).a7:=fun x _=>(X.G.T fw.e).len z x _ (fw.aE z x);have a1:=fw.a1 xs b7 aI;have uv:∀l:List (D fw.e),(l.flatMap fw.gB).all cP=au7:=fun l=>by
      rw[avt];intro v ab;obtain ⟨x,_,ae⟩:=List.mem_flatMap.1 ab;exact avt.1 (fw.bb x) v ae
     rcases cp.bt with ⟨rfl,rfl⟩|⟨b,f0,L,c,rfl,aU,aQ,bT,cT,eL,gX⟩
     ·have rz:b7=[]:=awd (by grind);subst rz;refine hs.sort fw.ok (.none au8 0 fw.g fw.bf rfl) ⟨⟨z,vs, .nz [],_,Inv.set O i (.inr rfl),dr.refl z,fun _ _ h=>h, ?_,⟨[],rfl,trivial⟩,h⟩,au8,⟨avm _,fun _ _ _=>rfl⟩, .inl rfl⟩;exact ay.mY (m':=m) ao U.1 rfl ⟨avm _,ay.aL.dead,fun _ _ _=>rfl⟩ ay.aL cp
     ·by_cases gd:xs.length=0
      ·have aff:xs=[]:=awd gd;subst aff;have rz:b7=[]:=awd (by grind);subst rz;refine hs.sort fw.ok (.none _ c fw.g fw.bf rfl) ⟨⟨z,vs, .nz [],_,Inv.set O i (.inr rfl),dr.refl z,fun _ _ h=>h, ?_,⟨[],rfl,trivial⟩,h⟩,au8,⟨avm _,fun _ _ _=>rfl⟩, .inl rfl⟩;exact ay.mY (m':=m) ao U.1 rfl ⟨avm _,ay.aL.dead,fun _ _ _=>rfl⟩ ay.aL cp
      ·have atW:=Pn uJ;have atX:=Pn Vy;have hlen:(e9 L f0 (b7.flatMap fw.gB)).length=L.length:=nn _ _ _;have bd:=cp.bd b rfl;have E2:fM m (m.put b (.own (e9 L f0 (b7.flatMap fw.gB)) (X.G.T fw.e).tid)) (au6 b):=by
        refine ⟨avm _,fun c ai=> ?_,fun c ai au=> ?_⟩
        ·have ai:m.next<=c:=ai;simp only[Mem.put];rw[if_neg (by omega)];exact ay.aL.dead c ai
        grind [Mem.put]
       refine hs.sort fw.ok (.row b f0 xs.length c fw.g L (X.G.T fw.e).tid (xs.flatMap fw.gB) (b7.flatMap fw.gB) (fw.aC xs b7 aI (by omega)) rfl (by omega) aU ?_ (by grind) (by grind) (uv _) (uv _)) ⟨⟨z,vs, .nz [],_,Inv.set O i (.inr rfl),dr.refl z,fun _ _ h=>h, ?_,⟨[],rfl,trivial⟩,h⟩,au6 b,⟨avm _,E2.aS⟩, .inr ⟨i,by simp[zT],_,U.1,rfl⟩⟩
       ·refine aww fun j=> ?_;rw[List.getElem?_take];split
        ·rename_i aZ;rw[List.getElem?_drop];have ab:=avV aZ;rw[ab];exact WJ fw.ab (fun i x ae=>gX i x ae) uJ j _ ab
        grind
       ·refine ay.mY ao U.1 rfl E2 (ay.aL.put _ bT aQ bd.2) ⟨.inr ⟨b,f0,e9 L f0 (b7.flatMap fw.gB),c,by grind,by simp[Mem.put],aQ,bT,by grind,by grind,fun i x ae=> ?_⟩,cp.fresh⟩;refine ⟨fw.gB x,fw.aE z x,fun j v aZ=> ?_⟩;have au:=Ys Vy i j x v ae aZ;rw[oQ _ _ _ _ (by grind)];have bS:=(avr.1 au).1;rw[if_pos (by omega),show f0+i*(X.G.T fw.e).a7+j - f0=i*(X.G.T fw.e).a7+j by omega]
        grind
    grind
   grind
  grind
 |[],h=>exact h.elim
 |[_],⟨_,h⟩=>exact h.elim
 |_::_::_::_,⟨_,_,h⟩=>exact h.elim
theorem Xi:∀{is:List Nat} {gs:List au9},br (q6 vs) is gs->br (rel X.G z vs) (is.map fun i=>aX.box i 0) gs
 |[],[],_=>trivial
 |[],_::_,h=>h.elim
 |_::_,[],h=>h.elim
 |_::_,_::_,⟨⟨bf,b,h⟩,aa⟩=>⟨⟨b,by grind,h⟩,Xi aa⟩
theorem aja (cf:h6 X) {c:Call} (ao:o.op= .call c) (ay:bF X.G O z e m k vs) (a0:∀x,rel X.G z vs (cY E x) (a8 fr x)) (h:qA X c E O K=au6 r):cj P (a8 fr) o m fun _ v m'=>dk X O z e k vs K r v m':=by
 obtain ⟨ce,as,ts⟩:=c;cases ce with
 |invoke r m=>cases h
 |value f=>
  simp only[qA] at h;split at h
  ·rename_i lA caps bb;have hq:=a0 f;rw[bb] at hq;obtain ⟨gs,uw,a5⟩:=hq;split at h
   ·rename_i fw pq;have Nr:caps=[]:=(F1 pq).2.1;subst Nr;have uy:gs=[]:=by cases gs with
     |nil=>rfl
     |cons _ _=>exact a5.elim
    subst uy;refine cj.call (zC (args:=(as.toList.map (a8 fr)).toArray) (caps:=#[]) ao uw (by grind) rfl) ?_;have:=(WU pq ay (vb a0) h).mono fun _ _ h=>h.1
    grind
   refine cj.call (zC (args:=(as.toList.map (a8 fr)).toArray) (caps:=gs.toArray) ao uw (by grind) rfl) ?_;have:=(cf lA _ O K r (as.toList.map (a8 fr)++gs) ay ((vb a0).append a5.caps) h).mono fun _ _ h=>h.1
   grind
  ·rename_i lA is bb;have hq:=a0 f;rw[bb] at hq;obtain ⟨gs,uw,a5⟩:=hq;refine cj.call (zC (args:=(as.toList.map (a8 fr)).toArray) (caps:=gs.toArray) ao uw (by grind) rfl) ?_;have:=(cf lA _ O K r (as.toList.map (a8 fr)++gs) ay ((vb a0).append (Xi a5)) h).mono fun _ _ h=>h.1
   grind
  grind
 |builtin b=>
  cases b with
  |len=>
   simp only[qA] at h;split at h
   ·rename_i x t aY aw;have sD:as=#[x]:=by grind
    have mM:ts=#[t]:=by grind
    subst sD mM;exact akg (ts:=#[t]) ao ay (a0 x) h
   grind
  |append=>
   simp only[qA] at h;split at h
   ·rename_i x y t u aY aw;have sD:as=#[x,y]:=by grind
    have mM:ts=#[t,u]:=by grind
    grind [aiZ,ai',ai9,ajD]
   grind
  |cap=>
   simp only[qA] at h;split at h
   ·rename_i x t aY aw;have sD:as=#[x]:=by grind
    have mM:ts=#[t]:=by grind
    subst sD mM;split at h
    ·rename_i g5 ae hu;have ab:=a0 x;rw[ae] at ab;exact cj.pure (.yu x t g5 ao hu ab) (dk.here (dh:= .c (.int .i64 0)) ay rfl h)
    grind
   grind
  |max=>
   simp only[qA] at h;split at h
   ·rename_i x y aY;have sD:as=#[x,y]:=by grind
    subst sD;have ae:=a0 x;have aI:=a0 y;split at h
    ·rename_i b6 a cc b U aa;rw[U] at ae;rw[aa] at aI;split at h
     ·rename_i au;subst au;exact ja ay h (ZA ao ae aI) rfl
     grind
    grind
   grind
  |min=>
   simp only[qA] at h;split at h
   ·rename_i x y aY;have sD:as=#[x,y]:=by grind
    subst sD;have ae:=a0 x;have aI:=a0 y;split at h
    ·rename_i b6 a cc b U aa;rw[U] at ae;rw[aa] at aI;split at h
     ·rename_i au;subst au;exact ja ay h (ZB ao ae aI) rfl
     grind
    grind
   grind
  |_=>cases h
theorem ajR {s:aX D} {v:au9} {p:Rx D} (ay:bF X.G O z e m k vs) (h:Qy O s=au6 p) (ab:rel X.G z vs s v):lY (X.G.M p.u p.bi p.bg) z p.es v\/iE (X.G.M p.u p.bi p.bg) z e m k p.es v:=by
 unfold Qy at h;split at h
 ·cases h;exact .inl ab
 ·split at h
  ·rename_i u bi bg es bl di ao;cases h;have cp:=ay.obj _ _ v ao ab.1;cases bl with
   |true=>exact .inl cp
   |false=>exact .inr cp
  grind
 grind
theorem GG (cf:h6 X) {op:Op} (ao:o.op=op) (ay:bF X.G O z e m k vs) (a0:∀x,rel X.G z vs (cY E x) (a8 fr x)) (h:h1 X op E O K=au6 r):cj P (a8 fr) o m fun _ v m'=>dk X O z e k vs K r v m':=by
 cases op with
 |move x=>exact ja ay h (aid ao rfl) (a0 x)
 |assign x=>exact ja ay h (apz ao rfl) (a0 x)
 |nilCheck x=>
  have ae:=a0 x;simp only[h1] at h;split at h
  ·rename_i i off aC;have nZ:=ae;rw[aC] at nZ;obtain ⟨b,_,ab⟩:=nZ;exact ja ay h (by rw[ab];exact .nilCheck x _ ao ab) ae
  ·rename_i i aC;have nZ:=ae;rw[aC] at nZ;obtain ⟨b,l,_,ab⟩:=nZ;exact ja ay h (by rw[ab];exact .nilCheck x _ ao ab) ae
  ·rename_i i bu cL off aC;have nZ:=ae;rw[aC] at nZ;obtain ⟨b,f0,l,c,_,ab⟩:=nZ;exact ja ay h (by rw[ab];exact .nilCheck x _ ao ab) ae
  ·rename_i t cs off aC;have nZ:=ae;rw[aC] at nZ;obtain ⟨b,pz,ds,ab,_⟩:=nZ;exact ja ay h (by rw[ab];exact .nilCheck x _ ao ab) ae
  ·cases h
 |extract x i=>
  have ae:=a0 x;simp only[h1] at h;split at h
  ·rename_i l aC;rw[aC] at ae;obtain ⟨ds,ab,az⟩:=ae;split at h
   ·rename_i c ai;obtain ⟨w,hw,aE⟩:=az.get i _ ai;exact ja ay h (Xy ao ab hw) aE
   ·rename_i p ai;obtain ⟨w,hw,aE⟩:=az.get i _ ai;exact ja ay h (Xy ao ab hw) aE
   ·cases h
  ·cases h
 |pick c a b=>
  have ai:=a0 c;simp only[h1] at h;split at h
  ·rename_i aC;rw[aC] at ai;exact ja ay h (ZE (t:=au7) ao ai (if_pos rfl)) (a0 a)
  ·rename_i aC;rw[aC] at ai;exact ja ay h (ZE (t:=ava) ao ai (if_neg (by simp))) (a0 b)
  ·cases h
 |binOp op t x y u=>
  simp only[h1] at h;have ae:=a0 x;have aI:=a0 y;split at h
  ·rename_i t1 c1 t2 c2 U aa;rw[U] at ae;rw[aa] at aI;obtain ⟨c,v,fH,aM,aE⟩:=aqs ao ae aI h;exact ja ay fH aM aE
  ·obtain ⟨c,v,fH,aM,aE⟩:=akM ao ay ae aI h;exact ja ay fH aM aE
 |unOp op t x=>
  have ae:=a0 x;cases op with
  |not=>
   simp only[h1] at h;split at h
   ·rename_i b aC;rw[aC] at ae;exact ja ay h (V7 ao ae) rfl
   ·cases h
  |neg=>
   simp only[h1] at h;split at h
   ·rename_i kk a aC;rw[aC] at ae;exact ja ay h (V5 ao ae) rfl
   ·cases h
  |_=>simp[h1] at h
 |convert s t x=>exact aju ao ay (a0 x) h
 |indexAddr t x y=>
  cases x with
  |global g=>exact ake ao ay (a0 y) h
  |_=>exact akf ao ay (a0 _) (a0 y) h
 |field t x n=>exact ai2 ao ay (a0 x) h
 |fieldAddr t x n=>exact ajG ao ay (a0 x) h
 |load t x=>
  simp only[h1] at h;split at h
  ·unfold YG at h;refine (WT ao ay (a0 x) h).mono fun _ v m' a1=> ?_;obtain ⟨b4,jz,dh,b3,bf,U,aa,ap,aN,bK⟩:=a1;dsimp only at bK;split at bK
   ·rename_i j;split at bK
    ·rename_i c dL bb;obtain ⟨cZ,cz,dw,ft,hK⟩:=Yy ap bb aN.1;exact ⟨cZ,jz, .c c,dL,bf.trans cz,U.trans dw,aa,ft,hK,bK⟩
    ·cases bK
   ·cases bK
  ·split at h
   ·exact ai3 ao ay (a0 x) h
   ·exact WT ao ay (a0 x) h
 |store t x y=>exact ai6 ao ay (a0 x) (a0 y) h
 |alloc t=>exact aiY ao ay h
 |box t x=>
  simp only[h1] at h;split at h
  ·rename_i i cs aj ai;split at h
   ·rename_i az;exact ajE ao ay (a0 x) aj ai az h
   ·cases h
  ·cases h
 |makeSlice t x y=>
  have ae:=a0 x;simp only[h1] at h;split at h
  ·rename_i gN kk n aw aC;rw[aC] at ae;split at h
   ·exact ai5 ao aw ay ae h
   ·split at h
    ·rename_i ti hL wO;exact ajz ao aw ay ae wO h
    ·cases h
  ·cases h
 |buildSlice t l cn=>
  simp only[h1] at h;split at h
  ·exact aki ao ay a0 h
  ·split at h
   ·rename_i gN aw;split at h
    ·rename_i ti hL;exact ai1 ao aw ay a0 h
    ·cases h
   ·cases h
 |build t cn=>
  simp only[h1] at h;split at h
  ·rename_i bm ti aw hL;split at h
   ·rename_i aM;split at h
    ·rename_i cs ai;exact air ao aw ay a0 aM ai h
    ·cases h
   ·cases h
  ·rename_i n En ti aw hL;split at h
   ·rename_i kk au;split at h
    ·rename_i cs ai;exact ai0 ao aw au ay a0 ai h
    ·cases h
   ·cases h
  ·cases h
 |slice t x bD aj fv=>
  cases fv with
  |none=>exact ajv ao ay a0 (a0 x) h
  |some fv=>
   cases bD with
   |some _=>simp[h1] at h
   |none=>
    cases aj with
    |none=>simp[h1] at h
    |some y=>exact ajw ao ay a0 h
 |index t x y=>
  have ae:=a0 x;have aI:=a0 y;simp only[h1] at h;split at h
  ·rename_i s kk n aw U aa;rw[U] at ae;rw[aa] at aI;obtain ⟨c,ai,h⟩:=bind_some h;exact alE ao aw ae aI ai (dk.here (dh:= .c (.int .u8 (UInt8.toNat c:Int))) ay rfl h)
  ·exact ajx ao ay ae aI h
 |makeFunc fn first cap=>
  cases fn with
  |func f=>
   simp only[h1] at h;split at h
   ·split at h
    ·rename_i is bb ai;exact ajH ao bb ay a0 ai h
    ·cases h
   ·split at h
    ·rename_i caps b3 bb ai;exact apW ao bb ay a0 ai h
    ·cases h
  |_=>simp[h1] at h
 |makeMap t rs=>
  cases rs with
  |none=>
   simp only[h1] at h;split at h
   ·rename_i bi bg aw;exact akh ao aw ay h
   ·cases h
  |some _=>simp[h1] at h
 |lookup t x y ok=>
  have ae:=a0 x;have aI:=a0 y;simp only[h1] at h;split at h
  ·rename_i u bi bg es az;have hm:=ajR ay az ae;split at h
   ·rename_i b6 v1 cc v2 aw hu;split at h
    ·rename_i en;obtain ⟨rfl,rfl,rfl,rfl⟩:=en;split at h
     ·rename_i eV UO;split at h
      ·rename_i a aY;exact ajy ao aw hu ay hm aI aY h
      ·cases h
     ·cases h
    ·cases h
   ·cases h
  ·cases h
 |mapUpdate t x y w=>
  have ae:=a0 x;have aI:=a0 y;have hw:=a0 w;simp only[h1] at h;split at h
  ·rename_i i d U ap;rw[U] at ae;rw[ap] at hw;split at h
   ·rename_i u bi bg es di bP;split at h
    ·rename_i b6 v1 cc v2 aw hu;split at h
     ·rename_i en;obtain ⟨rfl,rfl,rfl,rfl⟩:=en;split at h
      ·rename_i eV UO;split at h
       ·rename_i a b aY ag;exact Xw (.inl ao) aw hu ay bP ae.1 aI hw aY ag h
       ·cases h
      ·cases h
     ·cases h
    ·cases h
   ·cases h
  ·cases h
 |insert t x y w=>
  have ae:=a0 x;have aI:=a0 y;have hw:=a0 w;simp only[h1] at h;split at h
  ·rename_i i d U ap;rw[U] at ae;rw[ap] at hw;split at h
   ·rename_i u bi bg es di bP;split at h
    ·rename_i b6 v1 cc v2 aw hu;split at h
     ·rename_i en;obtain ⟨rfl,rfl,rfl,rfl⟩:=en;split at h
      ·rename_i eV UO;split at h
       ·rename_i a b aY ag;exact Xw (.inr ao) aw hu ay bP ae.1 aI hw aY ag h
       ·cases h
      ·cases h
     ·cases h
    ·cases h
   ·cases h
  ·cases h
 |call c=>exact aja cf ao ay a0 h
 |_=>simp[h1] at h
end
end Go.av
end
section
namespace Go.av
section
variable {P:avd} {D:Nat->Type} {X:ez P D} {af:Type} {z z':Nat->bo} {e m m':Mem} {k:Option Nat} {vs vs':List au9} {fr:Nat->au9} {E:List (Nat×aX D)} {O bY:List (aT D)} {o:Oper} {r:af}
theorem gh.refl (m:Mem):gh m m au8:=⟨avm _,fun _ _ _=>rfl⟩
theorem gh.push (m:Mem) (Y:bo):gh m (m.push Y) au8:=⟨avJ _,fun b ag _=>if_neg (by omega)⟩
theorem gh.put (m:Mem) (c:Nat) (Y:bo):gh m (m.put c Y) (au6 c):=⟨avm _,fun b ag a1=>if_neg (fun h=>a1 (by rw[h]))⟩
theorem gh.any (h:gh m m' au8) (q:Option Nat):gh m m' q:=⟨h.1,fun b ag _=>h.2 b ag (by simp)⟩
theorem cj.Fq {af:avf->au9} {K k1:Tag->au9->Mem->Prop} (h:cj P af o m K)
  (U:∀v,cW P af o v->(∃t,K t v m)->k1 .pure v m) (aa:∀v,eJ P af o m v->K (.read fun m=>eJ P af o m v) v m->k1 (.read fun m=>eJ P af o m v) v m)
  (ap:∀Y v,iy P af o m.next Y v->K .new v (m.push Y)->k1 .new v (m.push Y)) (aN:∀n v m',gR P (iA P n) af o m v m'->K .fb v m'->k1 .fb v m'):cj P af o m k1:=by
 rcases h with ⟨v,h,g⟩|⟨v,I,h,g⟩|⟨v,h,g⟩|⟨Y,v,h,g⟩|⟨n,v,m',h,g⟩
 ·exact .inl ⟨v,h,U v h ⟨_,g⟩⟩
 ·exact .inl ⟨v,h,U v h ⟨_,g⟩⟩
 ·exact .inr (.inr (.inl ⟨v,h,aa v h g⟩))
 ·exact .inr (.inr (.inr (.inl ⟨Y,v,h,ap Y v h g⟩)))
 ·exact .inr (.inr (.inr (.inr ⟨n,v,m',h,aN n v m' h g⟩)))
theorem alm {C:FuncId->Array au9->Mem->au9->Mem->Prop} {v:au9} (a0:∀x,rel X.G z vs (cY E x) (a8 fr x)) (h:gR P C (a8 fr) o m v m') {ts:List Nat} (aw:qG X E o.op=au6 ts)
  (ab:∀x as qP,o.op≠ .call {callee:= .value x,args:=as,argTypes:=qP}):∃q,gh m m' q/\nN vs ts q:=by
 cases h with
 |store t x y b off i L e h ae aj hm ab aC az=>
  simp only[qG,h] at aw;have aE:=a0 x;split at aw
  ·rename_i j p aC;cases aw;rw[aC] at aE;obtain ⟨cB,aU,aQ⟩:=aE;rw[ae] at aQ;cases aQ;exact ⟨_,gh.put m b _, .inr ⟨j,by simp,_,aU,rfl⟩⟩
  ·rename_i j u cL p aC;cases aw;rw[aC] at aE;obtain ⟨cB,f0,l,c,aU,aQ⟩:=aE;rw[ae] at aQ;cases aQ;exact ⟨_,gh.put m b _, .inr ⟨j,by simp,_,aU,rfl⟩⟩
  grind
 |call f args v m' h cf=>
  obtain ⟨x,as,qP,first,cap,h,_⟩:=h
  grind
 |su x y t u e i a l c h _ _ _ _ _ _=>exact ⟨au8,gh.refl _, .inl rfl⟩
 |p5 x y t u e i z a l c n dN new h _ _ _ _ _ _ _ _ _ _ _ _ _ _=>exact ⟨au8,gh.push _ _, .inl rfl⟩
 |we x y t u e i b off l c k n L new h _ _ ae _ _ nW aek _ qg _=>
  simp only[qG,h] at aw;have aE:=a0 x;split at aw
  ·rename_i aC;rw[aC] at aE;have aE:a8 fr x= .slice au8 0 0:=aE
   grind
  ·rename_i j aC;cases aw;rw[aC] at aE;exact ⟨_,gh.put m b _, .inr ⟨j,by simp,_,aE.1,by rw[ae];rfl⟩⟩
  ·rename_i j _ _ _ aC;cases aw;rw[aC] at aE;obtain ⟨w,aU,aQ⟩:=aE;exact ⟨_,gh.put m b _, .inr ⟨j,by simp,_,aU.1,by rw[<-aQ.aS,ae];rfl⟩⟩
  ·rename_i aC;cases aw;rw[aC] at aE;obtain ⟨_,_,a,aY⟩:=aE
   grind
  grind
 |tX x y t u e i b off l c n L new h _ _ ae _ nW aek _ qg _=>
  simp only[qG,h] at aw;have aE:=a0 x;split at aw
  ·rename_i aC;rw[aC] at aE;have aE:a8 fr x= .slice au8 0 0:=aE
   grind
  ·rename_i j aC;cases aw;rw[aC] at aE;exact ⟨_,gh.put m b _, .inr ⟨j,by simp,_,aE.1,by rw[ae];rfl⟩⟩
  ·rename_i j _ _ _ aC;cases aw;rw[aC] at aE;obtain ⟨w,aU,aQ⟩:=aE;exact ⟨_,gh.put m b _, .inr ⟨j,by simp,_,aU.1,by rw[<-aQ.aS,ae];rfl⟩⟩
  ·rename_i aC;cases aw;rw[aC] at aE;obtain ⟨_,_,a,aY⟩:=aE;rw[ae] at aY;cases aY;have bf:n=0:=by omega
   have wJ:new=[]:=awd (by grind);subst wJ;refine ⟨au8,⟨avm _,fun c _ _=> ?_⟩, .inl rfl⟩
   grind [Mem.put,e9]
  grind
 |append x y t u e i z b off l n L new h _ _ _ _ _ _ ae _ _ _ _ _ _=>
  simp only[qG,h] at aw;have aE:=a0 x;have ai:gh m ((m.put b .dead).push (.own ((L.drop off).take (l*i.size)++new) e)) (au6 b):=by have:=gh.put m b .dead;exact ⟨avJ _,fun c ai a1=>by rw[show ((m.put b .dead).push _).aS c=(m.put b .dead).aS c from if_neg (by show c≠m.next;omega)];exact this.2 c ai a1⟩
  split at aw
  ·rename_i aC;rw[aC] at aE;have aE:a8 fr x= .slice au8 0 0:=aE
   grind
  ·rename_i j aC;cases aw;rw[aC] at aE;exact ⟨_,ai, .inr ⟨j,by simp,_,aE.1,by rw[ae];rfl⟩⟩
  ·rename_i j _ _ _ aC;cases aw;rw[aC] at aE;obtain ⟨w,aU,aQ⟩:=aE;exact ⟨_,ai, .inr ⟨j,by simp,_,aU.1,by rw[<-aQ.aS,ae];rfl⟩⟩
  ·rename_i aC;cases aw;rw[aC] at aE;obtain ⟨_,kb,a,aY⟩:=aE
   grind
  grind
 |clear x t e i z b off l c L h _ _ _ _ _ _ _ _ _=>grind [qG]
 |copy x y t u e i b off l c L cs h _ _ _ _ _ _ _=>grind [qG]
 |mapUpdate fq x gI gp u bi bg b L ee vc F m4 hf h _ _ ae _ _ _ _ _ _ _ _ _ _ _ _ _ _ _=>
  have aE:=a0 x;have aw:(match cY E x with| .c (.own j)=>au6 [j]|_=>au8)=au6 ts:=by rcases h with h|h<;>(rw[h] at aw;exact aw)
  split at aw
  ·rename_i j aC;cases aw;rw[aC] at aE;exact ⟨_,gh.put m b _, .inr ⟨j,by simp,_,aE.1,by rw[ae];rfl⟩⟩
  grind
theorem WC {caps:List (Nat×List (bZ D))}:∀{l:List (aX D)},pD (l++caps.map fun p=>aX.g4 p.1 p.2 0)=pD l
 |[]=>by
  induction caps with
  |nil=>rfl
  |cons c caps ar=>exact ar
 |s::l=>by cases s<;>simp only[List.cons_append,pD,WC (l:=l)]
theorem aq8 (cf:h6 X) {K:aX D->List (aT D)->Option af} (ay:bF X.G O z e m k vs) (a0:∀x,rel X.G z vs (cY E x) (a8 fr x)) (ph:kF o.op=au7) {ts:List Nat} (aw:qG X E o.op=au6 ts) (h:h1 X o.op E O K=au6 r):
  cj P (a8 fr) o m fun _ v m'=>dk X O z e k vs K r v m'/\(rN X E O o.op=au7->m'=m)/\∃q,gh m m' q/\nN vs ts q:=by
 have VR:(∀x as qP,o.op≠ .call {callee:= .value x,args:=as,argTypes:=qP})->∀{p:Prop},rN X E O o.op=au7->p:=fun ab p bd=>by
  unfold rN at bd;split at bd
  ·rename_i c ai;split at bd
   ·rename_i f bb;obtain ⟨ce,as,ts⟩:=c
    grind
   grind
  grind
 have gen:(∀x as qP,o.op≠ .call {callee:= .value x,args:=as,argTypes:=qP})->cj P (a8 fr) o m fun _ v m'=>dk X O z e k vs K r v m'/\(rN X E O o.op=au7->m'=m)/\∃q,gh m m' q/\nN vs ts q:=fun ab=>
  (GG cf rfl ay a0 h).Fq (fun v _ ⟨_,au⟩=>⟨au,fun _=>rfl,au8,gh.refl _, .inl rfl⟩) (fun v _ au=>⟨au,fun _=>rfl,au8,gh.refl _, .inl rfl⟩) (fun Y v _ au=>⟨au,VR ab,au8,gh.push _ _, .inl rfl⟩) fun n v m' he au=>⟨au,VR ab,alm a0 he aw ab⟩
 by_cases ab:∀x as qP,o.op≠ .call {callee:= .value x,args:=as,argTypes:=qP}
 ·grind
 ·simp only[Classical.not_forall,ne_eq,Classical.not_not] at ab;obtain ⟨f,as,qP,ao⟩:=ab;rw[ao] at h aw;simp only[qG] at aw;have h:qA X {callee:= .value f,args:=as,argTypes:=qP} E O K=au6 r:=h;simp only[qA] at h;split at h
  ·rename_i lA caps bb;rw[bb] at aw;simp only at aw;have hq:=a0 f;rw[bb] at hq;obtain ⟨gs,uw,a5⟩:=hq;split at h
   ·rename_i fw pq;rw[pq] at aw;cases aw;have Nr:caps=[]:=(F1 pq).2.1;subst Nr;have uy:gs=[]:=by cases gs with
     |nil=>rfl
     |cons _ _=>exact a5.elim
    subst uy;refine cj.call (zC (args:=(as.toList.map (a8 fr)).toArray) (caps:=#[]) ao uw (by grind) rfl) ?_
    grind [rN,WU,vb]
   rename_i Vs;rw[Vs] at aw;simp only at aw;split at aw
   ·grind
   rename_i hw;have hw:X.W lA=ava:=by grind
   cases aw;refine cj.call (zC (args:=(as.toList.map (a8 fr)).toArray) (caps:=gs.toArray) ao uw (by grind) rfl) ?_;have:=(cf lA _ O K r (as.toList.map (a8 fr)++gs) ay ((vb a0).append a5.caps) h).mono fun v m' bL=>(⟨bL.1,bL.2.1,bL.2.2 hw⟩:_/\_/\_)
   grind [WC,rN]
  ·grind
  grind
theorem Ph {C:FuncId->Array au9->Mem->au9->Mem->Prop} (cf:∀f args m v m',C f args m v m'->m.next<=m'.next) {af:avf->au9} {v:au9} (h:gR P C af o m v m'):m.next<=m'.next:=by
 cases h with
 |call f args v m' h ai=>grind
 |p5=>exact avJ _
 |append=>exact avJ _
 |_=>exact avm _
theorem ajs {C:FuncId->Array au9->Mem->au9->Mem->Prop} (cf:∀f args m v m',C f args m v m'->m.next<=m'.next) {af:avf->au9} {v:au9} (h:nM P C af o m v m'):m.next<=m'.next:=by
 cases h with
 |new h=>exact avJ _
 |fb h=>exact Ph cf h
 |_=>grind
theorem Pu {C:FuncId->Array au9->Mem->au9->Mem->Prop} (cf:∀f args m v m',C f args m v m'->m.next<=m'.next) {ops:List Oper}:∀{l:List Oper} {fr bB:Nat->au9} {m m':Mem},jy P C ops l fr m bB m'->m.next<=m'.next
 |[],_,_,_,_,⟨_,h⟩=>by grind
 |o::l,fr,bB,m,m',h=>by
  unfold jy at h;split at h
  ·obtain ⟨v,bz,U,aa⟩:=h;exact avz (ajs cf U) (Pu cf aa)
  ·exact Pu cf h
theorem xf {C:FuncId->Array au9->Mem->au9->Mem->Prop} (cf:∀f args m v m',C f args m v m'->m.next<=m'.next) {ops:List Oper} {B:Array Nat}:∀{l:List Oper} {i:Nat} {A:Acc} {fr bB:Nat->au9} {m m':Mem},g3 P C ops B i l A fr m bB m'->m.next<=m'.next
 |[],_,_,_,_,_,_,⟨_,h⟩=>by grind
 |o::l,i,A,fr,bB,m,m',h=>by
  unfold g3 at h;split at h
  ·rcases h with ⟨v,_,h⟩|⟨v,_,_,h⟩|⟨Y,v,_,h⟩|⟨v,bz,U,_,_,h⟩
   ·exact xf cf h
   ·exact xf cf h
   ·exact avz (avJ _) (xf cf h)
   ·exact avz (Ph cf U) (xf cf h)
  ·exact xf cf h
theorem aiO {C:FuncId->Array au9->Mem->au9->Mem->Prop} (cf:∀f args m v m',C f args m v m'->m.next<=m'.next):∀(n:Nat) {c:Code} {fr bB:Nat->au9} {m m':Mem} {e:eY},kh P C n c fr m e bB m'->m.next<=m'.next:=by
 intro n;induction n with
 |zero=>intro c fr bB m m' e h;exact h.elim
 |succ n ar=>
  intro c fr bB m m' e h;cases c with
  |skip=>obtain ⟨_,rfl,rfl⟩:=h;grind
  |label l=>obtain ⟨_,rfl,rfl⟩:=h;grind
  |exit id=>obtain ⟨_,rfl,rfl⟩:=h;grind
  |ret=>obtain ⟨_,rfl,rfl⟩:=h;grind
  |region id ops d=>
   cases d with
   |false=>exact Pu cf h.2
   |true=>exact xf cf h.2
  |seq a b=>
   rcases h with ⟨bu,cX,bz,U,aa⟩|h
   rotate_left
   ·exact h.2.next
   grind
  |cond c a b=>obtain ⟨t,_,U⟩:=h;grind
  |block id c=>obtain ⟨bu,U,_⟩:=h;grind
  |scope c=>exact ar h
  |loop c=>
   obtain ⟨bu,cX,bz,U,aa⟩:=h
   grind
  |rangeFunc f cn x y=>exact h.elim
  |goto l=>exact h.elim
  |refuse s=>exact h.elim
theorem WH:∀(n:Nat) (f:FuncId) (args:Array au9) (m:Mem) (v:au9) (m':Mem),iA P n f args m v m'->m.next<=m'.next
 |0,_,_,_,_,_,h=>h.elim
 |n+1,f,args,m,v,m',h=>by
  rcases h with ⟨_,h⟩|⟨fn,c,e,fr,bz,vs,_,_,_,_,h,_,_,_,_,aa⟩
  ·cases h<;>first|exact avm _|exact avJ _|assumption
  ·have U:=aiO (WH n) n h;rcases aa with rfl|⟨rfl,_⟩
   ·exact U
   ·exact avm _
def yi (m:Mem) (I:Mem->Prop) (ob:Option Nat):Prop:=∀m',(∀b,ob=au6 b->m'.aS b=m.aS b)->I m'
theorem XX {b off:Nat} {v:au9} (h:m.load b off=au6 v) (ag:m'.aS b=m.aS b):m'.load b off=au6 v:=by
 grind [Mem.load]
theorem Gr {b:Nat} (ag:m'.aS b=m.aS b):∀(n off:Nat),eo m' b off n=eo m b off n
 |0,_=>rfl
 |n+1,off=>by
  have:∀o,m'.load b o=m.load b o:=fun o=>by grind [Mem.load]
  simp only[eo,this,Gr ag n]
def so (z:Nat->bo) (vs:List au9) (ob:Option Nat):fi->Prop| .n1=>False| .lost=>False| .bl=>∀b,ob=au6 b->(z b).hy| .ob j=>∀b,ob=au6 b->∃u,vs[j]? =au6 u/\dz u=au6 b
def tT (z:Nat->bo) (vs:List au9) (b:Nat):fi->Prop| .n1=>False| .lost=>False| .bl=>(z b).hy| .ob j=>∃u,vs[j]? =au6 u/\dz u=au6 b
theorem tT.at {b:Nat} {s:fi} (h:tT z vs b s):so z vs (au6 b) s:=by
 cases s with
 |n1=>exact h
 |lost=>exact h
 |bl=>intro c ai;cases ai;exact h
 |ob j=>intro c ai;cases ai;exact h
theorem agl {s:fi} {v:au9} (ay:bF X.G O z e m k vs) (a0:∀x,rel X.G z vs (cY E x) (a8 fr x)) (aC:pJ E o.op=au6 s) (h:eJ P (a8 fr) o m v):
  ∃ob,yi m (fun m=>eJ P (a8 fr) o m v) ob/\so z vs ob s:=by
 have acT:∀{t:Nat} {c:bZ D} {cs:List (bZ D)} {off b OB:Nat},rel X.G z vs (.g4 t (c::cs) off) (.pointer (au6 ⟨b,OB,au8⟩))->(z b).hy:=by
  rintro t c cs off b OB ⟨cB,o',ds,U,aa,ap⟩;cases U;cases ds with
  |nil=>exact ap.elim
  |cons d ds=>exact zE (aa 0 d rfl)
 have ptr:∀{x:avf} {b off:Nat},a8 fr x= .pointer (au6 ⟨b,off,au8⟩)->(match cY E x with| .uj _ _=>au6 fi.bl| .g4 _ (_::_) _=>au6 fi.bl| .box j _=>au6 (.ob j)| .el j _ _ _=>au6 (.ob j)|_=>au8)=au6 s->tT z vs b s:=by
  intro x b off ae aC;have aE:=a0 x;split at aC
  ·rename_i U;rw[U,ae] at aE;obtain ⟨_,_,aQ⟩:=aE;cases aQ
  ·rename_i U;cases aC;rw[U,ae] at aE;exact acT aE
  ·rename_i U;cases aC;rw[U,ae] at aE;obtain ⟨cB,aU,aQ⟩:=aE;cases aQ;exact ⟨_,aU,rfl⟩
  ·rename_i U;cases aC;rw[U,ae] at aE;obtain ⟨cB,f0,l,c,aU,aQ⟩:=aE;cases aQ;exact ⟨_,aU,rfl⟩
  ·cases aC
 have ad:∀{t:Nat} {xs:List (D t)} {b off l c:Nat},eu (X.G.T t) z xs (.slice (au6 ⟨b,off,au8⟩) l c)->(z b).hy:=by
  rintro t xs b off l c (⟨U,_⟩|⟨cB,o',bQ,U,aa,_⟩)
  ·cases U
  ·cases U;exact aa
 cases h with
 |load t x b off d v h ae aw aO ab=>simp only[pJ,h] at aC;exact ⟨au6 b,fun m' hm=> .load t x b off d v h ae aw aO (XX ab (hm b rfl)),(ptr ae aC).at⟩
 |uk t x g n h3 h ae a1 aw a5=>
  have aE:=a0 x;simp only[pJ,h] at aC;have wF:s= .bl:=by
   split at aC
   ·cases aC;rfl
   ·cases aC;rfl
   ·rename_i aU;rw[aU,ae] at aE;obtain ⟨_,_,aQ⟩:=aE;cases aQ
   ·rename_i aU;rw[aU,ae] at aE;obtain ⟨_,_,_,_,_,aQ⟩:=aE;cases aQ
   ·cases aC
  subst wF;exact ⟨au8,fun m' _=> .uk t x g n h3 h ae a1 aw a5,fun b ag=>by cases ag⟩
 |sT t x b off d i cs h ae aw aO aj ab=>simp only[pJ,h] at aC;exact ⟨au6 b,fun m' hm=> .sT t x b off d i cs h ae aw aO aj (by rw[Gr (hm b rfl)];exact ab),(ptr ae aC).at⟩
 |slice t x bD aj b2 i L b off l n cu h aw eh ae hm dZ dy U aa ap=>
  simp only[pJ,h] at aC;refine ⟨au6 b,fun m' kx=> .slice t x bD aj b2 i L b off l n cu h aw eh ae (by rw[kx b rfl];exact hm) dZ dy U aa ap,tT.at ?_⟩;have aE:=a0 x;split at aC
  ·rename_i g;rw[g,ae] at aE;cases aE
  ·rename_i g;cases aC;rw[g,ae] at aE;exact ad aE
  ·rename_i g;cases aC;rw[g,ae] at aE;exact ⟨_,aE.1,rfl⟩
  ·cases aC
 |vK t x bD aj b2 i L b off l c k n cu h aw eh ae au hm dZ dy U aa ap=>
  simp only[pJ,h] at aC;refine ⟨au6 b,fun m' kx=> .vK t x bD aj b2 i L b off l c k n cu h aw eh ae au (by rw[kx b rfl];exact hm) dZ dy U aa ap,tT.at ?_⟩;have aE:=a0 x;split at aC
  ·rename_i g;rw[g,ae] at aE;cases aE
  ·rename_i g;cases aC;rw[g,ae] at aE;exact ad aE
  ·rename_i g;cases aC;rw[g,ae] at aE;exact ⟨_,aE.1,rfl⟩
  ·cases aC
 |str h3 t x b2 b off l c cs h mL he aw ae ab=>
  simp only[pJ,h] at aC;refine ⟨au6 b,fun m' kx=> .str h3 t x b2 b off l c cs h mL he aw ae (by rw[Gr (kx b rfl)];exact ab),tT.at ?_⟩;have aE:=a0 x;split at aC
  ·rename_i g;cases aC;rw[g,ae] at aE;exact ad aE
  ·rename_i g;cases aC;rw[g,ae] at aE;exact ⟨_,aE.1,rfl⟩
  ·rename_i g;rw[g,ae] at aE;cases aE
  ·rename_i g;rw[g,ae] at aE;cases aE
  ·cases aC
 |vL h3 t x b2 l c h mL he aw ae=>
  simp only[pJ,h] at aC;refine ⟨au8,fun m' kx=> .vL h3 t x b2 l c h mL he aw ae, ?_⟩;have aE:=a0 x;split at aC
  ·cases aC;intro b ag;cases ag
  ·cases aC;intro b ag;cases ag
  ·rename_i g;rw[g,ae] at aE;cases aE
  ·rename_i g;rw[g,ae] at aE;cases aE
  ·cases aC
 |lookup fq x cL ok u bi bg b L F i z' kJ t hf h g9 hu ae lF rr k1 bb au a5 aj a4 db az=>
  simp only[pJ,h] at aC;rcases ae with ⟨ae,hm,gT⟩|⟨ae,gT⟩
  ·refine ⟨au6 b,fun m' kx=> .lookup fq x cL ok u bi bg b L F i z' kJ t hf h g9 hu (.inl ⟨ae,by rw[kx b rfl];exact hm,gT⟩) lF rr k1 bb au a5 aj a4 db az,tT.at ?_⟩;have aE:=a0 x;split at aC
   ·rename_i g;cases aC;rw[g,ae] at aE;rcases aE with ⟨U,_⟩|⟨r,U,aa⟩
    ·cases U
    ·cases U;show (z _).hy;rw[aa];exact True.intro
   ·rename_i g;cases aC;rw[g,ae] at aE;exact ⟨_,aE.1,rfl⟩
   ·cases aC
  ·refine ⟨au8,fun m' kx=> .lookup fq x cL ok u bi bg b L F i z' kJ t hf h g9 hu (.inr ⟨ae,gT⟩) lF rr k1 bb au a5 aj a4 db az, ?_⟩;split at aC
   ·cases aC;intro b ag;cases ag
   ·cases aC;intro b ag;cases ag
   ·cases aC
def abb (z:Nat->bo) (m:Mem) (vs:List au9) (I:Mem->Prop) (s:fi):Prop:=s= .lost\/∃ob,yi m I ob/\(∀b,ob=au6 b->b<m.next)/\so z vs ob s
structure hR (z:Nat->bo) (m:Mem) (vs:List au9) (A:Acc) (L:fL):Prop where
 rd:∀x∈A.reads,∃y∈L.rd,y.1=x.1/\abb z m vs x.2 y.2
 jh:∀x∈A.gm,∃y∈L.jh,y.1=x.1/\(y.2.1=au7->m=x.2)/\∀j∈y.2.2,∃v,vs[j]? =au6 v/\∀b,dz v=au6 b->b<m.next/\m.aS b=x.2.aS b
 iU:∀x∈A.news,∃y∈L.iU,y.1=x.1/\x.2<m.next/\∃v,vs[y.2]? =au6 v/\dz v=au6 x.2
theorem yi.step {I:Mem->Prop} {ob q:Option Nat} (h:yi m I ob) (ag:∀b,ob=au6 b->b<m.next) (ai:gh m m' q) (bd:∀b,ob=au6 b->q≠au6 b):yi m' I ob:=fun qu hm=>h qu fun b ek=>by
 rw[hm b ek,ai.2 b (ag b ek) (bd b ek)]
theorem so.mono {ob:Option Nat} {s:fi} (h:so z vs ob s) (a4:eR z z') (ab:∀(i:Nat) (u:au9),vs[i]? =au6 u->vs'[i]? =au6 u):so z' vs' ob s:=by
 cases s with
 |n1=>exact h
 |lost=>exact h
 |bl=>intro b ag;rw[a4 b (h b ag)];exact h b ag
 |ob j=>intro b ag;obtain ⟨u,aU,aQ⟩:=h b ag;grind
theorem hR.step {A:Acc} {L:fL} {q:Option Nat} (h:hR z m vs A L) (a4:eR z z') (ab:∀(i:Nat) (u:au9),vs[i]? =au6 u->vs'[i]? =au6 u) (ai:gh m m' q)
  (L':fL) (aE:∀y∈L.rd,∃j3∈L'.rd,j3.1=y.1/\(j3.2= .lost\/j3.2=y.2/\∀ob,so z vs ob y.2->∀b,ob=au6 b->q≠au6 b))
  (he:∀y∈L.jh,∃j3∈L'.jh,j3.1=y.1/\(j3.2.1=au7->y.2.1=au7/\m'=m)/\∀j∈j3.2.2,j∈y.2.2/\∀v b,vs[j]? =au6 v->dz v=au6 b->q≠au6 b) (a1:∀y∈L.iU,y∈L'.iU):hR z' m' vs' A L' where
 rd:=fun x ae=>by
  obtain ⟨y,aI,U,aa⟩:=h.rd x ae;obtain ⟨j3,qn,aU,aQ⟩:=aE y aI;refine ⟨j3,qn,by grind, ?_⟩;rcases aQ with aQ|⟨aQ,bT⟩
  ·exact .inl aQ
  ·rcases aa with aa|⟨ob,b6,cc,eF⟩
   ·exact .inl (by grind)
   ·exact .inr ⟨ob,b6.step cc ai (bT ob eF),fun b ag=>avx (cc b ag) ai.1,by rw[aQ];exact eF.mono a4 ab⟩
 jh:=fun x ae=>by obtain ⟨y,aI,U,bf,aa⟩:=h.jh x ae;obtain ⟨j3,qn,aU,eU,aQ⟩:=he y aI;refine ⟨j3,qn,by grind,fun bb=>by grind,fun j aZ=> ?_⟩;obtain ⟨bT,cT⟩:=aQ j aZ;obtain ⟨v,b6,cc⟩:=aa j bT;refine ⟨v,ab _ _ b6,fun b ag=> ?_⟩;obtain ⟨eF,jk⟩:=cc b ag;exact ⟨avx eF ai.1,by rw[ai.2 b eF (cT v b b6 ag)];grind⟩
 iU:=fun x ae=>by obtain ⟨y,aI,U,aa,v,ap,aN⟩:=h.iU x ae;exact ⟨y,a1 y aI,U,avx aa ai.1,v,ab _ _ ap,aN⟩
theorem hR.quiet {A:Acc} {L:fL} (h:hR z m vs A L) (a4:eR z z') (ab:∀(i:Nat) (u:au9),vs[i]? =au6 u->vs'[i]? =au6 u) (hm:m'=m):hR z' m' vs' A L:=
 h.step (q:=au8) a4 ab (by grind [gh.refl]) L (fun y aI=>⟨y,aI,rfl, .inr ⟨rfl,fun _ _ _ _=>by simp⟩⟩) (fun y aI=>⟨y,aI,rfl,fun h=>⟨h,hm⟩,fun j aZ=>⟨aZ,fun _ _ _ _=>by simp⟩⟩) fun y aI=>aI
theorem Yc {j:Nat} (ay:bF X.G O z e m k vs) (h:GU O j=au7):∃v,vs[j]? =au6 v/\∀b,dz v=au6 b->b<m.next/\(z b≠ .dead\/∃o,O[j]? =au6 o/\o.live=au7):=by
 unfold GU at h;have fin:∀{o:aT D},O[j]? =au6 o->o≠ .dead->(∀t w,o≠ .box t [] au7 w)->∃v,vs[j]? =au6 v/\∀b,dz v=au6 b->b<m.next/\(z b≠ .dead\/∃o,O[j]? =au6 o/\o.live=au7):=by
  intro o ao aO mH;obtain ⟨v,ab,cp⟩:=ay.at ao;refine ⟨v,ab,fun b ag=> ?_⟩;cases az:o.live with
  |true=>exact ⟨(cp.lt az b ag).1, .inr ⟨o,ao,az⟩⟩
  |false=>
   have a4:z b≠ .dead:=by
    cases o with
    |dead=>grind
    |ad t xs bl w=>
     cases bl with
     |false=>cases az
     |true=>
      rcases (cp:eu (X.G.T t) z xs v) with ⟨rfl,_⟩|⟨cB,o',bQ,rfl,aa,_⟩
      ·cases ag
      ·cases ag;exact aa.ne
    |box t cs bl w=>
     cases bl with
     |false=>cases az
     |true=>
      obtain ⟨cB,ds,rfl,aa,ap⟩:=cp;cases ag;cases cs with
      |nil=>grind
      |cons c cs=>
       cases ds with
       |nil=>exact ap.elim
       |cons d ds=>
        have:=aa 0 d rfl
        grind [k8]
    |recv t cs w=>cases az
    |arr _ _ _ _ _=>cases az
    |nest _ _ _ _ _ _=>cases az
    |map t bi bg es bl w=>
     cases bl with
     |false=>cases az
     |true=>
      rcases (cp:lY (X.G.M t bi bg) z es v) with ⟨rfl,_⟩|⟨r,rfl,aa⟩
      ·cases ag
      ·cases ag
       grind
   refine ⟨?_, .inl a4⟩;exact (ay.aL.bl b a4).2
 split at h
 ·grind
 ·grind
 ·grind
 grind
theorem akG {l:List Nat} {j:Nat}:l.any (avj j)=au7↔j∈l:=by
 simp_all
theorem Yd {j:Nat} (h:rQ O j=au7):∃o,O[j]? =au6 o/\o.live=au7:=by
 grind [rQ]
theorem FY {ts:List Nat} {q:Option Nat} (ay:bF X.G O z e m k vs) (az:ts.all (rQ O)=au7) (bd:nN vs ts q) {j:Nat} (h:tf O ts j=au7) {v:au9} {b:Nat} (ab:vs[j]? =au6 v) (ag:dz v=au6 b):q≠au6 b:=by
 simp only[tf,avk,awR] at h;rcases bd with rfl|⟨i,aj,w,hw,rfl⟩
 ·simp
 ·intro sN;have gZ:i≠j:=by
   grind [akG]
  obtain ⟨o,ao,k7⟩:=Yd (avt.1 az i aj);have aO:=((ay.obj i o w ao hw).lt k7 b sN).2.1;obtain ⟨bI,qj,U⟩:=Yc ay h.1;rw[ab] at qj;cases qj;rcases (U b ag).2 with aa|⟨p,aM,y0⟩
  ·grind
  ·exact ay.fa i j o p w v gZ ao aM k7 y0 hw ab b sN ag
theorem ajJ {ts:List Nat} {q:Option Nat} (ay:bF X.G O z e m k vs) (az:ts.all (rQ O)=au7) (bd:nN vs ts q) {b:Nat} (a4:z b≠ .dead):q≠au6 b:=by
 rcases bd with rfl|⟨i,aj,w,hw,rfl⟩
 ·simp
 ·intro sN;obtain ⟨o,ao,k7⟩:=Yd (avt.1 az i aj);exact a4 ((ay.obj i o w ao hw).lt k7 b sN).2.1
theorem Xl {ts:List Nat} {q:Option Nat} (ay:bF X.G O z e m k vs) (az:ts.all (rQ O)=au7) (bd:nN vs ts q) {s:fi} (h:CW O ts s=au7) {ob:Option Nat} (aC:so z vs ob s):∀b,ob=au6 b->q≠au6 b:=by
 intro b ag;cases s with
 |n1=>exact aC.elim
 |lost=>exact aC.elim
 |bl=>exact ajJ ay az bd (aC b ag).ne
 |ob j=>obtain ⟨u,aU,aQ⟩:=aC b ag;exact FY ay az bd h aU aQ
theorem WL:∀{l:List (aT D)} {i j:Nat},j∈s7 O i l->∃n o,j=i+n/\l[n]? =au6 o/\o.live=au7
 |[],i,j,h=>by grind [s7]
 |o::l,i,j,h=>by
  simp only[s7] at h;have tail:j∈s7 O (i+1) l->∃n p,j=i+n/\(o::l)[n]? =au6 p/\p.live=au7:=fun h=>by obtain ⟨n,p,U,aa,ap⟩:=WL h;exact ⟨n+1,p,by omega,aa,ap⟩
  split at h
  ·rename_i ao;rcases avu.1 h with rfl|h
   ·grind
   grind
  grind
theorem hR.fb {A:Acc} {L:fL} {q:Option Nat} {B:Array Nat} {i:Nat} {ts:List Nat} {pM:Bool} (h:hR z m vs A L) (ay:bF X.G O z e m k vs) (a4:eR z z') (ab:∀(i:Nat) (u:au9),vs[i]? =au6 u->vs'[i]? =au6 u) (ai:gh m m' q) (bd:nN vs ts q) (wK:pM=au7->m'=m)
  (au:Qt B i O L ts=au7):sW B i A m .fb m'/\hR z' m' vs' (o9 A i m .fb) (yw i O ts pM L):=by
 simp only[Qt,avk,avt,awl] at au;obtain ⟨az,NI,rh⟩:=au;have az:ts.all (rQ O)=au7:=avt.2 az;refine ⟨⟨fun x ae aY=> ?_,fun x ae aY=> ?_⟩, ?_⟩
 ·obtain ⟨y,aI,U,aa⟩:=h.rd x ae;have:=NI y aI;rw[U,aY] at this;have aC:CW O ts y.2=au7:=by grind
  rcases aa with aa|⟨ob,b6,cc,eF⟩
  ·rw[aa] at aC;cases aC
  ·exact b6 m' fun b ag=>ai.2 b (cc b ag) (Xl ay az bd aC eF b ag)
 ·obtain ⟨y,aI,U,aa,v,ap,aN⟩:=h.iU x ae;have:=rh y aI;rw[U,aY] at this;have aC:tf O ts y.2=au7:=by grind
  exact ai.2 _ aa (FY ay az bd aC ap aN)
 ·have aL:=h.step (L':=yw i O ts pM L) a4 ab ai (fun y aI=> ?_) (fun y aI=> ?_) fun y aI=>aI
  ·refine ⟨aL.rd,fun x ae=> ?_,aL.iU⟩;rcases avu.1 ae with rfl|ae
   ·refine ⟨(i,au7&&pM,(s7 O 0 O).filter (tf O ts)),by simp[yw],rfl,fun bb=>wK (by grind),fun j aZ=> ?_⟩;obtain ⟨pj,U9⟩:=List.mem_filter.1 aZ;obtain ⟨n,o,aU,aQ,bT⟩:=WL pj;rw[avD] at aU;subst aU;obtain ⟨v,cT,eL⟩:=ay.at aQ;refine ⟨v,ab _ _ cT,fun b ag=> ?_⟩;have bS:=(eL.lt bT b ag).1;exact ⟨avx bS ai.1,ai.2 b bS (FY ay az bd U9 cT ag)⟩
   ·exact aL.jh x ae
  ·refine ⟨if CW O ts y.2=au7 then y else (y.1, .lost),avy.2 ⟨y,aI,rfl⟩,by grind, ?_⟩
   grind [Xl]
  ·refine ⟨(y.1,y.2.1&&pM,y.2.2.filter (tf O ts)),avy.2 ⟨y,avE _ aI,rfl⟩,rfl,fun bb=>by grind,fun j aZ=> ?_⟩
   grind [FY]
theorem hR.yx {A:Acc} {L:fL} {B:Array Nat} {i:Nat} (h:hR z m vs A L) (ab:∀(i:Nat) (u:au9),vs[i]? =au6 u->vs'[i]? =au6 u) (a1:m.next<=m'.next)
  (au:PT B i L=au7):sW B i A m .fb m'/\hR z' m' vs' (o9 A i m .fb) (Qu i L):=by
 simp only[PT,avk,avt] at au;refine ⟨⟨fun x ae aY=> ?_,fun x ae aY=> ?_⟩,⟨fun x ae=> ?_,fun x ae=> ?_,fun x ae=> ?_⟩⟩
 ·obtain ⟨y,aI,U,_⟩:=h.rd x ae
  grind
 ·obtain ⟨y,aI,U,_⟩:=h.iU x ae
  grind
 ·obtain ⟨y,aI,U,_⟩:=h.rd x ae;exact ⟨(y.1, .lost),avy.2 ⟨y,aI,rfl⟩,U, .inl rfl⟩
 ·rcases avu.1 ae with rfl|ae
  ·exact ⟨(i,ava,[]),avX,rfl,fun bL=>axQ bL,fun j aZ=>absurd aZ (by simp)⟩
  ·obtain ⟨y,aI,U,_⟩:=h.jh x ae;exact ⟨(y.1,ava,[]),avE _ (avy.2 ⟨y,aI,rfl⟩),U,fun bL=>axQ bL,fun j aZ=>absurd aZ (by simp)⟩
 ·obtain ⟨y,aI,U,aa,v,ap,aN⟩:=h.iU x ae;exact ⟨y,aI,U,avx aa a1,v,ab _ _ ap,aN⟩
theorem hR.aaA {A:Acc} {L:fL} (h:hR z m vs A L) (i:Nat) (s:fi) (n:Option Nat):hR z m vs A (n7 i s n L) where
 rd:=fun x ae=>by
  obtain ⟨y,aI,U,aa⟩:=h.rd x ae;refine ⟨y, ?_,U,aa⟩;unfold n7
  grind
 jh:=fun x ae=>by
  obtain ⟨y,aI,U,aa,ap⟩:=h.jh x ae;cases n with
  |none=>exact ⟨y,aI,U,aa,ap⟩
  |some j=>exact ⟨(y.1,ava,y.2.2),avy.2 ⟨y,aI,rfl⟩,U,(by simp),ap⟩
 iU:=fun x ae=>by
  obtain ⟨y,aI,U⟩:=h.iU x ae;refine ⟨y, ?_,U⟩;unfold n7
  grind
structure fZ (fc:Nat) (cd z:Nat->bo) (fr:Nat->au9) (E:List (Nat×aX D)) (m:Mem) (A:Acc) (L:fL):Prop where
 le:eR cd z
 n:fc<=m.next
 lt:∀b,(cd b).hy->b<fc
 ju:∀x∈A.gm,∀b,(cd b).hy->m.aS b=x.2.aS b
 dN:∀d,(L.nC.any (avj d))=ava->wQ (ei E d)=au7->∀b,dz (fr d)=au6 b->(cd b).hy
variable {cd:Nat->bo}
theorem fZ.at {fc:Nat} {A:Acc} {L:fL} (h:fZ fc cd z fr E m A L) {x:avf} (ae:rG E L x=au7):∀b,dz (a8 fr x)=au6 b->(cd b).hy:=by
 unfold rG at ae;split at ae
 ·rename_i d;simp only[avk,awR] at ae;exact h.dN d ae.1 ae.2
 grind
theorem fZ.read {fc:Nat} {A:Acc} {L:fL} {B:Array Nat} {i:Nat} {v:au9} (h:fZ fc cd z fr E m A L) (az:VF E L o.op=au7) (aE:eJ P (a8 fr) o m v):∀x∈A.gm,fA B i x.1=ava->eJ P (a8 fr) o x.2 v:=by
 intro x ae aY;have ag:=h.ju x ae;cases aE with
 |load t q b off d v cu bd aw aO ab=>rw[cu] at az;have:=h.at az b (by rw[bd];rfl);exact .load t q b off d v cu bd aw aO (XX ab (ag b this).symm)
 |uk t q g n h3 cu bd a1 aw a5=>exact .uk t q g n h3 cu bd a1 aw a5
 |sT t q b off d i cs cu bd aw aO aj ab=>rw[cu] at az;have:=h.at az b (by rw[bd];rfl);exact .sT t q b off d i cs cu bd aw aO aj (by rw[Gr (ag b this).symm];exact ab)
 |slice t q bD aj b2 i L' b off l n cu bf aw eh bd hm dZ dy aU aQ bT=>rw[bf] at az;have:=h.at az b (by rw[bd];rfl);exact .slice t q bD aj b2 i L' b off l n cu bf aw eh bd (by rw[<-ag b this];exact hm) dZ dy aU aQ bT
 |vK t q bD aj b2 i L' b off l c k n cu bf aw eh bd au hm dZ dy aU aQ bT=>rw[bf] at az;have:=h.at az b (by rw[bd];rfl);exact .vK t q bD aj b2 i L' b off l c k n cu bf aw eh bd au (by rw[<-ag b this];exact hm) dZ dy aU aQ bT
 |str h3 t q b2 b off l c cs bf mL he aw bd ab=>rw[bf] at az;cases az
 |vL h3 t q b2 l c bf mL he aw bd=>rw[bf] at az;cases az
 |lookup fq q cL ok u bi bg b L' F i z' kJ t hf bf g9 hu bd lF rr k1 bb au a5 aj a4 db gv=>rw[bf] at az;cases az
theorem fZ.iL {fc:Nat} {A:Acc} {L:fL} (h:fZ fc cd z fr E m A L) (a4:eR z z'):fZ fc cd z' fr E m A L:=⟨h.le.trans a4,h.n,h.lt,h.ju,h.dN⟩
theorem akl {L:fL} {v:au9} {fc:Nat} {A:Acc} (h:fZ fc cd z fr E m A L) (aO:p9 E L o.op=au7) (aM:cW P (a8 fr) o v):∀b,dz v=au6 b->(cd b).hy:=by
 have ju:∀{w:au9},flat w=au7->∀b,dz w=au6 b->(cd b).hy:=by
  intro w hw b ag;cases w with
  |pointer a=>cases a with
   |none=>cases ag
   |some a=>cases hw
  |slice a l c=>cases a with
   |none=>cases ag
   |some a=>cases hw
  |map r=>cases r with
   |none=>cases ag
   |some r=>cases hw
  |_=>cases ag
 cases aM with
 |flat v aC ae ab aE=>exact ju ab
 |move x ao=>
  rcases ao with ao|ao
  ·rw[ao] at aO;exact h.at aO
  ·rw[ao] at aO;exact h.at aO
 |nilCheck x a ao ae=>rw[ao] at aO;intro b ag;exact h.at aO b (by rw[ae];exact ag)
 |fieldAddr t x i bm f k b off ao aw bb au aC ae=>rw[ao] at aO;intro c ai;exact h.at aO c (by rw[ae];exact ai)
 |indexAddr t x y e i b off l c k n ao aw aj ae aI bf U=>rw[ao] at aO;intro c ai;exact h.at aO c (by rw[ae];exact ai)
 |ED t x y bu i l g kk n cu aw aj aC ae aI bf U az=>intro b ag;cases ag
 |za t x y e i b off l k n ao aw aj ae aI bf U=>rw[ao] at aO;intro c ai;exact h.at aO c (by rw[ae];exact ai)
 |pick c a b t ao ai=>rw[ao] at aO;cases aO
 |extract x i us v ao ae ab=>rw[ao] at aO;cases aO
 |field t x i bm f d cs v ao _ _ _ _ _=>rw[ao] at aO;cases aO
 |Fc t x y e d i l k n cs ao=>rw[ao] at aO;cases aO
 |build t cn bm i z cs ao _ _ _ _ _ _=>rw[ao] at aO;cases aO
 |yt t cn n e i k z cs ao _ _ _ _ _ _=>rw[ao] at aO;cases aO
 |slice t x bD aj e i b off l c n cu ao _ _ _ _ _ _ _ _ _=>rw[ao] at aO;cases aO
 |kH t x bD aj e i ao _ _ _ _ _=>rw[ao] at aO;cases aO
 |slice3 t x fv aj e i b off l c cu cM kA ao _ _ _ _ _ _ _=>rw[ao] at aO;cases aO
 |Kh t x bD aj fv e i b off l c n cu cM Fj Fh kA ao _ _ _ _ _ _ _ _ _=>rw[ao] at aO;cases aO
 |CV t x fv aj e i kA ao _ _ _ _ _=>rw[ao] at aO;cases aO
 |len x t e a l c ao _ _=>rw[ao] at aO;cases aO
 |yu x t e ao _ _=>rw[ao] at aO;cases aO
 |ud neq x y t u e a l c ao _ _ _=>rw[ao] at aO;cases neq<;>cases aO
 |func fn first captured ao _=>rw[ao] at aO;cases aO
theorem fZ.put {fc:Nat} {A:Acc} {L:fL} {v:au9} {dh:aX D} (h:fZ fc cd z fr E m A L) (ab:p9 E L o.op=au7->∀b,dz v=au6 b->(cd b).hy):fZ fc cd z (set fr o.dst v) (lN E o.dst dh) m A (qS E o L):=by
 cases aO:o.dst with
 |none=>
  have e:qS E o L=L:=by grind [qS]
  rw[e];exact ⟨h.le,h.n,h.lt,h.ju,h.dN⟩
 |some d=>
  refine ⟨h.le,h.n,h.lt,h.ju,fun c ai bb b ag=> ?_⟩;by_cases Ns:c=d
  ·subst Ns;simp only[set,if_true] at ag;by_cases EO:p9 E L o.op=au7
   ·grind
   simp_all [qS]
  ·simp only[set,if_neg Ns] at ag;have az:ei (lN E (au6 d) dh) c=ei E c:=by
    grind [lN,ei,avn]
   rw[az] at bb;refine h.dN c ?_ bb b ag
   grind [qS,avn]
theorem fZ.log {fc:Nat} {A hQ:Acc} {L L':fL} (h:fZ fc cd z fr E m A L) (dY:hQ.gm=A.gm) (aI:L'.nC=L.nC):fZ fc cd z fr E m hQ L':=⟨h.le,h.n,h.lt,by rw[dY];exact h.ju,by rw[aI];exact h.dN⟩
theorem fZ.grow {fc:Nat} {A:Acc} {L:fL} (h:fZ fc cd z fr E m A L) (ai:gh m m' au8):fZ fc cd z fr E m' A L:=⟨h.le,avz h.n ai.1,h.lt,fun x ae b ag=>by
 rw[ai.2 b (avx (h.lt b ag) h.n) (by simp)];exact h.ju x ae b ag,h.dN⟩
theorem fZ.fb {fc i:Nat} {A:Acc} {L:fL} {q:Option Nat} {ts:List Nat} {pM:Bool} (h:fZ fc cd z fr E m A L) (ai:gh m m' q) (bd:∀b,(cd b).hy->q≠au6 b):fZ fc cd z fr E m' (o9 A i m .fb) (yw i O ts pM L):=by
 have key:∀b,(cd b).hy->m'.aS b=m.aS b:=fun b ag=>ai.2 b (avx (h.lt b ag) h.n) (fun bL=>bd b ag bL);refine ⟨h.le,avz h.n ai.1,h.lt,fun x ae b ag=> ?_,h.dN⟩;rcases avu.1 ae with rfl|ae
 ·grind
 ·rw[key b ag];exact h.ju x ae b ag
theorem fZ.yx {fc i:Nat} {A:Acc} {L:fL} {cM:Option Nat} (h:fZ fc cd z fr E m A L) (a1:m.next<=m'.next) (a4:eR z z') (s1:dp z e m k) (s2:dp z' e m' cM):fZ fc cd z' fr E m' (o9 A i m .fb) (Qu i L):=by
 have key:∀b,(cd b).hy->m'.aS b=m.aS b:=fun b ag=>by have U:=h.le b ag;have aa:=a4 b (by grind);rw[(s1.bl b (by rw[U];exact ag.ne)).1,(s2.bl b (by rw[aa,U];exact ag.ne)).1,aa]
 refine ⟨h.le.trans a4,avz h.n a1,h.lt,fun x ae b ag=> ?_,h.dN⟩;rcases avu.1 ae with rfl|ae
 ·grind
 ·rw[key b ag];exact h.ju x ae b ag
theorem akv {ts:List Nat} {q:Option Nat} (ay:bF X.G O z e m k vs) (az:ts.all (rQ O)=au7) (bd:nN vs ts q) (a4:eR cd z):∀b,(cd b).hy->q≠au6 b:=by
 intro b ag sN;rcases bd with bd|⟨i,aj,v,ab,he⟩
 ·grind
 ·have:=avt.1 az i aj;unfold rQ at this;split at this
  ·rename_i p aM;have:=((ay.obj i p v aM ab).lt this b (by grind)).2.1;rw[a4 b ag] at this;rw[this] at ag;exact ag.elim
  grind
theorem fZ.start {E:List (Nat×aX D)} (ay:bF X.G O z e m k vs) (a0:∀d,rel X.G z vs (ei E d) (fr d)):fZ m.next z z fr E m ⟨[],[],[]⟩ ⟨[],[],[],[],[]⟩:=by
 refine ⟨eR.refl z,avm _,fun b ag=>(ay.aL.bl b ag.ne).2,by simp,fun d _ bb b ag=> ?_⟩;have aE:=a0 d;unfold wQ at bb;split at bb
 ·rename_i bu xs aC;rw[aC] at aE;rcases (aE:eu (X.G.T bu) z xs (fr d)) with ⟨U,_⟩|⟨cB,o',bQ,U,aa,_⟩
  ·rw[U] at ag;cases ag
  ·rw[U] at ag;cases ag
   grind
 ·rename_i t c cs off aC;rw[aC] at aE;obtain ⟨b,o',ds,U,aa,ap⟩:=aE;rw[U] at ag;cases ag;cases ds with
  |nil=>exact ap.elim
  |cons d ds=>
   have aN:=aa 0 d rfl
   grind [zE]
 grind
theorem vd {A:Acc} {L:fL} {E:List (Nat×aX D)} (h:hR z m vs A L):hR z m vs A (qS E o L):=by
 unfold qS;split
 ·grind
 ·split<;>exact ⟨h.rd,h.jh,h.iU⟩
theorem hR.read {A:Acc} {L:fL} {B:Array Nat} {i:Nat} {s:fi} {v:au9} {n:Option Nat} (h:hR z m vs A L) (ay:bF X.G O z e m k vs) (a0:∀x,rel X.G z vs (cY E x) (a8 fr x)) (a4:eR z z') (ab:∀(i:Nat) (u:au9),vs[i]? =au6 u->vs'[i]? =au6 u)
  {fc:Nat} (aC:pJ E o.op=au6 s) (au:(xA B i O L s||GF B i E L s o.op)=au7) (aE:eJ P (a8 fr) o m v) (a5:fZ (D:=D) fc cd z fr E m A L):
  sW B i A m (.read fun m=>eJ P (a8 fr) o m v) m/\hR z' m vs' (o9 A i m (.read fun m=>eJ P (a8 fr) o m v)) (n7 i s n L):=by
 obtain ⟨ob,U,aa⟩:=agl ay a0 aC aE;rw[awl] at au;have lt:∀b,ob=au6 b->b<m.next:=by
  intro b ag;cases s with
  |n1=>exact aa.elim
  |lost=>exact aa.elim
  |bl=>have a4:=aa b ag;exact (ay.aL.bl b a4.ne).2
  |ob j=>
   have au:xA B i O L (.ob j)=au7:=au.resolve_right (by simp[GF,UC]);simp only[xA,avk] at au;obtain ⟨u,aU,aQ⟩:=aa b ag
   grind [Yc]
 refine ⟨fun x ae aY=> ?_, ?_⟩
 ·rcases au with au|au
  case inr=>
   simp only[GF,avk] at au;exact a5.read (B:=B) au.2 aE x ae aY
  obtain ⟨y,aI,b6,jU,cc⟩:=h.jh x ae;refine U x.2 fun b ag=> ?_;cases s with
  |n1=>exact aa.elim
  |lost=>exact aa.elim
  |bl=>
   grind [xA]
  |ob j=>
   simp only[xA,avk,avt,awl] at au;have:=au.2 y aI;rw[b6,aY] at this;have aZ:y.2.1=au7\/j∈y.2.2:=by
    rcases this with h|h|h
    ·grind
    ·grind
    simp_all
   rcases aZ with aZ|aZ
   ·grind
   obtain ⟨bI,aU,aQ⟩:=cc j aZ;obtain ⟨u,bT,cT⟩:=aa b ag
   grind
 ·have aL:=((h.quiet (eR.refl z) (fun _ _ h=>h) rfl).aaA i s n).quiet (m':=m) a4 ab rfl;refine ⟨fun x ae=> ?_,aL.jh,aL.iU⟩;rcases avu.1 ae with rfl|ae
  ·refine ⟨(i,s), ?_,rfl, .inr ⟨ob,U,lt,aa.mono a4 ab⟩⟩;unfold n7;cases s<;>first|exact aa.elim|grind
  ·exact aL.rd x ae
theorem aqn {Y:bo} {v:au9} {dh:aX D} {n:Option Nat} {N:Nat} (h:iy P (a8 fr) o N Y v) (aE:rel X.G z vs dh v) (a1:Qs dh=au6 n):∃j,n=au6 j/\∃u,vs[j]? =au6 u/\dz u=au6 N:=by
 have ab:dz v=au6 N:=by cases h<;>rfl
 unfold Qs at a1;split at a1
 ·cases a1;exact ⟨_,rfl,v,aE.1,ab⟩
 ·cases a1;obtain ⟨b,aU,rfl⟩:=aE;exact ⟨_,rfl,_,aU,ab⟩
 ·cases a1;obtain ⟨b,l,aU,rfl⟩:=aE;exact ⟨_,rfl,_,aU,ab⟩
 ·have aE:v= .int _ _:=aE;rw[aE] at ab;cases ab
 ·have aE:v=av.str _:=aE;rw[aE] at ab;cases ab
 grind
theorem hR.new {A:Acc} {L:fL} {i:Nat} {s:fi} {j:Nat} {Y:bo} (h:hR z m vs A L) (a4:eR z z') (ab:∀(i:Nat) (u:au9),vs[i]? =au6 u->vs'[i]? =au6 u) (aZ:∃u,vs'[j]? =au6 u/\dz u=au6 m.next):
  hR z' (m.push Y) vs' (o9 A i m .new) (n7 i s (au6 j) L):=by
 have aL:=h.step (m':=m.push Y) (q:=au8) a4 ab (gh.push m Y) (n7 i s (au6 j) L) (fun y aI=>⟨y,by unfold n7;grind,rfl, .inr ⟨rfl,fun _ _ _ _=>by simp⟩⟩)
  (fun y aI=>⟨(y.1,ava,y.2.2),avy.2 ⟨y,aI,rfl⟩,rfl,by simp,fun j aZ=>⟨aZ,fun _ _ _ _=>by simp⟩⟩) fun y aI=>avE _ aI
 refine ⟨aL.rd,aL.jh,fun x ae=> ?_⟩;rcases avu.1 ae with rfl|ae
 ·obtain ⟨u,aU,aQ⟩:=aZ;exact ⟨(i,j),by simp[n7],rfl,Nat.lt_succ_self _,u,aU,aQ⟩
 ·exact aL.iU x ae
end
end Go.av
end
section
namespace Go.av
section
variable {P:avd} {D:Nat->Type} {X:ez P D} {af:Type} {z z':Nat->bo} {e m m':Mem} {k:Option Nat} {vs:List au9} {fr:Nat->au9} {E:List (Nat×aX D)} {O:List (aT D)} {o:Oper} {r:af}
def eP (X:ez P D) (z:Nat->bo) (vs:List au9) (E:List (Nat×aX D)) (fr:Nat->au9):Prop:=∀d,rel X.G z vs (ei E d) (fr d)
theorem eP.mono (h:eP X z vs E fr) {vs':List au9} (a4:eR z z') (ab:∀(i:Nat) (u:au9),vs[i]? =au6 u->vs'[i]? =au6 u):eP X z' vs' E fr:=fun d=>rel.mono (h d) a4 ab
theorem eP.cons (h:eP X z vs E fr) {d:Nat} {s:aX D} (aC:rel X.G z vs s (fr d)):eP X z vs ((d,s)::E) fr:=fun i=>by
 simp only[ei];split
 ·simp_all
 ·exact h i
theorem eP.put (h:eP X z vs E fr) {d:Option Nat} {s:aX D} {v:au9} (aC:rel X.G z vs s v):eP X z vs (lN E d s) (set fr d v):=by
 cases d with
 |none=>exact h
 |some d=>
  intro i;simp only[lN,ei,set];split
  ·simp_all
  ·rename_i aj;rw[if_neg]
   ·exact h i
   ·intro bL;simp_all
def ih (X:ez P D) (O:List (aT D)) (z:Nat->bo) (e:Mem) (k:Option Nat) (vs:List au9) (K:List (Nat×aX D)->List (aT D)->Option af) (r:af) (bB:Nat->au9) (m':Mem):Prop:=∃z' vs' E' bY,Inv O bY/\dr e.next z z'/\(∀(i:Nat) (u:au9),vs[i]? =au6 u->vs'[i]? =au6 u)/\bF X.G bY z' e m' k vs'/\eP X z' vs' E' bB/\K E' bY=au6 r
theorem ih.from {K:List (Nat×aX D)->List (aT D)->Option af} {bB:Nat->au9} {b4:Nat->bo} {jz:List au9} {b3:List (aT D)} (aj:Inv O b3) (a4:dr e.next z b4) (ab:∀(i:Nat) (u:au9),vs[i]? =au6 u->jz[i]? =au6 u) (h:ih X b3 b4 e k jz K r bB m'):ih X O z e k vs K r bB m':=by
 obtain ⟨z',vs',dh,bY,bf,U,aa,ap,aN,bK⟩:=h;exact ⟨z',vs',dh,bY,aj.trans bf,a4.trans U,fun i u hu=>aa i u (ab i u hu),ap,aN,bK⟩
theorem ih.here {K:List (Nat×aX D)->List (aT D)->Option af} (ay:bF X.G O z e m k vs) (a0:eP X z vs E fr) (fH:K E O=au6 r):ih X O z e k vs K r fr m:=⟨z,vs,E,O,Inv.refl O,dr.refl z,fun _ _ h=>h,ay,a0,fH⟩
theorem Xk {d:Nat} {K:List (Nat×aX D)->Option af} (a0:eP X z vs E fr) (h:tl E d K=au6 r):∃E',eP X z vs E' fr/\K E'=au6 r:=by
 unfold tl at h;have aO:=a0 d;split at h
 ·rename_i b aC;rw[aC] at aO;cases b with
  |true=>rw[if_pos rfl] at h;exact ⟨_,a0.cons (s:= .c (.bool au7)) aO,h⟩
  |false=>rw[if_neg (by simp)] at h;exact ⟨_,a0.cons (s:= .c (.bool ava)) aO,h⟩
 ·grind
 grind
theorem aq7 (cf:h6 X) {K:List (Nat×aX D)->List (aT D)->Option af} (ay:bF X.G O z e m k vs) (a0:eP X z vs E fr) (h:zh X o E O K=au6 r):cj P (a8 fr) o m fun _ v m'=>ih X O z e k vs K r (set fr o.dst v) m':=by
 have go:∀{E:List (Nat×aX D)},eP X z vs E fr->h1 X o.op E O (fun v O=>K (lN E o.dst v) O)=au6 r->cj P (a8 fr) o m fun _ v m'=>ih X O z e k vs K r (set fr o.dst v) m':=by intro E a0 h;refine cj.mono (GG cf rfl ay (Pc a0) h) ?_;rintro t v m' ⟨z',vs',dh,bY,bf,U,aa,ap,aN,bK⟩;exact ⟨z',vs',_,bY,bf,U,aa,ap,(a0.mono U.le aa).put aN,bK⟩
 unfold zh at h;split at h
 ·obtain ⟨E',gT,h⟩:=Xk a0 h
  grind
 grind
theorem zJ (cf:h6 X) {ops:List Oper} {K:List (Nat×aX D)->List (aT D)->Option af}:∀{l:List Oper} {E:List (Nat×aX D)} {O:List (aT D)} {z:Nat->bo} {vs:List au9} {m:Mem} {fr:Nat->au9},bF X.G O z e m k vs->eP X z vs E fr->r4 X ops l E O K=au6 r->gu P ops l (ih X O z e k vs K r) fr m
 |[],E,O,z,vs,m,fr,ay,a0,h=>gu.nil (ih.here ay a0 h)
 |o::l,E,O,z,vs,m,fr,ay,a0,h=>by
  unfold r4 at h;have step:∀{E:List (Nat×aX D)},eP X z vs E fr->(zh X o E O fun E O=>r4 X ops l E O K)=au6 r->cj P (a8 fr) o m fun _ v bz=>gu P ops l (ih X O z e k vs K r) (set fr o.dst v) bz:=by intro E a0 h;refine cj.mono (aq7 cf ay a0 h) ?_;rintro t v bz ⟨z',vs',E',bY,bf,U,aa,ap,aN,bK⟩;exact gu.mono (zJ cf ap aN bK) fun _ _ a1=>a1.from bf U aa
  split at h
  ·grind [gu.MH,wanted]
  ·rename_i j want a5;split at h
   ·grind
   ·rename_i d aO;obtain ⟨h7,rc,h⟩:=Xk a0 h;have ab:=rc d;split at h
    ·rename_i b aC;rw[aC] at ab;split at h
     ·rename_i ag;exact gu.MG a5 aO ab ag (step rc h)
     ·rename_i ag;exact gu.Kg a5 aO ab (by cases b<;>cases want<;>simp at ag⊢) (zJ cf ay (rc.put (s:= .undef) rfl) h)
    ·rename_i aC;rw[aC] at ab;exact gu.Q3 a5 aO ab (zJ cf ay (rc.put (s:= .undef) rfl) h)
    grind
variable {cd:Nat->bo}
theorem Ww {d:Nat} {K:List (Nat×aX D)->Option af} (a0:eP X z vs E fr) (h:tl E d K=au6 r):∃E',eP X z vs E' fr/\(∀c,ei E' c=ei E c\/wQ (ei E' c)=ava)/\K E'=au6 r:=by
 have aO:=a0 d;have VT:∀{b:Bool} (c:Nat),ei ((d, .c (.bool b))::E) c=ei E c\/wQ (ei ((d, .c (.bool b))::E) c)=ava:=by
  intro b c;simp only[ei];split
  ·exact .inr rfl
  grind
 unfold tl at h;split at h
 ·rename_i b ag;rw[ag] at aO;have aO:fr d= .bool b:=aO;split at h
  ·rename_i aw;exact ⟨_,a0.cons (by grind),VT,h⟩
  ·rename_i aw;exact ⟨_,a0.cons (by grind),VT,h⟩
 ·grind
 grind
theorem fZ.split {fc:Nat} {A:Acc} {L:fL} {E':List (Nat×aX D)} (h:fZ fc cd z fr E m A L) (bd:∀c,ei E' c=ei E c\/wQ (ei E' c)=ava):fZ fc cd z fr E' m A L:=⟨h.le,h.n,h.lt,h.ju,fun d aO bb=>by
 rcases bd d with bd|bd
 ·rw[bd] at bb;exact h.dN d aO bb
 grind⟩
theorem fZ.skip {fc:Nat} {A:Acc} {L:fL} {dst:Option Nat} (h:fZ fc cd z fr E m A L):fZ fc cd z (set fr dst undef) (lN E dst .undef) m A L:=by
 cases dst with
 |none=>exact h
 |some d=>
  refine ⟨h.le,h.n,h.lt,h.ju,fun c ai bb b ag=> ?_⟩;simp only[lN,ei] at bb;split at bb
  ·cases bb
  ·rename_i Ns;have:c≠d:=by rintro rfl;simp_all
   simp only[set,if_neg this] at ag;exact h.dN c ai bb b ag
theorem YF (cf:h6 X) {B:Array Nat} {ops l:List Oper} {i:Nat} {A:Acc} {L:fL} {fc:Nat} {Q:(Nat->au9)->Mem->Prop} {K:fL->List (Nat×aX D)->List (aT D)->Option af} (ay:bF X.G O z e m k vs) (a0:eP X z vs E fr) (cU:hR z m vs A L) (a5:fZ fc cd z fr E m A L) (h:FA X B i o L E O K=au6 r)
  (au:∀{z':Nat->bo} {vs':List au9} {m':Mem} {hQ:Acc} {L':fL} {E':List (Nat×aX D)} {bY:List (aT D)} {v:au9},Inv O bY->dr e.next z z'->(∀(i:Nat) (u:au9),vs[i]? =au6 u->vs'[i]? =au6 u)->bF X.G bY z' e m' k vs'->eP X z' vs' E' (set fr o.dst v)->hR z' m' vs' hQ L'->fZ fc cd z' (set fr o.dst v) E' m' hQ L'->K L' E' bY=au6 r->hc P ops B (i+1) l hQ Q (set fr o.dst v) m'):
  cj P (a8 fr) o m fun t v bz=>sW B i A m t bz/\hc P ops B (i+1) l (o9 A i m t) Q (set fr o.dst v) bz:=by
 have cl:=Pc a0;unfold FA at h;split at h
 ·rename_i ph;split at h
  ·rename_i ts aw;obtain ⟨kt,h⟩:=fT h;have q7:∀{v:au9},eJ P (a8 fr) o m v->False:=fun aE=>by
    have:=FJ aE;revert this ph;cases o.op<;>simp[kF,looks]
   have ME:∀{Y:bo} {v:au9},iy P (a8 fr) o m.next Y v->False:=fun aE=>by have:=zl aE;revert this ph;cases o.op<;>simp[kF,qE]
   have wX:p9 E L o.op=au7->False:=fun aO=>by revert aO ph;cases o.op<;>simp[kF,p9]
   refine (aq8 cf ay cl ph aw h).Fq (fun v _ bL=> ?_) (fun v aE _=>(q7 aE).elim) (fun Y v aE _=>(ME aE).elim) fun n v m' he bL=> ?_
   ·obtain ⟨_,⟨z',vs',dh,bY,bf,U,aa,ap,aN,bK⟩,wK,q,ai,bd⟩:=bL;obtain ⟨aU,aQ⟩:=cU.fb (B:=B) (pM:=rN X E O o.op) ay U.le aa (gh.any (gh.refl m) au8) (.inl rfl) (fun _=>rfl) kt;have e2:=(a5.fb (O:=O) (ts:=ts) (q:=au8) (i:=i) (pM:=rN X E O o.op) (gh.refl m) (fun b _=>by simp)).iL U.le;exact ⟨trivial,au bf U aa ap ((a0.mono U.le aa).put aN) (vd ⟨aQ.rd,fun x ae=>aQ.jh x (avE _ ae),aQ.iU⟩) (fZ.put ⟨e2.le,e2.n,e2.lt,fun x ae=>e2.ju x (avE _ ae),e2.dN⟩ fun aO=>(wX aO).elim) bK⟩
   ·obtain ⟨⟨z',vs',dh,bY,bf,U,aa,ap,aN,bK⟩,wK,q,ai,bd⟩:=bL;obtain ⟨aU,aQ⟩:=cU.fb (B:=B) ay U.le aa ai bd wK kt;exact ⟨aU,au bf U aa ap ((a0.mono U.le aa).put aN) (vd aQ) (fZ.put ((a5.fb ai (akv ay (awJ.1 kt).1 bd a5.le)).iL U.le) fun aO=>(wX aO).elim) bK⟩
  ·obtain ⟨kt,h⟩:=fT h;have q7:∀{v:au9},eJ P (a8 fr) o m v->False:=fun aE=>by
    have:=FJ aE;revert this ph;cases o.op<;>simp[kF,looks]
   have ME:∀{Y:bo} {v:au9},iy P (a8 fr) o m.next Y v->False:=fun aE=>by have:=zl aE;revert this ph;cases o.op<;>simp[kF,qE]
   have wX:p9 E L o.op=au7->False:=fun aO=>by revert aO ph;cases o.op<;>simp[kF,p9]
   refine (GG cf rfl ay cl h).Fq (fun v _ bL=> ?_) (fun v aE _=>(q7 aE).elim) (fun Y v aE _=>(ME aE).elim) fun n v m' he bL=> ?_
   ·obtain ⟨_,z',vs',dh,bY,bf,U,aa,ap,aN,bK⟩:=bL;obtain ⟨aU,aQ⟩:=cU.yx (z':=z') (m':=m) aa (avm _) kt;have e2:=a5.yx (i:=i) (avm _) U.le ay.aL ap.aL;exact ⟨trivial,au bf U aa ap ((a0.mono U.le aa).put aN) (vd ⟨aQ.rd,fun x ae=>aQ.jh x (avE _ ae),aQ.iU⟩) (fZ.put ⟨e2.le,e2.n,e2.lt,fun x ae=>e2.ju x (avE _ ae),e2.dN⟩ fun aO=>(wX aO).elim) bK⟩
   ·obtain ⟨z',vs',dh,bY,bf,U,aa,ap,aN,bK⟩:=bL;have a1:=Ph (WH n) he;obtain ⟨aU,aQ⟩:=cU.yx (z':=z') aa a1 kt;exact ⟨aU,au bf U aa ap ((a0.mono U.le aa).put aN) (vd aQ) (fZ.put (a5.yx a1 U.le ay.aL ap.aL) fun aO=>(wX aO).elim) bK⟩
 ·rename_i ph;split at h
  ·rename_i s aC;obtain ⟨kt,h⟩:=fT h;refine (GG cf rfl ay cl h).Fq (fun v aM bL=> ?_) (fun v aE bL=> ?_) (fun Y v aE bL=> ?_) fun n v m' he _=>absurd (OZ he) ph
   ·obtain ⟨_,z',vs',dh,bY,bf,U,aa,ap,aN,bK⟩:=bL;dsimp only at bK;split at bK
    ·rename_i n a1;exact ⟨trivial,au bf U aa ap ((a0.mono U.le aa).put aN) (vd ((cU.quiet U.le aa rfl).aaA i s n)) (fZ.put (L:=n7 i s n L) ((a5.iL U.le).log rfl rfl) fun aO=>akl a5 aO aM) bK⟩
    grind
   ·obtain ⟨z',vs',dh,bY,bf,U,aa,ap,aN,bK⟩:=bL;dsimp only at bK;split at bK
    ·rename_i n a1;obtain ⟨aU,aQ⟩:=cU.read (n:=n) (B:=B) (i:=i) ay cl U.le aa aC kt aE a5;exact ⟨aU,au bf U aa ap ((a0.mono U.le aa).put aN) (vd aQ) (fZ.put (L:=n7 i s n L) ((a5.iL U.le).log rfl rfl) fun aO=>(by
      have:=FJ aE;revert this aO;cases o.op<;>simp[p9,looks])) bK⟩
    grind
   ·obtain ⟨z',vs',dh,bY,bf,U,aa,ap,aN,bK⟩:=bL;dsimp only at bK;split at bK
    ·rename_i n a1;rw[VS,if_pos (zl aE)] at a1;obtain ⟨j,rfl,aZ⟩:=aqn aE aN a1;exact ⟨trivial,au bf U aa ap ((a0.mono U.le aa).put aN) (vd (cU.new (i:=i) (s:=s) (Y:=Y) U.le aa aZ)) (fZ.put (L:=n7 i s (au6 j) L) (((a5.grow (gh.push m Y)).iL U.le).log rfl rfl) fun aO=>(by
      have:=zl aE;revert this aO;cases o.op<;>simp[p9,qE])) bK⟩
    grind
  grind
theorem aq6 (cf:h6 X) {B:Array Nat} {ops l:List Oper} {i:Nat} {A:Acc} {L:fL} {fc:Nat} {Q:(Nat->au9)->Mem->Prop} {K:fL->List (Nat×aX D)->List (aT D)->Option af} (ay:bF X.G O z e m k vs) (a0:eP X z vs E fr) (cU:hR z m vs A L) (a5:fZ fc cd z fr E m A L) (h:zg X B i o L E O K=au6 r)
  (au:∀{z':Nat->bo} {vs':List au9} {m':Mem} {hQ:Acc} {L':fL} {E':List (Nat×aX D)} {bY:List (aT D)} {v:au9},Inv O bY->dr e.next z z'->(∀(i:Nat) (u:au9),vs[i]? =au6 u->vs'[i]? =au6 u)->bF X.G bY z' e m' k vs'->eP X z' vs' E' (set fr o.dst v)->hR z' m' vs' hQ L'->fZ fc cd z' (set fr o.dst v) E' m' hQ L'->K L' E' bY=au6 r->hc P ops B (i+1) l hQ Q (set fr o.dst v) m'):
  cj P (a8 fr) o m fun t v bz=>sW B i A m t bz/\hc P ops B (i+1) l (o9 A i m t) Q (set fr o.dst v) bz:=by
 unfold zg at h;split at h
 ·rename_i MN aeI;obtain ⟨E',gT,bd,h⟩:=Ww a0 h;have NC:=a5.split bd;exact YF cf ay gT cU NC h au
 ·exact YF cf ay a0 cU a5 h au
theorem hc.mono {ops l:List Oper} {B:Array Nat} {i:Nat} {A:Acc} {K k1:(Nat->au9)->Mem->Prop} (h:hc P ops B i l A K fr m) (au:∀fr m,K fr m->k1 fr m):hc P ops B i l A k1 fr m:=
 let ⟨n,bB,m',U,aa⟩:=h;⟨n,bB,m',U,au _ _ aa⟩
theorem Gs (cf:h6 X) {B:Array Nat} {ops:List Oper} {fc:Nat} {K:List (Nat×aX D)->List (aT D)->Option af}:∀{l:List Oper} {i:Nat} {A:Acc} {L:fL} {E:List (Nat×aX D)} {O:List (aT D)} {z:Nat->bo} {vs:List au9} {m:Mem} {fr:Nat->au9},bF X.G O z e m k vs->eP X z vs E fr->hR z m vs A L->fZ fc cd z fr E m A L->tx X B ops i l L E O K=au6 r->hc P ops B i l A (ih X O z e k vs K r) fr m
 |[],i,A,L,E,O,z,vs,m,fr,ay,a0,cU,kp,h=>hc.done fun bB bb=>by rw[bb];exact ih.here ay a0 h
 |o::l,i,A,L,E,O,z,vs,m,fr,ay,a0,cU,kp,h=>by
  unfold tx at h;have step:∀{E:List (Nat×aX D)},eP X z vs E fr->fZ fc cd z fr E m A L->(zg X B i o L E O fun L E O=>tx X B ops (i+1) l L E O K)=au6 r->cj P (a8 fr) o m fun t v bz=>sW B i A m t bz/\hc P ops B (i+1) l (o9 A i m t) (ih X O z e k vs K r) (set fr o.dst v) bz:=by intro E a0 a5 h;refine aq6 cf ay a0 cU a5 h ?_;intro z' vs' m' hQ L' E' bY v bf U aa ap aN bK hg ed;exact hc.mono (Gs cf ap aN bK hg ed) fun _ _ a1=>a1.from bf U aa
  split at h
  ·grind [hc.cons,wanted]
  ·rename_i j want a5;split at h
   ·grind
   ·rename_i d aO;obtain ⟨h7,rc,aeQ,h⟩:=Ww a0 h;have ux:=kp.split aeQ;have ab:=rc d;split at h
    ·rename_i b aC;rw[aC] at ab;split at h
     ·rename_i ag;exact hc.MG a5 aO ab ag (step rc ux h)
     ·rename_i ag;exact hc.Kg a5 aO ab (by cases b<;>cases want<;>simp at ag⊢) (Gs cf ay (rc.put (s:= .undef) rfl) cU ux.skip h)
    ·rename_i aC;rw[aC] at ab;exact hc.Q3 a5 aO ab (Gs cf ay (rc.put (s:= .undef) rfl) cU ux.skip h)
    grind
theorem hR.start:hR z m vs ⟨[],[],[]⟩ ⟨[],[],[],[],[]⟩:=⟨by simp,by simp,by simp⟩
def o6 (X:ez P D) (B:Code) (u:lu D):Prop:=∀{af:Type} (E:List (Nat×aX D)) (O:List (aT D)) (K:eY->List (Nat×aX D)->List (aT D)->Option af) (r:af) {z:Nat->bo} {e m:Mem} {k:Option Nat} {vs:List au9} {fr:Nat->au9},
 u.fits E O=au7->bF X.G O z e m k vs->eP X z vs E fr->u.run E O K=au6 r->W P (sub B u.path) (fun x=>ih X O z e k vs (K x) r) fr m
theorem PL:∀(c:Code) (p q:List Nat),sub (sub c p) q=sub c (p++q):=by
 intro c p;induction p generalizing c with
 |nil=>intro q;cases c<;>rfl
 |cons i p ar=>
  intro q;cases c with
  |seq a b=>cases i with
   |zero=>exact ar a q
   |succ i=>exact ar b q
  |cond x a b=>cases i with
   |zero=>exact ar a q
   |succ i=>exact ar b q
  |block n c=>cases i with
   |zero=>exact ar c q
   |succ i=>exact ar c q
  |scope c=>cases i with
   |zero=>exact ar c q
   |succ i=>exact ar c q
  |loop c=>cases i with
   |zero=>exact ar c q
   |succ i=>exact ar c q
  |_=>rcases q with _|⟨_|j,q⟩<;>cases i<;>rfl
theorem w8 {B c:Code} {p:List Nat} {i:Nat} (h:sub B p.reverse=c):sub B (i::p).reverse=sub c [i]:=by grind [PL]
theorem qB (c:Code):sub c []=c:=by cases c<;>rfl
theorem Y7:∀{p q:List Nat},Er p q=au7->p=q
 |[],[],_=>rfl
 |a::p,b::q,h=>by simp only[Er,avk] at h;rw[avn h.1,Y7 h.2]
 |[],_::_,h=>by cases h
 |_::_,[],h=>by cases h
theorem aiU {us:List (lu D)} {p:List Nat} {u:lu D} (h:qD us p E O=au6 u):u∈us/\u.path=p/\u.fits E O=au7:=by
 induction us with
 |nil=>cases h
 |cons w us ar=>
  grind [qD,Y7]
theorem XO:∀{n:Nat} {O b3:List (aT D)} {z:Nat->bo} {m:Mem} {vs:List au9},bF X.G O z e m k vs->Hf n O=au6 b3->∃z',Inv O b3/\dr e.next z z'/\bF X.G b3 z' e m k vs
 |0,O,b3,z,m,vs,ay,h=>by cases h;grind [Inv.refl,dr.refl]
 |n+1,O,b3,z,m,vs,ay,h=>by
  simp only[Hf] at h;split at h
  ·rename_i dL aa;obtain ⟨b4,cz,dw,ft⟩:=XO ay aa;split at h
   ·split at h
    ·grind
    ·obtain ⟨cZ,eA,hE,oo⟩:=zz ft h;exact ⟨cZ,cz.trans eA,dw.trans hE,oo⟩
   grind
  grind
theorem ih.fill {K:List (Nat×aX D)->List (aT D)->Option af} {r:af} {vs:List au9} {m':Mem} {bB:Nat->au9} (h:ih X O z e k vs (tn K) r bB m'):ih X O z e k vs K r bB m':=by
 obtain ⟨b4,jz,h7,b3,bf,U,aa,ap,aN,bK⟩:=h;unfold tn at bK;split at bK
 ·rename_i dL bb;obtain ⟨cZ,cz,dw,ft⟩:=XO ap bb;exact ⟨cZ,jz,h7,dL,bf.trans cz,U.trans dw,aa,ft,aN.mono dw.le fun _ _ h=>h,bK⟩
 grind
theorem GO (cf:h6 X) {B:Code} {us:List (lu D)} {L:Nat} (rq:∀u∈us,L<u.path.length->o6 X B u):
  ∀(c:Code) (top:Bool) (p:List Nat) (E:List (Nat×aX D)) (O:List (aT D)) (K:eY->List (Nat×aX D)->List (aT D)->Option af) (r:af) {z:Nat->bo} {vs:List au9} {m:Mem} {fr:Nat->au9},
   sub B p.reverse=c->L<=p.length->(top=ava->L<p.length)->bF X.G O z e m k vs->eP X z vs E fr->jO X us calm top p c E O K=au6 r->W P c (fun x=>ih X O z e k vs (K x) r) fr m:=by
 intro c;have piece:∀{c:Code} {top:Bool} {p:List Nat} {E:List (Nat×aX D)} {O:List (aT D)} {K:eY->List (Nat×aX D)->List (aT D)->Option af} {r:af} {z:Nat->bo} {vs:List au9} {m:Mem} {fr:Nat->au9} {u:lu D},
   sub B p.reverse=c->(top=ava->L<p.length)->bF X.G O z e m k vs->eP X z vs E fr->(if top=au7 then au8 else qD us p.reverse E O)=au6 u->u.run E O K=au6 r->W P c (fun x=>ih X O z e k vs (K x) r) fr m:=by
  intro c top p E O K r z vs m fr u aM aw ay a0 hu h;cases top with
  |true=>grind
  |false=>
   obtain ⟨U,aa,ap⟩:=aiU hu;have:=rq u U (by grind) E O K r ap ay a0 h
   grind
 induction c with
 |seq a b Oh Oi=>
  intro top p E O K r z vs m fr aM cU aw ay a0 h;simp only[jO] at h;split at h
  ·rename_i u hu;exact piece aM aw ay a0 hu h
  ·refine W.seq ((Oh ava (0::p) E O _ r (by rw[w8 aM];exact qB a) (by grind) (fun _=>by grind) ay a0 h).mono ?_);rintro x cX bz ⟨b4,jz,h7,b3,bf,U,aa,ap,aN,bK⟩;cases x with
   |normal=>have bK:=(if_pos rfl).symm.trans bK;exact (Oi ava (1::p) h7 b3 K r (by rw[w8 aM];exact qB b) (by grind) (fun _=>by grind) ap aN bK).mono fun _ _ _ a1=>a1.from bf U aa
   |exit i=>exact ⟨b4,jz,h7,b3,bf,U,aa,ap,aN,(if_neg (by simp)).symm.trans bK⟩
   |ret=>exact ⟨b4,jz,h7,b3,bf,U,aa,ap,aN,(if_neg (by simp)).symm.trans bK⟩
 |cond x a b Oh Oi=>
  intro top p E O K r z vs m fr aM cU aw ay a0 h;simp only[jO] at h;split at h
  ·rename_i u hu;exact piece aM aw ay a0 hu h
  ·split at h
   ·rename_i t aC;have ae:=Pc a0 x;rw[aC] at ae;cases t with
    |true=>rw[if_pos rfl] at h;exact W.acn ae rfl (Oh ava (0::p) E O K r (by rw[w8 aM];exact qB a) (by grind) (fun _=>by grind) ay a0 h)
    |false=>rw[if_neg (by simp)] at h;exact W.acm ae rfl (Oi ava (1::p) E O K r (by rw[w8 aM];exact qB b) (by grind) (fun _=>by grind) ay a0 h)
   grind
 |scope c ar=>
  intro top p E O K r z vs m fr aM cU aw ay a0 h;simp only[jO] at h;split at h
  ·rename_i u hu;exact piece aM aw ay a0 hu h
  ·exact W.scope (ar ava (0::p) E O K r (by rw[w8 aM];exact qB c) (by grind) (fun _=>by grind) ay a0 h)
 |block i c ar=>
  intro top p E O K r z vs m fr aM cU aw ay a0 h;simp only[jO] at h;split at h
  ·rename_i u hu;exact piece aM aw ay a0 hu h
  ·refine W.block ((ar ava (0::p) E O _ r (by rw[w8 aM];exact qB c) (by grind) (fun _=>by grind) ay a0 h).mono ?_);rintro x cX bz a1;obtain ⟨b4,jz,h7,b3,bf,U,aa,ap,aN,bK⟩:=a1;cases x with
   |normal=>exact ⟨b4,jz,h7,b3,bf,U,aa,ap,aN,by grind⟩
   |exit j=>
    by_cases gZ:j=i
    ·subst gZ;exact oq.oB ⟨b4,jz,h7,b3,bf,U,aa,ap,aN,by grind⟩
    ·exact oq.nf (by grind) ⟨b4,jz,h7,b3,bf,U,aa,ap,aN,by grind⟩
   |ret=>exact ⟨b4,jz,h7,b3,bf,U,aa,ap,aN,by grind⟩
 |region id ops d=>
  intro top p E O K r z vs m fr aM cU aw ay a0 h;simp only[jO] at h;split at h
  ·rename_i u hu;exact piece aM aw ay a0 hu h
  ·cases d with
   |true=>
    rw[if_pos rfl] at h;split at h
    ·rename_i ai;exact (W.calm (Q:=fun x=>ih X O z e k vs (tn (K x)) r) ai (zJ cf ay a0 h)).mono fun _ _ _ a1=>a1.fill
    ·exact (W.draw (Q:=fun x=>ih X O z e k vs (tn (K x)) r) (Gs cf ay a0 hR.start (fZ.start ay a0) h)).mono fun _ _ _ a1=>a1.fill
   |false=>rw[if_neg (by simp)] at h;exact (W.region (Q:=fun x=>ih X O z e k vs (tn (K x)) r) (zJ cf ay a0 h)).mono fun _ _ _ a1=>a1.fill
 |loop c ar=>
  intro top p E O K r z vs m fr aM cU aw ay a0 h;simp only[jO] at h;split at h
  ·rename_i u hu;exact piece aM aw ay a0 hu h
  grind
 |skip=>intro top p E O K r z vs m fr aM cU aw ay a0 h;exact W.skip (ih.here ay a0 h)
 |label l=>intro top p E O K r z vs m fr aM cU aw ay a0 h;exact W.label (ih.here ay a0 h)
 |exit i=>intro top p E O K r z vs m fr aM cU aw ay a0 h;exact W.exit (ih.here ay a0 h)
 |ret=>intro top p E O K r z vs m fr aM cU aw ay a0 h;exact W.ret (ih.here ay a0 h)
 |_=>grind [jO]
end
end Go.av
end
section
namespace Go.av
inductive gr where
 |int (k:IntKind)|bool|str
 |ad (e:Nat)|mp (t bi bg:Nat)
 |agg (t:Nat)|g4 (t:Nat)
 |fn (f:Nat) (ts:List Nat)
 |cut (j e:Nat)
inductive bW where
 |ad (e:Nat)|box (t:Nat)|recv (t:Nat)|arr (e t n:Nat)|map (t bi bg:Nat)
 |bG (t:Nat) (l:List (Nat×Nat))
 |sy (t f:Nat) (is:List Nat)
 |ne (e t:Nat)
inductive dq where
 |v (d:Nat) (c:gr)
 |o (d:Nat) (c:bW)
 |u (j:Nat) (c:bW)
noncomputable section
section
variable {P:avd} {D:Nat->Type}
def uL (D:Nat->Type):List Nat->Type|[]=>Unit|t::ts=>D t×uL D ts
def gr.ty (D:Nat->Type):gr->Type| .int _=>Int| .bool=>Bool| .str=>List UInt8| .ad e=>List (D e)| .mp _ bi bg=>List (D bi×D bg)| .agg t=>D t| .g4 t=>D t| .fn _ ts=>uL D ts| .cut _ _=>Nat×Nat
def bW.ty (D:Nat->Type):bW->Type| .ad e=>List (D e)| .box t=>D t| .recv t=>D t| .arr e _ _=>List (D e)| .map _ bi bg=>List (D bi×D bg)| .bG t _=>D t| .sy _ _ _=>Unit| .ne _ t=>List (List (D t))
def dq.ty (D:Nat->Type):dq->Type| .v _ c=>c.ty D| .o _ c=>c.ty D| .u _ c=>c.ty D
def eD (D:Nat->Type):List dq->Type|[]=>Unit|i::is=>i.ty D×eD D is
variable (X:ez P D)
def iu (t:Nat) (x:D t):List (bZ D):=match X.I t with|some ti=>ti.kT x|none=>[]
def lb (t:Nat) (cs:List (bZ D)):Option (D t):=match X.I t with|some ti=>ti.oO cs|none=>au8
def rS:(ts:List Nat)->uL D ts->List (Nat×List (bZ D))|[],_=>[]|t::ts,x=>(t,iu X t x.1)::rS ts x.2
def vh:(ts:List Nat)->List (Nat×List (bZ D))->Option (uL D ts)
 |[],[]=>au6 ()
 |t::ts,p::l=>if p.1=t then (match lb X t p.2,vh ts l with|some a,au6 b=>au6 (a,b)|_,_=>au8) else au8
 |_,_=>au8
def gr.mk:(c:gr)->c.ty D->aX D| .int k,n=> .c (.int k n)| .bool,b=> .c (.bool b)| .str,s=> .c (.str s)| .ad e,xs=> .c (.ad e xs)| .mp t bi bg,es=> .c (.mp t bi bg es)| .agg t,x=> .agg t (iu X t x)| .g4 t,x=> .g4 t (iu X t x) 0| .fn f ts,x=> .fn f (rS X ts x)| .cut j e,x=> .cut j e x.1 x.2
def gr.get:(c:gr)->aX D->Option (c.ty D)| .int k, .c (.int cM n)=>if cM=k then au6 n else au8| .bool, .c (.bool b)=>au6 b| .str, .c (.str s)=>au6 s| .ad e, .c .g2=>au6 []| .mp t bi bg, .c .py=>au6 []| .ad e, .c (.ad b2 xs)=>if h:b2=e then au6 (h▸xs) else au8| .mp t bi bg, .c (.mp ec hN hP es)=>if h:hN=bi/\hP=bg then (if ec=t then au6 (h.1▸h.2▸es) else au8) else au8| .agg t, .agg ec cs=>if ec=t then lb X t cs else au8| .g4 t, .g4 ec cs off=>if ec=t/\off=0 then lb X t cs else au8| .fn f ts, .fn lA l=>if lA=f then vh X ts l else au8| .cut _ e, .cut _ b2 bD n=>if b2=e then au6 (bD,n) else au8|_,_=>au8
def ma:List (Nat×Nat)->Nat->Option Nat|[],_=>au8|p::l,i=>if avj p.1 i=au7 then au6 p.2 else ma l i
def oN (cm:Nat->Nat) (l:List (Nat×Nat)):Nat->List (bZ D)->List (bZ D)
 |_,[]=>[]
 |i,c::cs=>(match ma l i with|some n=> .own (cm n)|none=>c)::oN cm l (i+1) cs
def m1 (t:Nat):List (bZ D):=match X.I t with|some ti=>ti.pU|none=>[]
def sV (zs:List (bZ D)) (l:List (Nat×Nat)):Nat->List (bZ D)->List (bZ D)
 |_,[]=>[]
 |i,c::cs=>(match ma l i with|some _=>zs.getD i .g2|none=>c)::sV zs l (i+1) cs
def bW.gn (cm:Nat->Nat):(c:bW)->c.ty D->Bool->aT D| .ad e,xs,w=> .ad e xs ava w| .box t,x,w=> .box t (iu X t x) ava w| .recv t,x,w=> .recv t (iu X t x) w| .arr e t n,xs,w=> .arr e t n xs w| .map t bi bg,es,w=> .map t bi bg es ava w| .bG t l,x,w=> .box t (oN cm l 0 (iu X t x)) ava w| .sy t f is,_,w=> .box t [.fn f (is.map cm)] ava w| .ne e t,dH,w=> .nest e t ((X.N e t).map tQ.up) dH au8 w
def bW.mk (c:bW) (x:c.ty D) (w:Bool):aT D:=bW.gn X (fun n=>n) c x w
def bW.gK:bW->List Nat| .bG _ l=>l.map Prod.snd| .sy _ _ is=>is|_=>[]
def oM (a:Option Nat) (i:Nat):Bool:=match a with|some j=>avj j i|none=>ava
def G3 (bp:List Nat) (cs:List (bZ D)):List (Nat×Nat)->Bool
 |[]=>au7
 |p::l=>(match cs[p.1]? with|some (.own i)=>oM (bp[p.2]?) i|_=>ava)&&G3 bp cs l
def Ef (bp:List Nat):List Nat->List Nat->Bool|[],[]=>au7|n::l,i::k=>oM (bp[n]?) i&&Ef bp l k|_,_=>ava
def bW.get (bp:List Nat):(c:bW)->aT D->Option (c.ty D)| .ad e, .ad b2 xs ava _=>if h:b2=e then au6 (h▸xs) else au8| .box t, .box ec cs ava _=>if ec=t then lb X t cs else au8| .recv t, .recv ec cs _=>if ec=t then lb X t cs else au8| .arr e t n, .arr b2 ec n' xs _=>if h:b2=e then (if ec=t/\n'=n then au6 (h▸xs) else au8) else au8| .map t bi bg, .map ec hN hP es ava _=>if h:hN=bi/\hP=bg then (if ec=t then au6 (h.1▸h.2▸es) else au8) else au8| .bG t l, .box ec cs ava _=>if ec=t/\G3 bp cs l=au7 then lb X t (sV (m1 X t) l 0 cs) else au8| .sy t f is, .box ec [.fn lA sS] ava _=>if ec=t/\lA=f/\Ef bp is sS=au7 then au6 () else au8| .ne e t, .nest b2 ec _ dH au8 _=>if h:ec=t then (if b2=e then au6 (h▸dH) else au8) else au8|_,_=>au8
def aT.clean:aT D->Bool| .box _ cs _ _=>cs.all xx| .recv _ cs _=>cs.all xx| .nest _ _ _ _ _ _=>ava|_=>au7
def M5 (O:List (aT D)):aX D->Option (aX D×List (aT D))
 | .c c=>(match rb O c with|some (bQ,bY)=>au6 (.c bQ,bY)|none=>au8)
 | .agg t cs=>(match wu O cs with|some (cs',bY)=>au6 (.agg t cs',bY)|none=>au8)
 | .cut i e bD n=>(match ug O i with|some (.ad b2 xs,bY)=>if b2=e then au6 (.c (.ad b2 ((xs.take n).drop bD)),bY) else au8|_=>au8)
 |s=>au6 (s,O)
def G2:aX D->Option Nat| .c (.own i)=>au6 i| .box i _=>au6 i| .arr i=>au6 i| .el i _ _ _=>au6 i|_=>au8
def vM (l:List (Nat×Nat)):Nat->List (bZ D)->Bool
 |_,[]=>ava
 |i,c::cs=>(match c with| .own _=>(match ma l i with|none=>au7|_=>ava)|_=>ava)||vM l (i+1) cs
def Ex (l:List (Nat×Nat)):Nat->List (bZ D)->List (aT D)->Option (List (bZ D)×List (aT D))
 |_,[],O=>au6 ([],O)
 |i,c::cs,O=>
  match (match ma l i with|some _=>au6 (c,O)|none=>rb O c) with
  |some (bQ,bY)=>(match Ex l (i+1) cs bY with|some (cs',sl)=>au6 (bQ::cs',sl)|none=>au8)
  |none=>au8
def sz (l:List (Nat×Nat)) (O:List (aT D)) (i:Nat):Option (List (aT D)):=
 match O[i]? with
 |some (.box t cs ava _)=>if vM l 0 cs=au7 then (match Ex l 0 cs O with|some (cs',bY)=>au6 (bY.set i (.box t cs' ava au7))|none=>au8) else au6 O
 |_=>au6 O
def M6 (c:gr) (O:List (aT D)) (s:aX D):Option (aX D×List (aT D)):=
 match c,s with
 | .cut _ _,s=>au6 (s,O)
 | .g4 _, .box i off=>
  (match sz [] O i with
  |some b3=>(match vw b3 (.box i off) with|some (p,dL)=>au6 (.g4 p.1 p.2 0,dL)|none=>au8)
  |none=>au8)
 |_,s=>M5 O s
def pe (E:List (Nat×aX D)):List dq->List (aT D)->Option (List (aX D)×List (aT D))
 |[],O=>au6 ([],O)
 | .v d c::aJ,O=>
  match M6 c O (ei E d) with
  |some (s,bY)=>(match pe E aJ bY with|some (l,sl)=>au6 (s::l,sl)|none=>au8)
  |none=>au8
 |_::aJ,O=>match pe E aJ O with|some (l,bY)=>au6 (.un::l,bY)|none=>au8
def p2:Nat:=2000000
def TZ:Nat:=100000000
def T0:Nat:=200000000
def Af:List (bZ D)->List Nat|[]=>[]| .own i::cs=>i::Af cs| .fn _ is::cs=>is++Af cs|_::cs=>Af cs
def Zt (O:List (aT D)) (i:Nat):List Nat:=match O[i]? with|some (.box _ cs _ _)=>Af cs|some (.recv _ cs _)=>Af cs|_=>[]
def Qi (O:List (aT D)):Nat->List Nat->List Nat->List Nat|0,_,s=>s|_+1,[],s=>s|n+1,i::l,s=>if s.any (avj i)=au7 then Qi O n l s else Qi O n (Zt O i++l) (s++[i])
def Zx:List (Nat×aX D)->List Nat
 |[]=>[]
 |p::E=>(match G2 p.2 with|some i=>[i]|none=>[])++Zx E
def Zw (E:List (Nat×aX D)) (O:List (aT D)):Nat->Nat->Option Nat
 |0,_=>au8
 |n+1,m=>if avj (m%64) 0=au7 then G2 (ei E (m / 64)) else (match Zw E O n (m / 64) with|some i=>(Zt O i)[m%64 - 1]? |none=>au8)
def Mu (E:List (Nat×aX D)) (O:List (aT D)) (d:Nat):Option Nat:=
 if avp 1000000000 d=au7 then G2 (ei E d) else
 if avp T0 d=au7 then Zw E O 8 (d - T0) else
 if avA d p2=au7 then G2 (ei E d)
 else if avp TZ d=au7 then au6 (d - TZ)
 else match ei E ((d - p2) / 1000) with
  | .box i 0=>(match O[i]? with|some (.box _ cs _ _)=>(match cs[(d - p2)%1000]? with|some (.own n)=>au6 n|_=>au8)|_=>au8)
  |_=>au8
def D5 (E:List (Nat×aX D)) (O:List (aT D)):List dq->Option (List Nat)
 |[]=>au6 []
 | .o d _::aJ=>(match Mu E O d,D5 E O aJ with|some i,au6 l=>au6 (i::l)|_,_=>au8)
 |_::aJ=>D5 E O aJ
def nR (E:List (Nat×aX D)):List dq->List (aT D)->Option (List (aT D))
 |[],O=>au6 O
 | .o d (.box _)::aJ,O=>(match Mu E O d with|some i=>(match sz [] O i with|some bY=>nR E aJ bY|none=>au8)|none=>au8)
 | .o d (.bG _ l)::aJ,O=>(match Mu E O d with|some i=>(match sz l O i with|some bY=>nR E aJ bY|none=>au8)|none=>au8)
 | .u j (.box _)::aJ,O=>(match sz [] O j with|some bY=>nR E aJ bY|none=>au8)
 | .u j (.bG _ l)::aJ,O=>(match sz l O j with|some bY=>nR E aJ bY|none=>au8)
 |_::aJ,O=>nR E aJ O
def Um (bp:List Nat):gr->aX D->Bool| .cut j _, .cut i _ _ _=>oM (bp[j]?) i|_,_=>au7
def e0 (fS:List Nat) (O:List (aT D)):(aJ:List dq)->List (aX D)->List Nat->Option (eD D aJ)
 |[],_,[]=>au6 ()
 | .v d c::aJ,s::l,bp=>if Um fS c s=au7 then (match gr.get X c s,e0 fS O aJ l bp with|some x,au6 y=>au6 (x,y)|_,_=>au8) else au8
 | .o d c::aJ,_::l,i::bp=>
  match O[i]? with
  |some o=>(match bW.get X fS c o,e0 fS O aJ l bp with|some x,au6 y=>au6 (x,y)|_,_=>au8)
  |none=>au8
 | .u j c::aJ,_::l,bp=>
  match O[j]? with
  |some o=>(match bW.get X fS c o,e0 fS O aJ l bp with|some x,au6 y=>au6 (x,y)|_,_=>au8)
  |none=>au8
 |_,_,_=>au8
def eB:(aJ:List dq)->eD D aJ->List (aT D)|[],_=>[]| .o _ c::aJ,x=>bW.mk X c x.1 ava::eB aJ x.2| .v _ _::aJ,x=>eB aJ x.2| .u _ _::aJ,x=>eB aJ x.2
def gz:(aJ:List dq)->eD D aJ->List (Nat×aX D)|[],_=>[]| .v d c::aJ,x=>(d,gr.mk X c x.1)::gz aJ x.2| .o _ _::aJ,x=>gz aJ x.2| .u _ _::aJ,x=>gz aJ x.2
def sB (bp:List Nat):aX D->aX D->Bool| .c (.own j), .c (.own i)=>oM (bp[j]?) i| .box j o, .box i p=>oM (bp[j]?) i&&avj o p| .arr j, .arr i=>oM (bp[j]?) i| .c .g2, .c .g2=>au7| .c .wY, .c .wY=>au7| .c .py, .c .py=>au7| .undef, .undef=>au7| .un,_=>au7| .c (.int k n), .c (.int cM n')=>decide (k=cM)&&(n==n')| .c (.bool b), .c (.bool cB)=>b==cB| .fn f [], .fn lA []=>avj f lA|_,_=>ava
def pO (cm:Nat->Nat):aX D->aX D| .c (.own j)=> .c (.own (cm j))| .box j o=> .box (cm j) o| .arr j=> .arr (cm j)|s=>s
def rT:List Nat->Bool|[]=>au7|i::l=> !(l.any fun j=>avj j i)&&rT l
def zX (l:List (Nat×Nat)):Nat->List (bZ D)->Bool
 |_,[]=>au7
 |i,c::cs=>(match ma l i with|some _=>au7|none=>xx c)&&zX l (i+1) cs
def bW.Uj:bW->aT D->Bool| .bG _ l, .box _ cs _ _=>zX l 0 cs|_,o=>o.clean
def xu (c:bW) (O:List (aT D)) (i:Nat):Bool:=match O[i]? with|some o=>o.lR|| !(c.Uj o)|none=>au7
def lM (fS:List Nat):(aJ:List dq)->eD D aJ->List Nat->List (aT D)->List (aT D)| .o _ c::aJ,x,i::bp,O=>lM fS aJ x.2 bp (O.set i (bW.gn X (fun n=>fS.getD n 0) c x.1 (xu c O i)))| .v _ _::aJ,x,bp,O=>lM fS aJ x.2 bp O| .u _ _::aJ,x,bp,O=>lM fS aJ x.2 bp O|_,_,_,O=>O
def HU (aJ:List dq) (fx:List (Nat×aX D)) (E:List (Nat×aX D)) (O:List (aT D)):Option (eD D aJ×List Nat×List (aT D)):=match pe E aJ O,D5 E O aJ with|some (cq,b3),au6 bp=>if rT bp&&fx.all fun p=>sB bp p.2 (ei E p.1) then match e0 X bp b3 aJ cq bp with|some x=>au6 (x,bp,lM X bp aJ x bp b3)|none=>au8 else au8|_,_=>au8
def qJ (aJ:List dq) (fx:List (Nat×aX D)) (E:List (Nat×aX D)) (O:List (aT D)):Option (eD D aJ×List Nat×List (aT D)):=match nR E aJ O with|some oi=>HU X aJ fx E oi|none=>au8
end
section
variable {P:avd} {D:Nat->Type} {X:ez P D} {z z':Nat->bo} {e m m':Mem} {k:Option Nat} {vs vs':List au9} {fr:Nat->au9} {E:List (Nat×aX D)} {O bY:List (aT D)}
theorem rR {t:Nat} {x:D t} {ds:List au9} (h:br (dK X.G z vs) (iu X t x) ds):br (dK X.G z vs') (iu X t x) ds:=by
 unfold iu at h⊢;split at h
 ·rename_i ti _;exact ti.pN z vs' x ds (ti.qx z vs _ x ds (ti.OG x) h)
 ·exact br.mono (fun _ _ h=>h) (by cases ds with|nil=>trivial|cons _ _=>exact h.elim)
theorem tj {t:Nat} {x:D t} {cs:List (bZ D)} {ds:List au9} (aM:lb X t cs=au6 x) (h:br (dK X.G z vs) cs ds):br (dK X.G z vs') (iu X t x) ds:=by
 unfold lb at aM;unfold iu;split at aM
 ·rename_i ti hL;exact ti.pN z vs' x ds (ti.qx z vs cs x ds aM h)
 grind
theorem HS {t:Nat} {x:D t} {cs:List (bZ D)} (aM:lb X t cs=au6 x) (h:cs.all xx=au7):cs=iu X t x:=by
 unfold lb at aM;unfold iu;split at aM
 ·rename_i ti hL;exact (ti.FD cs x aM).eq h
 grind
theorem aih {t:Nat} {x:D t} {cs:List (bZ D)} (aM:lb X t cs=au6 x):oh cs (iu X t x):=by
 unfold lb at aM;unfold iu;split at aM
 ·rename_i ti hL;exact ti.FD cs x aM
 grind
theorem Xb:∀{ts:List Nat} {x:uL D ts} {gs:List au9},br (fun c g=>mq X.G z vs c.2 0 g) (rS X ts x) gs->br (fun c g=>mq X.G z vs' c.2 0 g) (rS X ts x) gs
 |[],_,[],_=>trivial
 |[],_,_::_,h=>h.elim
 |t::ts,x,[],h=>h.elim
 |t::ts,x,g::gs,⟨⟨b,o,ds,U,aa,ap⟩,aN⟩=>⟨⟨b,o,ds,U,aa,rR ap⟩,Xb aN⟩
theorem W6:∀{ts:List Nat} {l:List (Nat×List (bZ D))} {x:uL D ts} {gs:List au9},vh X ts l=au6 x->br (fun c g=>mq X.G z vs c.2 0 g) l gs->br (fun c g=>mq X.G z vs' c.2 0 g) (rS X ts x) gs
 |[],[],_,[],_,_=>trivial
 |[],[],_,_::_,_,h=>h.elim
 |[],_::_,_,_,h,_=>by cases h
 |_::_,[],_,_,h,_=>by cases h
 |t::ts,p::l,x,[],_,h=>h.elim
 |t::ts,p::l,x,g::gs,h,⟨⟨b,o,ds,U,aa,ap⟩,aN⟩=>by
  simp only[vh] at h;split at h
  ·split at h
   ·rename_i a cB aY ag;cases h;exact ⟨⟨b,o,ds,U,aa,tj aY ap⟩,W6 ag aN⟩
   grind
  grind
def gr.wW:gr->Bool| .cut _ _=>ava|_=>au7
theorem gr.Ot {c:gr} {x:c.ty D} {v:au9} (ai:c.wW=au7) (h:rel X.G z vs (gr.mk X c x) v):rel X.G z vs' (gr.mk X c x) v:=by
 cases c with
 |cut j e=>cases ai
 |agg t=>obtain ⟨ds,U,aa⟩:=h;exact ⟨ds,U,rR aa⟩
 |g4 t=>obtain ⟨b,o,ds,U,aa,ap⟩:=h;exact ⟨b,o,ds,U,aa,rR ap⟩
 |fn f ts=>obtain ⟨gs,U,aa⟩:=h;exact ⟨gs,U,Xb aa⟩
 |_=>exact h
theorem YI {a:Option Nat} {i:Nat} (h:oM a i=au7):a=au6 i:=by
 unfold oM at h
 grind [avn]
theorem gr.yB {bp:List Nat} {c:gr} {x:c.ty D} {s:aX D} {v:au9} (hm:∀(j i:Nat) (u:au9),bp[j]? =au6 i->vs[i]? =au6 u->vs'[j]? =au6 u) (fj:Um bp c s=au7) (a5:gr.get X c s=au6 x) (h:rel X.G z vs s v):rel X.G z vs' (gr.mk X c x) v:=by
 unfold gr.get at a5;split at a5
 ·split at a5
  ·rename_i au;cases a5;subst au;exact h
  grind
 ·cases a5;exact h
 ·cases a5;exact h
 ·cases a5;exact .inl ⟨h,rfl⟩
 ·cases a5;exact .inl ⟨h,rfl⟩
 ·split at a5
  ·rename_i au;cases a5;subst au;exact h
  grind
 ·split at a5
  ·rename_i au;split at a5
   ·rename_i aw;obtain ⟨U,aa⟩:=au;subst U aa aw;cases a5;exact h
   grind
  grind
 ·obtain ⟨_,a5⟩:=fT a5;obtain ⟨ds,U,aa⟩:=h;exact ⟨ds,U,tj a5 aa⟩
 ·obtain ⟨au,a5⟩:=fT a5;obtain ⟨b,o,ds,U,aa,ap⟩:=h;exact ⟨b,o,ds,by grind,aa,tj a5 ap⟩
 ·obtain ⟨au,a5⟩:=fT a5;subst au;obtain ⟨gs,U,aa⟩:=h;exact ⟨gs,U,W6 a5 aa⟩
 ·obtain ⟨au,a5⟩:=fT a5;subst au;cases a5;obtain ⟨w,U,aa⟩:=h;exact ⟨w,⟨hm _ _ _ (YI fj) U.1,U.2⟩,aa⟩
 grind
theorem bW.rD {cm:Nat->Nat} {c:bW} {x:c.ty D} {w:Bool}:(bW.gn X cm c x w).live=au7:=by cases c<;>rfl
theorem bW.Fo {cm:Nat->Nat} {c:bW} {x:c.ty D} {w:Bool}:(bW.gn X cm c x w).lR=w:=by cases c<;>first|rfl|simp[bW.gn,aT.lR]
theorem bW.sU {c:bW} {x:c.ty D} {w:Bool}:(bW.mk X c x w).live=au7:=bW.rD
theorem kg {aA bO:Type} {R:aA->bO->Prop}:∀{l:List aA} {k:List bO},br R l k↔l.length=k.length/\∀(i:Nat) (a:aA) (b:bO),l[i]? =au6 a->k[i]? =au6 b->R a b
 |[],[]=>by simp[br]
 |[],_::_=>by simp[br]
 |_::_,[]=>by simp[br]
 |a::l,b::k=>by
  simp only[br,kg (l:=l) (k:=k),awh];constructor
  ·grind
  ·rintro ⟨U,aa⟩;exact ⟨aa 0 a b rfl rfl,by omega,fun i x y ae aI=>aa (i+1) x y (by grind) (by grind)⟩
theorem zG {cm:Nat->Nat} {l:List (Nat×Nat)}:∀{cs:List (bZ D)} {i0 i:Nat},(oN cm l i0 cs)[i]? =(cs[i]?).map fun c=>match ma l (i0+i) with|some n=> .own (cm n)|none=>c
 |[],i0,i=>by rfl
 |c::cs,i0,0=>by rfl
 |c::cs,i0,i+1=>by simp only[oN,awp];rw[zG (cs:=cs),show i0+1+i=i0+(i+1) by omega]
theorem Xs {zs:List (bZ D)} {l:List (Nat×Nat)}:∀{cs:List (bZ D)} {i0 i:Nat},(sV zs l i0 cs)[i]? =(cs[i]?).map fun c=>match ma l (i0+i) with|some _=>zs.getD (i0+i) .g2|none=>c
 |[],i0,i=>by rfl
 |c::cs,i0,0=>by rfl
 |c::cs,i0,i+1=>by simp only[sV,awp];rw[Xs (cs:=cs),show i0+1+i=i0+(i+1) by omega]
theorem Ps {cm:Nat->Nat} {l:List (Nat×Nat)}:∀{cs:List (bZ D)} {i0:Nat},(oN cm l i0 cs).length=cs.length
 |[],_=>rfl
 |c::cs,i0=>by simp[oN,Ps (cs:=cs)]
theorem GC {t:Nat} (i:Nat):∃v,∀(z:Nat->bo) (vs:List au9),dK X.G z vs ((m1 X t).getD i .g2) v:=by
 unfold m1;cases hL:X.I t with
 |none=>exact ⟨.slice au8 0 0,fun z vs=>rfl⟩
 |some ti=>
  simp only;cases ai:ti.pU[i]? with
  |none=>exact ⟨.slice au8 0 0,fun z vs=>by rw[axE,ai];rfl⟩
  |some c=>obtain ⟨v,ab,_⟩:=(ti.pu (fun _=> .dead) []).get i c ai;refine ⟨v,fun z vs=> ?_⟩;rw[axE,ai];exact (kg.1 (ti.pu z vs)).2 i c v ai ab
theorem Xt {zs:List (bZ D)} {l:List (Nat×Nat)}:∀{cs:List (bZ D)} {i0:Nat},(sV zs l i0 cs).length=cs.length
 |[],_=>rfl
 |c::cs,i0=>by simp[sV,Xt (cs:=cs)]
theorem zB:∀{l:List (Nat×Nat)} {i n:Nat},ma l i=au6 n->(i,n)∈l
 |[],_,_,h=>by cases h
 |p::l,i,n,h=>by
  simp only[ma] at h;split at h
  ·grind [avn]
  ·exact avE _ (zB h)
theorem F5 {bp:List Nat} {cs:List (bZ D)}:∀{l:List (Nat×Nat)},G3 bp cs l=au7->∀p∈l,∃i,cs[p.1]? =au6 (.own i)/\bp[p.2]? =au6 i
 |[],_,_,h=>by grind
 |q::l,h,p,aM=>by
  simp only[G3,avk] at h;rcases avu.1 aM with rfl|aM
  ·grind [oM,avn]
  ·exact F5 h.2 p aM
theorem akW {t:Nat} {x:D t}:(iu X t x).all oK=au7:=by
 unfold iu;split
 ·rename_i ti _;exact ti.Oo x
 rfl
theorem ai7 {c:bZ D} {v:au9} (ai:oK c=au7) (h:dK X.G z vs c v) (bb:∀f is,c≠ .fn f is):dK X.G z vs' c v:=by
 cases c<;>first|exact h|cases ai|grind
theorem ajo {c:bZ D} {v:au9} (ai:oK c=au7) (h:dK X.G z vs c v):dK X.G z vs' c v:=by
 cases c with
 |fn f is=>
  cases is with
  |nil=>obtain ⟨gs,U,aa⟩:=h;exact ⟨gs,U,by cases gs with|nil=>trivial|cons _ _=>exact aa.elim⟩
  |cons _ _=>cases ai
 |_=>grind [ai7]
def Qm (i:Nat):aT D->Prop| .box _ cs _ _=> .own i∈cs\/∃f is, .fn f is∈cs/\i∈is|_=>False
theorem Gi {bp:List Nat}:∀{l k:List Nat},Ef bp l k=au7->br (fun n i=>bp[n]? =au6 i) l k
 |[],[],_=>trivial
 |n::l,i::k,h=>by simp only[Ef,avk] at h;exact ⟨YI h.1,Gi h.2⟩
 |[],_::_,h=>by cases h
 |_::_,[],h=>by cases h
theorem Ya {cm mw:Nat->Nat}:∀{is:List Nat} {gs:List au9},(∀n∈is,∀u,vs[cm n]? =au6 u->vs'[mw n]? =au6 u)->br (q6 vs) (is.map cm) gs->br (q6 vs') (is.map mw) gs
 |[],[],_,_=>trivial
 |[],_::_,_,h=>h.elim
 |_::_,[],_,h=>h.elim
 |n::is,g::gs,ab,⟨U,aa⟩=>⟨⟨ab n avX g U.1,U.2⟩,Ya (fun m hm=>ab m (avE _ hm)) aa⟩
theorem Yb {bp:List Nat} {cm:Nat->Nat} (ab:∀n i u,bp[n]? =au6 i->vs[i]? =au6 u->vs'[cm n]? =au6 u):∀{is sS:List Nat} {gs:List au9},br (fun n i=>bp[n]? =au6 i) is sS->br (q6 vs) sS gs->br (q6 vs') (is.map cm) gs
 |[],[],[],_,_=>trivial
 |_::_,[],_,h,_=>h.elim
 |[],_::_,_,h,_=>h.elim
 |[],[],_::_,_,h=>h.elim
 |_::_,_::_,[],_,h=>h.elim
 |n::is,j::sS,g::gs,⟨U,aa⟩,⟨b6,cc⟩=>⟨⟨ab n j g U b6.1,b6.2⟩,Yb ab aa cc⟩
theorem bW.VL {cm mw:Nat->Nat} {c:bW} {x:c.ty D} {v:au9} {w:Bool} (w':Bool) (h:gD X.G z e m k vs (bW.gn X cm c x w) v) (ab:∀n∈c.gK,Qm (cm n) (bW.gn X cm c x w)->∀u,vs[cm n]? =au6 u->vs'[mw n]? =au6 u):gD X.G z e m k vs' (bW.gn X mw c x w') v:=by
 cases c with
 |box t=>obtain ⟨b,ds,U,aa,ap,aN⟩:=h;exact ⟨b,ds,U,aa,ap,rR aN⟩
 |recv t=>obtain ⟨b,ds,U,aa,aN⟩:=h;exact ⟨b,ds,U,aa,rR aN⟩
 |bG t l=>
  obtain ⟨b,ds,U,aa,ap,aN⟩:=h;refine ⟨b,ds,U,aa,ap,kg.2 ⟨?_,fun i a d aY aO=> ?_⟩⟩
  ·grind [kg,Ps]
  ·rw[zG] at aY;obtain ⟨gH,bf,aY⟩:=awU.1 aY;have aE:=(kg.1 aN).2 i _ d (by rw[zG,bf];rfl) aO;rw[avD] at aY aE;cases bb:ma l i with
   |none=>
    grind [ajo,akW]
   |some n=>rw[bb] at aY aE;subst aY;exact ⟨ab n (avy.2 ⟨_,zB bb,rfl⟩) (.inl (av4 (i:=i) (by grind [zG]))) d aE.1,aE.2⟩
 |sy t f is=>
  obtain ⟨b,ds,U,aa,ap,aN⟩:=h;refine ⟨b,ds,U,aa,ap, ?_⟩
  match ds,aN with
  |[d],⟨⟨gs,aU,aQ⟩,_⟩=>exact ⟨⟨gs,aU,Ya (fun n a1=>ab n a1 (.inr ⟨f,_,avX,avy.2 ⟨n,a1,rfl⟩⟩)) aQ⟩,trivial⟩
 |ne e t=>obtain ⟨hu,ws,h⟩:=h;exact ⟨hu,ws,h.bt,h.len,h.nc,fun p aM=>by grind⟩
 |_=>exact h
theorem bW.wV {cm mw:Nat->Nat} {c:bW} {x:c.ty D} {v:au9} {w:Bool} (w':Bool) (h:gD X.G z e m k vs (bW.gn X cm c x w) v) (ab:∀n∈c.gK,∀u,vs[cm n]? =au6 u->vs'[mw n]? =au6 u):gD X.G z e m k vs' (bW.gn X mw c x w') v:=bW.VL w' h fun n a1 _=>ab n a1
theorem agm {e t:Nat}:TY X.G e t ((X.N e t).map tQ.up):=by
 intro f bb;cases a1:X.N e t with
 |none=>grind
 |some ej=>rw[a1] at bb;cases bb;exact ⟨ej.b9,ej.tid,ej.aE⟩
theorem bW.yB {bp:List Nat} {cm:Nat->Nat} {c:bW} {x:c.ty D} {o:aT D} {v:au9} (a5:bW.get X bp c o=au6 x) (h:gD X.G z e m k vs o v) (ab:∀n i u,bp[n]? =au6 i->vs[i]? =au6 u->vs'[cm n]? =au6 u) (w:Bool):gD X.G z e m k vs' (bW.gn X cm c x w) v:=by
 unfold bW.get at a5;split at a5
 ·split at a5
  ·rename_i au;cases a5;subst au;exact h
  grind
 ·obtain ⟨au,a5⟩:=fT a5;subst au;obtain ⟨b,ds,U,aa,ap,aN⟩:=h;exact ⟨b,ds,U,aa,ap,tj a5 aN⟩
 ·obtain ⟨au,a5⟩:=fT a5;subst au;obtain ⟨b,ds,U,aa,aN⟩:=h;exact ⟨b,ds,U,aa,tj a5 aN⟩
 ·split at a5
  ·rename_i au;split at a5
   ·rename_i aw;obtain ⟨U,aa⟩:=aw;subst au U aa;cases a5;exact h
   grind
  grind
 ·split at a5
  ·rename_i au;split at a5
   ·rename_i aw;obtain ⟨U,aa⟩:=au;subst U aa aw;cases a5;exact h
   grind
  grind
 ·rename_i t l ec cs bR;obtain ⟨au,a5⟩:=fT a5;obtain ⟨rfl,az⟩:=au;obtain ⟨b,ds,U,aa,ap,aN⟩:=h;have hlen:=(kg.1 aN).1;have a1:br (dK X.G z vs) (sV (m1 X ec) l 0 cs) ((avQ ds.length).map fun i=>match ma l i with|some _=>axR (GC (X:=X) (t:=ec) i)|none=>ds.getD i undef):=by
   grind [kg,Xt,Xs]
  have a1:=tj (vs':=vs') a5 a1;refine ⟨b,ds,U,aa,ap,kg.2 ⟨by grind [Ps,kg],fun i a d aY aO=> ?_⟩⟩;rw[zG] at aY;obtain ⟨gH,bf,aY⟩:=awU.1 aY;rw[avD] at aY;have aj:i<ds.length:=(avr.1 aO).1;cases bb:ma l i with
  |none=>
   grind [kg]
  |some n=>rw[bb] at aY;subst aY;obtain ⟨i0,aU,aQ⟩:=F5 az _ (zB bb);have aE:=(kg.1 aN).2 i _ d aU aO;exact ⟨ab n i0 d aQ aE.1,aE.2⟩
 ·obtain ⟨⟨rfl,rfl,ai⟩,a5⟩:=fT a5;obtain ⟨b,ds,U,aa,ap,aN⟩:=h;refine ⟨b,ds,U,aa,ap, ?_⟩
  match ds,aN with
  |[d],⟨⟨gs,aU,aQ⟩,_⟩=>exact ⟨⟨gs,aU,Yb ab (Gi ai) aQ⟩,trivial⟩
 ·split at a5
  ·rename_i au;subst au;obtain ⟨au,a5⟩:=fT a5;subst au;cases a5;obtain ⟨_,ws,h⟩:=h;exact ⟨agm,ws,h.bt,h.len,h.nc,fun p aM=>by grind⟩
  grind
 grind
theorem bW.ac1 {bp:List Nat} {c:bW} {x:c.ty D} {o:aT D} (a5:bW.get X bp c o=au6 x):∀n∈c.gK,∃i,bp[n]? =au6 i:=by
 intro n a1;unfold bW.get at a5;split at a5
 ·grind [bW.gK]
 ·grind [bW.gK]
 ·grind [bW.gK]
 ·grind [bW.gK]
 ·grind [bW.gK]
 ·obtain ⟨⟨_,az⟩,_⟩:=fT a5;obtain ⟨p,aM,rfl⟩:=avy.1 a1
  grind [F5]
 ·rename_i t f is ec lA sS bR;obtain ⟨⟨_,_,ai⟩,_⟩:=fT a5;have:∀{l k:List Nat},br (fun n i=>bp[n]? =au6 i) l k->∀n∈l,∃i,bp[n]? =au6 i:=by
   intro l;induction l with
   |nil=>grind
   |cons a l ar=>
    intro k au n a1;cases k with
    |nil=>exact au.elim
    |cons b k=>
     rcases avu.1 a1 with rfl|a1
     ·exact ⟨b,au.1⟩
     ·exact ar au.2 n a1
  exact this (Gi ai) n a1
 ·grind [bW.gK]
 grind
theorem bW.M9 {bp:List Nat} {c:bW} {x:c.ty D} {o:aT D} (a5:bW.get X bp c o=au6 x):o.live=au7:=by
 unfold bW.get at a5;split at a5<;>first|rfl|grind
theorem WV {cm:Nat->Nat} {zs:List (bZ D)} {l:List (Nat×Nat)}:∀{cs ds:List (bZ D)} {i:Nat},oh (sV zs l i cs) ds->zX l i cs=au7->(∀j n,ma l (i+j)=au6 n->cs[j]? =au8\/cs[j]? =au6 (.own (cm n)))->oN cm l i ds=cs
 |[],[],_,_,_,_=>rfl
 |[],_::_,_,h,_,_=>h.elim
 |_::_,[],_,h,_,_=>h.elim
 |c::cs,d::ds,i,h,ai,ao=>by
  simp only[zX,avk] at ai;have aa:=WV (cs:=cs) (ds:=ds) (i:=i+1) h.2 ai.2 fun j n aZ=>by have:=ao (j+1) n (by grind);simpa using this
  simp only[oN,aa];have bf:=ao 0;rw[av2] at bf;cases bb:ma l i with
  |some n=>
   grind
  |none=>
   have U:=h.1
   grind
theorem bW.acZ {bp:List Nat} {c:bW} {x:c.ty D} {o:aT D} (a5:bW.get X bp c o=au6 x) (h:c.Uj o=au7):o=bW.gn X (fun n=>bp.getD n 0) c x o.lR:=by
 unfold bW.get at a5;split at a5
 ·split at a5
  ·rename_i au;cases a5;subst au;rfl
  grind
 ·obtain ⟨au,a5⟩:=fT a5;subst au;simp only[bW.gn,aT.lR];rw[<-HS a5 h]
 ·obtain ⟨au,a5⟩:=fT a5;subst au;simp only[bW.gn,aT.lR];rw[<-HS a5 h]
 ·split at a5
  ·rename_i au;split at a5
   ·rename_i aw;obtain ⟨U,aa⟩:=aw;subst au U aa;cases a5;rfl
   grind
  grind
 ·split at a5
  ·rename_i au;split at a5
   ·rename_i aw;obtain ⟨U,aa⟩:=au;subst U aa aw;cases a5;rfl
   grind
  grind
 ·rename_i t l ec cs bR;obtain ⟨⟨rfl,az⟩,a5⟩:=fT a5;simp only[bW.gn,aT.lR];rw[WV (aih a5) (h:zX l 0 cs=au7) fun j n aZ=> .inr ?_];obtain ⟨i,aU,aQ⟩:=F5 az (j,n) (zB (by grind))
  grind
 ·rename_i t f is ec lA sS bR;obtain ⟨⟨rfl,rfl,ai⟩,a5⟩:=fT a5;have:∀{l k:List Nat},br (fun n i=>bp[n]? =au6 i) l k->l.map (fun n=>bp.getD n 0)=k:=by
   intro l;induction l with
   |nil=>intro k au;cases k with
    |nil=>rfl
    |cons _ _=>exact au.elim
   |cons a l ar=>
    intro k au;cases k with
    |nil=>exact au.elim
    |cons b k=>rw[awe,ar au.2,axE,au.1];rfl
  simp only[bW.gn,aT.lR];rw[this (Gi ai)]
 ·split at a5
  ·rename_i au;subst au;obtain ⟨au,a5⟩:=fT a5;subst au;cases h
  grind
 grind
end
end
end Go.av
end
section
namespace Go.av
section
variable {P:avd} {D:Nat->Type} {X:ez P D} {z z':Nat->bo} {e m m':Mem} {k:Option Nat} {vs vs':List au9} {fr:Nat->au9} {E:List (Nat×aX D)} {O bY:List (aT D)}
theorem bF.CU (h:bF X.G O z e m k vs) (len:vs'.length=bY.length) (x8:Nat->Nat)
  (az:∀(i:Nat) (o:aT D),bY[i]? =au6 o->o.live=au7->∃p v,O[x8 i]? =au6 p/\p.live=au7/\vs[x8 i]? =au6 v/\vs'[i]? =au6 v/\gD X.G z e m k vs' o v)
  (bb:∀(i:Nat) (o:aT D) (v:au9),bY[i]? =au6 o->o.live=ava->vs'[i]? =au6 v->gD X.G z e m k vs' o v)
  (inj:∀(i j:Nat) (o p:aT D),bY[i]? =au6 o->bY[j]? =au6 p->o.live=au7->p.live=au7->x8 i=x8 j->i=j):bF X.G bY z e m k vs' where
 aL:=h.aL
 len:=len
 obj:=fun i o v ao ab=>by
  grind
 fa:=fun i j o p v w gZ ao aM bD b5 ab hw=>by obtain ⟨iI,v1,aU,aQ,bT,cT,_⟩:=az i o ao bD;obtain ⟨iV,v2,b6,cc,eF,jk,_⟩:=az j p aM b5;rw[ab] at cT;cases cT;rw[hw] at jk;cases jk;exact h.fa (x8 i) (x8 j) iI iV v w (fun bL=>gZ (inj i j o p ao aM bD b5 bL)) aU b6 aQ cc bT eF
theorem gD.frozen {o:aT D} {v:au9} (az:o.live=ava) (h:gD X.G z e m k vs o v) (a4:eR z z') (ab:∀(i:Nat) (u:au9),vs[i]? =au6 u->vs'[i]? =au6 u):gD X.G z' e m' k vs' o v:=by
 cases o with
 |dead=>trivial
 |ad t xs bl _=>cases bl with
  |true=>exact eu.mono a4 h
  |false=>cases az
 |box t cs bl _=>cases bl with
  |true=>obtain ⟨b,ds,U,aa,ap⟩:=h;exact ⟨b,ds,U,FK a4 aa,nw.mono ap a4 ab⟩
  |false=>cases az
 |map t bi bg es bl _=>cases bl with
  |true=>exact lY.mono h a4
  |false=>cases az
 |_=>cases az
theorem z6 (h:∀p∈E,rel X.G z vs p.2 (fr p.1)):eP X z vs E fr:=by
 induction E with
 |nil=>intro d;trivial
 |cons p E ar=>exact (ar fun q bd=>h q (avE _ bd)).cons (h p avX)
theorem alu {s h3:aX D} {v:au9} (ay:bF X.G O z e m k vs) (h:M5 O s=au6 (h3,bY)) (ab:rel X.G z vs s v):∃z',Inv O bY/\dr e.next z z'/\bF X.G bY z' e m k vs/\rel X.G z' vs h3 v:=by
 unfold M5 at h;split at h
 ·split at h
  ·rename_i c bQ b3 ai;cases h;exact xl ay ai ab
  grind
 ·split at h
  ·rename_i t cs cs' b3 ai;cases h;obtain ⟨ds,U,aa⟩:=ab;obtain ⟨z',eU,aU,aQ,bT⟩:=Gk ay ai aa;exact ⟨z',eU,aU,aQ,ds,U,bT⟩
  grind
 ·split at h
  ·rename_i bu xs b3 ai;split at h
   ·rename_i he;subst he;cases h;obtain ⟨w,U,aa⟩:=ab;obtain ⟨z',eU,aU,aQ,bT⟩:=xl (c:= .own _) ay ai U;exact ⟨z',eU,aU,aQ,aa.arD bT⟩
   grind
  grind
 grind [Inv.refl,dr.refl]
theorem akd {i j t:Nat} {c:bZ D} {cs:List (bZ D)} {bl w:Bool} (h:ug O j=au6 (c,bY)) (aj:O[i]? =au6 (.box t cs bl w)):bY[i]? =au6 (.box t cs bl w):=by
 unfold ug at h;split at h
 ·grind
 ·grind
 ·grind
 grind
theorem akc {i t:Nat} {c bQ:bZ D} {cs:List (bZ D)} {bl w:Bool} (h:rb O c=au6 (bQ,bY)) (aj:O[i]? =au6 (.box t cs bl w)):bY[i]? =au6 (.box t cs bl w):=by
 unfold rb at h
 grind [akd]
theorem Yx {l:List (Nat×Nat)}:∀{cs cs':List (bZ D)} {n:Nat} {O bY:List (aT D)} {ds:List au9} {z:Nat->bo},bF X.G O z e m k vs->Ex l n cs O=au6 (cs',bY)->br (dK X.G z vs) cs ds->
  ∃z',Inv O bY/\dr e.next z z'/\bF X.G bY z' e m k vs/\br (dK X.G z' vs) cs' ds/\∀(i t:Nat) (l6:List (bZ D)) (bl w:Bool),O[i]? =au6 (.box t l6 bl w)->bY[i]? =au6 (.box t l6 bl w)
 |[],cs',n,O,bY,[],z,ay,h,_=>by cases h;grind [Inv.refl,dr.refl]
 |c::cs,cs',n,O,bY,d::ds,z,ay,h,⟨U,aa⟩=>by
  unfold Ex at h;split at h
  ·rename_i bQ b3 ai;split at h
   ·rename_i MI dL ie;cases h;have step:∃b4,Inv O b3/\dr e.next z b4/\bF X.G b3 b4 e m k vs/\dK X.G b4 vs bQ d/\∀(i t:Nat) (l6:List (bZ D)) (bl w:Bool),O[i]? =au6 (.box t l6 bl w)->b3[i]? =au6 (.box t l6 bl w):=by
     split at ai
     ·grind [Inv.refl,dr.refl]
     ·obtain ⟨b4,eU,aU,aQ,bT⟩:=xl ay ai U
      grind [akc]
    obtain ⟨b4,eU,aU,aQ,bT,cT⟩:=step;obtain ⟨cZ,jU,b6,cc,eF,jk⟩:=Yx aQ ie (nw.mono aa aU.le fun _ _ h=>h);exact ⟨cZ,eU.trans jU,aU.trans b6,cc,⟨dK.mono bT b6.le fun _ _ h=>h,eF⟩,fun _ _ _ _ _ h=>jk _ _ _ _ _ (cT _ _ _ _ _ h)⟩
   grind
  grind
 |[],_,_,_,_,_::_,_,_,_,h=>h.elim
 |_::_,_,_,_,_,[],_,_,_,h=>h.elim
theorem YA {l:List (Nat×Nat)} {i:Nat} (ay:bF X.G O z e m k vs) (h:sz l O i=au6 bY):∃z',Inv O bY/\dr e.next z z'/\bF X.G bY z' e m k vs:=by
 unfold sz at h;split at h
 ·rename_i t cs w ao;split at h
  ·split at h
   ·rename_i cs' b3 bb;cases h;obtain ⟨v,ab,b,ds,U,aa,ap,aN⟩:=ay.at ao;obtain ⟨b4,eU,aU,aQ,bT,cT⟩:=Yx ay bb aN;have Vk:=cT _ _ _ _ _ ao;obtain ⟨cB,l9,dn,dA,ea,eH⟩:=aQ.obj i _ v Vk ab;have mH:iM b4 e m k b ds t:=by
     rw[U] at dn;cases dn;exact ⟨aa.aS,dA.lt,dA.dead,dA.fresh⟩
    refine ⟨b4,eU.trans (Inv.set b3 i (.inr rfl)),aU,aQ.mY (m':=m) Vk ab rfl ⟨avm _,aQ.aL.dead,fun _ _ _=>rfl⟩ aQ.aL ⟨b,ds,U,mH,ap,bT⟩⟩
   grind
  grind [Inv.refl,dr.refl]
 grind [Inv.refl,dr.refl]
theorem xk:∀{aJ:List dq} {O bY:List (aT D)} {z:Nat->bo},bF X.G O z e m k vs->nR E aJ O=au6 bY->∃z',Inv O bY/\dr e.next z z'/\bF X.G bY z' e m k vs
 |[],O,bY,z,ay,h=>by cases h;grind [Inv.refl,dr.refl]
 |it::aJ,O,bY,z,ay,h=>by
  have go:∀{l:List (Nat×Nat)} {i:Nat},(match sz l O i with|some bY=>nR E aJ bY|none=>au8)=au6 bY->∃z',Inv O bY/\dr e.next z z'/\bF X.G bY z' e m k vs:=by
   intro l i h;split at h
   ·rename_i b3 bb;obtain ⟨b4,eU,aU,aQ⟩:=YA ay bb;obtain ⟨cZ,jU,b6,cc⟩:=xk aQ h;exact ⟨cZ,eU.trans jU,aU.trans b6,cc⟩
   grind
  cases it with
  |v d c=>exact xk (aJ:=aJ) ay h
  |o d c=>
   cases c with
   |box t=>
    grind [nR]
   |bG t l=>
    grind [nR]
   |_=>exact xk (aJ:=aJ) ay h
  |u j c=>
   cases c with
   |box t=>grind [nR]
   |bG t l=>grind [nR]
   |_=>exact xk (aJ:=aJ) ay h
def v5 (X:ez P D) (z:Nat->bo) (vs:List au9) (fr:Nat->au9):List dq->List (aX D)->Prop|[],[]=>True| .v d _::aJ,s::l=>rel X.G z vs s (fr d)/\v5 X z vs fr aJ l| .o _ _::aJ,_::l=>v5 X z vs fr aJ l| .u _ _::aJ,_::l=>v5 X z vs fr aJ l|_,_=>False
theorem alv {c:gr} {s h3:aX D} {v:au9} (ay:bF X.G O z e m k vs) (h:M6 c O s=au6 (h3,bY)) (ab:rel X.G z vs s v):∃z',Inv O bY/\dr e.next z z'/\bF X.G bY z' e m k vs/\rel X.G z' vs h3 v:=by
 unfold M6 at h;split at h
 ·grind [Inv.refl,dr.refl]
 ·rename_i t i off;split at h
  ·rename_i b3 ae;split at h
   ·rename_i p dL aM;cases h;obtain ⟨b4,eU,aU,aQ⟩:=YA ay ae;obtain ⟨cZ,jU,b6,cc,eF⟩:=Pe aQ (rel.mono ab aU.le fun _ _ h=>h) aM;exact ⟨cZ,eU.trans jU,aU.trans b6,cc,eF⟩
   grind
  grind
 ·exact alu ay h ab
theorem s6:∀{aJ:List dq} {O bY:List (aT D)} {l:List (aX D)} {z:Nat->bo},bF X.G O z e m k vs->eP X z vs E fr->pe E aJ O=au6 (l,bY)->∃z',Inv O bY/\dr e.next z z'/\bF X.G bY z' e m k vs/\v5 X z' vs fr aJ l
 |[],O,bY,l,z,ay,a0,h=>by cases h;exact ⟨z,Inv.refl _,dr.refl z,ay,trivial⟩
 | .v d c::aJ,O,bY,l,z,ay,a0,h=>by
  simp only[pe] at h;split at h
  ·rename_i s b3 aC;split at h
   ·rename_i rB dL az;cases h;obtain ⟨b4,eU,aU,aQ,bT⟩:=alv ay aC (a0 d);obtain ⟨cZ,jU,b6,cc,eF⟩:=s6 aQ (a0.mono aU.le fun _ _ h=>h) az;exact ⟨cZ,eU.trans jU,aU.trans b6,cc,rel.mono bT b6.le fun _ _ h=>h,eF⟩
   grind
  grind
 | .o d c::aJ,O,bY,l,z,ay,a0,h=>by
  simp only[pe] at h;split at h
  ·rename_i rB dL az;cases h;exact s6 (aJ:=aJ) ay a0 az
  grind
 | .u d c::aJ,O,bY,l,z,ay,a0,h=>by
  simp only[pe] at h;split at h
  ·rename_i rB dL az;cases h;exact s6 (aJ:=aJ) ay a0 az
  grind
structure v8 (D:Nat->Type) where
 c:bW
 x:c.ty D
def cos:(aJ:List dq)->eD D aJ->List (v8 D)|[],_=>[]| .o _ c::aJ,x=>⟨c,x.1⟩::cos aJ x.2| .v _ _::aJ,x=>cos aJ x.2| .u _ _::aJ,x=>cos aJ x.2
theorem lf:∀{aJ:List dq} {x:eD D aJ},eB X aJ x=(cos aJ x).map fun q=>bW.mk X q.c q.x ava
 |[],_=>rfl
 | .o d c::aJ,x=>by show bW.mk X c x.1 ava::eB X aJ x.2=bW.mk X c x.1 ava::(cos aJ x.2).map _;rw[lf]
 | .v d c::aJ,x=>lf (aJ:=aJ)
 | .u d c::aJ,x=>lf (aJ:=aJ)
def wa (X:ez P D) (fS:List Nat) (O:List (aT D)):List Nat->List (v8 D)->Prop:=br fun i q=>∃o,O[i]? =au6 o/\bW.get X fS q.c o=au6 q.x
theorem xz {fS:List Nat} (hm:∀(j i:Nat) (u:au9),fS[j]? =au6 i->vs[i]? =au6 u->vs'[j]? =au6 u):∀{aJ:List dq} {l:List (aX D)} {bp:List Nat} {x:eD D aJ},e0 X fS O aJ l bp=au6 x->v5 X z vs fr aJ l->∀p∈gz X aJ x,rel X.G z vs' p.2 (fr p.1)
 |[],_,_,_,_,_=>by simp[gz]
 | .v d c::aJ,[],_,_,_,h=>h.elim
 | .o d c::aJ,[],_,_,_,h=>h.elim
 | .u d c::aJ,[],_,_,_,h=>h.elim
 | .v d c::aJ,s::l,bp,x,h,aY=>by
  simp only[e0] at h;obtain ⟨fj,h⟩:=fT h;split at h
  ·rename_i a b U aa;cases h;intro p aM;simp only[gz,avu] at aM;rcases aM with rfl|aM
   ·exact gr.yB hm fj U aY.1
   ·exact xz hm aa aY.2 p aM
  grind
 | .o d c::aJ,s::l,[],x,h,aY=>by cases h
 | .o d c::aJ,s::l,i::bp,x,h,aY=>by
  simp only[e0] at h;split at h
  ·split at h
   ·rename_i a b U aa;cases h;intro p aM;exact xz hm aa aY p aM
   grind
  grind
 | .u d c::aJ,s::l,bp,x,h,aY=>by
  simp only[e0] at h;split at h
  ·split at h
   ·rename_i a b U aa;cases h;intro p aM;exact xz hm aa aY p aM
   grind
  grind
theorem AI {fS:List Nat}:∀{aJ:List dq} {l:List (aX D)} {bp:List Nat} {x:eD D aJ},e0 X fS O aJ l bp=au6 x->wa X fS O bp (cos aJ x)
 |[],[],[],_,_=>trivial
 |[],_::_,[],_,_=>trivial
 |[],_,_::_,_,h=>by grind [e0]
 | .v d c::aJ,[],_,_,h=>by grind [e0]
 | .o d c::aJ,[],_,_,h=>by grind [e0]
 | .u d c::aJ,[],_,_,h=>by grind [e0]
 | .v d c::aJ,s::l,bp,x,h=>by
  simp only[e0] at h;obtain ⟨_,h⟩:=fT h;split at h
  ·rename_i a b U aa;cases h;show wa X fS O bp (cos aJ b);exact AI aa
  grind
 | .o d c::aJ,s::l,[],x,h=>by cases h
 | .o d c::aJ,s::l,i::bp,x,h=>by
  simp only[e0] at h;split at h
  ·rename_i o ao;split at h
   ·rename_i a b U aa;cases h;exact ⟨⟨o,ao,U⟩,AI aa⟩
   grind
  grind
 | .u d c::aJ,s::l,bp,x,h=>by
  simp only[e0] at h;split at h
  ·split at h
   ·rename_i a b U aa;cases h;show wa X fS O bp (cos aJ b);exact AI aa
   grind
  grind
theorem Wr {i:Nat} {l:List Nat} (h:rT (i::l)=au7):i∉l/\rT l=au7:=by
 simp only[rT,avk,awR,List.any_eq_false] at h;refine ⟨fun aj=> ?_,h.2⟩;exact h.1 i aj (by simp)
theorem OS:∀{l:List Nat},rT l=au7->∀(a b i:Nat),l[a]? =au6 i->l[b]? =au6 i->a=b
 |[],_,a,b,i,h,_=>by grind
 |x::l,h,a,b,i,aY,ag=>by
  obtain ⟨U,aa⟩:=Wr h;cases a with
  |zero=>
   grind
  |succ a=>
   cases b with
   |zero=>
    grind
   |succ b=>simp at aY ag;rw[OS aa a b i aY ag]
def Rz (X:ez P D) (fS:List Nat) (O:List (aT D)):List Nat->List (v8 D)->Prop:=br fun i q=>∃w,O[i]? =au6 (bW.gn X (fun n=>fS.getD n 0) q.c q.x w)
theorem aqG {fS:List Nat} (ay:bF X.G O z e m k vs) {i:Nat} {o:aT D} {c:bW} {x:c.ty D} (ao:O[i]? =au6 o) (a5:bW.get X fS c o=au6 x) (w:Bool):bF X.G (O.set i (bW.gn X (fun n=>fS.getD n 0) c x w)) z e m k vs:=by
 obtain ⟨v,ab,cp⟩:=ay.at ao;have aj:=(avr.1 ao).1;refine ay.CU (by rw[awt];exact ay.len) id (fun j p aM az=> ?_) (fun j p u aM az hu=> ?_) (fun i j _ _ _ _ _ _ h=>h)
 ·rw[avU] at aM;split at aM
  ·grind [bW.M9,bW.yB]
  ·obtain ⟨u,hu,uF⟩:=ay.at aM
   grind
 ·rw[avU] at aM;split at aM
  ·grind [bW.rD]
  ·exact ay.obj j p u aM hu
theorem Zb {fS:List Nat} {i:Nat} {p:aT D}:∀{bp:List Nat} {C:List (v8 D)},wa X fS O bp C->i∉bp->wa X fS (O.set i p) bp C
 |[],[],_,_=>trivial
 |j::bp,q::C,⟨⟨o,U,aa⟩,ap⟩,aj=>by
  refine ⟨⟨o, ?_,aa⟩,Zb ap fun h=>aj (avE _ h)⟩
  grind
 |[],_::_,h,_=>h.elim
 |_::_,[],h,_=>h.elim
theorem akt {aA:Type} {l:List aA} {i:Nat} {a:aA} (h:l[i]? =au6 a):l.set i a=l:=by
 apply aww
 grind
theorem GD {fS:List Nat}:∀{aJ:List dq} {x:eD D aJ} {bp:List Nat} {O:List (aT D)},bF X.G O z e m k vs->wa X fS O bp (cos aJ x)->rT bp=au7->
  Inv O (lM X fS aJ x bp O)/\bF X.G (lM X fS aJ x bp O) z e m k vs/\Rz X fS (lM X fS aJ x bp O) bp (cos aJ x)/\∀i,i∉bp->(lM X fS aJ x bp O)[i]? =O[i]?
 |[],x,[],O,ay,_,_=>⟨Inv.refl _,ay,trivial,fun _ _=>rfl⟩
 |[],x,_::_,O,ay,h,_=>h.elim
 | .v d c::aJ,x,bp,O,ay,h,a1=>by
  have:=GD (aJ:=aJ) (x:=x.2) (bp:=bp) ay h a1
  grind [lM,cos]
 | .u d c::aJ,x,bp,O,ay,h,a1=>by
  have:=GD (aJ:=aJ) (x:=x.2) (bp:=bp) ay h a1
  grind [lM,cos]
 | .o d c::aJ,x,[],O,ay,h,a1=>h.elim
 | .o d c::aJ,x,i::bp,O,ay,⟨⟨o,U,aa⟩,ap⟩,a1=>by
  obtain ⟨ml,jF⟩:=Wr a1;have ik:=aqG ay U aa (xu c O i);obtain ⟨aU,aQ,bT,cT⟩:=GD (aJ:=aJ) (x:=x.2) (bp:=bp) ik (Zb ap ml) jF;have aj:=(avr.1 U).1;refine ⟨Inv.trans ?_ aU,aQ,⟨⟨xu c O i, ?_⟩,bT⟩,fun j aZ=> ?_⟩
  ·grind [xu,Inv.set,bW.Fo,bW.acZ,akt,Inv.refl]
  ·grind [lM]
  grind [lM]
theorem Gp {a:Option Nat} {i:Nat} (h:oM a i=au7):a=au6 i:=by
 unfold oM at h
 grind [avn]
theorem P6 {bp:List Nat} {s h3:aX D} {v:au9} (cm:Nat->Nat) (h:sB bp s h3=au7) (aE:rel X.G z vs h3 v) (ab:∀(j i:Nat) (u:au9),bp[j]? =au6 i->vs[i]? =au6 u->vs'[cm j]? =au6 u):rel X.G z vs' (pO cm s) v:=by
 unfold sB at h;split at h
 ·exact ⟨ab _ _ _ (Gp h) aE.1,aE.2⟩
 ·simp only[avk] at h;obtain ⟨b,U,aa⟩:=aE;have:=avn h.2;subst this;exact ⟨b,ab _ _ _ (Gp h.1) U,aa⟩
 ·obtain ⟨b,l,U,aa⟩:=aE;exact ⟨b,l,ab _ _ _ (Gp h) U,aa⟩
 ·exact aE
 ·exact aE
 ·exact aE
 ·exact aE
 ·trivial
 ·simp only[avk,decide_eq_true_eq,beq_iff_eq] at h;obtain ⟨rfl,rfl⟩:=h;exact aE
 ·have:=eq_of_beq h;subst this;exact aE
 ·have:=avn h;subst this;obtain ⟨gs,U,aa⟩:=aE;refine ⟨gs,U, ?_⟩;cases gs with
  |nil=>trivial
  |cons _ _=>exact aa.elim
 grind
theorem GJ (s:aX D):pO id s=s:=by
 cases s with
 |c c=>cases c<;>rfl
 |_=>rfl
structure Ru (X:ez P D) (aJ:List dq) (fx:List (Nat×aX D)) (x:eD D aJ) (bp:List Nat) (dL:List (aT D)) (z:Nat->bo) (e m:Mem) (k:Option Nat) (vs dc:List au9) (fr:Nat->au9):Prop where
 VM:bF X.G dL z e m k vs
 VN:bF X.G (eB X aJ x) z e m k dc
 aav:eP X z dc (gz X aJ x++fx) fr
 wX:rT bp=au7
 uY:Rz X bp dL bp (cos aJ x)
 len:dc.length=bp.length
 dJ:∀(j i:Nat),bp[j]? =au6 i->∃u,dc[j]? =au6 u/\vs[i]? =au6 u
 gt:∀q∈cos aJ x,∀n∈q.c.gK,∃i,bp[n]? =au6 i
theorem aqr {aJ:List dq} {fx:List (Nat×aX D)} {x:eD D aJ} {bp:List Nat} {dL:List (aT D)} (ay:bF X.G O z e m k vs) (a0:eP X z vs E fr) (h:HU X aJ fx E O=au6 (x,bp,dL)):
  ∃z' dc,Inv O dL/\dr e.next z z'/\Ru X aJ fx x bp dL z' e m k vs dc fr:=by
 unfold HU at h;split at h
 ·rename_i cq b3 au5 bb aY;split at h
  ·rename_i ai;simp only[avk] at ai;split at h
   ·rename_i hj ag;cases h;obtain ⟨b4,eU,aU,aQ,bT⟩:=s6 ay a0 bb;have uX:=AI ag;obtain ⟨ml,jF,hA,jx⟩:=GD aQ uX ai.1;have wM:∀(j i:Nat),bp[j]? =au6 i->∃u,(bp.map fun i=>vs.getD i undef)[j]? =au6 u/\vs[i]? =au6 u:=by
     intro j i aZ;obtain ⟨q,_,w,hw⟩:=hA.get j i aZ;obtain ⟨v,ab,_⟩:=jF.at hw
     grind
    have hlen:(eB X aJ x).length=bp.length:=by rw[lf,awk];exact hA.length.symm
    have ad0:∀(j:Nat) (mO:aT D),(eB X aJ x)[j]? =au6 mO->∃i q,q∈cos aJ x/\mO=bW.mk X q.c q.x ava/\bp[j]? =au6 i/\∃w,(lM X bp aJ x bp b3)[i]? =au6 (bW.gn X (fun n=>bp.getD n 0) q.c q.x w):=by
     intro j mO aZ;have bS:=(avr.1 aZ).1;have aC:bp[j]? =au6 (bp[j]'(by omega)):=avV (by omega);obtain ⟨q,eF,w,jk⟩:=hA.get j _ aC
     grind [lf]
    have qh:∀q∈cos aJ x,∀n∈q.c.gK,∃i,bp[n]? =au6 i:=by
     intro q bd;obtain ⟨j,aZ,he⟩:=List.mem_iff_getElem.1 bd;have atP:(cos aJ x)[j]? =au6 q:=by grind
     have aC:bp[j]? =au6 (bp[j]'(by rw[uX.length];grind)):=avV _;obtain ⟨iJ,b6,o,_,cc⟩:=uX.get j _ aC
     grind [bW.ac1]
    refine ⟨b4,bp.map fun i=>vs.getD i undef,eU.trans ml,aU,jF, ?_, ?_,ai.1,hA,by simp,wM,qh⟩
    ·refine jF.CU (by grind) (fun j=>bp.getD j 0) (fun j mO aZ az=> ?_) (fun j mO u aZ az hu=> ?_) (fun i j o p aj aZ _ _ gZ=> ?_)
     ·obtain ⟨i,q,bd,rfl,aC,w,hw⟩:=ad0 j mO aZ;obtain ⟨u,ae6,ae7⟩:=wM j i aC;have aO:bp.getD j 0=i:=by grind
      refine ⟨_,u,by rw[aO];omega,bW.rD,by grind,ae6, ?_⟩;have:=jF.obj i _ u hw ae7;refine bW.wV ava this fun n a1 n9 kz=> ?_
      grind
     ·grind [bW.sU]
     grind [OS]
    ·refine z6 fun p aM=> ?_;rcases avT.1 aM with aM|aM
     ·grind [xz]
     ·have aw:=avt.1 ai.2 p aM;have:=P6 (X:=X) (z:=b4) (vs:=vs) (vs':=bp.map fun i=>vs.getD i undef) id aw ((a0.mono aU.le fun _ _ h=>h) p.1) fun j i u aZ hu=>by
       grind
      grind [GJ]
   grind
  grind
 grind
theorem entry {aJ:List dq} {fx:List (Nat×aX D)} {x:eD D aJ} {bp:List Nat} {dL:List (aT D)} (ay:bF X.G O z e m k vs) (a0:eP X z vs E fr) (h:qJ X aJ fx E O=au6 (x,bp,dL)):
  ∃z' dc,Inv O dL/\dr e.next z z'/\Ru X aJ fx x bp dL z' e m k vs dc fr:=by
 unfold qJ at h;split at h
 ·rename_i oi bb;obtain ⟨b4,eU,aU,aQ⟩:=xk ay bb;obtain ⟨cZ,dc,jU,b6,cc⟩:=aqr aQ (a0.mono aU.le fun _ _ h=>h) h;exact ⟨cZ,dc,eU.trans jU,aU.trans b6,cc⟩
 grind
def Zi (E:List (Nat×aX D)) (O:List (aT D)) (q off:Nat):Option (Nat×Nat×List (bZ D)×Bool):=
 match ei E q with
 | .box i 0=>(match O[i]? with|some (.box t cs ava w)=>(match cs[off]? with|some .g2=>au6 (i,t,cs,w)|_=>au8)|_=>au8)
 |_=>au8
def iH:List dq->List (Nat×aX D)->List (aT D)->List (Nat×aX D)×List (aT D)
 | .o d (.ad t)::aJ,E,O=>
  if avA d p2=au7 then (match ei E d with| .c .g2=>iH aJ ((d, .c (.own O.length))::E) (O++[.ad t [] ava ava])|_=>iH aJ E O)
  else (match Zi E O ((d - p2) / 1000) ((d - p2)%1000) with|some (i,u,cs,_)=>iH aJ E (O.set i (.box u (cs.set ((d - p2)%1000) (.own O.length)) ava au7)++[.ad t [] ava ava])|none=>iH aJ E O)
 | .o d (.ne e t)::aJ,E,O=>if avA d p2=au7 then (match ei E d with| .c .g2=>iH aJ ((d, .c (.own O.length))::E) (O++[.nest e t au8 [] au8 ava])|_=>iH aJ E O) else iH aJ E O
 |_::aJ,E,O=>iH aJ E O
 |[],E,O=>(E,O)
theorem kX:∀{aJ:List dq} {E:List (Nat×aX D)} {O:List (aT D)} {vs:List au9},bF X.G O z e m k vs->eP X z vs E fr->∃vs',Inv O (iH aJ E O).2/\(∀(i:Nat) (u:au9),vs[i]? =au6 u->vs'[i]? =au6 u)/\bF X.G (iH aJ E O).2 z e m k vs'/\eP X z vs' (iH aJ E O).1 fr
 |[],E,O,vs,ay,a0=>⟨vs,Inv.refl _,fun _ _ h=>h,ay,a0⟩
 | .v _ _::aJ,E,O,vs,ay,a0=>kX (aJ:=aJ) ay a0
 | .u _ _::aJ,E,O,vs,ay,a0=>kX (aJ:=aJ) ay a0
 | .o _ (.box _)::aJ,E,O,vs,ay,a0=>kX (aJ:=aJ) ay a0
 | .o _ (.recv _)::aJ,E,O,vs,ay,a0=>kX (aJ:=aJ) ay a0
 | .o _ (.arr _ _ _)::aJ,E,O,vs,ay,a0=>kX (aJ:=aJ) ay a0
 | .o _ (.map _ _ _)::aJ,E,O,vs,ay,a0=>kX (aJ:=aJ) ay a0
 | .o _ (.bG _ _)::aJ,E,O,vs,ay,a0=>kX (aJ:=aJ) ay a0
 | .o _ (.sy _ _ _)::aJ,E,O,vs,ay,a0=>kX (aJ:=aJ) ay a0
 | .o d (.ne eK t)::aJ,E,O,vs,ay,a0=>by
  have EI:bF X.G (O++[.nest eK t au8 [] au8 ava]) z e m k (vs++[.slice au8 0 0]):=by refine ay.push (q:=au8) ⟨avm _,ay.aL.dead,fun _ _ _=>rfl⟩ ay.aL (fun _ _ _ _ _ _=>eE.n0) ?_ fun _ _ _=>eE.n0;exact ⟨fun f bb=>(by cases bb),[],⟨⟨.inl ⟨rfl,rfl⟩,fun b ag=>(by cases ag)⟩,rfl,fun j w xs h=>(by simp at h),fun p aM=>(by cases aM)⟩⟩
  unfold iH;split
  ·split
   ·rename_i aC;have aO:=a0 d;rw[aC] at aO;have aO:fr d= .slice au8 0 0:=aO;obtain ⟨vs',aU,aQ,bT,cT⟩:=kX (aJ:=aJ) (E:=(d, .c (.own O.length))::E) EI ((a0.mono (eR.refl z) iZ).cons ⟨by rw[aO,<-ay.len];simp,by rw[aO];rfl,by rw[aO];rfl⟩);exact ⟨vs',(Inv.push O _).trans aU,fun i u hu=>aQ i u (iZ i u hu),bT,cT⟩
   ·exact kX (aJ:=aJ) ay a0
  ·exact kX (aJ:=aJ) ay a0
 | .o d (.ad t)::aJ,E,O,vs,ay,a0=>by
  have EI:∀{O:List (aT D)},bF X.G O z e m k vs->bF X.G (O++[.ad t [] ava ava]) z e m k (vs++[.slice au8 0 0]):=fun {O} ay=>by refine ay.push (q:=au8) ⟨avm _,ay.aL.dead,fun _ _ _=>rfl⟩ ay.aL (fun _ _ _ _ _ _=>eE.n0) ?_ fun _ _ _=>eE.n0;exact (⟨.inl ⟨rfl,rfl⟩,fun b ag=>by cases ag⟩:dM (X.G.T t) z e m k [] (.slice au8 0 0))
  unfold iH;split
  ·split
   ·rename_i aC;have aO:=a0 d;rw[aC] at aO;have aO:fr d= .slice au8 0 0:=aO;obtain ⟨vs',aU,aQ,bT,cT⟩:=kX (aJ:=aJ) (E:=(d, .c (.own O.length))::E) (EI ay) ((a0.mono (eR.refl z) iZ).cons ⟨by rw[aO,<-ay.len];simp,by rw[aO];rfl,by rw[aO];rfl⟩);exact ⟨vs',(Inv.push O _).trans aU,fun i u hu=>aQ i u (iZ i u hu),bT,cT⟩
   ·exact kX (aJ:=aJ) ay a0
  ·generalize (d - p2) / 1000=q;generalize (d - p2)%1000=off;split
   ·rename_i i u cs w a1;have ag:O[i]? =au6 (.box u cs ava w)/\cs[off]? =au6 .g2:=by
     unfold Zi at a1;split at a1
     ·split at a1
      ·split at a1
       ·rename_i aa _ ap;cases a1;exact ⟨aa,ap⟩
       ·cases a1
      ·cases a1
     ·cases a1
    obtain ⟨v,ab,b,ds,U,aa,ap,aN⟩:=ay.at ag.1;have yG:=EI ay;have aj:=(avr.1 ag.1).1;have E3:O.set i (.box u (cs.set off (.own O.length)) ava au7)++[(.ad t [] ava ava:aT D)]=(O++[(.ad t [] ava ava:aT D)]).set i (.box u (cs.set off (.own O.length)) ava au7):=by rw[List.set_append_left _ _ aj]
    have yH:bF X.G (O.set i (.box u (cs.set off (.own O.length)) ava au7)++[.ad t [] ava ava]) z e m k (vs++[.slice au8 0 0]):=by
     rw[E3];refine yG.mY (m':=m) (v:=v) (o:= .box u cs ava w) (by rw[avP aj];exact ag.1) (iZ _ _ ab) rfl ⟨avm _,ay.aL.dead,fun _ _ _=>rfl⟩ ay.aL ?_;refine ⟨b,ds,U,aa,ap,kg.2 ⟨by rw[awt];exact (kg.1 aN).1,fun j a d aY aO=> ?_⟩⟩;rw[avU] at aY;split at aY
     ·rename_i aZ;split at aY
      ·cases aY;subst aZ;have aE:d= .slice au8 0 0:=(kg.1 aN).2 off _ d ag.2 aO;exact ⟨by rw[aE,<-ay.len];simp,by rw[aE];rfl,by rw[aE];rfl⟩
      ·cases aY
     ·exact dK.mono ((kg.1 aN).2 j a d aY aO) (eR.refl z) iZ
    obtain ⟨vs',aU,aQ,bT,cT⟩:=kX (aJ:=aJ) (E:=E) yH (a0.mono (eR.refl z) iZ);exact ⟨vs',((Inv.set O i (.inr rfl)).trans (Inv.push _ _)).trans aU,fun i u hu=>aQ i u (iZ i u hu),bT,cT⟩
   ·exact kX (aJ:=aJ) ay a0
end
end Go.av
end
section
namespace Go.av
structure my (D:Nat->Type) where
 ex:eY
 outs:List dq
 fx:List (Nat×aX D)
noncomputable section
section
variable {P:avd} {D:Nat->Type}
def kf (D:Nat->Type):List dq->Type|[]=>Unit|[i]=>i.ty D|i::j::is=>i.ty D×kf D (j::is)
def HY:(aJ:List dq)->eD D aJ->kf D aJ|[],_=>()|[_],x=>x.1|_::j::is,x=>(x.1,HY (j::is) x.2)
def fB:(aJ:List dq)->kf D aJ->eD D aJ|[],_=>()|[_],y=>(y,())|_::j::is,y=>(y.1,fB (j::is) y.2)
def qO:List (my D)->Type|[]=>Empty|[x]=>kf D x.outs|x::y::xs=>kf D x.outs⊕qO (y::xs)
def D7 {aA:Type}:(iP:List (my D))->qO iP->((x:my D)->kf D x.outs->aA)->aA
 |[],e,_=>nomatch (e:Empty)
 |[x],y,k=>k x y
 |x::y::xs,r,k=>match (r:kf D x.outs⊕qO (y::xs)) with| .inl a=>k x a| .inr b=>D7 (y::xs) b k
variable (X:ez P D)
def ZF (n:Nat):aT D->Bool
 | .box _ cs _ _=>cs.all fun c=>match c with| .own i=>avA i n| .fn _ is=>is.all fun i=>avA i n|_=>au7
 |_=>au7
def Ae (n:Nat) (O:List (aT D)):Nat->List Nat->Bool
 |_,[]=>au7
 |j,k::ks=>(if k=1 then (match O[j]? with|some o=>o.live&& !o.lR&&ZF n o|none=>ava) else au7)&&Ae n O (j+1) ks
def QY (n:Nat) (ks:List Nat) (x:my D) (E:List (Nat×aX D)) (O:List (aT D)):Option (kf D x.outs):=match pe E x.outs O,D5 E O x.outs with|some (cq,b3),au6 bp=>if rT bp&&(bp.all fun i=>avp n i||avj (ks.getD i 0) 0)&&Ae n b3 0 ks&&x.fx.all fun p=>sB (avQ n++bp) p.2 (ei E p.1) then match e0 X (avQ n++bp) b3 x.outs cq bp with|some y=>au6 (HY x.outs y)|none=>au8 else au8|_,_=>au8
def vD (n:Nat) (ks:List Nat) (x:my D) (E:List (Nat×aX D)) (O:List (aT D)):Option (kf D x.outs):=match nR (iH x.outs E O).1 x.outs (iH x.outs E O).2 with|some bY=>QY X n ks x (iH x.outs E O).1 bY|none=>au8
def r3 (n:Nat) (ks:List Nat):(iP:List (my D))->eY->List (Nat×aX D)->List (aT D)->Option (qO iP)
 |[],_,_,_=>au8
 |[x],e,E,O=>if e=x.ex then vD X n ks x E O else au8
 |x::y::xs,e,E,O=>if e=x.ex then (match vD X n ks x E O with|some a=>au6 (Sum.inl a)|none=>au8) else (match r3 n ks (y::xs) e E O with|some b=>au6 (Sum.inr b)|none=>au8)
def jn (cm:Nat->Nat):(aJ:List dq)->eD D aJ->Nat->aT D| .u i c::aJ,x,j=>if avj i j=au7 then bW.gn X cm c x.1 au7 else jn cm aJ x.2 j| .v _ _::aJ,x,j=>jn cm aJ x.2 j| .o _ _::aJ,x,j=>jn cm aJ x.2 j|[],_,_=> .dead
def uK (n:Nat):Nat:=n
def nj (outs:List dq) (y:eD D outs):Nat->List Nat->List (aT D)->List (aT D)|i,k::ks,o::O=>(if k=1 then o else if k=2 then jn X uK outs y i else .dead)::nj outs y (i+1) ks O|i,[],o::O=> .dead::nj outs y (i+1) [] O|_,_,[]=>[]
def ki (ks:List Nat) (oi:List (aT D)) (outs:List dq) (y:eD D outs):List (aT D):=nj X outs y 0 ks oi++eB X outs y
end
section
variable {P:avd} {D:Nat->Type} {X:ez P D} {z z':Nat->bo} {e m m':Mem} {k:Option Nat} {vs vs':List au9} {fr:Nat->au9} {E:List (Nat×aX D)} {O bY:List (aT D)}
theorem ZS:∀{aJ:List dq} (x:eD D aJ),fB aJ (HY aJ x)=x
 |[],_=>rfl
 |[_],_=>rfl
 |_::j::is,x=>by show (x.1,fB (j::is) (HY (j::is) x.2))=x;rw[ZS (aJ:=j::is) x.2];rfl
theorem FN {n:Nat} {ks:List Nat} {ex:eY}:∀{iP:List (my D)} {eC:qO iP},r3 X n ks iP ex E O=au6 eC->∃x y,x∈iP/\ex=x.ex/\vD X n ks x E O=au6 y/\∀{aA:Type} (K:(x:my D)->kf D x.outs->aA),D7 iP eC K=K x y
 |[],_,h=>by cases h
 |[x],eC,h=>by obtain ⟨U,aa⟩:=fT h;exact ⟨x,eC,avX,U,aa,fun _=>rfl⟩
 |x::y::xs,eC,h=>by
  simp only[r3] at h;split at h
  ·rename_i ae;split at h
   ·rename_i a aY;cases h;exact ⟨x,a,avX,ae,aY,fun _=>rfl⟩
   grind
  ·split at h
   ·rename_i b ag;cases h;obtain ⟨hj,j3,U,aa,ap,aN⟩:=FN ag;exact ⟨hj,j3,avE _ U,aa,ap,fun K=>aN K⟩
   grind
theorem Gd {fS:List Nat} {n:Nat}:∀{aJ:List dq} {l:List (aX D)} {bp:List Nat} {x:eD D aJ} {j:Nat},e0 X fS O aJ l bp=au6 x->(∀cm,jn X cm aJ x j= .dead)\/∃c y o,O[j]? =au6 o/\bW.get X fS c o=au6 y/\∀cm,jn X cm aJ x j=bW.gn X cm c y au7
 |[],_,_,_,_,_=> .inl fun _=>rfl
 | .v d c::aJ,[],_,_,_,h=>by grind [e0]
 | .o d c::aJ,[],_,_,_,h=>by grind [e0]
 | .u d c::aJ,[],_,_,_,h=>by grind [e0]
 | .v d c::aJ,s::l,bp,x,j,h=>by
  simp only[e0] at h;obtain ⟨_,h⟩:=fT h;split at h
  ·rename_i a b U aa;cases h;exact Gd (n:=n) (aJ:=aJ) aa
  grind
 | .o d c::aJ,s::l,[],x,j,h=>by cases h
 | .o d c::aJ,s::l,i::bp,x,j,h=>by
  simp only[e0] at h;split at h
  ·split at h
   ·rename_i a b U aa;cases h;exact Gd (n:=n) (aJ:=aJ) aa
   grind
  grind
 | .u d c::aJ,s::l,bp,x,j,h=>by
  simp only[e0] at h;split at h
  ·rename_i o ao;split at h
   ·rename_i a b U aa;cases h;by_cases aO:avj d j=au7
    ·have:=avn aO;subst this;refine .inr ⟨c,a,o,ao,U,fun cm=> ?_⟩;show (if avj d d=au7 then bW.gn X cm c a au7 else _)=_
     grind
    ·have bu:∀cm,jn X cm (.u d c::aJ) (a,b) j=jn X cm aJ b j:=fun cm=>by
      show (if avj d j=au7 then bW.gn X cm c a au7 else _)=_
      grind
     simp only[bu];exact Gd (n:=n) (aJ:=aJ) (j:=j) aa
   grind
  grind
def dq.gK:dq->List Nat| .v _ _=>[]| .o _ c=>c.gK| .u _ c=>c.gK
def dq.wW:dq->Bool| .v _ c=>c.wW|_=>au7
theorem rJ:∀{aJ:List dq} {x:eD D aJ} {j:Nat},(∀cm,jn X cm aJ x j= .dead)\/∃d c y,dq.u d c∈aJ/\∀cm,jn X cm aJ x j=bW.gn X cm c y au7
 |[],_,_=> .inl fun _=>rfl
 | .v d c::aJ,x,j=>by
  rcases rJ (aJ:=aJ) (x:=x.2) (j:=j) with h|⟨d,c,y,U,aa⟩
  ·exact .inl h
  ·exact .inr ⟨d,c,y,avE _ U,aa⟩
 | .o d c::aJ,x,j=>by
  rcases rJ (aJ:=aJ) (x:=x.2) (j:=j) with h|⟨d,c,y,U,aa⟩
  ·exact .inl h
  ·exact .inr ⟨d,c,y,avE _ U,aa⟩
 | .u d c::aJ,x,j=>by
  by_cases aO:avj d j=au7
  ·exact .inr ⟨d,c,x.1,avX,fun cm=>if_pos aO⟩
  ·have bu:∀cm,jn X cm (.u d c::aJ) x j=jn X cm aJ x.2 j:=fun cm=>if_neg aO;simp only[bu];rcases rJ (aJ:=aJ) (x:=x.2) (j:=j) with h|⟨d,c,y,U,aa⟩
   ·grind
   ·exact .inr ⟨d,c,y,avE _ U,aa⟩
theorem vj:∀{aJ:List dq} {x:eD D aJ} {o:aT D},o∈eB X aJ x->∃d c y,dq.o d c∈aJ/\o=bW.mk X c y ava
 |[],_,_,h=>by grind [eB]
 | .v d c::aJ,x,o,h=>let ⟨d,c,y,U,aa⟩:=vj (aJ:=aJ) (x:=x.2) h;⟨d,c,y,avE _ U,aa⟩
 | .u d c::aJ,x,o,h=>let ⟨d,c,y,U,aa⟩:=vj (aJ:=aJ) (x:=x.2) h;⟨d,c,y,avE _ U,aa⟩
 | .o d c::aJ,x,o,h=>by
  simp only[eB,avu] at h;rcases h with rfl|h
  ·exact ⟨d,c,x.1,avX,rfl⟩
  ·obtain ⟨d,c,y,U,aa⟩:=vj (aJ:=aJ) (x:=x.2) h
   grind
theorem xr:∀{aJ:List dq} {x:eD D aJ} {p:Nat×aX D},p∈gz X aJ x->∃d c y,dq.v d c∈aJ/\p.2=gr.mk X c y
 |[],_,_,h=>by grind [gz]
 | .o d c::aJ,x,o,h=>by
  obtain ⟨p8,bQ,y,U,aa⟩:=xr (aJ:=aJ) (x:=x.2) h
  grind
 | .u d c::aJ,x,o,h=>by
  obtain ⟨p8,bQ,y,U,aa⟩:=xr (aJ:=aJ) (x:=x.2) h
  grind
 | .v d c::aJ,x,o,h=>by
  simp only[gz,avu] at h;rcases h with rfl|h
  ·exact ⟨d,c,x.1,avX,rfl⟩
  ·obtain ⟨p8,bQ,y,U,aa⟩:=xr (aJ:=aJ) (x:=x.2) h
   grind
theorem pH {outs:List dq} {y:eD D outs}:∀{i:Nat} {ks:List Nat} {O:List (aT D)},(nj X outs y i ks O).length=O.length
 |i,[],[]=>rfl
 |i,_::_,[]=>rfl
 |i,k::ks,o::O=>by simp[nj,pH]
 |i,[],o::O=>by simp[nj,pH]
theorem vk {outs:List dq} {y:eD D outs}:∀{i:Nat} {ks:List Nat} {O:List (aT D)} {j:Nat} {o:aT D},O[j]? =au6 o->(nj X outs y i ks O)[j]? =au6 (if ks.getD j 0=1 then o else if ks.getD j 0=2 then jn X uK outs y (i+j) else .dead)
 |i,ks,[],j,o,h=>by grind
 |i,k::ks,p::O,0,o,h=>by grind [nj]
 |i,k::ks,p::O,j+1,o,h=>by
  simp only[awp] at h;have:=vk (outs:=outs) (y:=y) (i:=i+1) (ks:=ks) h
  grind [nj]
 |i,[],p::O,0,o,h=>by rfl
 |i,[],p::O,j+1,o,h=>by
  simp only[awp] at h;have:=vk (outs:=outs) (y:=y) (i:=i+1) (ks:=[]) h
  grind [nj]
theorem akp {n:Nat} {o:aT D} (h:ZF n o=au7):∀i,Qm i o->i<n:=by
 intro i aj;cases o with
 |box t cs bl w=>
  rcases aj with aj|⟨f,is,aj,hm⟩
  ·have:=avt.1 h _ aj;simp_all
  ·have:=avt.1 h _ aj;simp_all
 |_=>exact aj.elim
theorem XV {n:Nat}:∀{ks:List Nat} {i j:Nat},Ae n O i ks=au7->ks.getD j 0=1->∃o,O[i+j]? =au6 o/\o.live=au7/\o.lR=ava/\∀i,Qm i o->i<n
 |[],i,j,_,h=>by grind
 |k::ks,i,0,au,h=>by
  grind [Ae,akp]
 |k::ks,i,j+1,au,h=>by
  simp only[Ae,avk] at au;simp only[List.getD_cons_succ] at h;obtain ⟨o,U,aa⟩:=XV au.2 h
  grind
theorem akk {ins:List dq} {ks:List Nat} {x:eD D ins} {dD:my D} {y:kf D dD.outs} {dc:List au9} (aj:Inv (eB X ins x) O) (ab:∀(i:Nat) (u:au9),dc[i]? =au6 u->vs[i]? =au6 u) (gd:dc.length=(eB X ins x).length)
  (ay:bF X.G O z e m k vs) (a0:eP X z vs E fr) (h:QY X dc.length ks dD E O=au6 y):
  ∃z' dJ,dr e.next z z'/\bF X.G (ki X ks (eB X ins x) dD.outs (fB _ y)) z' e m k (dc++dJ)/\∀p∈gz X dD.outs (fB _ y)++dD.fx,rel X.G z' (dc++dJ) p.2 (fr p.1):=by
 unfold QY at h;split at h
 ·rename_i cq b3 bp bb aY;split at h
  ·rename_i ai;simp only[avk] at ai;obtain ⟨⟨⟨c1,c2⟩,c3⟩,c4⟩:=ai;split at h
   ·rename_i j3 ag;cases h;rw[ZS];obtain ⟨b4,eU,aU,aQ,bT⟩:=s6 ay a0 bb;have uX:=AI ag;have jE:=aj.trans eU;have aev:∀(j i:Nat),bp[j]? =au6 i->∃u,(bp.map fun i=>vs.getD i undef)[j]? =au6 u/\vs[i]? =au6 u:=by
     intro j i aZ;obtain ⟨q,_,o,ao,_⟩:=uX.get j i aZ;obtain ⟨v,ab,_⟩:=aQ.at ao
     grind
    have hlen:(eB X dD.outs j3).length=bp.length:=by rw[lf,awk];exact uX.length.symm
    have hM:∀(j:Nat) (o:aT D),(ki X ks (eB X ins x) dD.outs j3)[j]? =au6 o->
      (j<dc.length/\∃mO,(eB X ins x)[j]? =au6 mO/\o=(if ks.getD j 0=1 then mO else if ks.getD j 0=2 then jn X uK dD.outs j3 j else .dead))\/
      (dc.length<=j/\(eB X dD.outs j3)[j - dc.length]? =au6 o):=by
     grind [ki,pH,vk]
    have NL:∀(j:Nat) (u:au9),j<dc.length->vs[j]? =au6 u->(dc++bp.map fun i=>vs.getD i undef)[j]? =au6 u:=by
     grind
    have qh:∀(n i:Nat) (u:au9),(avQ dc.length++bp)[n]? =au6 i->vs[i]? =au6 u->(dc++bp.map fun i=>vs.getD i undef)[n]? =au6 u:=by
     grind
    refine ⟨b4,bp.map fun i=>vs.getD i undef,aU, ?_, ?_⟩
    ·refine aQ.CU ?_ (fun j=>if j<dc.length then j else bp.getD (j - dc.length) 0) (fun j o aZ az=> ?_) (fun j o u aZ az hu=> ?_) (fun i j o p eh aZ Vd Ve gZ=> ?_)
     ·grind [ki,pH]
     ·rcases hM j o aZ with ⟨bS,mO,uE,ao⟩|⟨gU,ao⟩
      ·simp only[if_pos bS];by_cases b6:ks.getD j 0=1
       ·rw[if_pos b6] at ao;subst ao;obtain ⟨p,iI,iV,pB,uZ⟩:=XV c3 b6;rw[avD] at iI;have:=jE.dN j p (by omega) iI iV pB;rw[uE] at this;cases this;obtain ⟨v,v1,v2⟩:=aQ.at iI;obtain ⟨_,c,w,_,rfl⟩:=vj (av4 uE);exact ⟨_,v,iI,iV,v1,NL j v bS v1,bW.VL ava v2 fun n _ ao u hu=>NL n u (uZ n ao) hu⟩
       ·rw[if_neg b6] at ao;by_cases cc:ks.getD j 0=2
        ·rw[if_pos cc] at ao;rcases Gd (n:=0) (j:=j) ag with aO|⟨c,w,p,iI,iV,pB⟩
         ·rw[ao,aO] at az;cases az
         ·obtain ⟨v,v1,v2⟩:=aQ.at iI;refine ⟨p,v,iI,bW.M9 iV,v1,NL j v bS v1, ?_⟩;rw[ao,pB];exact bW.yB iV v2 qh au7
        ·rw[if_neg cc] at ao;rw[ao] at az;cases az
      ·have a1:¬j<dc.length:=by omega
       simp only[if_neg a1];have bS:=(avr.1 ao).1;have aC:bp[j - dc.length]? =au6 (bp[j - dc.length]'(by omega)):=avV (by omega);obtain ⟨q,dn,p,iI,iV⟩:=uX.get _ _ aC;rw[lf,awb,dn] at ao;have ao:=(avl.inj ao).symm;subst ao;obtain ⟨u,CX,Rc⟩:=aev _ _ aC;obtain ⟨v,v1,v2⟩:=aQ.at iI;rw[Rc] at v1;cases v1;have aO:bp.getD (j - dc.length) 0=bp[j - dc.length]'(by omega):=by grind
       refine ⟨p,u,by grind,bW.M9 iV,by grind, ?_, ?_⟩
       ·grind
       ·exact bW.yB iV v2 qh ava
     ·rcases hM j o aZ with ⟨bS,mO,uE,ao⟩|⟨gU,ao⟩
      ·by_cases b6:ks.getD j 0=1
       ·rw[if_pos b6] at ao;subst ao;obtain ⟨_,c,w,_,rfl⟩:=vj (av4 uE)
        grind [bW.sU]
       ·rw[if_neg b6] at ao;by_cases cc:ks.getD j 0=2
        ·rw[if_pos cc] at ao;rcases rJ (X:=X) (aJ:=dD.outs) (x:=j3) (j:=j) with aO|⟨_,c,w,_,aO⟩
         ·rw[ao,aO];trivial
         grind [bW.rD]
        ·rw[if_neg cc] at ao;rw[ao];trivial
      ·obtain ⟨_,c,w,_,rfl⟩:=vj (av4 ao)
       grind [bW.sU]
     ·have dead:∀(i j:Nat) (o p:aT D),i<dc.length->dc.length<=j->(ki X ks (eB X ins x) dD.outs j3)[i]? =au6 o->(ki X ks (eB X ins x) dD.outs j3)[j]? =au6 p->o.live=au7->i=bp.getD (j - dc.length) 0->False:=by
       intro i j o p NF U9 ao aM dZ gZ;rcases hM j p aM with ⟨bS,_⟩|⟨_,uF⟩
       ·omega
       ·have bS:=(avr.1 uF).1;have aC:bp[j - dc.length]? =au6 (bp[j - dc.length]'(by omega)):=avV (by omega);have aO:bp.getD (j - dc.length) 0=bp[j - dc.length]'(by omega):=by grind
        have hm:i∈bp:=by grind
        have:=avt.1 c2 i hm;simp only[awl] at this;have lF:ks.getD i 0=0:=by
         grind [avq,avn]
        rcases hM i o ao with ⟨_,mO,_,ky⟩|⟨gU,_⟩
        ·rw[lF] at ky;simp at ky;rw[ky] at dZ;cases dZ
        grind
      by_cases U:i<dc.length
      ·by_cases aa:j<dc.length
       ·grind
       grind
      ·by_cases aa:j<dc.length
       ·grind
       grind [OS]
    ·intro p aM;rcases avT.1 aM with aM|aM
     ·grind [xz]
     ·have aw:=avt.1 c4 p aM;have:=P6 (X:=X) (z:=b4) (vs:=vs) (vs':=dc++bp.map fun i=>vs.getD i undef) id aw ((a0.mono aU.le fun _ _ h=>h) p.1) fun j i u aZ hu=>by
       grind
      grind [GJ]
   grind
  grind
 grind
theorem zQ {ins:List dq} {ks:List Nat} {x:eD D ins} {dD:my D} {y:kf D dD.outs} {dc:List au9} (aj:Inv (eB X ins x) O) (ab:∀(i:Nat) (u:au9),dc[i]? =au6 u->vs[i]? =au6 u) (gd:dc.length=(eB X ins x).length)
  (ay:bF X.G O z e m k vs) (a0:eP X z vs E fr) (h:vD X dc.length ks dD E O=au6 y):
  ∃z' dJ,dr e.next z z'/\bF X.G (ki X ks (eB X ins x) dD.outs (fB _ y)) z' e m k (dc++dJ)/\∀p∈gz X dD.outs (fB _ y)++dD.fx,rel X.G z' (dc++dJ) p.2 (fr p.1):=by
 obtain ⟨vs',aU,aQ,bT,cT⟩:=kX (aJ:=dD.outs) ay a0;unfold vD at h;split at h
 ·rename_i oi bb;obtain ⟨b4,jU,b6,cc⟩:=xk bT bb;obtain ⟨cZ,dJ,s0,dn,dA⟩:=akk ((aj.trans aU).trans jU) (fun i u hu=>aQ i u (ab i u hu)) gd cc (cT.mono b6.le fun _ _ h=>h) h;exact ⟨cZ,dJ,b6.trans s0,dn,dA⟩
 grind
end
end
end Go.av
end
section
namespace Go.av
structure hD (D:Nat->Type) where
 path:List Nat
 ins:List dq
 fx:List (Nat×aX D)
 ks:List Nat
 iP:List (my D)
 keep:List Nat
noncomputable section
section
variable {P:avd} {D:Nat->Type}
def hD.F (p:hD D):Type:=eD D p.ins->Option (qO p.iP)
def gA:List dq->Nat|[]=>0| .o _ _::aJ=>gA aJ+1|_::aJ=>gA aJ
def rY:aX D->Bool| .c (.own _)| .box _ _| .arr _| .c .g2| .c .wY| .c .py| .undef| .un| .c (.int _ _)| .c (.bool _)| .fn _ []=>au7|_=>ava
def CR:aX D->Option Nat| .c (.own j)| .box j _| .arr j=>au6 j|_=>au8
def Ez (n:Nat) (ks:List Nat) (s:aX D):Bool:=rY s&&match CR s with|some j=>avp n j|| !Nat.beq (ks.getD j 0) 0|none=>au7
def pK:List Nat->Nat->Option Nat
 |[],_=>au8
 |a::bp,i=>if avj a i=au7 then au6 0 else (match pK bp i with|some j=>au6 (j+1)|none=>au8)
variable (X:ez P D)
def qH (cm:Nat->Nat) (bp ks:List Nat) (outs:List dq) (y:eD D outs):Nat->List (aT D)->List (aT D)
 |_,[]=>[]
 |i,o::O=>(match pK bp i with|some j=>(if ks.getD j 0=1 then o else if ks.getD j 0=2 then jn X cm outs y j else .dead)|none=>if o.live=au7 then .dead else o)::qH cm bp ks outs y (i+1) O
def mkOr (cm:Nat->Nat):(aJ:List dq)->eD D aJ->List (aT D)|[],_=>[]| .o _ c::aJ,x=>bW.gn X cm c x.1 ava::mkOr cm aJ x.2| .v _ _::aJ,x=>mkOr cm aJ x.2| .u _ _::aJ,x=>mkOr cm aJ x.2
def num (bp:List Nat) (n N:Nat) (j:Nat):Nat:=if avA j n=au7 then bp.getD j 0 else N+(j - n)
def Mp (p:hD D) (bp:List Nat) (N:Nat) (dD:my D) (y:eD D dD.outs) (E:List (Nat×aX D)):List (Nat×aX D):=gz X dD.outs y++((dD.fx.map fun q=>(q.1,pO (num bp (gA p.ins) N) q.2))++p.keep.map fun d=>(d,ei E d))
def st (p:hD D) (bp:List Nat) (dL:List (aT D)) (dD:my D) (y:eD D dD.outs):List (aT D):=qH X (num bp (gA p.ins) dL.length) bp p.ks dD.outs y 0 dL++mkOr X (num bp (gA p.ins) dL.length) dD.outs y
def hD.CT (p:hD D) (F:p.F) (E:List (Nat×aX D)) (O:List (aT D)) {af:Type} (K:eY->List (Nat×aX D)->List (aT D)->Option af):Option af:=match qJ X p.ins p.fx E O with|some (x,bp,dL)=>au' (F x) fun eC=>D7 p.iP eC fun dD y=>K dD.ex (Mp X p bp dL.length dD (fB _ y) E) (st X p bp dL dD (fB _ y))|none=>au8
def hD.run (p:hD D) (F:p.F) (E:List (Nat×aX D)) (O:List (aT D)) {af:Type} (K:eY->List (Nat×aX D)->List (aT D)->Option af):Option af:=p.CT X F (iH p.ins E O).1 (iH p.ins E O).2 K
def hD.w1 (p:hD D) (F:p.F):lu D where
 path:=p.path
 fits:=fun E O=>(qJ X p.ins p.fx (iH p.ins E O).1 (iH p.ins E O).2).isSome
 run:=fun E O {_} K=>p.run X F E O K
def Fy (n:Nat) (ks:List Nat) (r:Nat):Bool:=avp n r|| !Nat.beq (ks.getD r 0) 0
def xq (n:Nat) (ks:List Nat):Nat->List dq->Bool|_,[]=>au7|j, .o _ c::aJ=>(!Nat.beq (ks.getD j 0) 1||c.gK.all (Fy n ks))&&xq n ks (j+1) aJ|j,_::aJ=>xq n ks j aJ
def hD.ot (B:Code) (p:hD D):Bool:=((p.iP.all fun dD=>dD.outs.all fun i=>i.wW&&i.gK.all (Fy (gA p.ins) p.ks))&&xq (gA p.ins) p.ks 0 p.ins)&&(p.iP.all (fun dD=>dD.fx.all fun q=>Ez (gA p.ins) p.ks q.2)&&p.keep.all fun d=> !(pI (sub B p.path)).contains d)
def wT:Nat->List Nat->List Nat->List (aT D)->Bool
 |_,[],_,_=>au7
 |j,k::ks,bp,O=>(if k=0 then au7 else oM (bp[j]?) j&&(if k=1 then (match O[j]? with|some o=> !o.lR|none=>ava) else au7))&&wT (j+1) ks bp O
def Zv (p:hD D) (F:p.F) (ex:eY) (E:List (Nat×aX D)) (O:List (aT D)):Option (qO p.iP):=if ex= .normal then match qJ X p.ins p.fx (iH p.ins E O).1 (iH p.ins E O).2 with|some (x,bp,dL)=>if wT 0 p.ks bp dL=au7 then F x else au8|none=>au8 else r3 X (gA p.ins) p.ks p.iP ex E O
end
section
variable {P:avd} {D:Nat->Type} {X:ez P D} {z z':Nat->bo} {e m m':Mem} {k:Option Nat} {vs vs':List au9} {fr:Nat->au9} {E:List (Nat×aX D)} {O bY:List (aT D)}
theorem YP {n:Nat} {ks:List Nat} {r:Nat} (h:Fy n ks r=au7):n<=r\/ks.getD r 0≠0:=by
 simp only[Fy,awl,awR] at h;rcases h with h|h
 ·simp_all
 ·refine .inr fun bL=> ?_;simp_all
theorem zk {n:Nat} {ks:List Nat}:∀{aJ:List dq} {x:eD D aJ} {i j:Nat} {q:v8 D},xq n ks i aJ=au7->(cos aJ x)[j]? =au6 q->ks.getD (i+j) 0=1->∀r∈q.c.gK,n<=r\/ks.getD r 0≠0
 |[],_,_,_,_,_,h,_=>by grind [cos]
 | .v d c::aJ,x,i,j,q,au,h,U=>zk (aJ:=aJ) (x:=x.2) au h U
 | .u d c::aJ,x,i,j,q,au,h,U=>zk (aJ:=aJ) (x:=x.2) au h U
 | .o d c::aJ,x,i,0,q,au,h,U=>by simp only[cos,List.getElem?_cons_zero] at h;cases h;simp only[xq,avk] at au;intro r aE;have aa:=au.1;rw[av2] at U;rw[U] at aa;exact YP (avt.1 (by simp_all) r aE)
 | .o d c::aJ,x,i,j+1,q,au,h,U=>by simp only[cos,awp] at h;simp only[xq,avk] at au;exact zk (aJ:=aJ) (x:=x.2) au.2 h (by grind)
theorem Xx {cm mw:Nat->Nat} {l:List (Nat×Nat)} (h:∀p∈l,cm p.2=mw p.2):∀{cs:List (bZ D)} {i:Nat},oN cm l i cs=oN mw l i cs
 |[],_=>rfl
 |c::cs,i=>by
  simp only[oN,Xx h (cs:=cs)];congr 1;cases bb:ma l i with
  |none=>rfl
  |some n=>simp only;rw[h _ (zB bb)]
theorem akY {cm mw:Nat->Nat} {c:bW} {x:c.ty D} {w:Bool} (h:∀r∈c.gK,cm r=mw r):bW.gn X cm c x w=bW.gn X mw c x w:=by
 cases c with
 |bG t l=>simp only[bW.gn];rw[Xx fun p aM=>h p.2 (avy.2 ⟨p,aM,rfl⟩)]
 |sy t f is=>simp only[bW.gn];rw[show is.map cm=is.map mw from axS fun n a1=>h n a1]
 |_=>rfl
theorem ta {cm:Nat->Nat}:∀{aJ:List dq} {x:eD D aJ},mkOr X cm aJ x=(cos aJ x).map fun q=>bW.gn X cm q.c q.x ava
 |[],_=>rfl
 | .o d c::aJ,x=>by show bW.gn X cm c x.1 ava::mkOr X cm aJ x.2=bW.gn X cm c x.1 ava::(cos aJ x.2).map _;rw[ta]
 | .v d c::aJ,x=>ta (aJ:=aJ)
 | .u d c::aJ,x=>ta (aJ:=aJ)
theorem kW:∀{aJ:List dq} {x:eD D aJ},(eB X aJ x).length=gA aJ
 |[],_=>rfl
 | .v _ _::aJ,x=>kW (aJ:=aJ)
 | .u _ _::aJ,x=>kW (aJ:=aJ)
 | .o _ _::aJ,x=>by show ((eB X aJ x.2).length+1)=gA aJ+1;rw[kW]
def Qn (X:ez P D) (p:hD D) (x:eD D p.ins) (eC:qO p.iP) (z:Nat->bo) (e:Mem) (k:Option Nat) (dc:List au9) (ex:eY) (bB:Nat->au9) (m':Mem):Prop:=
 ∃z' dJ dD y,dD∈p.iP/\ex=dD.ex/\(∀{aA:Type} (K:(x:my D)->kf D x.outs->aA),D7 p.iP eC K=K dD y)/\dr e.next z z'/\
  bF X.G (ki X p.ks (eB X p.ins x) dD.outs (fB _ y)) z' e m' k (dc++dJ)/\∀q∈gz X dD.outs (fB _ y)++dD.fx,rel X.G z' (dc++dJ) q.2 (bB q.1)
def qW (pY:eY->eY) (X:ez P D) (B:Code) (p:hD D) (F:p.F):Prop:=∀(x:eD D p.ins) (eC:qO p.iP) {z:Nat->bo} {e m:Mem} {k:Option Nat} {dc:List au9} {fr:Nat->au9},
 F x=au6 eC->bF X.G (eB X p.ins x) z e m k dc->eP X z dc (gz X p.ins x++p.fx) fr->W P (sub B p.path) (fun ex=>Qn X p x eC z e k dc (pY ex)) fr m
def o4 (X:ez P D) (B:Code) (p:hD D) (F:p.F):Prop:=∀(x:eD D p.ins) (eC:qO p.iP) {z:Nat->bo} {e m:Mem} {k:Option Nat} {dc:List au9} {fr:Nat->au9},
 F x=au6 eC->bF X.G (eB X p.ins x) z e m k dc->eP X z dc (gz X p.ins x++p.fx) fr->W P (sub B p.path) (Qn X p x eC z e k dc) fr m
theorem qW.of {pY:eY->eY} (cf:h6 X) {B:Code} {us:List (lu D)} {p:hD D} {F:p.F} (rq:∀u∈us,p.path.length<u.path.length->o6 X B u)
  (en:∀x,jO X us calm au7 p.path.reverse (sub B p.path) (gz X p.ins x++p.fx) (eB X p.ins x) (fun ex=>r3 X (gA p.ins) p.ks p.iP (pY ex))=F x):qW pY X B p F:=by
 intro x eC z e m k dc fr dQ ay a0;have h:=en x;rw[dQ] at h;have a1:dc.length=gA p.ins:=by rw[ay.len,kW]
 refine (GO cf (L:=p.path.length) rq (sub B p.path) au7 p.path.reverse _ _ _ eC (by grind) (by simp) (by simp) ay a0 h).mono ?_;rintro ex cX bz ⟨b4,jz,h7,b3,bf,U,aa,ap,aN,bK⟩;obtain ⟨dD,y,aU,aQ,bT,cT⟩:=FN bK;obtain ⟨cZ,dJ,b6,cc,eF⟩:=zQ (ks:=p.ks) (x:=x) bf aa ay.len ap aN (by rw[a1];omega);exact ⟨cZ,dJ,dD,y,aU,aQ,cT,U.trans b6,cc,eF⟩
theorem o4.of (cf:h6 X) {B:Code} {us:List (lu D)} {p:hD D} {F:p.F} (rq:∀u∈us,p.path.length<u.path.length->o6 X B u)
  (en:∀x,jO X us calm au7 p.path.reverse (sub B p.path) (gz X p.ins x++p.fx) (eB X p.ins x) (r3 X (gA p.ins) p.ks p.iP)=F x):o4 X B p F:=by
 intro x eC z e m k dc fr dQ ay a0;have h:=en x;rw[dQ] at h;have a1:dc.length=gA p.ins:=by rw[ay.len,kW]
 refine (GO cf (L:=p.path.length) rq (sub B p.path) au7 p.path.reverse _ _ _ eC (by grind) (by simp) (by simp) ay a0 h).mono ?_;rintro ex cX bz ⟨b4,jz,h7,b3,bf,U,aa,ap,aN,bK⟩;obtain ⟨dD,y,aU,aQ,bT,cT⟩:=FN bK;obtain ⟨cZ,dJ,b6,cc,eF⟩:=zQ (ks:=p.ks) (x:=x) bf aa ay.len ap aN (by rw[a1];omega);exact ⟨cZ,dJ,dD,y,aU,aQ,cT,U.trans b6,cc,eF⟩
theorem QR {s:aX D} {v:au9} {cm:Nat->Nat} (h:rY s=au7) (aE:rel X.G z vs s v) (ab:∀(j:Nat) (u:au9),CR s=au6 j->vs[j]? =au6 u->vs'[cm j]? =au6 u):rel X.G z vs' (pO cm s) v:=by
 unfold rY at h;split at h
 ·exact ⟨ab _ _ rfl aE.1,aE.2⟩
 ·obtain ⟨b,U,aa⟩:=aE;exact ⟨b,ab _ _ rfl U,aa⟩
 ·obtain ⟨b,l,U,aa⟩:=aE;exact ⟨b,l,ab _ _ rfl U,aa⟩
 ·exact aE
 ·exact aE
 ·exact aE
 ·exact aE
 ·exact aE
 ·exact aE
 ·exact aE
 ·obtain ⟨gs,U,aa⟩:=aE;refine ⟨gs,U, ?_⟩;cases gs with
  |nil=>trivial
  |cons _ _=>exact aa.elim
 grind
theorem YB {n:Nat} {ks:List Nat} {s:aX D} (h:Ez n ks s=au7):rY s=au7/\∀j,CR s=au6 j->n<=j\/ks.getD j 0≠0:=by
 simp only[Ez,avk] at h;refine ⟨h.1,fun j aZ=> ?_⟩;have aa:=h.2;rw[aZ] at aa;simp only[awl,awR] at aa;rcases aa with aa|aa
 ·simp_all
 ·refine .inr fun bL=> ?_;simp_all
theorem Gf:∀{ks:List Nat} {i j:Nat} {bp:List Nat},wT i ks bp O=au7->ks.getD j 0≠0->bp[i+j]? =au6 (i+j)/\(ks.getD j 0=1->∃o,O[i+j]? =au6 o/\o.lR=ava)
 |[],i,j,bp,_,h=>by grind
 |k::ks,i,0,bp,au,h=>by
  grind [wT,Gp]
 |k::ks,i,j+1,bp,au,h=>by
  simp only[wT,avk] at au;simp only[List.getD_cons_succ] at h⊢;have:=Gf au.2 h
  grind
theorem aie {outs:List dq} {y:eD D outs} {ks:List Nat} {A B:List (aT D)} (az:A.length=B.length) (h:∀j,ks.getD j 0=1->A[j]? =B[j]?):nj X outs y 0 ks A=nj X outs y 0 ks B:=by
 apply aww
 grind [vk,pH]
theorem o4.loop (cf:h6 X) {B c:Code} {us:List (lu D)} {p:hD D} {F:Nat->p.F} (kb:sub B p.path= .loop c) (au:p.ot B=au7) (rq:∀u∈us,p.path.length+1<u.path.length->o6 X B u) (bf:∀x,F 0 x=au8)
  (en:∀n x,jO X us calm au7 (0::p.path.reverse) c (gz X p.ins x++p.fx) (eB X p.ins x) (Zv X p (F n))=F (n+1) x):∀n,o4 X B p (F n):=by
 intro n;induction n with
 |zero=>intro x eC z e m k dc fr dQ;grind
 |succ n ar=>
  intro x eC z e m k dc fr dQ ay a0;have h:=en n x;rw[dQ] at h;rw[kb];have a1:dc.length=gA p.ins:=by rw[ay.len,kW]
  refine W.afz ((GO cf (L:=p.path.length+1) rq c au7 (0::p.path.reverse) _ _ _ eC (by rw[List.reverse_cons,List.reverse_reverse,<-PL,kb];exact qB c) (by simp) (by simp) ay a0 h).mono ?_);rintro ex cX bz ⟨b4,jz,h7,b3,bf,U,aa,ap,aN,bK⟩;have other:r3 X (gA p.ins) p.ks p.iP ex h7 b3=au6 eC->Qn X p x eC z e k dc ex cX bz:=by intro bK;obtain ⟨dD,y,aU,aQ,bT,cT⟩:=FN bK;obtain ⟨cZ,dJ,b6,cc,eF⟩:=zQ (ks:=p.ks) (x:=x) bf aa ay.len ap aN (by rw[a1];omega);exact ⟨cZ,dJ,dD,y,aU,aQ,cT,U.trans b6,cc,eF⟩
  cases ex with
  |exit i=>exact other bK
  |ret=>exact other bK
  |normal=>
   show W P (.loop c) _ cX bz;have bK:(match qJ X p.ins p.fx (iH p.ins h7 b3).1 (iH p.ins h7 b3).2 with
    |some (x,bp,dL)=>if wT 0 p.ks bp dL=au7 then F n x else au8
    |none=>au8)=au6 eC:=bK
   split at bK
   ·rename_i hj bp dL aE;obtain ⟨NM,mG⟩:=fT bK;obtain ⟨asG,di,gV,lT,fy⟩:=kX (aJ:=p.ins) ap aN;obtain ⟨cZ,Kl,i1,i2,jN⟩:=entry lT fy aE;have i1:=di.trans i1;have aa:∀(i:Nat) (u:au9),dc[i]? =au6 u->asG[i]? =au6 u:=fun i u hu=>gV i u (aa i u hu);have U6:=ar hj eC mG jN.VN jN.aav;rw[kb] at U6;refine U6.mono ?_;rintro ex hx qu ⟨hJ,dJ,dD,y,aU,aQ,bT,cT,eL,gX⟩;have same:∀j,p.ks.getD j 0≠0->∀u,Kl[j]? =au6 u->dc[j]? =au6 u:=by
     intro j aZ u hu;obtain ⟨s1,_⟩:=Gf NM aZ;rw[avD] at s1;obtain ⟨n9,t1,t2⟩:=jN.dJ _ _ s1;rw[hu] at t1;cases t1;have bS:j<dc.length:=by have:=(avr.1 hu).1;rw[jN.len,jN.uY.length,<-awk (f:=fun q=>bW.mk X q.c q.x ava),<-lf,kW] at this;omega
     grind
    have kd:Kl.length=dc.length:=by rw[jN.len,jN.uY.length,<-awk (f:=fun q=>bW.mk X q.c q.x ava),<-lf,kW,a1]
    have Q1:∀(j:Nat) (u:au9),gA p.ins<=j\/p.ks.getD j 0≠0->(Kl++dJ)[j]? =au6 u->(dc++dJ)[j]? =au6 u:=by
     grind
    have mg:=au;simp only[hD.ot,avk] at mg;have Vc:=mg.1.1;have ad8:=mg.1.2;have auc:nj X dD.outs (fB _ y) 0 p.ks (eB X p.ins hj)=nj X dD.outs (fB _ y) 0 p.ks (eB X p.ins x):=by
     refine aie (by grind [kW]) fun j aZ=> ?_;obtain ⟨s1,s2⟩:=Gf NM (show p.ks.getD j 0≠0 by grind);obtain ⟨o,pz,mP⟩:=s2 aZ;rw[avD] at s1 pz;obtain ⟨q,dn,w,dA⟩:=jN.uY.get j j s1;rw[pz] at dA;have dA:=avl.inj dA;subst dA;rw[bW.Fo] at mP;subst mP;have OI:(eB X p.ins hj)[j]? =au6 (bW.mk X q.c q.x ava):=by grind [lf]
     have Va:j<(eB X p.ins x).length:=by grind [kW]
     have dN:=(bf.trans i1).dN j _ Va pz bW.rD bW.Fo;rw[OI,dN];refine congrArg au6 (akY fun r aE=> ?_);obtain ⟨afq,U7⟩:=jN.gt q (av4 dn) r aE;have N4:r<gA p.ins:=by
      have:=(avr.1 U7).1;rw[jN.uY.length,<-awk (f:=fun q=>bW.mk X q.c q.x ava),<-lf,kW] at this
      grind
     rcases zk (i:=0) ad8 dn (by grind) r aE with h|h
     ·omega
     ·obtain ⟨jG,_⟩:=Gf NM h
      grind
    have NB:∀q∈dD.fx,Ez (gA p.ins) p.ks q.2=au7:=by
     grind
    have rj:∀i∈dD.outs,∀r∈i.gK,gA p.ins<=r\/p.ks.getD r 0≠0:=fun i aj r aE=>YP (avt.1 (awJ.1 (avt.1 (avt.1 Vc dD aU) i aj)).2 r aE);refine ⟨hJ,dJ,dD,y,aU,aQ,bT,(U.trans i2).trans cT, ?_,fun q bd=> ?_⟩
    ·have uH:ki X p.ks (eB X p.ins hj) dD.outs (fB _ y)=ki X p.ks (eB X p.ins x) dD.outs (fB _ y):=by grind [ki]
     rw[uH] at eL;have key:∀(i:Nat) (o:aT D),(ki X p.ks (eB X p.ins x) dD.outs (fB _ y))[i]? =au6 o->o.live=au7->(gA p.ins<=i\/p.ks.getD i 0≠0):=by
      intro i o ao az;by_cases bS:i<gA p.ins
      ·refine .inr fun lF=> ?_;unfold ki at ao;rw[avP (by grind [pH,kW])] at ao;have aC:(eB X p.ins x)[i]? =au6 ((eB X p.ins x)[i]'(by grind [kW])):=avV _;rw[vk aC,lF] at ao;simp at ao;subst ao;cases az
      grind
     have mk:∀(i:Nat) (o:aT D),(ki X p.ks (eB X p.ins x) dD.outs (fB _ y))[i]? =au6 o->o= .dead\/∃c a w,o=bW.mk X c a w/\∀r∈c.gK,gA p.ins<=r\/p.ks.getD r 0≠0:=by
      intro i o ao;unfold ki at ao;by_cases bS:i<gA p.ins
      ·rw[avP (by grind [pH,kW])] at ao;have aC:(eB X p.ins x)[i]? =au6 ((eB X p.ins x)[i]'(by grind [kW])):=avV _;rw[vk aC] at ao;have ao:=(avl.inj ao).symm;by_cases b6:p.ks.getD i 0=1
       ·grind [lf,zk]
       ·rw[if_neg b6] at ao;by_cases cc:p.ks.getD i 0=2
        ·rw[if_pos cc] at ao;rcases rJ (X:=X) (aJ:=dD.outs) (x:=fB _ y) (j:=0+i) with aO|⟨d,c,a,aO,he⟩
         ·grind
         ·exact .inr ⟨c,a,au7,by rw[ao,he];rfl,rj _ aO⟩
        grind
      ·rw[avO (by grind [pH,kW])] at ao;obtain ⟨d,c,a,aO,bL⟩:=vj (av4 ao);exact .inr ⟨c,a,ava,bL,rj _ aO⟩
     refine eL.CU (by rw[<-eL.len];grind) id (fun i o ao az=> ?_) (fun i o u ao az hu=> ?_) (fun i j _ _ _ _ _ _ h=>h)
     ·obtain ⟨v,v1,v2⟩:=eL.at ao;refine ⟨o,v,ao,az,v1,Q1 i v (key i o ao az) v1, ?_⟩;rcases mk i o ao with rfl|⟨c,a,w,rfl,aE⟩
      ·trivial
      ·exact bW.wV w v2 fun r lH u hu=>Q1 r u (aE r lH) hu
     ·rcases mk i o ao with rfl|⟨c,a,w,rfl,_⟩
      ·trivial
      grind [bW.sU]
    ·have aE:=gX q bd;rcases avT.1 bd with bd|bd
     ·obtain ⟨d,c,a,aO,ai⟩:=xr bd;rw[ai] at aE⊢;exact gr.Ot (awJ.1 (avt.1 (avt.1 Vc dD aU) _ aO)).1 aE
     ·obtain ⟨s1,s2⟩:=YB (NB q bd);have:=QR (X:=X) (cm:=id) (vs':=dc++dJ) s1 aE fun j u aZ hu=>Q1 j u (s2 j aZ) hu
      grind [GJ]
   grind
theorem w5:∀{bp:List Nat} {i j:Nat},pK bp i=au6 j->bp[j]? =au6 i
 |[],_,_,h=>by cases h
 |a::bp,i,j,h=>by
  simp only[pK] at h;split at h
  ·grind [avn]
  ·split at h
   ·rename_i b0 aZ;cases h;rw[awp];exact w5 aZ
   grind
theorem FP {cm:Nat->Nat} {bp ks:List Nat} {outs:List dq} {y:eD D outs}:∀{i:Nat} {O:List (aT D)},(qH X cm bp ks outs y i O).length=O.length
 |i,[]=>rfl
 |i,o::O=>by simp[qH,FP]
theorem Xn {cm:Nat->Nat} {bp ks:List Nat} {outs:List dq} {y:eD D outs}:∀{i:Nat} {O:List (aT D)} {a:Nat} {o:aT D},O[a]? =au6 o->(qH X cm bp ks outs y i O)[a]? =au6 (match pK bp (i+a) with|some j=>(if ks.getD j 0=1 then o else if ks.getD j 0=2 then jn X cm outs y j else .dead)|none=>if o.live=au7 then .dead else o)
 |i,[],a,o,h=>by grind
 |i,p::O,0,o,h=>by grind [qH]
 |i,p::O,a+1,o,h=>by
  simp only[awp] at h;have:=Xn (cm:=cm) (bp:=bp) (ks:=ks) (outs:=outs) (y:=y) (i:=i+1) h
  grind [qH]
theorem qW.FC {pY:eY->eY} {B:Code} {p:hD D} {F:p.F} (h:qW pY X B p F) (au:p.ot B=au7) {af:Type} (E:List (Nat×aX D)) (O:List (aT D)) (K:eY->List (Nat×aX D)->List (aT D)->Option af) (r:af) {z:Nat->bo} {e m:Mem} {k:Option Nat} {vs:List au9} {fr:Nat->au9}
  (ay:bF X.G O z e m k vs) (a0:eP X z vs E fr) (aE:p.CT X F E O K=au6 r):W P (sub B p.path) (fun x=>ih X O z e k vs (K (pY x)) r) fr m:=by
 unfold hD.CT at aE;split at aE
 ·rename_i x bp dL aj;obtain ⟨eC,dQ,aE⟩:=bind_some aE;obtain ⟨b4,dc,i1,i2,jN⟩:=entry ay a0 aj;simp only[hD.ot,avk] at au;have a1:bp.length=gA p.ins:=by rw[<-kW (X:=X) (x:=x),lf,awk];exact jN.uY.length
  have uD:dc.length=gA p.ins:=by rw[jN.len,a1]
  refine (h x eC dQ jN.VN jN.aav).keep ?_;rintro ex cX bz ad7 ⟨cZ,dJ,dD,y,aU,aQ,bT,cT,eL,gX⟩;rw[bT] at aE;rw[aQ];have qg:dJ.length=(eB X dD.outs (fB _ y)).length:=by
   have:=eL.len
   grind [ki,pH,kW]
  have aq:vs.length=dL.length:=jN.VM.len;have yS:∀(i:Nat) (u:au9),vs[i]? =au6 u->(vs++dJ)[i]? =au6 u:=iZ;have qh:∀(j:Nat) (u:au9),(dc++dJ)[j]? =au6 u->(vs++dJ)[num bp (gA p.ins) dL.length j]? =au6 u:=by
   intro j u hu;unfold num;by_cases bS:j<gA p.ins
   ·have ag:avA j (gA p.ins)=au7:=by simp_all
    rw[if_pos ag];rw[avP (by omega)] at hu;have aC:bp[j]? =au6 (bp.getD j 0):=by grind
    obtain ⟨n9,t1,t2⟩:=jN.dJ _ _ aC
    grind
   grind [axu]
  have hM:∀(i:Nat) (o:aT D),(st X p bp dL dD (fB _ y))[i]? =au6 o->
    (i<dL.length/\∃mP,dL[i]? =au6 mP/\o=(match pK bp i with|some j=>(if p.ks.getD j 0=1 then mP else if p.ks.getD j 0=2 then jn X (num bp (gA p.ins) dL.length) dD.outs (fB _ y) j else .dead)|none=>if mP.live=au7 then .dead else mP))\/
    (dL.length<=i/\(mkOr X (num bp (gA p.ins) dL.length) dD.outs (fB _ y))[i - dL.length]? =au6 o):=by
   grind [st,FP,Xn]
  have uH:∀(j:Nat) (mO:aT D),(eB X p.ins x)[j]? =au6 mO->(ki X p.ks (eB X p.ins x) dD.outs (fB _ y))[j]? =au6 (if p.ks.getD j 0=1 then mO else if p.ks.getD j 0=2 then jn X uK dD.outs (fB _ y) j else .dead):=by
   grind [ki,pH,vk]
  have aeL:∀(i:Nat) (o:aT D),(eB X dD.outs (fB _ y))[i]? =au6 o->(ki X p.ks (eB X p.ins x) dD.outs (fB _ y))[gA p.ins+i]? =au6 o:=by
   grind [ki,pH,kW]
  have uC:∀(i:Nat) (o:aT D),(st X p bp dL dD (fB _ y))[i]? =au6 o->o.live=au7->
    (∃j,pK bp i=au6 j/\((p.ks.getD j 0=1/\dL[i]? =au6 o)\/(p.ks.getD j 0≠1/\p.ks.getD j 0=2/\o=jn X (num bp (gA p.ins) dL.length) dD.outs (fB _ y) j)))\/(dL.length<=i/\(mkOr X (num bp (gA p.ins) dL.length) dD.outs (fB _ y))[i - dL.length]? =au6 o):=by
   intro i o ao az;rcases hM i o ao with ⟨bS,mP,aa,ap⟩|h
   ·left;cases aM:pK bp i with
    |some j=>
     rw[aM] at ap;dsimp only at ap;refine ⟨j,rfl, ?_⟩;by_cases b6:p.ks.getD j 0=1
     ·grind
     ·rw[if_neg b6] at ap;by_cases cc:p.ks.getD j 0=2
      ·grind
      ·rw[if_neg cc] at ap;rw[ap] at az;cases az
    |none=>
     rw[aM] at ap;dsimp only at ap;by_cases aN:mP.live=au7
     ·rw[if_pos aN] at ap;rw[ap] at az;cases az
     grind
   grind
  refine ⟨cZ,vs++dJ,_,_,i1.trans ?_,i2.trans cT,yS, ?_,z6 ?_,aE⟩
  ·refine ⟨?_,fun i o aj ao az aw=> ?_⟩
   ·grind [st,FP]
   ·rcases uC i o ao az with ⟨j,_,h|⟨_,_,h⟩⟩|h
    ·grind
    ·rcases rJ (X:=X) (aJ:=dD.outs) (x:=fB _ y) (j:=j) with aO|⟨_,c,a,_,aO⟩
     ·rw[h,aO] at az;cases az
     grind [bW.Fo]
    grind
  ·refine eL.CU ?_ (fun i=>if i<dL.length then (pK bp i).getD 0 else gA p.ins+(i - dL.length)) (fun i o ao az=> ?_) (fun i o u ao az hu=> ?_) (fun i j o q eh aZ Vd Ve gZ=> ?_)
   ·grind [st,FP,ta,lf]
   ·rcases uC i o ao az with ⟨j,aM,ai⟩|⟨gU,ai⟩
    ·have aC:=w5 aM;obtain ⟨q,OI,w,dA⟩:=jN.uY.get j i aC;have dn:(eB X p.ins x)[j]? =au6 (bW.mk X q.c q.x ava):=by grind [lf]
     obtain ⟨u,t1,t2⟩:=jN.dJ _ _ aC;have bS:i<dL.length:=(avr.1 dA).1;simp only[if_pos bS,aM,axq];have rk:=uH j _ dn;have E4:(dc++dJ)[j]? =au6 u:=iZ _ _ t1;rcases ai with ⟨b6,ai⟩|⟨b6,cc,ai⟩
     ·rw[if_pos b6] at rk;rw[dA] at ai;have ai:=avl.inj ai;subst ai;have cp:=eL.obj j _ u rk E4;refine ⟨_,u,rk,bW.sU,E4,yS _ _ t2,bW.wV w cp fun r aE n9 kz=> ?_⟩;obtain ⟨afq,U7⟩:=jN.gt q (av4 OI) r aE
      grind [num,axu]
     ·rw[if_neg b6,if_pos cc] at rk;have cp:=eL.obj j _ u rk E4;rcases rJ (X:=X) (aJ:=dD.outs) (x:=fB _ y) (j:=j) with aO|⟨_,c,a,_,aO⟩
      ·rw[ai,aO] at az;cases az
      ·rw[aO] at cp;refine ⟨_,u,rk,by grind [bW.rD],E4,yS _ _ t2, ?_⟩;rw[ai,aO];exact bW.wV au7 cp fun r _ n9 kz=>qh r n9 kz
    ·have aes:¬i<dL.length:=by omega
     simp only[if_neg aes];rw[ta,awb] at ai;obtain ⟨q,bd,rfl⟩:=awU.1 ai;have rk:=aeL (i - dL.length) (bW.mk X q.c q.x ava) (by grind [lf]);obtain ⟨u,CX,Rc⟩:=eL.at rk;refine ⟨_,u,rk,bW.sU,CX, ?_, ?_⟩
     ·rw[avO (by omega),uD,show gA p.ins+(i - dL.length) - gA p.ins=i - dL.length by omega] at CX
      grind
     ·exact bW.wV ava Rc fun r _ n9 kz=>qh r n9 kz
   ·rcases hM i o ao with ⟨bS,mP,aa,ap⟩|⟨_,h⟩
    ·cases aM:pK bp i with
     |some j=>
      rw[aM] at ap;dsimp only at ap;have aC:=w5 aM;obtain ⟨q,dn,w,dA⟩:=jN.uY.get j i aC;rw[aa] at dA;by_cases b6:p.ks.getD j 0=1
      ·grind [bW.rD]
      ·rw[if_neg b6] at ap;by_cases cc:p.ks.getD j 0=2
       ·rw[if_pos cc] at ap;rcases rJ (X:=X) (aJ:=dD.outs) (x:=fB _ y) (j:=j) with aO|⟨_,c,a,_,aO⟩
        ·rw[ap,aO];trivial
        grind [bW.rD]
       ·rw[if_neg cc] at ap;rw[ap];trivial
     |none=>
      rw[aM] at ap;dsimp only at ap;by_cases aN:mP.live=au7
      ·rw[if_pos aN] at ap;rw[ap];trivial
      ·rw[if_neg aN] at ap;subst ap;rw[avP (by omega)] at hu;exact (jN.VM.obj i o u aa hu).frozen az cT.le yS
    grind [ta,bW.rD]
   ·have one:∀(i:Nat) (o:aT D),(st X p bp dL dD (fB _ y))[i]? =au6 o->o.live=au7->(i<dL.length/\∃j,pK bp i=au6 j/\j<gA p.ins)\/dL.length<=i:=by
     intro i o ao az;rcases uC i o ao az with ⟨j,aM,_⟩|⟨gU,_⟩
     ·have aC:=w5 aM
      grind
     grind
    rcases one i o eh Vd with ⟨cz,dw,ft,hK⟩|cz
    ·rcases one j q aZ Ve with ⟨eA,hE,oo,Ua⟩|eA
     ·simp only[if_pos cz,if_pos eA,ft,oo,axq] at gZ;subst gZ;have s1:=w5 ft;have s2:=w5 oo
      grind
     grind
    grind
  ·intro q bd;unfold Mp at bd;rcases avT.1 bd with bd|bd
   ·obtain ⟨d,c,a,aO,ai⟩:=xr bd;have:=gX q (avT.2 (.inl bd));rw[ai] at this⊢;exact gr.Ot (awJ.1 (avt.1 (avt.1 au.1.1 dD aU) _ aO)).1 this
   ·rcases avT.1 bd with bd|bd
    ·obtain ⟨s0,N2,rfl⟩:=avy.1 bd
     grind [YB,QR]
    ·obtain ⟨d,aO,rfl⟩:=avy.1 bd;have hw:=avt.1 au.2.2 d aO;have:=ad7 d (by grind);show rel X.G cZ (vs++dJ) (ei E d) (cX d);rw[this];exact rel.mono (a0 d) (i2.le.trans cT.le) yS
 grind
theorem o4.FC {B:Code} {p:hD D} {F:p.F} (h:o4 X B p F) (au:p.ot B=au7) {af:Type} (E:List (Nat×aX D)) (O:List (aT D)) (K:eY->List (Nat×aX D)->List (aT D)->Option af) (r:af) {z:Nat->bo} {e m:Mem} {k:Option Nat} {vs:List au9} {fr:Nat->au9}
  (ay:bF X.G O z e m k vs) (a0:eP X z vs E fr) (aE:p.CT X F E O K=au6 r):W P (sub B p.path) (fun x=>ih X O z e k vs (K x) r) fr m:=
 qW.FC (pY:=id) h au E O K r ay a0 aE
theorem qW.w1 {pY:eY->eY} {B:Code} {p:hD D} {F:p.F} (h:qW pY X B p F) (au:p.ot B=au7) {af:Type} (E:List (Nat×aX D)) (O:List (aT D)) (K:eY->List (Nat×aX D)->List (aT D)->Option af) (r:af) {z:Nat->bo} {e m:Mem} {k:Option Nat} {vs:List au9} {fr:Nat->au9}
  (ay:bF X.G O z e m k vs) (a0:eP X z vs E fr) (aE:p.run X F E O K=au6 r):W P (sub B p.path) (fun x=>ih X O z e k vs (K (pY x)) r) fr m:=by
 obtain ⟨vs',aU,aQ,bT,cT⟩:=kX (aJ:=p.ins) ay a0;exact (h.FC au _ _ K r bT cT aE).mono fun _ _ _ a1=>a1.from aU (dr.refl z) aQ
theorem o4.w1 {B:Code} {p:hD D} {F:p.F} (h:o4 X B p F) (au:p.ot B=au7):o6 X B (p.w1 X F):=by
 intro af E O K r z e m k vs fr _ ay a0 aE;obtain ⟨vs',aU,aQ,bT,cT⟩:=kX (aJ:=p.ins) ay a0;exact (h.FC au _ _ K r bT cT aE).mono fun _ _ _ a1=>a1.from aU (dr.refl z) aQ
end
end
end Go.av
end
section
namespace Go.av
structure fm (D:Nat->Type) where
 f:Nat
 np:Nat
 ins:List dq
 fx:List (Nat×aX D)
 jb:Option (Nat×Nat)
 qK:Nat
 outs:List dq
 e8:List (Nat×aX D)
 k0:List ResultVar
 flat:Bool
def l3:Nat:=1000000
def kE:Nat->List ResultVar->List Nat|_,[]=>[]|n, .tmp d::rs=>d::kE (n+1) rs|n, .cell _ _::rs=>n::kE (n+1) rs
def fm.eC {D:Nat->Type} (d:fm D):List Nat:=kE l3 d.k0
noncomputable section
section
variable {P:avd} {D:Nat->Type}
def Qw (P:avd) (t:Nat) (a:aX D) (O:List (aT D)):Option (aX D):=match a with| .box i off=>(match O[i]? with|some (.box _ cs _ _)=>nt (P:=P) t cs off au6|some (.recv _ cs _)=>nt (P:=P) t cs off au6|_=>au8)|_=>au8
def vG (P:avd) (E:List (Nat×aX D)) (O:List (aT D)):Nat->List ResultVar->Option (List (Nat×aX D))
 |_,[]=>au6 []
 |n, .tmp d::rs=>if avA d l3=au7 then vG P E O (n+1) rs else au8
 |n, .cell a t::rs=>match Qw P t (ei E a) O,vG P E O (n+1) rs with|some V,au6 l=>au6 ((n,V)::l)|_,_=>au8
def n6 (D:Nat->Type):Option (Nat×Nat)->Type|none=>Unit|some p=>D p.2
def fm.F (d:fm D):Type:=n6 D d.jb->eD D d.ins->Option (kf D d.outs)
variable (X:ez P D)
def r2:(c:Option (Nat×Nat))->n6 D c->List (aT D)|none,_=>[]|some p,x=>[.recv p.2 (iu X p.2 x) ava]
def tv:Option (Nat×Nat)->List (Nat×aX D)|none=>[]|some p=>[(p.1, .box 0 0)]
def qL (d:fm D):List Nat:=match d.jb with|none=>[]|some _=>[d.qK]
def fm.dD (d:fm D):my D:=⟨.ret,d.outs,d.e8⟩
@[irreducible] def eQ:Nat:=1000000000
def qv (e8:List (Nat×aX D)) (b i:Nat):Bool:=avA i 63&&(match ei e8 (b+1+i) with| .c (.own _)=>au7|_=>ava)
def sd (e8:List (Nat×aX D)) (zs:List (bZ D)) (b:Nat):Nat->List (bZ D)->List (bZ D)|_,[]=>[]|i,c::cs=>(if qv e8 b i=au7 then zs.getD i .g2 else c)::sd e8 zs b (i+1) cs
def MC (E:List (Nat×aX D)) (n:Nat):aX D:=
 if avj (n%64) 0=au7 then .un else
 match ei E (n / 64) with
 | .agg _ cs=>(match cs[n%64 - 1]? with|some c=> .c c|none=> .un)
 |_=> .un
def wq (E:List (Nat×aX D)):List (Nat×aX D)->List (Nat×aX D)|[]=>[]|p::l=>if avp eQ p.1=au7 then (p.1,MC E (p.1 - eQ))::wq E l else wq E l
def sx (e8 E:List (Nat×aX D)):List dq->Option (List (Nat×aX D))
 |[]=>au6 []
 | .v s c::aJ=>
  if avp eQ s=au7 then
   if avj ((s - eQ)%64) 0=au7 then
    match ei E ((s - eQ) / 64) with
    | .agg t cs=>(match sx e8 E aJ with|some l=>au6 ((s, .agg t (sd e8 (m1 X t) s 0 cs))::l)|none=>au8)
    |_=>au8
   else au8
  else sx e8 E aJ
 | .o _ _::aJ=>sx e8 E aJ
 | .u _ _::aJ=>sx e8 E aJ
def ur:List dq->Bool|[]=>ava| .v s _::aJ=>avp eQ s||ur aJ|_::aJ=>ur aJ
def aau (d:fm D) (ex:eY) (E:List (Nat×aX D)) (O:List (aT D)):Option (kf D d.outs):=
 if ex= .normal\/ex= .ret then au' (vG P E O l3 d.k0) fun l=>
  if ur d.outs=au7 then
   if ((l++E).all (fun p=>avA p.1 eQ)&&d.eC.all fun x=>avA x eQ)=au7 then
    au' (sx X d.e8 (l++E) d.outs) fun zd=>vD X (qL d).length (qL d) d.dD (zd++(wq (l++E) d.e8++(l++E))) O
   else au8
  else vD X (qL d).length (qL d) d.dD (l++E) O
 else au8
def QK (b:Bool) (s:aX D) (c:bZ D):bZ D:=match b,s with|true, .c (.own n)=> .own n|_,_=>c
def rI (E:List (Nat×aX D)) (b:Nat):Nat->List (bZ D)->List (bZ D)|_,[]=>[]|i,c::cs=>QK (avA i 63) (ei E (b+1+i)) c::rI E b (i+1) cs
def y9 (h7 qY:List (Nat×aX D)):List Nat->List (Nat×aX D)
 |[]=>[]
 |d::ds=>match ei h7 (eQ+64*d) with| .agg t cs=>(d, .agg t (rI qY (eQ+64*d) 0 cs))::y9 h7 qY ds|_=>y9 h7 qY ds
def DS (outs:List dq) (e8:List (Nat×aX D)) (fr:Nat->au9):Prop:=∀d t,dq.v (eQ+64*d) (.agg t)∈outs->∃wj ds:List au9,fr (eQ+64*d)= .agg wj.toArray/\fr d= .agg ds.toArray/\ds.length=wj.length/\
 ∀(i:Nat) (w:au9),ds[i]? =au6 w->if qv e8 (eQ+64*d) i=au7 then fr (eQ+64*d+1+i)=w else wj[i]? =au6 w
def xF (h7 qY:List (Nat×aX D)) (eC:List Nat):List (Nat×aX D):=y9 h7 qY eC++(h7++qY)
def jX:Nat->List (aX D)->List (Nat×aX D)|_,[]=>[]|i,s::l=>(i,s)::jX (i+1) l
def Kj (E:List (Nat×aX D)):List Nat->Option (List (bZ D⊕(Nat×List (bZ D))))|[]=>au6 []|d::ds=>match ei E d,Kj E ds with| .c c,au6 l=>au6 (.inl c::l)| .agg t cs,au6 l=>au6 (.inr (t,cs)::l)|_,_=>au8
def vF (E:List (Nat×aX D)):List Nat->Option (aX D)
 |[d]=>au6 (ei E d)
 |ds=>match Kj E ds with|some l=>au6 (.nz l)|none=>au8
def Ai:bZ D->Option au9| .int k n=>au6 (.int k n)| .bool b=>au6 (.bool b)| .str s=>au6 (av.str s)|_=>au8
def vA:List (bZ D)->Option (List au9)
 |[]=>au6 []
 |c::cs=>match Ai c,vA cs with|some v,au6 l=>au6 (v::l)|_,_=>au8
def rX:List (bZ D⊕(Nat×List (bZ D)))->Option (List au9)
 |[]=>au6 []
 | .inl c::l=>(match Ai c,rX l with|some v,au6 vs=>au6 (v::vs)|_,_=>au8)
 | .inr p::l=>(match vA p.2,rX l with|some ds,au6 vs=>au6 (.agg ds.toArray::vs)|_,_=>au8)
def Aj:aX D->Option au9
 | .c c=>Ai c
 | .agg _ cs=>(match vA cs with|some ds=>au6 (.agg ds.toArray)|none=>au8)
 | .nz l=>(match rX l with|some vs=>au6 (.tuple vs.toArray)|none=>au8)
 |_=>au8
def xD (t:Nat):Option (aT D)->Option (D t)|some (.box ec cs ava _)=>if ec=t then lb X t cs else au8|some (.recv ec cs _)=>if ec=t then lb X t cs else au8|_=>au8
def CP (t:Nat) (cs:List (bZ D)):aT D->aT D| .box _ _ _ _=> .box t cs ava au7|_=> .recv t cs au7
def qF:List dq->Bool|[]=>au7| .o _ (.recv _)::_=>ava| .o _ _::aJ=>qF aJ| .v _ c::aJ=>c.wW&&qF aJ| .u _ _::aJ=>qF aJ
def uS (i N j:Nat):Nat:=if avj j 0=au7 then i else N+(j - 1)
def GR (outs:List dq) (e8:List (Nat×aX D)) (eC:List Nat) (flat:Bool) (qK:Nat) (cq:List (aX D)) (O b3:List (aT D)) {af:Type} (K:aX D->List (aT D)->Option af):(jb:Option (Nat×Nat))->(n6 D jb->Option (kf D outs))->Option af
 |none,G=>
  au' (G ()) fun y=>
   match vF (xF (gz X outs (fB _ y)) (e8.map fun q=>(q.1,pO (fun j=>b3.length+j) q.2)) eC) eC with
   |some dh=>if flat=au7 then (match Aj dh with|some _=>K dh O|none=>au8) else K dh (b3++mkOr X (fun j=>b3.length+j) outs (fB _ y))
   |none=>au8
 |some p,G=>
  match ei (jX 0 cq) p.1 with
  | .box i 0=>
   match b3[i]? with
   |some o=>
    au' (xD X p.2 (au6 o)) fun r=>
    au' (G r) fun y=>
     match vF (xF (gz X outs (fB _ y)) (e8.map fun q=>(q.1,pO (uS i b3.length) q.2)) eC) eC with
     |some dh=>
      if qK=2 then
       match jn X uK outs (fB _ y) 0 with
       | .recv t cs _=>if t=p.2 then K dh (b3.set i (CP p.2 cs o)++mkOr X (uS i b3.length) outs (fB _ y)) else au8
       |_=>au8
      else if qK=1 then (if o.clean=au7 then K dh (b3++mkOr X (uS i b3.length) outs (fB _ y)) else K dh (b3.set i (CP p.2 (iu X p.2 r) o)++mkOr X (uS i b3.length) outs (fB _ y))) else au8
     |none=>au8
   |none=>au8
  |_=>au8
def fm.call (d:fm D) (F:d.F) (cq:List (aX D)) (O:List (aT D)) {af:Type} (K:aX D->List (aT D)->Option af):Option af:=if avj cq.length d.np then match pe (jX 0 cq) d.ins O with|some (j9,b3)=>if d.fx.all fun p=>sB [] p.2 (ei (jX 0 cq) p.1) then match e0 X [] b3 d.ins j9 [] with|some x=>GR X d.outs d.e8 d.eC d.flat d.qK cq O b3 K d.jb fun r=>F r x|none=>au8 else au8|none=>au8 else au8
end
section
variable {P:avd} {D:Nat->Type} {X:ez P D} {z b4 cZ:Nat->bo} {e m bz:Mem} {k q:Option Nat} {vs:List au9} {fr:Nat->au9} {E:List (Nat×aX D)} {O bY:List (aT D)}
theorem bF.call (h:bF X.G O b4 e m k vs) (a4:dr m.next b4 cZ) (s:fM m bz q) (aL:dp cZ e bz k) (az:bY.length=O.length)
  (ao:∀(j:Nat) (o':aT D),bY[j]? =au6 o'->(O[j]? =au6 o'/\(o'.live=au7->∀v,vs[j]? =au6 v->eE (dz v) q))\/(∃o,O[j]? =au6 o/\o.live=au7/\∀v,vs[j]? =au6 v->gD X.G cZ e bz k vs o' v)):bF X.G bY cZ e bz k vs where
 aL:=aL
 len:=by rw[az];exact h.len
 obj:=fun j o' v aZ ab=>by
  rcases ao j o' aZ with ⟨U,aa⟩|⟨o,U,aa,ap⟩
  ·have cp:=h.obj j o' v U ab;cases cU:o'.live with
   |false=>exact cp.frozen cU a4.le fun _ _ h=>h
   |true=>exact (cp.same s (fun _=>aa cU v ab) fun _ _ h=>h).iL a4.le (fun _ b ag=>a4.low b (cp.lt cU b ag).1) fun _ b j L t ag=>a4.low b (h.aL.bl b (by grind)).2
  grind
 fa:=fun a b o p v w kr aY ag jl kB ab hw=>by
  have key:∀(j:Nat) (o':aT D),bY[j]? =au6 o'->o'.live=au7->∃o,O[j]? =au6 o/\o.live=au7:=by
   grind
  obtain ⟨pz,aU,aQ⟩:=key a o aY jl;obtain ⟨mP,bT,cT⟩:=key b p ag kB;exact h.fa a b pz mP v w kr aU bT aQ cT ab hw
theorem bF.ab6 {N:List (aT D)} {dJ:List au9} {VH:Nat} (h:bF X.G O z e m k vs) (az:dJ.length=N.length)
  (bS:∀(j:Nat) (o:aT D) (v:au9),O[j]? =au6 o->vs[j]? =au6 v->o.live=au7->∀b,dz v=au6 b->b<VH)
  (a1:∀(j:Nat) (o:aT D) (v:au9),N[j]? =au6 o->dJ[j]? =au6 v->gD X.G z e m k (vs++dJ) o v/\∀b,dz v=au6 b->VH<=b)
  (aY:∀(i j:Nat) (o p:aT D) (v w:au9),i≠j->N[i]? =au6 o->N[j]? =au6 p->dJ[i]? =au6 v->dJ[j]? =au6 w->eE (dz v) (dz w)):bF X.G (O++N) z e m k (vs++dJ):=by
 have cs:∀(j:Nat) (o:aT D) (v:au9),(O++N)[j]? =au6 o->(vs++dJ)[j]? =au6 v->(j<O.length/\O[j]? =au6 o/\vs[j]? =au6 v)\/(O.length<=j/\N[j - O.length]? =au6 o/\dJ[j - O.length]? =au6 v):=by
  intro j o v ao ab;by_cases aZ:j<O.length
  ·rw[avP aZ] at ao;rw[avP (by rw[h.len];grind)] at ab
   grind
  ·rw[avO (by omega)] at ao;rw[avO (by rw[h.len];omega),h.len] at ab
   grind
 refine ⟨h.aL,by rw[awa,awa,h.len,az],fun j o v ao ab=> ?_,fun i j o p v w gZ ao aM bD b5 ab hw=> ?_⟩
 ·rcases cs j o v ao ab with ⟨_,U,aa⟩|⟨_,U,aa⟩
  ·exact (h.obj j o v U aa).same (m':=m) (q:=au8) ⟨avm _,h.aL.dead,fun _ _ _=>rfl⟩ (fun _=>eE.n0) iZ
  grind
 ·have mix:∀(i j:Nat) (o p:aT D) (v w:au9),O[i]? =au6 o->vs[i]? =au6 v->o.live=au7->N[j]? =au6 p->dJ[j]? =au6 w->eE (dz v) (dz w):=by
   intro i j o p v w ao ab bD aM hw b ag ek
   grind
  rcases cs i o v ao ab with ⟨_,U,aa⟩|⟨_,U,aa⟩
  ·rcases cs j p w aM hw with ⟨_,ap,aN⟩|⟨_,ap,aN⟩
   ·exact h.fa i j o p v w gZ U ap bD b5 aa aN
   grind
  ·rcases cs j p w aM hw with ⟨_,ap,aN⟩|⟨_,ap,aN⟩
   ·exact (mix j _ p o w v ap aN b5 U aa).symm
   grind
theorem F7:∀{aJ:List dq} {x:eD D aJ} {q:v8 D},qF aJ=au7->q∈cos aJ x->∀t,q.c≠ .recv t
 |[],_,_,_,h=>by grind [cos]
 | .v d c::aJ,x,o,a1,h=>F7 (aJ:=aJ) (x:=x.2) (awJ.1 a1).2 h
 | .u d c::aJ,x,o,a1,h=>F7 (aJ:=aJ) (x:=x.2) a1 h
 | .o d c::aJ,x,o,a1,h=>by
  simp only[cos,avu] at h;have oD:(∀t,c≠ .recv t)/\qF aJ=au7:=by
   cases c with
   |recv t=>cases a1
   |_=>exact ⟨fun t h=>(by grind),a1⟩
  rcases h with rfl|h
  ·grind
  ·exact F7 (aJ:=aJ) (x:=x.2) oD.2 h
theorem born {c:bW} {x:c.ty D} {w:Bool} {v:au9} {kk:Option Nat} {cm:Nat->Nat} (ai:∀t,c≠ .recv t) (he:e.next<=m.next) (h:gD X.G z m bz kk vs (bW.gn X cm c x w) v):gD X.G z e bz k vs (bW.gn X cm c x w) v/\∀b,dz v=au6 b->m.next<=b:=by
 cases c with
 |recv t=>grind
 |bG t l=>obtain ⟨b,ds,rfl,U,aa,ap⟩:=h;exact ⟨⟨b,ds,rfl,⟨U.aS,U.lt,U.dead, .inl (avz he aa)⟩,avz he aa,ap⟩,fun c ai=>by cases ai;grind⟩
 |sy t f is=>obtain ⟨b,ds,rfl,U,aa,ap⟩:=h;exact ⟨⟨b,ds,rfl,⟨U.aS,U.lt,U.dead, .inl (avz he aa)⟩,avz he aa,ap⟩,fun c ai=>by cases ai;grind⟩
 |ad t=>have h:dM (X.G.T t) z m bz kk x v:=h;refine ⟨(⟨h.bt,fun b ag=>avz he (h.fresh b ag)⟩:dM (X.G.T t) z e bz k x v), ?_⟩;rw[gL (by obtain ⟨a,c,rfl⟩:=h.bt.len;grind)];exact h.fresh
 |box t=>obtain ⟨b,ds,rfl,U,aa,ap⟩:=h;exact ⟨⟨b,ds,rfl,⟨U.aS,U.lt,U.dead, .inl (avz he aa)⟩,avz he aa,ap⟩,fun c ai=>by cases ai;grind⟩
 |arr t u n=>obtain ⟨⟨b,rfl⟩,h⟩:=h;exact ⟨⟨⟨b,rfl⟩,h.bt,fun b ag=>avz he (h.fresh b ag)⟩,fun c ai=>h.fresh c ai⟩
 |map t bi bg=>have h:iE (X.G.M t bi bg) z m bz kk x v:=h;obtain ⟨r,rfl,U,aa,ap,aN⟩:=h.bt;exact ⟨(⟨⟨r,rfl,U,aa,ap,avz he aN⟩⟩:iE (X.G.M t bi bg) z e bz k x _),fun c ai=>by cases ai;grind⟩
 |ne eK t=>obtain ⟨hu,ws,h⟩:=h;refine ⟨⟨hu,ws,⟨h.bt.bt,fun b ag=>avz he (h.bt.fresh b ag)⟩,h.len,fun j w xs U aa ap=>(h.nc j w xs U aa ap).yp he,fun p aM=>by grind⟩, ?_⟩;rw[gL (by obtain ⟨a,c,rfl⟩:=h.bt.bt.len;grind)];exact h.bt.fresh
theorem Py:∀{eC:List Nat} {l:List (bZ D⊕(Nat×List (bZ D)))},eP X z vs E fr->Kj E eC=au6 l->br (tw X.G z vs) l (eC.map fr)/\∀x∈eC.map fr,storable x=au7
 |[],l,a0,h=>by cases h;exact ⟨trivial,by simp⟩
 |d::ds,l,a0,h=>by
  simp only[Kj] at h;have aO:=a0 d;split at h
  ·rename_i c rB ai az;cases h;rw[ai] at aO;obtain ⟨aU,aQ⟩:=Py a0 az;refine ⟨⟨aO,aU⟩,fun x ae=> ?_⟩;rcases avu.1 ae with rfl|ae
   ·exact (dK.aaz aO).1
   grind
  ·rename_i t cs rB ai az;cases h;rw[ai] at aO;obtain ⟨aU,aQ⟩:=Py a0 az;refine ⟨⟨aO,aU⟩,fun x ae=> ?_⟩;rcases avu.1 ae with rfl|ae
   ·obtain ⟨ds,aO,_⟩:=aO;rw[aO];rfl
   grind
  grind
theorem PJ {eC:List Nat} {dh:aX D} (a0:eP X z vs E fr) (h:vF E eC=au6 dh):rel X.G z vs dh (pack (eC.map fr))/\((eC.map fr).length=1\/∀x∈eC.map fr,storable x=au7):=by
 unfold vF at h;split at h
 ·cases h;exact ⟨a0 _, .inl rfl⟩
 ·rename_i ds m9;split at h
  ·rename_i l az;cases h;obtain ⟨aU,aQ⟩:=Py a0 az;refine ⟨?_, .inr aQ⟩;have:pack (eC.map fr)= .tuple (eC.map fr).toArray:=by
    simp_all [pack]
   rw[this];exact ⟨_,rfl,aU⟩
  grind
theorem Pk {c:bZ D} {v w:au9} (h:Ai c=au6 w) (aE:dK X.G z vs c v):v=w/\cP w=au7:=by
 cases c<;>first|(cases h;done)|(cases h;exact ⟨aE,rfl⟩)
theorem Pl:∀{cs:List (bZ D)} {ds ws:List au9},vA cs=au6 ws->br (dK X.G z vs) cs ds->ds=ws/\ws.all cP=au7
 |[],[],_,h,_=>by cases h;grind
 |c::cs,d::ds,ws,h,⟨U,aa⟩=>by
  simp only[vA] at h;split at h
  ·rename_i v l ab az;cases h;obtain ⟨rfl,aU⟩:=Pk ab U;obtain ⟨rfl,aQ⟩:=Pl az aa
   grind
  grind
 |[],_::_,_,_,h=>h.elim
 |_::_,[],_,_,h=>h.elim
theorem Pm:∀{l:List (bZ D⊕(Nat×List (bZ D)))} {ds ws:List au9},rX l=au6 ws->br (tw X.G z vs) l ds->ds=ws/\ws.all iX=au7
 |[],[],_,h,_=>by cases h;grind
 | .inl c::l,d::ds,ws,h,⟨U,aa⟩=>by
  simp only[rX] at h;split at h
  ·rename_i v rB ab az;cases h;obtain ⟨rfl,aU⟩:=Pk ab U;obtain ⟨rfl,aQ⟩:=Pm az aa;have:iX d=au7:=by cases d<;>first|exact aU|cases aU
   grind
  grind
 | .inr p::l,d::ds,ws,h,⟨⟨cs,bf,U⟩,aa⟩=>by
  simp only[rX] at h;split at h
  ·rename_i v rB ab az;cases h;obtain ⟨rfl,aU⟩:=Pl ab U;obtain ⟨rfl,aQ⟩:=Pm az aa;subst bf;exact ⟨rfl,by simp only[av0,aQ,Bool.and_true];exact aU⟩
  grind
 |[],_::_,_,_,h=>h.elim
 |_::_,[],_,_,h=>h.elim
theorem akb {s:aX D} {v w:au9} (h:Aj s=au6 w) (aE:rel X.G z vs s v):v=w/\av.flat w=au7:=by
 unfold Aj at h;split at h
 ·obtain ⟨rfl,g⟩:=Pk h aE;refine ⟨rfl, ?_⟩;cases v<;>first|exact g|cases g
 ·split at h
  ·rename_i ds aO;cases h;obtain ⟨es,rfl,aa⟩:=aE;obtain ⟨rfl,g⟩:=Pl aO aa;exact ⟨rfl,g⟩
  grind
 ·split at h
  ·rename_i ws aO;cases h;obtain ⟨es,rfl,aa⟩:=aE;obtain ⟨rfl,g⟩:=Pm aO aa;exact ⟨rfl,g⟩
  grind
 grind
def Kc:Option (Nat×Nat)->List dq|none=>[]|some p=>[.o p.1 (.recv p.2)]
def QX:(c:Option (Nat×Nat))->n6 D c->eD D (Kc c)|none,_=>()|some _,r=>(r,())
theorem aii (c:Option (Nat×Nat)) (r:n6 D c):eB X (Kc c) (QX c r)=r2 X c r:=by cases c<;>rfl
theorem aq4 {c:Option (Nat×Nat)} {r:n6 D c} {n:Nat}:(match c with|none=>[]|some _=>[n]).length=(r2 X c r).length:=by cases c<;>rfl
theorem aqL {d:fm D} {r:n6 D d.jb}:(r2 X d.jb r).length=(qL d).length:=by
 unfold qL;rw[<-aq4 (X:=X) (r:=r) (n:=d.qK)]
def agy (X:ez P D) (d:fm D) (r:n6 D d.jb) (y:kf D d.outs) (z:Nat->bo) (m:Mem) (kk:Option Nat) (dc:List au9) (ex:eY) (bB:Nat->au9) (bz:Mem):Prop:=(ex= .normal\/ex= .ret)/\∃hx,oP P bB bz d.k0 (d.eC.map hx)/\∃cZ dJ,dr m.next z cZ/\bF X.G (ki X (qL d) (r2 X d.jb r) d.outs (fB _ y)) cZ m bz kk (dc++dJ)/\(∀q∈gz X d.outs (fB _ y)++d.e8,rel X.G cZ (dc++dJ) q.2 (hx q.1))/\DS d.outs d.e8 hx
def DJ (X:ez P D) (B:Code) (d:fm D) (F:d.F):Prop:=∀(r:n6 D d.jb) (x:eD D d.ins) (y:kf D d.outs) {z:Nat->bo} {m:Mem} {kk:Option Nat} {dc:List au9} {fr:Nat->au9},
 F r x=au6 y->bF X.G (r2 X d.jb r) z m m kk dc->eP X z dc (gz X d.ins x++(d.fx++tv d.jb)) fr->W P B (agy X d r y z m kk dc) fr m
theorem ajO {t:Nat} {a:aX D} {V:aX D} {v:au9} (ay:bF X.G O z e m k vs) (aY:rel X.G z vs a v) (h:Qw P t a O=au6 V):∃b off w,v= .pointer (au6 ⟨b,off,au8⟩)/\rel X.G z vs V w/\∃d,P.underlying t=au6 d/\
  (if jK d=au7 then ∃i cs,P.info? t=au6 i/\eo m b off i.size=au6 cs/\w= .agg cs.toArray else m.load b off=au6 w):=by
 have fin:∀{b n:Nat} {cs:List (bZ D)} {ds:List au9},(∀(j:Nat) (w:au9),ds[j]? =au6 w->m.load b (0+j)=au6 w)->br (dK X.G z vs) cs ds->nt (P:=P) t cs n au6=au6 V->∃w,rel X.G z vs V w/\∃d,P.underlying t=au6 d/\(if jK d=au7 then ∃i cs,P.info? t=au6 i/\eo m b n i.size=au6 cs/\w= .agg cs.toArray else m.load b n=au6 w):=by
  intro b n cs ds ai aE h;unfold nt at h;split at h
  ·grind
  ·rename_i d aO;split at h
   ·rename_i qc;split at h
    ·grind
    ·rename_i i aj;split at h
     ·rename_i hlen;cases h;have lH:br (dK X.G z vs) ((cs.drop n).take i.size) ((ds.drop n).take i.size):=br.take _ (br.drop _ aE);have kd:((ds.drop n).take i.size).length=i.size:=by rw[<-lH.length];grind
      refine ⟨.agg ((ds.drop n).take i.size).toArray,⟨_,rfl,lH⟩,d,aO, ?_⟩
      grind [GI]
     grind
   ·rename_i qc;split at h
    ·rename_i c ie;cases h;obtain ⟨w,hw,y4⟩:=aE.get n c ie;refine ⟨w,y4,d,aO, ?_⟩
     grind
    grind
 unfold Qw at h;split at h
 ·rename_i i off;obtain ⟨b,ab,ae⟩:=aY;split at h
  ·rename_i u cs bl di bP;have cp:=ay.obj i _ _ bP ab;cases bl with
   |true=>
    obtain ⟨cB,ds,he,ai,aE⟩:=cp;cases he;obtain ⟨w,U,aa⟩:=fin (b:=b) (ay.aL.rC ai) aE h
    grind
   |false=>
    obtain ⟨cB,ds,he,ag,_,aE⟩:=cp;cases he;obtain ⟨w,U,aa⟩:=fin (b:=b) ag.rC aE h
    grind
  ·rename_i u cs di bP;obtain ⟨cB,ds,he,ag,aE⟩:=ay.obj i _ _ bP ab;cases he;obtain ⟨w,U,aa⟩:=fin (b:=b) ag.rC aE h
   grind
  grind
 grind
theorem P9:∀{rs:List ResultVar} {n:Nat} {l:List (Nat×aX D)},vG P E O n rs=au6 l->∀x∈kE n rs,x<l3\/n<=x
 |[],n,l,_,x,ae=>by grind [kE]
 | .tmp d::rs,n,l,h,x,ae=>by
  obtain ⟨U,aa⟩:=fT h;simp only[kE,avu] at ae;rcases ae with rfl|ae
  ·simp_all
  ·rcases P9 aa x ae with h|h
   ·grind
   grind
 | .cell a t::rs,n,l,h,x,ae=>by
  simp only[vG] at h;split at h
  ·rename_i V lL _ aa;simp only[kE,avu] at ae;rcases ae with rfl|ae
   ·grind
   ·rcases P9 aa x ae with h|h
    ·grind
    grind
  grind
theorem Qa (ay:bF X.G O z e m k vs) (a0:eP X z vs E fr):∀{rs:List ResultVar} {n:Nat} {l:List (Nat×aX D)},l3<=n->vG P E O n rs=au6 l->∃hx,(∀d,d<n->hx d=fr d)/\eP X z vs (l++E) hx/\oP P fr m rs ((kE n rs).map hx)
 |[],n,l,_,h=>by cases h;exact ⟨fr,fun _ _=>rfl,a0,trivial⟩
 | .tmp d::rs,n,l,a1,h=>by
  obtain ⟨U,aa⟩:=fT h;have aO:d<l3:=by simp_all
  obtain ⟨hx,aU,aQ,bT⟩:=Qa ay a0 (Nat.le_succ_of_le a1) aa;exact ⟨hx,fun d aO=>aU d (Nat.lt_succ_of_lt aO),aQ,aU d (Nat.lt_succ_of_lt (avx aO a1)),bT⟩
 | .cell a t::rs,n,l,a1,h=>by
  simp only[vG] at h;split at h
  ·rename_i V lL U aa;cases h;obtain ⟨hx,aU,aQ,bT⟩:=Qa ay a0 (Nat.le_succ_of_le a1) aa;obtain ⟨b,off,w,di,gV,lT⟩:=ajO ay (a0 a) U;refine ⟨fun i=>if i=n then w else hx i,fun d aO=> ?_,fun i=> ?_, ?_⟩
   ·grind
   ·show rel X.G z vs (ei ((n,V)::(lL++E)) i) (if i=n then w else hx i);simp only[ei];split
    ·simp_all
    ·rename_i aj;rw[if_neg (by rintro rfl;simp_all)];exact aQ i
   ·have hm:(kE (n+1) rs).map (fun i=>if i=n then w else hx i)=(kE (n+1) rs).map hx:=by
     apply axS;intro x ae;rw[if_neg];rintro rfl;rcases P9 aa _ ae with h|h<;>omega
    refine ⟨⟨b,off,di, ?_⟩, ?_⟩
    ·grind
    grind
  grind
theorem Xq {e8:List (Nat×aX D)} {zs:List (bZ D)} {b:Nat}:∀{cs:List (bZ D)} {i0 i:Nat},(sd e8 zs b i0 cs)[i]? =(cs[i]?).map fun c=>if qv e8 b (i0+i)=au7 then zs.getD (i0+i) .g2 else c
 |[],i0,i=>by simp[sd]
 |c::cs,i0,0=>by simp[sd]
 |c::cs,i0,i+1=>by simp only[sd,awp];rw[Xq (cs:=cs),show i0+1+i=i0+(i+1) by omega]
theorem Xr {e8:List (Nat×aX D)} {zs:List (bZ D)} {b:Nat}:∀{cs:List (bZ D)} {i0:Nat},(sd e8 zs b i0 cs).length=cs.length
 |[],_=>rfl
 |c::cs,i0=>by simp[sd,Xr (cs:=cs)]
theorem eP.app {A:List (Nat×aX D)} (a0:eP X z vs E fr) (h:∀p∈A,rel X.G z vs p.2 (fr p.1)):eP X z vs (A++E) fr:=by
 induction A with
 |nil=>exact a0
 |cons p A ar=>exact (ar fun q bd=>h q (avE _ bd)).cons (h p avX)
theorem PR {n:Nat}:∀{E:List (Nat×aX D)},(E.all fun p=>avA p.1 n)=au7->∀s,n<=s->ei E s= .un
 |[],_,s,_=>rfl
 |p::E,h,s,aC=>by
  simp only[av0,avk] at h;have U:p.1<n:=by simpa[axu] using h.1
  simp only[ei];rw[if_neg (by simp;omega)];exact PR h.2 s aC
theorem zy {e8:List (Nat×aX D)}:∀{aJ:List dq} {l:List (Nat×aX D)},sx X e8 E aJ=au6 l->(∀p∈l,eQ<=p.1/\(p.1 - eQ)%64=0/\∃t cs,ei E ((p.1 - eQ) / 64)= .agg t cs/\p.2= .agg t (sd e8 (m1 X t) p.1 0 cs))/\
  ∀s c,dq.v s c∈aJ->eQ<=s->∃t cs,ei E ((s - eQ) / 64)= .agg t cs
 |[],l,h=>by cases h;exact ⟨by simp,by simp⟩
 | .o _ _::aJ,l,h=>by obtain ⟨aU,aQ⟩:=zy (aJ:=aJ) h;exact ⟨aU,fun s c hm=>aQ s c (by simpa using hm)⟩
 | .u _ _::aJ,l,h=>by obtain ⟨aU,aQ⟩:=zy (aJ:=aJ) h;exact ⟨aU,fun s c hm=>aQ s c (by simpa using hm)⟩
 | .v jo l7::aJ,l,h=>by
  simp only[sx] at h;split at h
  ·rename_i hle;obtain ⟨Vh,h⟩:=fT h;split at h
   ·rename_i t cs oC;split at h
    ·rename_i rB U;cases h;obtain ⟨aU,aQ⟩:=zy (aJ:=aJ) U;refine ⟨fun p aM=> ?_,fun s c hm aC=> ?_⟩
     ·rcases avu.1 aM with rfl|aM
      ·exact ⟨avq hle,avn Vh,t,cs,oC,rfl⟩
      ·exact aU p aM
     ·rcases avu.1 hm with hm|hm
      ·cases hm;exact ⟨t,cs,oC⟩
      ·exact aQ s c hm aC
    ·cases h
   ·cases h
  ·rename_i hle;obtain ⟨aU,aQ⟩:=zy (aJ:=aJ) h;refine ⟨aU,fun s c hm aC=> ?_⟩;rcases avu.1 hm with hm|hm
   ·cases hm;exact absurd (Nat.ble_eq_true_of_le aC) hle
   ·exact aQ s c hm aC
theorem Pj:∀{l:List (Nat×aX D)},∀p∈wq E l,eQ<=p.1/\p.2=MC E (p.1 - eQ)
 |[],p,h=>by cases h
 |q::l,p,h=>by
  simp only[wq] at h;split at h
  ·rename_i hle;rcases avu.1 h with rfl|h
   ·exact ⟨avq hle,rfl⟩
   ·exact Pj p h
  ·exact Pj p h
theorem aqv {e8:List (Nat×aX D)} {outs:List dq} {zd:List (Nat×aX D)} (a0:eP X z vs E fr) (k4:(E.all fun p=>avA p.1 eQ)=au7) (h:sx X e8 E outs=au6 zd):
  ∃pd,(∀s,s<eQ->pd s=fr s)/\eP X z vs (zd++(wq E e8++E)) pd/\DS outs e8 pd:=by
 obtain ⟨bz,qu⟩:=zy h
 let aaB:Nat->Nat:=fun s=>match ei E s with| .agg t _=>t|_=>0
 let pd:Nat->au9:=fun s=>if s<eQ then fr s else match fr ((s - eQ) / 64) with
  | .agg ds=>if (s - eQ)%64=0 then .agg ((avQ ds.toList.length).map fun i=>if qv e8 s i=au7 then axR (GC (X:=X) (t:=aaB ((s - eQ) / 64)) i) else ds.toList.getD i undef).toArray else ds.toList.getD ((s - eQ)%64 - 1) undef
  |v=>v
 have pk:∀s,s<eQ->pd s=fr s:=fun s aC=>if_pos aC;have wA:∀s t cs,eQ<=s->ei E ((s - eQ) / 64)= .agg t cs->∃ds:List au9,fr ((s - eQ) / 64)= .agg ds.toArray/\br (dK X.G z vs) cs ds/\
   pd s=if (s - eQ)%64=0 then .agg ((avQ ds.length).map fun i=>if qv e8 s i=au7 then axR (GC (X:=X) (t:=t) i) else ds.getD i undef).toArray else ds.getD ((s - eQ)%64 - 1) undef:=by
  intro s t cs aC az;have aE:=a0 ((s - eQ) / 64);rw[az] at aE;obtain ⟨ds,U,aa⟩:=aE;refine ⟨ds,U,aa, ?_⟩;show (if s<eQ then _ else _)=_;rw[if_neg (by omega)];simp only[U,aaB,az]
 have ada:eP X z vs E pd:=fun s=>by
  by_cases aC:s<eQ
  ·rw[pk s aC];exact a0 s
  ·rw[PR k4 s (by omega)];trivial
 refine ⟨pd,pk,(ada.app fun p aM=> ?_).app fun p aM=> ?_,fun d t hm=> ?_⟩
 ·obtain ⟨U,aa⟩:=Pj p aM;rw[aa];unfold MC;split
  ·trivial
  ·rename_i bf;split
   ·rename_i t cs az;obtain ⟨ds,_,aQ,bT⟩:=wA p.1 t cs U az;split
    ·rename_i c ai;obtain ⟨w,hw,aE⟩:=aQ.get _ c ai;rw[bT,if_neg (by intro bL;rw[bL] at bf;exact bf rfl)];have yV:ds.getD ((p.1 - eQ)%64 - 1) undef=w:=by simp[List.getD,hw]
     rw[yV];exact aE
    ·trivial
   ·trivial
 ·obtain ⟨U,aa,t,cs,az,aN⟩:=bz p aM;obtain ⟨ds,_,aQ,bT⟩:=wA p.1 t cs U az;rw[aN,bT,if_pos aa];have hlen:=(kg.1 aQ).1;refine ⟨_,rfl,kg.2 ⟨by rw[Xr];simp[hlen],fun i a b aY ag=> ?_⟩⟩;rw[Xq] at aY;obtain ⟨gH,bf,aY⟩:=awU.1 aY;rw[avD] at aY;have aj:i<ds.length:=by rw[<-hlen];exact (avr.1 bf).1
  rw[awb,List.getElem?_range aj] at ag;have ag:=avl.inj ag;dsimp only at ag;by_cases ao:qv e8 p.1 i=au7
  ·rw[if_pos ao] at aY ag;subst aY ag;exact Classical.choose_spec (GC (X:=X) (t:=t) i) z vs
  ·rw[if_neg ao] at aY ag;subst aY ag;exact (kg.1 aQ).2 i gH _ bf (by simp[List.getD,avV aj])
 ·obtain ⟨ec,cs,az⟩:=qu _ _ hm (by omega);obtain ⟨ds,aU,aQ,bT⟩:=wA (eQ+64*d) ec cs (by omega) az;have bu:(eQ+64*d - eQ) / 64=d:=by omega
  have e2:(eQ+64*d - eQ)%64=0:=by omega
  rw[if_pos e2] at bT;rw[bu] at aU az;have aO:d<eQ:=by
   rcases Nat.lt_or_ge d eQ with bS|gU
   ·exact bS
   ·rw[PR k4 d gU] at az;cases az
  refine ⟨_,ds,bT,by rw[pk d aO];exact aU,by simp,fun i w hw=> ?_⟩;have aj:=(avr.1 hw).1;split
  ·rename_i ao;have EG:i<63:=by
    unfold qv at ao;simp only[avk] at ao;simpa[axu] using ao.1
   obtain ⟨l9,b6,_,eF⟩:=wA (eQ+64*d+1+i) ec cs (by omega) (by rw[show (eQ+64*d+1+i - eQ) / 64=d by omega];exact az);rw[show (eQ+64*d+1+i - eQ) / 64=d by omega,aU] at b6;have b6:ds=l9:=by have:=au9.agg.inj b6;simpa using congrArg Array.toList this
   subst b6;rw[eF,if_neg (by omega),show (eQ+64*d+1+i - eQ)%64 - 1=i by omega];simp[List.getD,hw]
  ·rename_i ao;rw[awb,List.getElem?_range aj];simp[ao,List.getD,hw]
theorem DJ.of (cf:h6 X) {B:Code} {us:List (lu D)} {d:fm D} {F:d.F} (rq:∀u∈us,0<u.path.length->o6 X B u)
  (en:∀r x,jO X us calm au7 [] B (gz X d.ins x++(d.fx++tv d.jb)) (r2 X d.jb r) (aau X d)=F r x):DJ X B d F:=by
 intro r x y z m kk dc fr dQ ay a0;have h:=en r x;rw[dQ] at h;refine (GO cf (L:=0) rq B au7 [] _ _ _ y (qB B) (by simp) (by simp) ay a0 h).mono ?_;rintro ex cX bz ⟨b4,jz,h7,b3,bf,U,aa,ap,aN,bK⟩;obtain ⟨ae,bK⟩:=fT bK;obtain ⟨l,gd,ed⟩:=bind_some bK;obtain ⟨hx,dn,dA,ea⟩:=Qa ap aN (avm _) gd;have az:(qL d).length=dc.length:=by rw[ay.len,aqL]
 rw[az] at ed;have aE:=aii (X:=X) d.jb r;by_cases NS:ur d.outs=au7
 ·replace ed:=(if_pos NS).symm.trans ed
  obtain ⟨k4,ed⟩:=fT ed;simp only[avk] at k4;obtain ⟨zd,aee,ed⟩:=bind_some ed;obtain ⟨pd,iI,iV,pB⟩:=aqv dA k4.1 aee;obtain ⟨cZ,dJ,b6,cc,eF⟩:=zQ (ks:=qL d) (ins:=Kc d.jb) (x:=QX d.jb r) (dD:=d.dD) (by rw[aE];exact bf) aa (by rw[aE];exact ay.len) ap iV ed;rw[aE] at cc;have sP:d.eC.map hx=d.eC.map pd:=axS fun x ae=>(iI x (by simpa[axu] using avt.1 k4.2 x ae)).symm;exact ⟨ae,pd,sP▸ea,cZ,dJ,U.trans b6,cc,eF,pB⟩
 replace ed:=(if_neg NS).symm.trans ed
 obtain ⟨cZ,dJ,b6,cc,eF⟩:=zQ (ks:=qL d) (ins:=Kc d.jb) (x:=QX d.jb r) (dD:=d.dD) (by rw[aE];exact bf) aa (by rw[aE];exact ay.len) ap dA ed;rw[aE] at cc;refine ⟨ae,hx,ea,cZ,dJ,U.trans b6,cc,eF,fun MN t hm=>absurd ?_ NS⟩;have:∀{aJ:List dq},dq.v (eQ+64*MN) (.agg t)∈aJ->ur aJ=au7:=by
  intro aJ;induction aJ with
  |nil=>intro h;cases h
  |cons i aJ ar=>
   intro h;rcases avu.1 h with rfl|h
   ·simp[ur]
   ·have:=ar h;cases i<;>simp[ur,this]
 exact this hm
end
end
end Go.av
end
section
namespace Go.av
noncomputable section
section
variable {P:avd} {D:Nat->Type} {X:ez P D} {z b4 cZ:Nat->bo} {e m bz:Mem} {k q:Option Nat} {vs:List au9} {fr:Nat->au9} {E:List (Nat×aX D)} {O bY:List (aT D)} {af:Type} {r:af}
theorem F0:∀{l:List (aX D)} {args:List au9} {i:Nat},br (rel X.G z vs) l args->(∀(j:Nat) (v:au9),args[j]? =au6 v->fr (i+j)=v)->eP X z vs (jX i l) fr
 |[],[],i,_,_=>fun d=>trivial
 |s::l,a::args,i,⟨U,aa⟩,bb=>by
  refine (F0 (i:=i+1) aa fun j v aZ=> ?_).cons ?_
  ·rw[show i+1+j=i+(j+1) by omega];simp_all
  ·have:=bb 0 a rfl
   grind
 |[],_::_,_,h,_=>h.elim
 |_::_,[],_,h,_=>h.elim
structure L5 (P:avd) (X:ez P D) (d:fm D) (F:d.F):Prop where
 ex:∃fn c,P.funcs[d.f]? =au6 fn/\qC P fn c/\la P d.f=au7/\avp d.np fn.ntmps=au7/\fn.results.toList=d.k0/\DJ X c d F
 new:qF d.outs=au7
 auO:(d.fx.all fun p=>rY p.2)=au7
 arE:(d.e8.all fun p=>rY p.2)=au7
 arG:(d.fx.all fun p=>(CR p.2).isNone)=au7
theorem OP {c:bZ D} {w:au9} (h:Ai c=au6 w):dK X.G z vs c w/\cP w=au7/\iX w=au7/\av.flat w=au7:=by
 cases c<;>first|(cases h;done)|(cases h;exact ⟨rfl,rfl,rfl,rfl⟩)
theorem OQ:∀{cs:List (bZ D)} {ws:List au9},vA cs=au6 ws->br (dK X.G z vs) cs ws/\ws.all cP=au7
 |[],_,h=>by cases h;exact ⟨trivial,rfl⟩
 |c::cs,ws,h=>by
  simp only[vA] at h;split at h
  ·rename_i v l ab az;cases h;obtain ⟨aU,aQ,_⟩:=OP (X:=X) (z:=z) (vs:=vs) ab;obtain ⟨bT,cT⟩:=OQ az;exact ⟨⟨aU,bT⟩,by grind⟩
  grind
theorem OR:∀{l:List (bZ D⊕(Nat×List (bZ D)))} {ws:List au9},rX l=au6 ws->br (tw X.G z vs) l ws/\ws.all iX=au7
 |[],_,h=>by cases h;exact ⟨trivial,rfl⟩
 | .inl c::l,ws,h=>by
  simp only[rX] at h;split at h
  ·rename_i v rB ab az;cases h;obtain ⟨aU,_,aQ,_⟩:=OP (X:=X) (z:=z) (vs:=vs) ab;obtain ⟨bT,cT⟩:=OR az;exact ⟨⟨aU,bT⟩,by grind⟩
  grind
 | .inr p::l,ws,h=>by
  simp only[rX] at h;split at h
  ·rename_i v rB ab az;cases h;obtain ⟨aU,aQ⟩:=OQ (X:=X) (z:=z) (vs:=vs) ab;obtain ⟨bT,cT⟩:=OR az;exact ⟨⟨⟨v,rfl,aU⟩,bT⟩,by simp only[av0,cT,Bool.and_true];exact aQ⟩
  grind
theorem aiV {s:aX D} {w:au9} (h:Aj s=au6 w):rel X.G z vs s w/\av.flat w=au7:=by
 unfold Aj at h;split at h
 ·obtain ⟨aU,_,_,aQ⟩:=OP (X:=X) (z:=z) (vs:=vs) h;exact ⟨aU,aQ⟩
 ·split at h
  ·rename_i ds aO;cases h;obtain ⟨aU,aQ⟩:=OQ (X:=X) (z:=z) (vs:=vs) aO;exact ⟨⟨ds,rfl,aU⟩,aQ⟩
  grind
 ·split at h
  ·rename_i ws aO;cases h;obtain ⟨aU,aQ⟩:=OR (X:=X) (z:=z) (vs:=vs) aO;exact ⟨⟨ws,rfl,aU⟩,aQ⟩
  grind
 grind
theorem Inv.app (O N:List (aT D)):Inv O (O++N):=⟨by simp,fun i p aj aM _ _=>by grind⟩
theorem bF.nil (ay:bF X.G O z e m k vs):bF X.G ([]:List (aT D)) z m m au8 []:=⟨dp.start ay.aL.bl ay.aL.dead,rfl,by simp,by simp⟩
theorem YD {kk:Option Nat} (h:dp b4 e m k) (aa:dp cZ m bz kk) (au:∀b,kk=au6 b->e.next<=b\/k=au6 b):dp cZ e bz k/\fM m bz kk:=
 ⟨⟨aa.bl,aa.dead,h.mD,avz h.next aa.next,fun b ag a1=>by
  rw[aa.kept b (avx ag h.next) (fun bL=>by grind)];exact h.kept b ag a1⟩,⟨aa.next,aa.dead,aa.kept⟩⟩
theorem Pv {ins:List dq} {fx:List (Nat×aX D)} {cq j9:List (aX D)} {b3:List (aT D)} {x:eD D ins} {dc:List au9} (a0:eP X z vs (jX 0 cq) fr) (aY:v5 X z vs fr ins j9) (ag:e0 X [] b3 ins j9 []=au6 x)
  (ae:(fx.all fun p=>sB [] p.2 (ei (jX 0 cq) p.1))=au7):∀p∈gz X ins x++fx,rel X.G z dc p.2 (fr p.1):=by
 intro p aM;rcases avT.1 aM with aM|aM
 ·grind [xz]
 ·have aw:=avt.1 ae p aM;have:=P6 (X:=X) (vs':=dc) id aw (a0 p.1) (by simp)
  grind [GJ]
theorem after {outs:List dq} {y:eD D outs} {oi:List (aT D)} {dc dJ:List au9} {kk:Option Nat} {dL q3:List (aT D)} {cm:Nat->Nat} (U:bF X.G dL b4 e m k vs) (ap:bF X.G q3 cZ e bz k vs) (bf:bF X.G (oi++eB X outs y) cZ m bz kk (dc++dJ)) (az:dc.length=oi.length) (a1:qF outs=au7)
  (bS:∀(j:Nat) (o:aT D) (v:au9),q3[j]? =au6 o->vs[j]? =au6 v->o.live=au7->∀b,dz v=au6 b->b<m.next) (afn:∀(j:Nat) (u:au9),(dc++dJ)[j]? =au6 u->(vs++dJ)[cm j]? =au6 u):bF X.G (q3++mkOr X cm outs y) cZ e bz k (vs++dJ):=by
 have nW:(eB X outs y).length=(mkOr X cm outs y).length:=by grind [lf,ta]
 have qg:dJ.length=(eB X outs y).length:=by
  have:=bf.len
  grind
 have up:∀(j:Nat) (o:aT D) (v:au9),(mkOr X cm outs y)[j]? =au6 o->dJ[j]? =au6 v->∃q∈cos outs y,o=bW.gn X cm q.c q.x ava/\(oi++eB X outs y)[oi.length+j]? =au6 (bW.mk X q.c q.x ava)/\(dc++dJ)[oi.length+j]? =au6 v:=by
  grind [ta,lf]
 refine ap.ab6 (qg.trans nW) bS (fun j o v ao ab=> ?_) (fun i j o p v w gZ ao aM ab hw=> ?_)
 ·obtain ⟨q,bd,rfl,aU,aQ⟩:=up j o v ao ab;have cp:=bf.obj _ _ v aU aQ;exact born (F7 a1 bd) U.aL.next (bW.wV (mw:=cm) (vs':=vs++dJ) ava cp fun n _ u hu=>afn n u hu)
 ·obtain ⟨q,bd,rfl,aU,aQ⟩:=up i o v ao ab;obtain ⟨iJ,aeP,rfl,bT,cT⟩:=up j p w aM hw;exact bf.fa _ _ _ _ v w (by omega) aU bT bW.sU bW.sU aQ cT
theorem F8:∀{aJ:List dq},qF aJ=au7->∀d c,dq.v d c∈aJ->c.wW=au7
 | .v d c::aJ,h,p8,bQ,hm=>by
  have h:=awJ.1 h;rcases avu.1 hm with he|hm
  ·grind
  ·exact F8 (aJ:=aJ) h.2 p8 bQ hm
 | .u d c::aJ,h,p8,bQ,hm=>by
  rcases avu.1 hm with he|hm
  ·grind
  ·exact F8 (aJ:=aJ) h p8 bQ hm
 | .o d c::aJ,h,p8,bQ,hm=>by
  rcases avu.1 hm with he|hm
  ·grind
  ·refine F8 (aJ:=aJ) ?_ p8 bQ hm;cases c<;>first|exact h|cases h
theorem Gn:∀{aJ:List dq} {x:eD D aJ} {p:Nat×aX D},p∈gz X aJ x->∃c y,dq.v p.1 c∈aJ/\p.2=gr.mk X c y
 |[],_,_,h=>by simp[gz] at h
 | .o d c::aJ,x,p,h=>by obtain ⟨bQ,y,U,aa⟩:=Gn (aJ:=aJ) (x:=x.2) h;exact ⟨bQ,y,avE _ U,aa⟩
 | .u d c::aJ,x,p,h=>by obtain ⟨bQ,y,U,aa⟩:=Gn (aJ:=aJ) (x:=x.2) h;exact ⟨bQ,y,avE _ U,aa⟩
 | .v d c::aJ,x,p,h=>by
  rcases avu.1 h with rfl|h
  ·exact ⟨c,x.1,avX,rfl⟩
  ·obtain ⟨bQ,y,U,aa⟩:=Gn (aJ:=aJ) (x:=x.2) h;exact ⟨bQ,y,avE _ U,aa⟩
theorem Pz:∀{E:List (Nat×aX D)} {s:Nat} {v:aX D},ei E s=v->v≠ .un->(s,v)∈E
 |[],_,_,h,a1=>absurd h.symm a1
 |p::E,s,v,h,a1=>by
  simp only[ei] at h;split at h
  ·rename_i aC;have:=avn aC;subst h this;exact avX
  ·exact avE _ (Pz h a1)
theorem Ye {cm:Nat->Nat}:∀{l:List (Nat×aX D)} {s:Nat},ei (l.map fun q=>(q.1,pO cm q.2)) s=pO cm (ei l s)
 |[],_=>rfl
 |p::l,s=>by
  simp only[awe,ei];split
  ·rfl
  ·exact Ye
theorem XA {b:Nat}:∀{cs:List (bZ D)} {i0 i:Nat},(rI E b i0 cs)[i]? =(cs[i]?).map (QK (avA (i0+i) 63) (ei E (b+1+(i0+i))))
 |[],i0,i=>by simp[rI]
 |c::cs,i0,0=>by simp[rI]
 |c::cs,i0,i+1=>by simp only[rI,awp];rw[XA (cs:=cs),show i0+1+i=i0+(i+1) by omega]
theorem XB {b:Nat}:∀{cs:List (bZ D)} {i0:Nat},(rI E b i0 cs).length=cs.length
 |[],_=>rfl
 |c::cs,i0=>by simp[rI,XB (cs:=cs)]
theorem Po {h7 qY:List (Nat×aX D)}:∀{eC:List Nat},∀p∈y9 h7 qY eC,∃t cs,ei h7 (eQ+64*p.1)= .agg t cs/\p.2= .agg t (rI qY (eQ+64*p.1) 0 cs)
 |[],p,h=>by cases h
 |d::ds,p,h=>by
  simp only[y9] at h;split at h
  ·rename_i t cs az;rcases avu.1 h with rfl|h
   ·exact ⟨t,cs,az,rfl⟩
   ·exact Po p h
  ·exact Po p h
theorem aqC {outs:List dq} {y:eD D outs} {e8:List (Nat×aX D)} {cm:Nat->Nat} {eC:List Nat} (h:∀q∈gz X outs y++e8.map fun q=>(q.1,pO cm q.2),rel X.G z vs q.2 (fr q.1)) (aj:DS outs e8 fr):eP X z vs (xF (gz X outs y) (e8.map fun q=>(q.1,pO cm q.2)) eC) fr:=by
 refine (z6 h).app fun p aM=> ?_;obtain ⟨t,cs,U,aa⟩:=Po p aM;have hm:=Pz U (by simp);obtain ⟨c,a,aU,aQ⟩:=Gn hm;have ai:c= .agg t:=by cases c<;>simp[gr.mk] at aQ;rw[aQ.1]
 subst ai;obtain ⟨wj,ds,b6,cc,eF,jk⟩:=aj _ _ aU;obtain ⟨Uu,qs,Ff⟩:=h _ (avT.2 (.inl hm));rw[qs] at b6;have b6:Uu=wj:=by have:=au9.agg.inj b6;simpa using congrArg Array.toList this
 subst b6;rw[aa];have hlen:=(kg.1 Ff).1;refine ⟨ds,cc,kg.2 ⟨by rw[XB,hlen,eF],fun i a' w aY hw=> ?_⟩⟩;rw[XA] at aY;obtain ⟨gH,bf,aY⟩:=awU.1 aY;rw[avD,Ye] at aY;have aN:=jk i w hw;cases bd:qv e8 (eQ+64*p.1) i with
 |true=>
  rw[if_pos bd] at aN;unfold qv at bd;simp only[avk] at bd;obtain ⟨dn,dA⟩:=bd;split at dA
  ·rename_i n a1;rw[dn,a1] at aY;have aY:bZ.own (cm n)=a':=aY;subst aY;have EW:=Pz a1 (by simp);have:=h (eQ+64*p.1+1+i, .c (.own (cm n))) (avT.2 (.inr (avy.2 ⟨_,EW,rfl⟩)));rw[<-aN];exact this
  ·cases dA
 |false=>
  rw[if_neg (by rw[bd];simp)] at aN;have aE:=(kg.1 Ff).2 i gH w bf aN;unfold QK at aY;split at aY
  ·rename_i n ag a1;exfalso;have:ei e8 (eQ+64*p.1+1+i)= .c (.own n)\/∃m,ei e8 (eQ+64*p.1+1+i)= .c (.own m):=by
    generalize ei e8 (eQ+64*p.1+1+i)=q at a1;cases q with
    |c q=>cases q<;>first|exact .inr ⟨_,rfl⟩|cases a1
    |_=>cases a1
   unfold qv at bd;rcases this with bK|⟨m,bK⟩<;>rw[ag,bK] at bd<;>cases bd
  ·subst aY;exact aE
theorem YR {eC:List Nat} {outs:List dq} {y:eD D outs} {e8:List (Nat×aX D)} {dc jz:List au9} {cm:Nat->Nat} (a1:qF outs=au7) (ao:(e8.all fun p=>rY p.2)=au7) (h:(∀q∈gz X outs y++e8,rel X.G z dc q.2 (fr q.1))/\DS outs e8 fr) (ab:∀(j:Nat) (u:au9),dc[j]? =au6 u->jz[cm j]? =au6 u):
  eP X z jz (xF (gz X outs y) (e8.map fun q=>(q.1,pO cm q.2)) eC) fr:=by
 obtain ⟨h,aj⟩:=h;refine aqC (fun q bd=> ?_) aj;rcases avT.1 bd with bd|bd
 ·obtain ⟨d,c,a,aO,ai⟩:=xr bd;have:=h q (avT.2 (.inl bd));rw[ai] at this⊢;exact gr.Ot (F8 a1 d c aO) this
 ·obtain ⟨s0,N2,rfl⟩:=avy.1 bd;exact QR (avt.1 ao s0 N2) (h s0 (avT.2 (.inr N2))) fun j u _ hu=>ab j u hu
theorem apB {t b:Nat} {o:aT D} {x:D t} (a5:xD X t (au6 o)=au6 x) (ao:gD X.G z e m k vs o (.pointer (au6 ⟨b,0,au8⟩))):
  o.live=au7/\(e.next<=b\/k=au6 b)/\(∀vs',gD X.G z m m (au6 b) vs' (.recv t (iu X t x) ava:aT D) (.pointer (au6 ⟨b,0,au8⟩)))/\
  (∀{cZ:Nat->bo} {bz:Mem} {w:Bool} {a:D t} {ws:List au9},gD X.G cZ m bz (au6 b) ws (.recv t (iu X t a) w:aT D) (.pointer (au6 ⟨b,0,au8⟩))->gD X.G cZ e bz k vs (CP t (iu X t a) o) (.pointer (au6 ⟨b,0,au8⟩))/\(o.clean=au7->a=x->gD X.G cZ e bz k vs o (.pointer (au6 ⟨b,0,au8⟩)))):=by
 unfold xD at a5;split at a5
 ·rename_i ec cs w en;cases en;obtain ⟨aw,a5⟩:=fT a5;subst aw;obtain ⟨c,ds,U,aa,ap,aN⟩:=ao;cases U;refine ⟨rfl, .inl ap,fun vs'=>⟨b,ds,rfl,⟨aa.aS,aa.lt,aa.dead, .inr rfl⟩,tj a5 aN⟩, ?_⟩;intro cZ bz w a ws aE;obtain ⟨c,l9,aU,aQ,bT⟩:=aE;cases aU;refine ⟨⟨b,l9,rfl,⟨aQ.aS,aQ.lt,aQ.dead, .inl ap⟩,ap,rR bT⟩,fun ai aY=> ?_⟩;subst aY;rw[HS a5 ai];exact ⟨b,l9,rfl,⟨aQ.aS,aQ.lt,aQ.dead, .inl ap⟩,ap,rR bT⟩
 ·rename_i ec cs w en;cases en;obtain ⟨aw,a5⟩:=fT a5;subst aw;obtain ⟨c,ds,U,aa,aN⟩:=ao;cases U;refine ⟨rfl,aa.fresh,fun vs'=>⟨b,ds,rfl,⟨aa.aS,aa.lt,aa.dead, .inr rfl⟩,tj a5 aN⟩, ?_⟩;intro cZ bz w a ws aE;obtain ⟨c,l9,aU,aQ,bT⟩:=aE;cases aU;refine ⟨⟨b,l9,rfl,⟨aQ.aS,aQ.lt,aQ.dead,aa.fresh⟩,rR bT⟩,fun ai aY=> ?_⟩;subst aY;rw[HS a5 ai];exact ⟨b,l9,rfl,⟨aQ.aS,aQ.lt,aQ.dead,aa.fresh⟩,rR bT⟩
 grind
def fm.quiet (d:fm D):Bool:=d.flat&&d.jb.isNone
def ix (X:ez P D) (d:fm D) (F:d.F):Prop:=∀(cq:List (aX D)) (O:List (aT D)) {af:Type} (K:aX D->List (aT D)->Option af) (r:af) {z:Nat->bo} {e m:Mem} {k:Option Nat} {vs:List au9} (args:List au9),
 bF X.G O z e m k vs->br (rel X.G z vs) cq args->d.call X F cq O K=au6 r->hs P d.f args.toArray m fun v m'=>dk X O z e k vs K r v m'/\(d.quiet=au7->m'=m)/\∃q,gh m m' q/\nN vs (pD cq) q
theorem fM.MD {q:Option Nat} (h:fM m bz q):gh m bz q:=⟨h.next,h.aS⟩
theorem Xf {i off d:Nat}:∀{l:List (aX D)} {n:Nat},ei (jX n l) d= .box i off->i∈pD l
 |[],n,h=>by cases h
 |s::l,n,h=>by
  simp only[jX,ei] at h;split at h
  ·subst h;exact avX
  ·have:=Xf h;cases s<;>first|exact this|exact avE _ this
theorem L5.call {d:fm D} {F:d.F} (dQ:L5 P X d F):ix X d F:=by
 intro cq O af K r z e m k vs args ay cU h;obtain ⟨fn,c,f1,f2,f3,f4,f5,kb⟩:=dQ.ex;have mj:=dQ.new;have Vt:=dQ.arE;unfold fm.call at h;obtain ⟨hlen,h⟩:=fT h;have hlen:=avn hlen;split at h
 ·rename_i j9 b3 bb;obtain ⟨ae,h⟩:=fT h;split at h
  ·rename_i x ag;have b9:args.toArray.size<=fn.ntmps:=by
    rw[List.size_toArray,<-cU.length,hlen];simp_all
   have a0:∀fr:Nat->au9,(∀i v,args.toArray.toList[i]? =au6 v->fr i=v)->eP X z vs (jX 0 cq) fr:=fun fr hq=>F0 cU fun j v aZ=>by grind
   obtain ⟨f,np,ins,fx,jb,qK,outs,e8,k0,flat⟩:=d;cases jb with
   |none=>
    obtain ⟨y,aI,h⟩:=bind_some h;split at h
    ·rename_i dh uI;have body:∀fr:Nat->au9,(∀i v,args.toArray.toList[i]? =au6 v->fr i=v)->W P c (fun ex cX bz=>(ex= .normal\/ex= .ret)/\∃b4 cZ dJ,Inv O b3/\dr e.next z b4/\bF X.G b3 b4 e m k vs/\dr m.next b4 cZ/\bF X.G (eB X outs (fB outs y)) cZ m bz au8 dJ/\∃hx,oP P cX bz k0 ((kE l3 k0).map hx)/\(rel X.G cZ (vs++dJ) dh (pack ((kE l3 k0).map hx))/\(((kE l3 k0).map hx).length=1\/∀x∈(kE l3 k0).map hx,storable x=au7))) fr m:=by
      intro fr hq;obtain ⟨b4,eU,aU,aQ,bT⟩:=s6 ay (a0 fr hq) bb;have N4:=Pv (dc:=[]) ((a0 fr hq).mono aU.le fun _ _ h=>h) bT ag ae;refine (kb () x y (z:=b4) (m:=m) (kk:=au8) (dc:=[]) aI aQ.nil (z6 fun p aM=>N4 p (by grind [tv]))).mono ?_;rintro ex cX bz ⟨he,hx,dn,cZ,dJ,b6,cc,eF⟩;have cc:bF X.G (eB X outs (fB outs y)) cZ m bz au8 dJ:=cc;refine ⟨he,b4,cZ,dJ,eU,aU,aQ,b6,cc,hx,dn,PJ (YR (dc:=dJ) mj Vt eF fun j u hu=> ?_) uI⟩;show (vs++dJ)[b3.length+j]? =au6 u;rw[avO (by rw[aQ.len];omega),aQ.len,show b3.length+j - b3.length=j by omega]
      grind
     split at h
     ·split at h
      ·rename_i w hw;obtain ⟨di,gV⟩:=aiV (X:=X) (z:=z) (vs:=vs) hw;refine (hs.flat (z:=z) f1 f2 f3 b9 gV fun fr hq=>(body fr hq).mono ?_).mono ?_
       ·rintro ex cX bz ⟨he,b4,cZ,dJ,_,_,_,_,cc,hx,dn,eF,jk⟩;exact ⟨he,cZ,cc.aL,_,by grind,jk,(akb hw eF).1⟩
       ·rintro v m' ⟨rfl,rfl⟩;exact ⟨dk.here ay di h,fun _=>rfl,au8,gh.refl _, .inl rfl⟩
      grind
     ·rename_i aer;refine hs.any f1 f2 f3 b9 fun fr hq=>(body fr hq).mono ?_;rintro ex cX bz ⟨he,b4,cZ,dJ,eU,aU,aQ,b6,cc,hx,dn,eF,jk⟩;obtain ⟨s1,s2⟩:=YD (e:=e) (k:=k) aQ.aL cc.aL (by simp);refine ⟨he,_,by grind,jk,⟨cZ,vs++dJ,dh,_,eU.trans (Inv.app _ _),aU.trans (b6.yp ay.aL.next),iZ, ?_,eF,h⟩,fun bd=>absurd (by grind [fm.quiet]) aer,au8,s2.MD, .inl rfl⟩;have ap:=aQ.call b6 s2 s1 rfl fun j o' aZ=> .inl ⟨aZ,fun _ v _=>eE.n0⟩;have aeu:∀(j:Nat) (u:au9),([]++dJ)[j]? =au6 u->(vs++dJ)[b3.length+j]? =au6 u:=fun j u hu=>by
       rw[avO (by rw[aQ.len];omega),aQ.len,show b3.length+j - b3.length=j by omega]
       grind
      exact after (oi:=[]) (dc:=[]) aQ ap cc rfl mj (fun j o v ao ab az b ag=>((aQ.obj j o v ao ab).lt az b ag).1) aeu
    grind
   |some p=>
    unfold GR at h;dsimp only at h;split at h
    ·rename_i i aj;split at h
     ·rename_i o ao;obtain ⟨CS,Vr,h⟩:=bind_some h;obtain ⟨y,aI,h⟩:=bind_some h;split at h
      ·rename_i dh uI;refine hs.any f1 f2 f3 b9 fun fr hq=> ?_;obtain ⟨b4,eU,aU,aQ,bT⟩:=s6 ay (a0 fr hq) bb;have N4:=fun dc=>Pv (dc:=dc) ((a0 fr hq).mono aU.le fun _ _ h=>h) bT ag ae;have aM:=a0 fr hq p.1;rw[aj] at aM;obtain ⟨b,eA,hE⟩:=aM;have cp:=aQ.obj i o _ ao eA;obtain ⟨lh,lQ,are,arf⟩:=apB Vr cp;have adk:bF X.G (r2 X (au6 p) CS) b4 m m (au6 b) [.pointer (au6 ⟨b,0,au8⟩)]:=by
        refine ⟨dp.start aQ.aL.bl aQ.aL.dead,rfl,fun j o' v aZ ab=> ?_,fun a cB o' qw v w kr aY ek=> ?_⟩
        ·grind [r2]
        grind
       refine (kb CS x y (z:=b4) (m:=m) (kk:=au6 b) (dc:=[.pointer (au6 ⟨b,0,au8⟩)]) aI adk (z6 fun q bd=> ?_)).mono ?_
       ·rcases avT.1 bd with bd|bd
        ·grind
        ·rcases avT.1 bd with bd|bd
         ·grind
         ·simp only[tv,avu,List.not_mem_nil,or_false] at bd;subst bd;exact ⟨b,rfl,hE⟩
       rintro ex cX bz ⟨he,hx,dn,cZ,dJ,b6,cc,eF⟩;obtain ⟨s1,s2⟩:=YD (e:=e) (k:=k) aQ.aL cc.aL (fun c ai=>by grind);have atN:i<b3.length:=(avr.1 ao).1;have qh:∀(j:Nat) (u:au9),([au9.pointer (au6 ⟨b,0,au8⟩)]++dJ)[j]? =au6 u->(vs++dJ)[uS i b3.length j]? =au6 u:=by
        intro j u hu;cases j with
        |zero=>
         simp at hu;subst hu;show (vs++dJ)[i]? =_
         grind
        |succ j=>
         simp at hu;show (vs++dJ)[b3.length+(j+1 - 1)]? =_;rw[avO (by rw[aQ.len];omega),aQ.len,show b3.length+(j+1 - 1) - b3.length=j by omega]
         grind
       have sP:=PJ (YR mj Vt eF qh) uI;have cc:bF X.G (([if qK=1 then (.recv p.2 (iu X p.2 CS) ava:aT D) else if qK=2 then jn X uK outs (fB outs y) 0 else .dead]:List (aT D))++eB X outs (fB outs y)) cZ m bz (au6 b) ([.pointer (au6 ⟨b,0,au8⟩)]++dJ):=cc;have bL:=cc.obj 0 _ (.pointer (au6 ⟨b,0,au8⟩)) rfl rfl;have apart:∀(j:Nat) (o':aT D),j≠i->b3[j]? =au6 o'->o'.live=au7->∀v,vs[j]? =au6 v->eE (dz v) (au6 b):=fun j o' ES aZ az v ab=>aQ.fa j i o' o v _ ES aZ ao az lh ab eA;have On:∀(j:Nat) (o':aT D) (v:au9),b3[j]? =au6 o'->vs[j]? =au6 v->o'.live=au7->∀c,dz v=au6 c->c<m.next:=fun j o' v ao ab az c ai=>((aQ.obj j o' v ao ab).lt az c ai).1;have fin:∀{q3:List (aT D)},Inv b3 q3->bF X.G q3 cZ e bz k vs->(∀(j:Nat) (o':aT D) (v:au9),q3[j]? =au6 o'->vs[j]? =au6 v->o'.live=au7->∀c,dz v=au6 c->c<m.next)->K dh (q3++mkOr X (uS i b3.length) outs (fB outs y))=au6 r->dk X O z e k vs K r (pack ((kE l3 k0).map hx)) bz:=by intro q3 ad1 ap bS fH;exact ⟨cZ,vs++dJ,dh,_,(eU.trans ad1).trans (Inv.app _ _),aU.trans (b6.yp ay.aL.next),iZ,after aQ ap cc rfl mj bS qh,sP.1,fH⟩
       have mY:∀{wZ:aT D},wZ.lR=au7->(∀v,vs[i]? =au6 v->gD X.G cZ e bz k vs wZ v)->K dh (b3.set i wZ++mkOr X (uS i b3.length) outs (fB outs y))=au6 r->dk X O z e k vs K r (pack ((kE l3 k0).map hx)) bz:=by
        intro wZ aw ap fH;refine fin (Inv.set b3 i (.inr aw)) (aQ.call b6 s2 s1 (by simp) fun j o' aZ=> ?_) (fun j o' v aZ ab az c ai=> ?_) fH
        ·grind
        grind
       refine ⟨he,_,by grind,sP.2, ?_,fun bd=>absurd bd (by simp[fm.quiet]),au6 b,s2.MD, .inr ⟨i,Xf aj,_,eA,rfl⟩⟩;split at h
       ·rename_i rh;rw[if_neg (by omega),if_pos rh] at bL;split at h
        ·rename_i t cs w hu;obtain ⟨aw,h⟩:=fT h;rcases rJ (X:=X) (aJ:=outs) (x:=fB outs y) (j:=0) with aO|⟨_,bQ,a',_,aO⟩
         ·grind
         ·cases bQ with
          |recv ec=>
           have aO:=aO uK;have yP:=aO;rw[hu] at aO;simp only[bW.gn] at aO;cases aO;subst aw;rw[yP] at bL;refine mY ?_ (fun v ab=> ?_) h
           ·unfold CP;split<;>rfl
           grind
          |_=>rw[aO] at hu;cases hu
        grind
       ·obtain ⟨NI,h⟩:=fT h;rw[if_pos NI] at bL;split at h
        ·rename_i nW;refine fin (Inv.refl b3) (aQ.call b6 s2 s1 rfl fun j o' aZ=> ?_) On h
         grind
        ·refine mY ?_ (fun v ab=> ?_) h
         ·unfold CP;split<;>rfl
         grind
      grind
     grind
    grind
  grind
 grind
structure q0 (D:Nat->Type) where
 d:fm D
 F:d.F
def fm.fits (X:ez P D) (d:fm D) (cq:List (aX D)) (O:List (aT D)):Bool:=
 avj cq.length d.np&&match pe (jX 0 cq) d.ins O with
 |some (j9,b3)=>(d.fx.all fun p=>sB [] p.2 (ei (jX 0 cq) p.1))&&(e0 X [] b3 d.ins j9 []).isSome
 |none=>ava
def Gl (X:ez P D):List (q0 D)->Nat->List (aX D)->List (aT D)->{af:Type}->(aX D->List (aT D)->Option af)->Option af|[],_,_,_,_,_=>au8|x::l,f,cq,O,_,K=>if (avj x.d.f f&&x.d.fits X cq O)=au7 then x.d.call X x.F cq O K else Gl X l f cq O K
def GS (X:ez P D):List (q0 D)->Nat->List (aX D)->List (aT D)->Bool|[],_,_,_=>ava|x::l,f,cq,O=>if (avj x.d.f f&&x.d.fits X cq O)=au7 then x.d.quiet else GS X l f cq O
structure jf (D:Nat->Type) where
 F:(f:Nat)->List (aX D)->List (aT D)->Bool
 hT:avf->Option avf->Option avf->Nat
 C:(f:Nat)->List (aX D)->List (aT D)->{af:Type}->(aX D->List (aT D)->Option af)->Option af
 W:(f:Nat)->Bool
def ez.fN (X:ez P D) (q:jf D):ez P D:={X with C:=q.C,F:=q.F,hT:=q.hT,W:=q.W}
def ez.with (X:ez P D) (l:List (q0 D)):ez P D:=X.fN ⟨GS X l,X.hT,Gl X l,X.W⟩
def ez.pc (X:ez P D) (f:avf->Option avf->Option avf->Nat):ez P D:=X.fN ⟨X.F,f,X.C,X.W⟩
theorem akw (l:jf D) (t:Nat):m1 (X.fN l) t=m1 X t:=by
 cases hL:X.I t with
 |none=>
  have aa:(X.fN l).I t=au8:=hL
  grind [m1]
 |some ti=>have aa:(X.fN l).I t=au6 ti:=hL;simp_all [m1]
theorem u9 (l:jf D) (t:Nat) (x:D t):iu (X.fN l) t x=iu X t x:=by
 cases hL:X.I t with
 |none=>
  have aa:(X.fN l).I t=au8:=hL
  grind [iu]
 |some ti=>have aa:(X.fN l).I t=au6 ti:=hL;simp_all [iu]
theorem tc (l:jf D) (t:Nat) (cs:List (bZ D)):lb (X.fN l) t cs=lb X t cs:=by
 cases hL:X.I t with
 |none=>
  have aa:(X.fN l).I t=au8:=hL
  grind [lb]
 |some ti=>have aa:(X.fN l).I t=au6 ti:=hL;simp_all [lb]
theorem Wq (l:jf D):∀(ts:List Nat) (x:uL D ts),rS (X.fN l) ts x=rS X ts x
 |[],_=>rfl
 |t::ts,x=>by show (t,iu (X.fN l) t x.1)::rS (X.fN l) ts x.2=(t,iu X t x.1)::rS X ts x.2;rw[Wq l ts x.2,u9 l t x.1]
theorem Wp (l:jf D):∀(ts:List Nat) (x:List (Nat×List (bZ D))),vh (X.fN l) ts x=vh X ts x
 |[],[]=>rfl
 |[],_::_=>rfl
 |_::_,[]=>rfl
 |t::ts,p::x=>by simp only[vh,Wp l ts x,tc]
theorem gr.Ou (l:jf D) (c:gr) (x:c.ty D):gr.mk (X.fN l) c x=gr.mk X c x:=by
 cases c with
 |fn f ts=>exact congrArg (aX.fn f) (Wq l ts x)
 |agg t=>exact congrArg (aX.agg t) (u9 l t x)
 |g4 t=>exact congrArg (fun cs=>aX.g4 t cs 0) (u9 l t x)
 |_=>rfl
theorem gr.EC (l:jf D) (c:gr) (s:aX D):gr.get (X.fN l) c s=gr.get X c s:=by
 unfold gr.get;split
 ·rfl
 ·rfl
 ·rfl
 ·rfl
 ·rfl
 ·rfl
 ·rfl
 ·grind [tc]
 ·grind [tc]
 ·grind [Wp]
 ·rfl
 rfl
theorem bW.Fp (l:jf D) (cm:Nat->Nat) (c:bW) (x:c.ty D) (w:Bool):bW.gn (X.fN l) cm c x w=bW.gn X cm c x w:=by
 cases c with
 |box t=>exact congrArg (fun cs=>aT.box t cs ava w) (u9 l t x)
 |recv t=>exact congrArg (fun cs=>aT.recv t cs w) (u9 l t x)
 |bG t p=>exact congrArg (fun cs=>aT.box t (oN cm p 0 cs) ava w) (u9 l t x)
 |_=>rfl
theorem bW.Ou (l:jf D) (c:bW) (x:c.ty D) (w:Bool):bW.mk (X.fN l) c x w=bW.mk X c x w:=bW.Fp l _ c x w
theorem bW.EC (l:jf D) (bp:List Nat) (c:bW) (o:aT D):bW.get (X.fN l) bp c o=bW.get X bp c o:=by
 unfold bW.get;split
 ·rfl
 ·grind [tc]
 ·grind [tc]
 ·rfl
 ·rfl
 ·grind [akw,tc]
 ·rfl
 ·rfl
 rfl
theorem ajB (l:jf D) (t:Nat) (o:Option (aT D)):xD (X.fN l) t o=xD X t o:=by
 unfold xD;split
 ·rw[tc]
 ·rw[tc]
 rfl
theorem zH (l:jf D) {fS:List Nat}:∀(aJ:List dq) (j9:List (aX D)) (bp:List Nat),e0 (X.fN l) fS O aJ j9 bp=e0 X fS O aJ j9 bp
 |[],_,[]=>rfl
 |[],_,_::_=>by rfl
 | .v _ _::_,[],_=>by rfl
 | .o _ _::_,[],_=>by rfl
 | .u _ _::_,[],_=>by rfl
 | .v d c::aJ,s::j9,bp=>by simp only[e0,gr.EC,zH l aJ j9 bp]
 | .o d c::aJ,s::j9,[]=>rfl
 | .o d c::aJ,s::j9,i::bp=>by simp only[e0,bW.EC,zH l aJ j9 bp]
 | .u d c::aJ,s::j9,bp=>by simp only[e0,bW.EC,zH l aJ j9 bp]
theorem Pp (l:jf D):∀(aJ:List dq) (x:eD D aJ),eB (X.fN l) aJ x=eB X aJ x
 |[],_=>rfl
 | .v d c::aJ,x=>Pp l aJ x.2
 | .u d c::aJ,x=>Pp l aJ x.2
 | .o d c::aJ,x=>by
  show bW.mk (X.fN l) c x.1 ava::eB (X.fN l) aJ x.2=bW.mk X c x.1 ava::eB X aJ x.2;rw[Pp l aJ x.2]
  grind [bW.Ou]
theorem xg (l:jf D) {cm:Nat->Nat}:∀(aJ:List dq) (x:eD D aJ),mkOr (X.fN l) cm aJ x=mkOr X cm aJ x
 |[],_=>rfl
 | .v d c::aJ,x=>xg l aJ x.2
 | .u d c::aJ,x=>xg l aJ x.2
 | .o d c::aJ,x=>by
  show bW.gn (X.fN l) cm c x.1 ava::mkOr (X.fN l) cm aJ x.2=bW.gn X cm c x.1 ava::mkOr X cm aJ x.2;rw[xg l aJ x.2]
  grind [bW.Fp]
theorem xd (l:jf D):∀(aJ:List dq) (x:eD D aJ),gz (X.fN l) aJ x=gz X aJ x
 |[],_=>rfl
 | .v d c::aJ,x=>by
  show (d,gr.mk (X.fN l) c x.1)::gz (X.fN l) aJ x.2=(d,gr.mk X c x.1)::gz X aJ x.2;rw[xd l aJ x.2]
  grind [gr.Ou]
 | .u d c::aJ,x=>xd l aJ x.2
 | .o d c::aJ,x=>xd l aJ x.2
theorem zr (l:jf D) {cm:Nat->Nat}:∀(aJ:List dq) (x:eD D aJ) (j:Nat),jn (X.fN l) cm aJ x j=jn X cm aJ x j
 |[],_,_=>rfl
 | .v d c::aJ,x,j=>zr l aJ x.2 j
 | .u d c::aJ,x,j=>by
  show (if avj d j=au7 then bW.gn (X.fN l) cm c x.1 au7 else jn (X.fN l) cm aJ x.2 j)=(if avj d j=au7 then bW.gn X cm c x.1 au7 else jn X cm aJ x.2 j);rw[zr l aJ x.2 j]
  grind [bW.Fp]
 | .o d c::aJ,x,j=>zr l aJ x.2 j
theorem WY (l:jf D) (d:fm D) (F:d.F) (cq:List (aX D)) (O:List (aT D)) {af:Type} (K:aX D->List (aT D)->Option af):d.call (X.fN l) F cq O K=d.call X F cq O K:=by
 obtain ⟨f,np,ins,fx,jb,qK,outs,e8,eC,flat⟩:=d;unfold fm.call;dsimp only;simp only[zH];cases jb with
 |none=>simp_all [GR,xd,xg]
 |some p=>simp only[GR,xd,xg,zr,ajB,u9]
theorem h6.pc {f:avf->Option avf->Option avf->Nat} (h:h6 X):h6 (X.pc f):=h
theorem ix.pc {f:avf->Option avf->Option avf->Nat} {d:fm D} {F:d.F} (h:ix (X.pc f) d F):ix X d F:=by
 intro cq O af K r z e m k vs args ay cU ai;rw[<-WY ⟨X.F,f,X.C,X.W⟩] at ai;exact h cq O K r args ay cU ai
theorem WK {f:Nat} {cq:List (aX D)} {K:aX D->List (aT D)->Option af} {args:List au9} (ay:bF X.G O z e m k vs) (cU:br (rel X.G z vs) cq args):∀{l:List (q0 D)},(∀x∈l,ix X x.d x.F)->Gl X l f cq O K=au6 r->hs P f args.toArray m fun v m'=>dk X O z e k vs K r v m'/\(GS X l f cq O=au7->m'=m)/\∃q,gh m m' q/\nN vs (pD cq) q
 |[],_,ai=>by cases ai
 |x::l,h,ai=>by
  unfold Gl at ai;unfold GS;split at ai
  ·rename_i ae;rw[if_pos ae];simp only[avk] at ae;have:=avn ae.1;subst this;exact h x avX cq O K r args ay cU ai
  ·rename_i ae;rw[if_neg ae];exact WK ay cU (fun y aI=>h y (avE _ aI)) ai
theorem h6.of {l:List (q0 D)} (h:∀x∈l,ix X x.d x.F):h6 (X.with l):=by
 intro f cq O af K r z e m k vs args ay cU ai;exact (WK (X:=X) ay cU h ai).mono fun v m' bL=>⟨bL.1,bL.2.1,fun _=>bL.2.2⟩
theorem aiG {l:List (q0 D)} {x:q0 D} (h:ix X x.d x.F) (az:∀y∈l,ix X y.d y.F):∀y∈x::l,ix X y.d y.F:=by
 grind
end
end
end Go.av
end
section
namespace Go.av
inductive LT:Type 1 where
 |int (k:IntKind)|bool|str
 |ad (aA:Type) (T:ct aA)
 |mp (aA bO:Type) (M:nI aA bO)
 |fn
def LT.ty:LT->Type| .int _=>Int| .bool=>Bool| .str=>List UInt8| .ad aA _=>List aA| .mp aA bO _=>List (aA×bO)| .fn=>Option Nat
def UA:Option Nat->au9|none=> .nilFunc|some n=> .func (.func n) #[] #[]
def LT.rd (z:Nat->bo):(l:LT)->l.ty->au9->Prop| .int k,n,v=>v= .int k n| .bool,b,v=>v= .bool b| .str,s,v=>v=av.str s| .ad _ T,xs,v=>eu T z xs v| .mp _ _ M,es,v=>lY M z es v| .fn,o,v=>v=UA o
def iz:List LT->Type|[]=>Unit|l::ls=>l.ty×iz ls
def hb (z:Nat->bo):(ls:List LT)->iz ls->List au9->Prop|[],_,[]=>True|l::ls,x,v::vs=>l.rd z x.1 v/\hb z ls x.2 vs|_,_,_=>False
theorem PI {z:Nat->bo}:∀{ls:List LT} {x:iz ls} {cs:List au9},hb z ls x cs->cs.length=ls.length
 |[],_,[],_=>rfl
 |l::ls,x,v::vs,h=>by simp[PI h.2]
 |[],_,_::_,h=>h.elim
 |_::_,_,[],h=>h.elim
theorem XC {z z':Nat->bo} (a4:eR z z'):∀{ls:List LT} {x:iz ls} {cs:List au9},hb z ls x cs->hb z' ls x cs
 |[],_,[],_=>trivial
 |l::ls,x,v::vs,h=>⟨by
  have U:=h.1;cases l with
  |ad aA T=>exact eu.mono a4 U
  |mp aA bO M=>exact lY.mono U a4
  |_=>exact U,XC a4 h.2⟩
 |[],_,_::_,h=>h.elim
 |_::_,_,[],h=>h.elim
theorem YM {z:Nat->bo}:∀{ls:List LT} {x:iz ls} {cs:List au9},hb z ls x cs->∀c∈cs,storable c=au7/\c.cells=#[c]
 |[],_,[],_,c,ai=>by grind
 |l::ls,x,v::vs,h,c,ai=>by
  rcases avu.1 ai with rfl|ai
  ·have U:=h.1;cases l with
   |ad aA T=>obtain ⟨a,c,rfl⟩:=eu.len U;exact ⟨rfl,rfl⟩
   |mp aA bO M=>rcases U with ⟨rfl,_⟩|⟨r,rfl,_⟩<;>exact ⟨rfl,rfl⟩
   |fn=>obtain ⟨x,y⟩:=x;cases x<;>(obtain rfl:=U;exact ⟨rfl,rfl⟩)
   |_=>obtain rfl:=U;exact ⟨rfl,rfl⟩
  ·exact YM h.2 c ai
 |[],_,_::_,h,_,_=>h.elim
 |_::_,_,[],h,_,_=>h.elim
def fW (t:TypeId) (ls:List LT) {aA:Type} (to:aA->iz ls):ct aA where
 a7:=ls.length
 tid:=t
 rd:=fun z x cs=>hb z ls (to x) cs
 len:=fun _ _ _ h=>PI h
 mono:=fun _ _ a4 _ _ h=>XC a4 h
 one:=fun _ _ _ h=>YM h
noncomputable section
inductive iN where
 |int (k:IntKind)|bool|str
 |ad (e:Nat)
 |mp (t bi bg:Nat)
 |fn
section
variable {P:avd} {D:Nat->Type} (G:mA D)
def Ev:Option Nat->bZ D|none=> .uR|some n=> .fn n []
def iN.lt:iN->LT| .int k=> .int k| .bool=> .bool| .str=> .str| .ad e=> .ad (D e) (G.T e)| .mp t bi bg=> .mp (D bi) (D bg) (G.M t bi bg)| .fn=> .fn
def hB:List iN->List LT|[]=>[]|c::cs=>c.lt G::hB cs
def iS:(ls:List iN)->iz (hB G ls)->List (bZ D)|[],_=>[]| .int k::ls,x=> .int k x.1::iS ls x.2| .bool::ls,x=> .bool x.1::iS ls x.2| .str::ls,x=> .str x.1::iS ls x.2| .ad e::ls,x=> .ad e x.1::iS ls x.2| .mp t bi bg::ls,x=> .mp t bi bg x.1::iS ls x.2| .fn::ls,x=>Ev x.1::iS ls x.2
def iv:(ls:List iN)->List (bZ D)->Option (iz (hB G ls))
 |[],[]=>au6 ()
 | .int k::ls, .int cM n::cs=>if cM=k then (match iv ls cs with|some y=>au6 (n,y)|none=>au8) else au8
 | .bool::ls, .bool b::cs=>(match iv ls cs with|some y=>au6 (b,y)|none=>au8)
 | .str::ls, .str s::cs=>(match iv ls cs with|some y=>au6 (s,y)|none=>au8)
 | .ad e::ls, .ad b2 xs::cs=>if h:b2=e then (match iv ls cs with|some y=>au6 ((h▸xs:List (D e)),y)|none=>au8) else au8
 | .ad e::ls, .g2::cs=>(match iv ls cs with|some y=>au6 (([]:List (D e)),y)|none=>au8)
 | .mp t bi bg::ls, .mp ec hN hP es::cs=>if h:hN=bi/\hP=bg then (if ec=t then (match iv ls cs with|some y=>au6 ((h.1▸h.2▸es:List (D bi×D bg)),y)|none=>au8) else au8) else au8
 | .mp t bi bg::ls, .py::cs=>(match iv ls cs with|some y=>au6 (([]:List (D bi×D bg)),y)|none=>au8)
 | .fn::ls, .uR::cs=>(match iv ls cs with|some y=>au6 ((au8:Option Nat),y)|none=>au8)
 | .fn::ls, .fn n []::cs=>(match iv ls cs with|some y=>au6 ((au6 n:Option Nat),y)|none=>au8)
 |_,_=>au8
variable {G}
theorem aqw {z:Nat->bo} {vs:List au9} {o:Option Nat} {v:au9} (h:v=UA o):dK G z vs (Ev o) v:=by
 cases o with
 |none=>exact h
 |some n=>exact ⟨[],h,trivial⟩
theorem vi {z:Nat->bo} {vs:List au9}:∀{ls:List iN} {x:iz (hB G ls)} {cs:List au9},hb z (hB G ls) x cs->br (dK G z vs) (iS G ls x) cs
 |[],_,[],_=>trivial
 | .int k::ls,x,v::w,h=>⟨h.1,vi h.2⟩
 | .bool::ls,x,v::w,h=>⟨h.1,vi h.2⟩
 | .str::ls,x,v::w,h=>⟨h.1,vi h.2⟩
 | .ad e::ls,x,v::w,h=>⟨h.1,vi h.2⟩
 | .mp t bi bg::ls,x,v::w,h=>⟨h.1,vi h.2⟩
 | .fn::ls,x,v::w,h=>⟨aqw h.1,vi h.2⟩
 | .mp _ _ _::_,_,[],h=>h.elim
 | .fn::_,_,[],h=>h.elim
 |[],_,_::_,h=>h.elim
 | .int _::_,_,[],h=>h.elim
 | .bool::_,_,[],h=>h.elim
 | .str::_,_,[],h=>h.elim
 | .ad _::_,_,[],h=>h.elim
theorem th:∀{ls:List iN} (x:iz (hB G ls)),iv G ls (iS G ls x)=au6 x
 |[],_=>rfl
 | .int k::ls,x=>by show (if k=k then (match iv G ls (iS G ls x.2) with|some y=>au6 (x.1,y)|none=>au8) else au8)=_;rw[th x.2,if_pos rfl];rfl
 | .bool::ls,x=>by show (match iv G ls (iS G ls x.2) with|some y=>au6 (x.1,y)|none=>au8)=_;rw[th x.2];rfl
 | .str::ls,x=>by show (match iv G ls (iS G ls x.2) with|some y=>au6 (x.1,y)|none=>au8)=_;rw[th x.2];rfl
 | .ad e::ls,x=>by show (if h:e=e then (match iv G ls (iS G ls x.2) with|some y=>au6 ((h▸x.1:List (D e)),y)|none=>au8) else au8)=_;rw[th x.2,dif_pos rfl];rfl
 | .mp t bi bg::ls,x=>by show (if h:bi=bi/\bg=bg then (if t=t then (match iv G ls (iS G ls x.2) with|some y=>au6 ((h.1▸h.2▸x.1:List (D bi×D bg)),y)|none=>au8) else au8) else au8)=_;rw[th x.2,dif_pos ⟨rfl,rfl⟩,if_pos rfl];rfl
 | .fn::ls,(au8,y)=>by show (match iv G ls (iS G ls y) with|some y=>au6 ((au8:Option Nat),y)|none=>au8)=_;rw[th y];rfl
 | .fn::ls,(au6 n,y)=>by show (match iv G ls (iS G ls y) with|some y=>au6 ((au6 n:Option Nat),y)|none=>au8)=_;rw[th y];rfl
theorem aq3 {z:Nat->bo} {vs:List au9}:∀{ls:List iN} {cs:List (bZ D)} {x:iz (hB G ls)} {ds:List au9},iv G ls cs=au6 x->br (dK G z vs) cs ds->hb z (hB G ls) x ds:=by
 intro ls;induction ls with
 |nil=>
  intro cs x ds h aE;cases cs with
  |nil=>cases ds with
   |nil=>trivial
   |cons _ _=>exact aE.elim
  |cons c cs=>cases h
 |cons l ls ar=>
  intro cs x ds h aE;cases cs with
  |nil=>cases l<;>cases h
  |cons c cs=>
   cases ds with
   |nil=>exact aE.elim
   |cons d ds=>
    obtain ⟨U,aa⟩:=aE;have fin:∀{aA:Type} {f:iz (hB G ls)->aA} {o:Option (iz (hB G ls))} {r:aA},(match o with|some y=>au6 (f y)|none=>au8)=au6 r->∃y,o=au6 y/\r=f y:=by
     grind
    cases l with
    |int k=>
     cases c with
     |int cM n=>obtain ⟨au,h⟩:=fT (aA:=iz (hB G (.int k::ls))) h;subst au;obtain ⟨y,aI,rfl⟩:=fin h;exact ⟨U,ar aI aa⟩
     |_=>cases h
    |bool=>
     cases c with
     |bool n=>obtain ⟨y,aI,rfl⟩:=fin h;exact ⟨U,ar aI aa⟩
     |_=>cases h
    |str=>
     cases c with
     |str n=>obtain ⟨y,aI,rfl⟩:=fin h;exact ⟨U,ar aI aa⟩
     |_=>cases h
    |ad t=>
     cases c with
     |ad b2 xs=>
      by_cases au:b2=t
      ·subst au;have h:(if h:b2=b2 then (match iv G ls cs with|some y=>au6 ((h▸xs:List (D b2)),y)|none=>au8) else au8)=au6 x:=h;rw[dif_pos rfl] at h;obtain ⟨y,aI,rfl⟩:=fin h;exact ⟨U,ar aI aa⟩
      grind [iv]
     |g2=>obtain ⟨y,aI,rfl⟩:=fin h;exact ⟨.inl ⟨U,rfl⟩,ar aI aa⟩
     |_=>cases h
    |mp t bi bg=>
     cases c with
     |mp ec hN hP es=>
      by_cases au:hN=bi/\hP=bg
      ·obtain ⟨rfl,rfl⟩:=au;have h:(if h:hN=hN/\hP=hP then (if ec=t then (match iv G ls cs with|some y=>au6 ((h.1▸h.2▸es:List (D hN×D hP)),y)|none=>au8) else au8) else au8)=au6 x:=h;rw[dif_pos ⟨rfl,rfl⟩] at h;obtain ⟨au,h⟩:=fT h;subst au;obtain ⟨y,aI,rfl⟩:=fin h;exact ⟨U,ar aI aa⟩
      grind [iv]
     |py=>obtain ⟨y,aI,rfl⟩:=fin h;exact ⟨.inl ⟨U,rfl⟩,ar aI aa⟩
     |_=>cases h
    |fn=>
     cases c with
     |uR=>obtain ⟨y,aI,rfl⟩:=fin h;exact ⟨U,ar aI aa⟩
     |fn n is=>
      cases is with
      |nil=>
       obtain ⟨y,aI,rfl⟩:=fin h;obtain ⟨gs,aU,aQ⟩:=U;cases gs with
       |nil=>exact ⟨aU,ar aI aa⟩
       |cons _ _=>exact aQ.elim
      |cons _ _=>cases h
     |_=>cases h
theorem aif:∀{ls:List iN} {cs:List (bZ D)} {x:iz (hB G ls)},iv G ls cs=au6 x->oh cs (iS G ls x):=by
 intro ls;induction ls with
 |nil=>
  intro cs x h;cases cs with
  |nil=>trivial
  |cons c cs=>cases h
 |cons l ls ar=>
  intro cs x h;cases cs with
  |nil=>cases l<;>cases h
  |cons c cs=>
   have fin:∀{aA:Type} {f:iz (hB G ls)->aA} {o:Option (iz (hB G ls))} {r:aA},(match o with|some y=>au6 (f y)|none=>au8)=au6 r->∃y,o=au6 y/\r=f y:=by
    grind
   cases l with
   |int k=>
    cases c with
    |int cM n=>obtain ⟨au,h⟩:=fT (aA:=iz (hB G (.int k::ls))) h;subst au;obtain ⟨y,aI,rfl⟩:=fin h;exact ⟨fun _=>rfl,ar aI⟩
    |_=>cases h
   |bool=>
    cases c with
    |bool n=>obtain ⟨y,aI,rfl⟩:=fin h;exact ⟨fun _=>rfl,ar aI⟩
    |_=>cases h
   |str=>
    cases c with
    |str n=>obtain ⟨y,aI,rfl⟩:=fin h;exact ⟨fun _=>rfl,ar aI⟩
    |_=>cases h
   |ad t=>
    cases c with
    |ad b2 xs=>
     by_cases au:b2=t
     ·subst au;have h:(if h:b2=b2 then (match iv G ls cs with|some y=>au6 ((h▸xs:List (D b2)),y)|none=>au8) else au8)=au6 x:=h;rw[dif_pos rfl] at h;obtain ⟨y,aI,rfl⟩:=fin h;exact ⟨fun _=>rfl,ar aI⟩
     grind [iv]
    |g2=>obtain ⟨y,aI,rfl⟩:=fin h;exact ⟨fun h=>(by cases h),ar aI⟩
    |_=>cases h
   |mp t bi bg=>
    cases c with
    |mp ec hN hP es=>
     by_cases au:hN=bi/\hP=bg
     ·obtain ⟨rfl,rfl⟩:=au;have h:(if h:hN=hN/\hP=hP then (if ec=t then (match iv G ls cs with|some y=>au6 ((h.1▸h.2▸es:List (D hN×D hP)),y)|none=>au8) else au8) else au8)=au6 x:=h;rw[dif_pos ⟨rfl,rfl⟩] at h;obtain ⟨au,h⟩:=fT h;subst au;obtain ⟨y,aI,rfl⟩:=fin h;exact ⟨fun _=>rfl,ar aI⟩
     grind [iv]
    |py=>obtain ⟨y,aI,rfl⟩:=fin h;exact ⟨fun h=>(by cases h),ar aI⟩
    |_=>cases h
   |fn=>
    cases c with
    |uR=>obtain ⟨y,aI,rfl⟩:=fin h;exact ⟨fun _=>rfl,ar aI⟩
    |fn n is=>
     cases is with
     |nil=>obtain ⟨y,aI,rfl⟩:=fin h;exact ⟨fun _=>rfl,ar aI⟩
     |cons _ _=>cases h
    |_=>cases h
theorem Rb:∀{ls:List iN},(hB G ls).length=ls.length
 |[]=>rfl
 |l::ls=>by simp[hB,Rb]
def eW:List iN->List (bZ D)|[]=>[]| .int k::ls=> .int k 0::eW ls| .bool::ls=> .bool ava::eW ls| .str::ls=> .str []::eW ls| .ad _::ls=> .g2::eW ls| .mp _ _ _::ls=> .py::eW ls| .fn::ls=> .uR::eW ls
def nF:List iN->List au9|[]=>[]| .int k::ls=> .int k 0::nF ls| .bool::ls=> .bool ava::nF ls| .str::ls=> .string ⟨#[]⟩::nF ls| .ad _::ls=> .slice au8 0 0::nF ls| .mp _ _ _::ls=> .map au8::nF ls| .fn::ls=> .nilFunc::nF ls
theorem ve {z:Nat->bo} {vs:List au9}:∀{ls:List iN},br (dK G z vs) (eW ls:List (bZ D)) (nF ls)
 |[]=>trivial
 | .int k::ls=>⟨rfl,ve⟩
 | .bool::ls=>⟨rfl,ve⟩
 | .str::ls=>⟨rfl,ve⟩
 | .ad _::ls=>⟨rfl,ve⟩
 | .mp _ _ _::ls=>⟨rfl,ve⟩
 | .fn::ls=>⟨rfl,ve⟩
theorem s8:∀{ls:List iN} {x:iz (hB G ls)},(iS G ls x).all oK=au7
 |[],_=>rfl
 | .int k::ls,x=>by simp only[iS,av0,s8,oK,awT]
 | .bool::ls,x=>by simp only[iS,av0,s8,oK,awT]
 | .str::ls,x=>by simp only[iS,av0,s8,oK,awT]
 | .ad _::ls,x=>by simp only[iS,av0,s8,oK,awT]
 | .mp _ _ _::ls,x=>by simp only[iS,av0,s8,oK,awT]
 | .fn::ls,(au8,y)=>by simp only[iS,Ev,av0,s8,oK,awT]
 | .fn::ls,(au6 n,y)=>by simp only[iS,Ev,av0,s8,oK,List.isEmpty,awT]
def sc:(ls:List iN)->iz (hB G ls)|[]=>()| .int _::ls=>((0:Int),sc ls)| .bool::ls=>(ava,sc ls)| .str::ls=>(([]:List UInt8),sc ls)| .ad e::ls=>(([]:List (D e)),sc ls)| .mp _ bi bg::ls=>(([]:List (D bi×D bg)),sc ls)| .fn::ls=>((au8:Option Nat),sc ls)
theorem vE {z:Nat->bo}:∀(ls:List iN),hb z (hB G ls) (sc (G:=G) ls) (nF ls)
 |[]=>trivial
 | .int _::ls=>⟨rfl,vE ls⟩
 | .bool::ls=>⟨rfl,vE ls⟩
 | .str::ls=>⟨rfl,vE ls⟩
 | .ad _::ls=>⟨.inl ⟨rfl,rfl⟩,vE ls⟩
 | .mp _ _ _::ls=>⟨.inl ⟨rfl,rfl⟩,vE ls⟩
 | .fn::ls=>⟨rfl,vE ls⟩
theorem Px:∀(ls:List iN),(nF ls).all cP=au7/\(nF ls).length=ls.length
 |[]=>⟨rfl,rfl⟩
 |c::ls=>by have:=Px ls;cases c<;>exact ⟨by simp only[nF,av0,this.1];rfl,by simp only[nF,awh,this.2]⟩
def gl {t:Nat} (ls:List iN) (to:D t->iz (hB G ls)) (of:iz (hB G ls)->D t) (U:∀x,of (to x)=x) (aa:∀y,to (of y)=y) (i:TypeInfo)
  (iR:G.T t=fW t (hB G ls) to) (aj:P.info? t=au6 i) (b9:i.size=ls.length) (gF:(ls.length==0)=ava) (gY:avp i.bytes 32768=au7) (a4:i.zero=au6 (i.zero.getD undef)) (g1:(i.zero.getD undef).cells.toList=nF ls):dI P G t where
 pU:=eW ls
 pu:=fun z vs=>by rw[g1];exact ve
 Oo:=fun x=>s8
 kT:=fun x=>iS G ls (to x)
 oO:=fun cs=>match iv G ls cs with|some y=>au6 (of y)|none=>au8
 x0:=of (sc ls)
 i:=i
 cR:=i.zero.getD undef
 tid:=by rw[iR];rfl
 aj:=aj
 b9:=by rw[iR,b9];exact Rb.symm
 gF:=by rw[iR];show ((hB G ls).length==0)=ava;rw[Rb];exact gF
 gY:=gY
 a4:=a4
 db:=by rw[g1];exact (Px ls).1
 dV:=by rw[<-Array.length_toList,g1,(Px ls).2,b9]
 CQ:=fun z=>by rw[iR,g1];show hb z (hB G ls) (to (of (sc ls))) (nF ls);rw[aa];exact vE ls
 pN:=fun z vs x cs h=>by rw[iR] at h;exact vi h
 qx:=fun z vs cs x ds h aE=>by
  rw[iR];split at h
  ·rename_i y aI;cases h;show hb z (hB G ls) (to (of y)) ds;rw[aa];exact aq3 aI aE
  ·cases h
 OG:=fun x=>by show (match iv G ls (iS G ls (to x)) with|some y=>au6 (of y)|none=>au8)=au6 x;rw[th];exact congrArg au6 (U x)
 FD:=fun cs x h=>by
  split at h
  ·rename_i y aI;cases h;rw[aa];exact aif aI
  ·cases h
theorem ajt (u:UInt8):fp (u.toNat:Int)=au6 u:=by
 unfold fp;have:=u.toNat_lt;rw[if_pos (by omega)];simp
def asg {t:Nat} (to:D t->UInt8) (of:UInt8->D t) (VW:Option UInt8->Option (D t)) (NW:∀o,VW o=o.map of) (U:∀x,of (to x)=x) (aa:∀y,to (of y)=y) (i:TypeInfo) (ae3:(G.T t).tid=t) (rp:(G.T t).a7=1) (et:∀z x cs,(G.T t).rd z x cs↔cs=[.int .u8 (to x).toNat])
  (aj:P.info? t=au6 i) (b9:i.size=1) (gY:avp i.bytes 32768=au7) (a4:i.zero=au6 (.int .u8 0)):dI P G t where
 pU:=[.int .u8 0]
 pu:=fun z vs=>⟨rfl,trivial⟩
 Oo:=fun x=>rfl
 kT:=fun x=>[.int .u8 (to x).toNat]
 oO:=fun cs=>match cs with|[.int .u8 n]=>VW (fp n)|_=>au8
 x0:=of 0
 i:=i
 cR:= .int .u8 0
 tid:=ae3
 aj:=aj
 b9:=by rw[rp,b9]
 gF:=by rw[rp];rfl
 gY:=gY
 a4:=a4
 db:=rfl
 dV:=by rw[b9];rfl
 CQ:=fun z=>(et z _ _).2 (by rw[aa];rfl)
 pN:=fun z vs x cs h=>by rw[(et z x cs).1 h];exact ⟨rfl,trivial⟩
 qx:=fun z vs cs x ds h aE=>by
  split at h
  ·rename_i n;cases ds with
   |nil=>exact aE.elim
   |cons d ds=>
    cases ds with
    |cons _ _=>exact aE.2.elim
    |nil=>
     rw[NW] at h;cases hu:fp n with
     |none=>rw[hu] at h;cases h
     |some u=>rw[hu] at h;cases h;have:d= .int .u8 n:=aE.1;rw[this,Xm hu];exact (et z _ _).2 (by rw[aa])
  ·cases h
 OG:=fun x=>by simp only[ajt,NW,Option.map_some,U]
 FD:=fun cs x h=>by
  split at h
  ·rename_i n;rw[NW] at h;cases hu:fp n with
   |none=>rw[hu] at h;cases h
   |some u=>rw[hu] at h;cases h;rw[aa,Xm hu];exact oh.refl _
  ·cases h
def k9:(ls:List iN)->iz (hB G ls)->List au9|[],_=>[]| .int k::ls,x=> .int k x.1::k9 ls x.2| .bool::ls,x=> .bool x.1::k9 ls x.2| .str::ls,x=>av.str x.1::k9 ls x.2| .ad _::ls,x=>undef::k9 ls x.2| .mp _ _ _::ls,x=>undef::k9 ls x.2| .fn::ls,x=>undef::k9 ls x.2
def mo (P:avd):List Field->Nat->List iN->Bool
 |[],_,[]=>au7
 | f :: bm, i, .int _ :: ls => (f.offset == i && f.name != "_") && ((match P.underlying f.type with | au6 (.int _) => au7 | _ => ava) && mo P bm (i + 1) ls)
 | f :: bm, i, .bool :: ls => (f.offset == i && f.name != "_") && ((match P.underlying f.type with | au6 .bool => au7 | _ => ava) && mo P bm (i + 1) ls)
 | f :: bm, i, .str :: ls => (f.offset == i && f.name != "_") && ((match P.underlying f.type with | au6 .string => au7 | _ => ava) && mo P bm (i + 1) ls)
 |_,_,_=>ava
theorem FO:∀{bm:List Field} {i:Nat} {ls:List iN} {x y:iz (hB G ls)},mo P bm i ls=au7->p0 P bm i (k9 ls x) (k9 ls y)
 |[],_,[],_,_,_=>trivial
 |f::bm,i, .int k::ls,x,y,h=>by
  simp only[mo,avk,beq_iff_eq,bne_iff_ne] at h;obtain ⟨⟨U,aa⟩,ap,aN⟩:=h;refine ⟨U,aa, .inl ?_,FO aN⟩;split at ap
  ·exact ⟨k,_,_,_,‹_›,rfl,rfl⟩
  grind
 |f::bm,i, .bool::ls,x,y,h=>by
  simp only[mo,avk,beq_iff_eq,bne_iff_ne] at h;obtain ⟨⟨U,aa⟩,ap,aN⟩:=h;refine ⟨U,aa, .inr (.inl ?_),FO aN⟩;split at ap
  ·exact ⟨_,_,‹_›,rfl,rfl⟩
  grind
 |f::bm,i, .str::ls,x,y,h=>by
  simp only[mo,avk,beq_iff_eq,bne_iff_ne] at h;obtain ⟨⟨U,aa⟩,ap,aN⟩:=h;refine ⟨U,aa, .inr (.inr ?_),FO aN⟩;split at ap
  ·exact ⟨_,_,‹_›,rfl,rfl⟩
  grind
 |_::_,_, .ad _::_,_,_,h=>by cases h
 |_::_,_, .mp _ _ _::_,_,_,h=>by cases h
 |_::_,_, .fn::_,_,_,h=>by cases h
 |[],_,_::_,_,_,h=>by cases h
 |_::_,_,[],_,_,h=>by cases h
theorem Gg:∀{bm:List Field} {i:Nat} {ls:List iN} {x y:iz (hB G ls)},mo P bm i ls=au7->k9 ls x=k9 ls y->x=y
 |_,_,[],_,_,_,_=>rfl
 |f::bm,i, .int k::ls,x,y,h,e=>by simp only[mo,avk] at h;simp only[k9,List.cons.injEq] at e;exact Prod.ext (au9.int.inj e.1).2 (Gg h.2.2 e.2)
 |f::bm,i, .bool::ls,x,y,h,e=>by simp only[mo,avk] at h;simp only[k9,List.cons.injEq] at e;exact Prod.ext (au9.bool.inj e.1) (Gg h.2.2 e.2)
 |f::bm,i, .str::ls,x,y,h,e=>by simp only[mo,avk] at h;simp only[k9,List.cons.injEq] at e;exact Prod.ext (aqQ e.1) (Gg h.2.2 e.2)
 |_::_,_, .ad _::_,_,_,h,_=>by cases h
 |[],_, .ad _::_,_,_,h,_=>by cases h
 |[],_, .int _::_,_,_,h,_=>by cases h
 |[],_, .bool::_,_,_,h,_=>by cases h
 |[],_, .str::_,_,_,h,_=>by cases h
 |_::_,_, .mp _ _ _::_,_,_,h,_=>by cases h
 |_::_,_, .fn::_,_,_,h,_=>by cases h
 |[],_, .mp _ _ _::_,_,_,h,_=>by cases h
 |[],_, .fn::_,_,_,h,_=>by cases h
theorem GW {z:Nat->bo}:∀{bm:List Field} {i:Nat} {ls:List iN} {x:iz (hB G ls)} {ds:List au9},mo P bm i ls=au7->hb z (hB G ls) x ds->ds=k9 ls x
 |_,_,[],_,[],_,_=>rfl
 |_,_,[],_,_::_,_,h=>h.elim
 |f::bm,i, .int k::ls,x,d::ds,h,e=>by simp only[mo,avk] at h;have U:d= .int k x.1:=e.1;rw[k9,U,<-GW h.2.2 e.2]
 |f::bm,i, .bool::ls,x,d::ds,h,e=>by simp only[mo,avk] at h;have U:d= .bool x.1:=e.1;rw[k9,U,<-GW h.2.2 e.2]
 |f::bm,i, .str::ls,x,d::ds,h,e=>by simp only[mo,avk] at h;have U:d=av.str x.1:=e.1;rw[k9,U,<-GW h.2.2 e.2]
 |_::_,_, .ad _::_,_,_,h,_=>by cases h
 |_::_,_, .mp _ _ _::_,_,_,h,_=>by cases h
 |_::_,_, .fn::_,_,_,h,_=>by cases h
 |[],_,_::_,_,_,h,_=>by cases h
 |_::_,_, .int _::_,_,[],_,h=>h.elim
 |_::_,_, .bool::_,_,[],_,h=>h.elim
 |_::_,_, .str::_,_,[],_,h=>h.elim
def aiI {t:Nat} (ls:List iN) (to:D t->iz (hB G ls)) (of:iz (hB G ls)->D t) (U:∀x,of (to x)=x) (bm:Array Field) (eq:D t->D t->Bool) (iR:G.T t=fW t (hB G ls) to) (he:∀x y,eq x y=au7↔x=y)
  (aw:P.underlying t=au6 (.struct bm)) (aM:P.stoodInHeld t=ava) (a5:P.eqGuardType P.depth t=ava) (aC:mo P bm.toList 0 ls=au7):Me P G t where
 bm:=bm
 eq:=eq
 gB:=fun x=>k9 ls (to x)
 aw:=aw
 aM:=aM
 a5:=a5
 aC:=fun x y=>FO aC
 ab:=fun z x ds h=>by rw[iR] at h;exact GW aC h
 he:=fun x y=>by
  rw[he];constructor
  ·rintro rfl;rfl
  ·intro h;have:=Gg aC h;rw[<-U x,<-U y,this]
structure as1 (P:avd) (G:mA D) (bi:Nat) where
 dec:DecidableEq (D bi)
 K:o5 P bi (G.ee bi)
 uO:aX D->Option (D bi)
 NJ:∀z vs s a v,uO s=au6 a->rel G z vs s v->v=eb (dG P bi) (G.ee bi a)
structure as6 (P:avd) (G:mA D) (bg:Nat) where
 V:p3 P bg (G.ee bg)
 C0:bZ D->Option (D bg)
 r7:D bg->bZ D
 cd:D bg
 i:TypeInfo
 aj:P.info? bg=au6 i
 ae':dG P bg=ava
 a4:i.zero=au6 (eb ava (G.ee bg cd))
 Vx:∀z vs c a v,C0 c=au6 a->dK G z vs c v->v=eb ava (G.ee bg a)
 y6:∀z vs a,dK G z vs (r7 a) (eb ava (G.ee bg a))
theorem apA {X:ez P D} {B:Code} {u:lu D} {us:List (lu D)} (h:o6 X B u) (aC:∀v∈us,o6 X B v):∀v∈u::us,o6 X B v:=by
 grind
theorem aq2 {X:ez P D} {B:Code}:∀v∈([]:List (lu D)),o6 X B v:=by simp
theorem ix.law {X:ez P D} {d:fm D} {F:d.F} (dQ:ix X d F) {m:Mem} {z:Nat->bo} (a4:jI z m) (aO:∀b,m.next<=b->m.aS b= .dead) {cq:List (aX D)} {args:List au9} (cU:br (rel X.G z []) cq args)
  (h:d.call X F cq [] (fun dh _=>au6 dh)=au6 (.c (.bool au7))):hs P d.f args.toArray m fun v _=>v= .bool au7:=by
 have ay:bF X.G ([]:List (aT D)) z m m au8 []:=⟨dp.start a4 aO,rfl,by simp,by simp⟩
 refine (dQ cq [] (fun dh _=>au6 dh) _ args ay cU h).mono fun v m' ab=> ?_;obtain ⟨⟨z',vs',dh,bY,_,_,_,_,aE,fH⟩,_⟩:=ab;cases fH;exact aE
end
end
end Go.av
end
section
namespace Go.av
noncomputable section
section
variable {P:avd} {D:Nat->Type} {X:ez P D} {af:Type} {z z':Nat->bo} {e m m':Mem} {k:Option Nat} {vs vs':List au9} {fr:Nat->au9} {E:List (Nat×aX D)} {O bY:List (aT D)}
theorem F9 (l:jf D) {fS:List Nat}:∀(aJ:List dq) (x:eD D aJ) (bp:List Nat) (O:List (aT D)),lM (X.fN l) fS aJ x bp O=lM X fS aJ x bp O
 |[],_,_,_=>rfl
 | .o _ c::aJ,x,[],O=>rfl
 | .o _ c::aJ,x,i::bp,O=>by
  show lM (X.fN l) fS aJ x.2 bp (O.set i (bW.gn (X.fN l) (fun n=>fS.getD n 0) c x.1 (xu c O i)))=lM X fS aJ x.2 bp (O.set i (bW.gn X (fun n=>fS.getD n 0) c x.1 (xu c O i)));rw[F9 l aJ x.2 bp]
  grind [bW.Fp]
 | .v _ _::aJ,x,bp,O=>F9 l aJ x.2 bp O
 | .u _ _::aJ,x,bp,O=>F9 l aJ x.2 bp O
theorem WA (l:jf D) {cm:Nat->Nat} {bp ks:List Nat} {outs:List dq} {y:eD D outs}:∀(O:List (aT D)) (i:Nat),qH (X.fN l) cm bp ks outs y i O=qH X cm bp ks outs y i O
 |[],i=>rfl
 |o::O,i=>by simp only[qH,zr,WA l O (i+1)]
theorem ajC (l:jf D) (aJ:List dq) (fx:List (Nat×aX D)) (E:List (Nat×aX D)) (O:List (aT D)):qJ (X.fN l) aJ fx E O=qJ X aJ fx E O:=by
 grind [qJ,HU,zH,F9]
theorem XG (l:jf D) (p:hD D) (F:p.F) (E:List (Nat×aX D)) (O:List (aT D)) {af:Type} (K:eY->List (Nat×aX D)->List (aT D)->Option af):p.run (X.fN l) F E O K=p.run X F E O K:=by
 simp_all [Mp,xd,st,WA,xg,hD.run,hD.CT,ajC]
def zf:eY->eY| .normal=> .ret|ex=>ex
theorem ajW {ex:eY} (h:zf ex= .ret):ex= .normal\/ex= .ret:=by
 cases ex<;>first|grind|exact .inr rfl|cases h
structure fV (D:Nat->Type) where
 f:Nat
 np:Nat
 ins:List dq
 fx:List (Nat×aX D)
 ks:List Nat
 outs:List dq
 e8:List (Nat×aX D)
 eC:List Nat
 bl:Bool:=ava
def Ew (keep:List Nat) (i:Nat) (O:List (aT D)):List (aT D):=match O[i]? with|some (.box t cs ava w)=>if (!(keep.any (avj i))&&cs.all Zk)=au7 then O.set i (.box t cs au7 w) else O|_=>O
def Hg (keep:List Nat):Nat->List (aT D)->List (aT D)|0,O=>O|n+1,O=>Ew keep n (Hg keep n O)
theorem als {keep:List Nat} {i:Nat} (ay:bF X.G O z e m k vs):∃z',Inv O (Ew keep i O)/\dr e.next z z'/\bF X.G (Ew keep i O) z' e m k vs:=by
 unfold Ew;split
 ·rename_i t cs w ao;split
  ·rename_i ai;simp only[avk] at ai;obtain ⟨v,ab,cp⟩:=ay.at ao;have aey:=cp;obtain ⟨b,ds,rfl,_⟩:=aey;have il:vw O (.box i 0)=au6 ((t,cs),O.set i (.box t cs au7 w)):=by
    grind [vw]
   obtain ⟨z',bf,U,aa,_⟩:=Pe (X:=X) ay (s:= .box i 0) (g:= .pointer (au6 ⟨b,0,au8⟩)) ⟨b,ab,rfl⟩ il
   grind
  grind [Inv.refl,dr.refl]
 grind [Inv.refl,dr.refl]
theorem XR {keep:List Nat} (ay:bF X.G O z e m k vs):∀n:Nat,∃z',Inv O (Hg keep n O)/\dr e.next z z'/\bF X.G (Hg keep n O) z' e m k vs
 |0=>⟨z,Inv.refl _,dr.refl z,ay⟩
 |n+1=>by obtain ⟨b4,bf,U,aa⟩:=XR ay n;obtain ⟨cZ,eU,aU,aQ⟩:=als (keep:=keep) (i:=n) aa;exact ⟨cZ,bf.trans eU,U.trans aU,aQ⟩
def fV.pre (d:fV D) (cq:List (aX D)) (O:List (aT D)):List (aT D):=if d.bl=au7 then Hg (Qi O 100 (Zx (jX 0 cq)) []) O.length O else O
theorem fV.afM {d:fV D} {cq:List (aX D)} (ay:bF X.G O z e m k vs):∃z',Inv O (d.pre cq O)/\dr e.next z z'/\bF X.G (d.pre cq O) z' e m k vs:=by
 grind [fV.pre,XR,Inv.refl,dr.refl]
def fV.h2 (d:fV D):hD D:={path:=[],ins:=d.ins,fx:=d.fx,ks:=d.ks,iP:=[⟨.ret,d.outs,d.e8⟩],keep:=[]}
def af2:eY->Bool| .ret=>au7|_=>ava
variable (X) in
def fV.call (d:fV D) (F:d.h2.F) (cq:List (aX D)) (O:List (aT D)) {af:Type} (K:aX D->List (aT D)->Option af):Option af:=
 if avj cq.length d.np=au7 then d.h2.run X F (jX 0 cq) (d.pre cq O) fun ex E O=>if af2 ex=au7 then (match vF E d.eC with|some dh=>K dh O|none=>au8) else au8
 else au8
variable (X) in
def fV.fits (d:fV D) (cq:List (aX D)) (O:List (aT D)):Bool:=avj cq.length d.np&&(qJ X d.ins d.fx (iH d.ins (jX 0 cq) O).1 (iH d.ins (jX 0 cq) O).2).isSome
structure L6 (P:avd) (X:ez P D) (d:fV D) (F:d.h2.F):Prop where
 ex:∃fn c,P.funcs[d.f]? =au6 fn/\qC P fn c/\la P d.f=au7/\avp d.np fn.ntmps=au7/\fn.results.toList=d.eC.map .tmp/\d.h2.ot c=au7/\qW zf X c d.h2 F
def gQ (X:ez P D) (d:fV D) (F:d.h2.F):Prop:=∀(cq:List (aX D)) (O:List (aT D)) {af:Type} (K:aX D->List (aT D)->Option af) (r:af) {z:Nat->bo} {e m:Mem} {k:Option Nat} {vs:List au9} (args:List au9),
 bF X.G O z e m k vs->br (rel X.G z vs) cq args->d.call X F cq O K=au6 r->hs P d.f args.toArray m fun v m'=>dk X O z e k vs K r v m'
theorem YC {m:Mem}:∀(l:List Nat),oP P fr m (l.map .tmp) (l.map fr)
 |[]=>trivial
 |_::l=>⟨rfl,YC l⟩
theorem L6.call {d:fV D} {F:d.h2.F} (dQ:L6 P X d F):gQ X d F:=by
 intro cq O af K r z e m k vs args ay cU h;obtain ⟨fn,c,f1,f2,f3,f4,f5,f6,kb⟩:=dQ.ex;unfold fV.call at h;obtain ⟨hlen,h⟩:=fT h;have hlen:=avn hlen;have b9:args.toArray.size<=fn.ntmps:=by rw[List.size_toArray,<-cU.length,hlen];exact avq f4
 refine hs.any f1 f2 f3 b9 fun fr hq=> ?_;have a0:eP X z vs (jX 0 cq) fr:=F0 cU fun j v aZ=>by rw[avD];exact hq j v (by simpa using aZ)
 obtain ⟨au4,sY,iI,iV⟩:=fV.afM (d:=d) (cq:=cq) ay;have ag:=kb.w1 f6 (jX 0 cq) (d.pre cq O) _ r iV (a0.mono iI.le fun _ _ h=>h) h;rw[show sub c d.h2.path=c from qB c] at ag;refine ag.mono ?_;rintro ex cX bz ⟨b4,jz,h7,b3,bf,U,aa,ap,aN,bK⟩;obtain ⟨aE,bK⟩:=fT bK;have hex:zf ex= .ret:=by revert aE;cases zf ex<;>intro aE<;>first|rfl|cases aE
 split at bK
 ·rename_i dh uI;obtain ⟨b6,cc⟩:=PJ aN uI;exact ⟨ajW hex,_,by rw[f5];exact YC d.eC,cc,b4,jz,dh,b3,sY.trans bf,iI.trans U,aa,ap,b6,bK⟩
 ·cases bK
theorem gQ.base {q:jf D} {d:fV D} {F:d.h2.F} (h:gQ (X.fN q) d F):gQ X d F:=by
 intro cq O af K r z e m k vs args ay cU ai;have ai:d.call (X.fN q) F cq O K=au6 r:=by unfold fV.call at ai⊢;rw[XG];exact ai
 exact h cq O K r args ay cU ai
structure GE (D:Nat->Type) where
 d:fV D
 F:d.h2.F
def fV.Uk (d:fV D) (cq:List (aX D)) (O:List (aT D)):Bool:=avj ((iH d.ins (jX 0 cq) O).2.filter aT.live).length (gA d.ins)
variable (X) in
def T6 (l:List (GE D)) (d:fV D) (f:Nat) (cq:List (aX D)) (O:List (aT D)):Bool:=d.fits X cq O&&(d.Uk cq O|| !(l.any fun y=>avj y.d.f f&&(y.d.Uk cq O&&y.d.fits X cq O)))
variable (X) in
def EE:List (GE D)->Nat->List (aX D)->List (aT D)->{af:Type}->(aX D->List (aT D)->Option af)->Option af|[],f,cq,O,_,K=>X.C f cq O K|x::l,f,cq,O,_,K=>if (avj x.d.f f&&T6 X l x.d f cq O)=au7 then x.d.call X x.F cq O K else EE l f cq O K
variable (X) in
def EF:List (GE D)->Nat->List (aX D)->List (aT D)->Bool|[],f,cq,O=>X.F f cq O|x::l,f,cq,O=>if (avj x.d.f f&&T6 X l x.d f cq O)=au7 then ava else EF l f cq O
variable (X) in
def yC:List (GE D)->Nat->Bool|[],f=>X.W f|x::l,f=>avj x.d.f f||yC l f
def ez.gen (X:ez P D) (l:List (GE D)):ez P D:=X.fN ⟨EF X l,X.hT,EE X l,yC X l⟩
theorem Za (cf:h6 X) {f:Nat} {cq:List (aX D)} {K:aX D->List (aT D)->Option af} {r:af} {args:List au9} (ay:bF X.G O z e m k vs) (cU:br (rel X.G z vs) cq args):∀{l:List (GE D)},(∀x∈l,gQ X x.d x.F)->EE X l f cq O K=au6 r->
  hs P f args.toArray m fun v m'=>dk X O z e k vs K r v m'/\(EF X l f cq O=au7->m'=m)/\(yC X l f=ava->∃q,gh m m' q/\nN vs (pD cq) q)
 |[],_,ai=>cf f cq O K r args ay cU ai
 |x::l,h,ai=>by
  unfold EE at ai;unfold EF yC;split at ai
  ·rename_i ae;rw[if_pos ae];simp only[avk] at ae;have:=avn ae.1;subst this;refine (h x avX cq O K r args ay cU ai).mono fun v m' a1=>⟨a1,fun bL=>axQ bL,fun bL=> ?_⟩
   rw[ae.1] at bL;cases bL
  ·rename_i ae;rw[if_neg ae];refine (Za cf ay cU (fun y aI=>h y (avE _ aI)) ai).mono fun v m' a1=>⟨a1.1,a1.2.1,fun bL=>a1.2.2 ?_⟩
   cases ag:yC X l f with
   |false=>rfl
   |true=>rw[ag,Bool.or_true] at bL;cases bL
theorem h6.gen {l:List (GE D)} (cf:h6 X) (h:∀x∈l,gQ X x.d x.F):h6 (X.gen l):=by
 intro f cq O af K r z e m k vs args ay cU ai;exact Za (X:=X) cf ay cU h ai
theorem ix.fN {q:jf D} {d:fm D} {F:d.F} (h:ix (X.fN q) d F):ix X d F:=by
 intro cq O af K r z e m k vs args ay cU ai;rw[<-WY q] at ai;exact h cq O K r args ay cU ai
theorem gQ.up {q:jf D} {d:fV D} {F:d.h2.F} (h:gQ X d F):gQ (X.fN q) d F:=by
 intro cq O af K r z e m k vs args ay cU ai;have ai:d.call X F cq O K=au6 r:=by unfold fV.call at ai⊢;rw[XG] at ai;exact ai
 exact h cq O K r args ay cU ai
theorem h6.acY {bm:List (q0 D)} {l:List (GE D)} (cf:h6 (X.with bm)) (h:∀x∈l,gQ X x.d x.F):h6 ((X.with bm).gen l):=h6.gen cf fun x ae=>(h x ae).up
theorem alx:∀y∈([]:List (GE D)),gQ X y.d y.F:=by simp
theorem aj3 {l:List (GE D)} {x:GE D} (h:gQ X x.d x.F) (az:∀y∈l,gQ X y.d y.F):∀y∈x::l,gQ X y.d y.F:=by
 grind
end
end
end Go.av
end
section
namespace Go.av
noncomputable section
section
variable {P:avd} {D:Nat->Type} {bA:ez P D}
structure qZ (bA:ez P D) where
 X:ez P D
 ok:h6 X
 hW:∀{d:fm D} {F:d.F},ix X d F->ix bA d F
 Ur:∀{d:fV D} {F:d.h2.F},gQ X d F->gQ bA d F
def qZ.pc (E:qZ bA) (f:avf->Option avf->Option avf->Nat):qZ bA:=⟨E.X.pc f,h6.pc E.ok,fun h=>E.hW (ix.pc h),fun h=>E.Ur (gQ.base h)⟩
structure bV (bA:ez P D) where
 bm:List (q0 D)
 gs:List (GE D)
 ok:∀y∈bm,ix bA y.d y.F
 Na:∀y∈gs,gQ bA y.d y.F
def bV.nil:bV bA:=⟨[],[],by simp,alx⟩
def bV.ch (T:bV bA) (d:fm D) (F:d.F) (h:ix bA d F):bV bA:=⟨⟨d,F⟩::T.bm,T.gs,aiG (x:=⟨d,F⟩) h T.ok,T.Na⟩
def bV.ia (T:bV bA) (d:fV D) (F:d.h2.F) (h:gQ bA d F):bV bA:=⟨T.bm,⟨d,F⟩::T.gs,T.ok,aj3 (x:=⟨d,F⟩) h T.Na⟩
def bV.a8 (T:bV bA):qZ bA:=⟨(bA.with T.bm).gen T.gs,h6.acY (h6.of T.ok) T.Na,fun h=>ix.fN (ix.fN h),fun h=>gQ.base (gQ.base h)⟩
structure dB (E:qZ bA) (B:Code) where
 us:List (lu D)
 ok:∀u∈us,o6 E.X B u
variable {E:qZ bA} {B:Code}
def dB.nil:dB E B:=⟨[],aq2⟩
def dB.add (hT:dB E B) (p:hD D) (F:p.F) (h:o4 E.X B p F) (au:p.ot B=au7):dB E B:=⟨p.w1 E.X F::hT.us,apA (h.w1 au) hT.ok⟩
def dB.aL (hT:dB E B) (p:hD D) (F:p.F) (au:p.ot B=au7:=by kernel_rfl)
  (en:∀x,jO E.X hT.us calm au7 p.path.reverse (av.sub B p.path) (gz E.X p.ins x++p.fx) (eB E.X p.ins x) (r3 E.X (gA p.ins) p.ks p.iP)=F x:=by intro x;kernel_rfl):dB E B:=
 hT.add p F (o4.of E.ok (fun u h _=>hT.ok u h) en) au
def Zc:Code->Bool| .loop _=>au7|_=>ava
theorem aiW {B:Code} {p:List Nat} (h:Zc (av.sub B p)=au7):av.sub B p= .loop (av.sub B (p++[0])):=by
 rw[<-PL];cases ai:av.sub B p<;>rw[ai] at h<;>first|(cases h;done)|exact congrArg Code.loop (qB _).symm
def dB.b5 (hT:dB E B) (N:Nat) (p:hD D) (F:Nat->p.F) (au:(Zc (av.sub B p.path)&&p.ot B)=au7:=by kernel_rfl) (bf:∀x,F 0 x=au8:=by exact fun x=>rfl)
  (en:∀n x,jO E.X hT.us calm au7 (0::p.path.reverse) (av.sub B (p.path++[0])) (gz E.X p.ins x++p.fx) (eB E.X p.ins x) (Zv E.X p (F n))=F (n+1) x:=by intro n x;kernel_rfl):dB E B:=
 hT.add p (F N) (o4.loop E.ok (aiW (awJ.1 au).1) (awJ.1 au).2 (fun u h _=>hT.ok u h) bf en N) (awJ.1 au).2
def Hc (P:avd) (f np:Nat) (fn:Func):Bool:=fn.body.isSome&&(la P f&&avp np fn.ntmps)
theorem X8 {fn:Func} (h:fn.body.isSome=au7):fn.body=au6 (hO fn):=by
 unfold hO;cases ag:fn.body with
 |none=>grind
 |some c=>rfl
def fm.hf (P:avd) (d:fm D) (fn:Func):Bool:=Hc P d.f d.np fn&&(qF d.outs&&((d.fx.all fun p=>rY p.2)&&((d.e8.all fun p=>rY p.2)&&(d.fx.all fun p=>(CR p.2).isNone))))
theorem dB.fn {fn:Func} (hT:dB E (hO fn)) {d:fm D} {F:d.F} (bf:P.funcs[d.f]? =au6 fn) (U:d.hf P fn=au7:=by kernel_rfl) (aa:fn.results.toList=d.k0:=by exact rfl)
  (en:∀r x,jO E.X hT.us calm au7 [] (hO fn) (gz E.X d.ins x++(d.fx++tv d.jb)) (r2 E.X d.jb r) (aau E.X d)=F r x:=by intro r x;kernel_rfl):ix bA d F:=by
 unfold fm.hf Hc at U;simp only[avk] at U;obtain ⟨⟨cz,dw,ft⟩,hK,q5,p4,o8⟩:=U;exact E.hW (L5.call ⟨⟨fn,_,bf, .inl (X8 cz),dw,ft,aa,DJ.of E.ok (us:=hT.us) (fun u h _=>hT.ok u h) en⟩,hK,q5,p4,o8⟩)
def fV.hf (P:avd) (d:fV D) (fn:Func):Bool:=Hc P d.f d.np fn&&d.h2.ot (hO fn)
theorem dB.ic {fn:Func} (hT:dB E (hO fn)) {d:fV D} {F:d.h2.F} (bf:P.funcs[d.f]? =au6 fn) (U:d.hf P fn=au7:=by kernel_rfl) (aa:fn.results.toList=d.eC.map .tmp:=by exact rfl)
  (en:∀x,jO E.X hT.us calm au7 d.h2.path.reverse (av.sub (hO fn) d.h2.path) (gz E.X d.h2.ins x++d.h2.fx) (eB E.X d.h2.ins x) (fun ex=>r3 E.X (gA d.h2.ins) d.h2.ks d.h2.iP (zf ex))=F x:=by intro x;kernel_rfl):gQ bA d F:=by
 unfold fV.hf Hc at U;simp only[avk] at U;obtain ⟨⟨cz,dw,ft⟩,hK⟩:=U;exact E.Ur (L6.call ⟨⟨fn,_,bf, .inl (X8 cz),dw,ft,aa,hK,qW.of E.ok (us:=hT.us) (fun u h _=>hT.ok u h) en⟩⟩)
end
end
end Go.av
end
