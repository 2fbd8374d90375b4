import Derived.Test.YthaemjpmljdlgaaGreatDoorMb
set_option linter.unusedSimpArgs false
set_option linter.unusedVariables false
open Array renaming ext'->asB,toList_map->as6
open Bool renaming and_eq_true->arq,and_eq_true_iff->att,and_self->as3,noConfusion->aut,not_eq_true'->aso,or_eq_false_iff->auu,or_eq_true->asi,false->arj,true->arf
open Go renaming Operand->arm,Program->arl,TypeId->arn,Value->arh
open Go.Value renaming slice->ast
open Int renaming eq_ofNat_of_zero_le->ar8,toNat_natCast->asv
open List renaming all_cons->asb,all_eq_true->arz,eq_nil_of_length_eq_zero->asJ,ext_getElem?->as8,flatMap_cons->asl,getD->asG,getD_cons_succ->au7,getD_eq_getElem?_getD->atZ,getElem?_append->at5,getElem?_append_left->arQ,getElem?_append_right->arP,getElem?_cons_succ->asZ,getElem?_drop->asE,getElem?_eq_getElem->arX,getElem?_eq_none->atG,getElem?_eq_some_iff->arp,getElem?_map->ar4,getElem?_range->atD,getElem?_set->arY,getElem?_set_ne->atg,getElem?_take->asg,length_append->arJ,length_cons->arU,length_map->ar9,length_range->aud,length_replicate->atb,length_set->asK,length_take->asq,mem_append->arO,mem_cons->arA,mem_cons_of_mem->arK,mem_cons_self->arS,mem_filter->aua,mem_map->arC,mem_of_getElem?->arI,range->ar2,replicate->arL,reverse_reverse->au8
open Nat renaming add_assoc->arZ,add_mul->arW,add_zero->ar3,beq->aru,ble->arF,blt->ar5,blt_eq->at0,eq_of_beq_eq_true->arB,eq_zero_or_pos->auc,le_of_ble_eq_true->arG,le_refl->ars,le_succ->ar7,le_trans->arR,lt_of_lt_of_le->arT,lt_succ_of_lt->atT,one_mul->asS,zero_add->arE,zero_mul->asz
open Option renaming bind->ark,getD_some->asN,map_eq_some_iff->atH,map_some->asQ,some->arw,none->ari,some->are
section
namespace Go.aQ
section
variable {P:arl} {D:Nat->Type} {X:dk P D} {ae:Type} {z z':Nat->aV} {e m m':Mem} {k:Option Nat} {vs:List arh} {fr:Nat->arh} {E:List (Nat×aN D)} {O:List (aG D)} {o:Oper} {r:ae}
variable {x y:arm} {t u:arn} {K:aN D->List (aG D)->Option ae}
theorem G5 {bf:Option arm} {a:Int} (aP:∀x,rel X.G z vs (cj E x) (aL fr x)) (h:yX E bf=are a):yW (aL fr) bf a:=by
 cases bf with
 |none=>cases h;rfl
 |some y=>
  simp only[yX] at h;split at h
  ·rename_i kk n aq;cases h;have:=aP y;rw[aq] at this;exact ⟨kk,this⟩
  ·cases h
theorem GR {af:Option arm} {a:Int} {l:Nat} (aP:∀x,rel X.G z vs (cj E x) (aL fr x)) (h:zO E (l:Int) af=are a):zN (aL fr) af l a:=by
 cases af with
 |none=>cases h;rfl
 |some y=>
  simp only[zO] at h;split at h
  ·rename_i kk n aq;cases h;have:=aP y;rw[aq] at this;exact ⟨kk,this⟩
  ·cases h
theorem aif {a:aN D} {bf af:Option arm} (ag:o.op= .slice t x bf af ari) (au:bd X.G O z e m k vs) (aP:∀x,rel X.G z vs (cj E x) (aL fr x)) (ar:rel X.G z vs a (aL fr x)) (h:PL X t a E bf af O K=are r):bO P (aL fr) o m fun _ v m'=>cF X O z e k vs K r v m':=by
 unfold PL at h;split at h
 ·split at h
  ·rename_i s aZ bh ak dv cP;obtain ⟨q,aF,h⟩:=bind_some h;exact anU ag ak ar (G5 aP dv) (GR aP cP) aF (cF.here (sv:= .c (.str q)) au rfl h)
  ·cases h
 ·rename_i c BB;split at h
  ·rename_i aT xs bB ad;obtain ⟨bR,iS,kF,hn,ao⟩:=zC au ad ar;split at h
   ·rename_i e2 ti aZ bh ak cA dv cP;split at h
    ·rename_i di;subst di;obtain ⟨q,aF,h⟩:=bind_some h;refine afv (T:=X.G.T e2) ag (by rw[ti.tid];exact ak) (by rw[ti.tid];exact ti.af) ti.bu rfl (G5 aP dv) (GR aP cP) ao hn.aR aF fun bl I _ aq=> ?_;exact cF.from iS kF (cF.here (sv:= .c (.aE e2 q)) hn aq h)
    ·cases h
   ·cases h
  ·cases h
 ·cases h
theorem afM {al:Type} {T:cb al} {xs:List al} {v:arh} {bf af:Option arm} {a n:Nat} {i:TypeInfo} {ae:arm->arh} (h:o.op= .slice t x bf af ari) (ak:P.underlying t=are (.slice T.tid)) (da:P.info? T.tid=are i) (bu:i.size=T.aW) (U:ae x=v) (dv:oA ae bf a) (cP:lI ae af xs.length n)
  (aq:er T z m xs v) (ar:a<=n) (av:n<=xs.length):∃bl,(cm P ae o bl\/dX P ae o m bl)/\oL T.aW a n v bl:=by
 rcases aq with ⟨rfl,rfl⟩|⟨b,f0,L,c,rfl,g1,g2,g3,g4,g5,g6⟩
 ·have tR:n=0:=by simpa using av
  subst tR;obtain rfl:a=0:=by omega
  exact ⟨.slice ari 0 0, .inl (.k8 t x bf af T.tid i h ak da U dv cP), .inl ⟨rfl,rfl,rfl,rfl⟩⟩
 ·rcases g5 with rfl|⟨ad,h1,J⟩
  ·refine ⟨_, .inr (.slice t x bf af T.tid i L b f0 xs.length a n h ak da U g1 dv cP ar av (by rw[bu];exact g4)), .inr ⟨b,f0,xs.length,bT,_,bT,rfl,rfl,ar,av, .inl (by rw[bu]), .inl ⟨rfl,rfl⟩⟩⟩
  ·refine ⟨_, .inl (.slice t x bf af T.tid i b f0 xs.length c a n h ak da U (by simp only[bT] at ad⊢;omega) dv cP ar (by omega) (fun _=>trivial)), .inr ⟨b,f0,xs.length,c,_,_,rfl,rfl,ar,av, ?_, .inr ⟨ad,rfl⟩⟩⟩;by_cases jC:c=a
   ·exact .inr ⟨by omega,if_pos jC⟩
   ·exact .inl (by rw[if_neg jC,bu])
theorem ahC {a:aN D} {bf af:Option arm} (ag:o.op= .slice t x bf af ari) (au:bd X.G O z e m k vs) (aP:∀x,rel X.G z vs (cj E x) (aL fr x)) (ar:rel X.G z vs a (aL fr x)) (h:Py X t x a E bf af O K=are r):bO P (aL fr) o m fun _ v m'=>cF X O z e k vs K r v m':=by
 unfold Py at h;split at h
 ·rename_i nr;have aa:aL fr x= .slice ari 0 0:=by
   unfold Vs at nr;split at nr
   ·exact ar
   ·cases nr
  split at h
  ·rename_i aT p q ak dv cP;split at h
   ·rename_i ti cA;split at h
    ·rename_i az;simp only[arq,beq_iff_eq] at az;obtain ⟨rfl,rfl⟩:=az;exact bO.pure (.k8 t x bf af aT ti.i ag ak ti.af aa (G4 (n:=0) (G5 aP dv)) (GQ (n:=0) (GR (l:=0) aP cP))) (cF.here (sv:= .c .fH) au rfl h)
    ·cases h
   ·cases h
  ·cases h
 rename_i aef;split at h
 ·exact aif ag au aP ar h
 ·rename_i md aqt;split at h
  ·rename_i i;have ar:db X.G z vs (.own i) (aL fr x):=ar;split at h
   ·rename_i aT xs w e2 hO hu;split at h
    ·rename_i ti p q aeT dv cP;by_cases di:e2=aT
     case neg=>rw[if_neg di] at h;cases h
     rw[if_pos di] at h;subst di;obtain ⟨DB,ao,h⟩:=bind_some h;obtain ⟨iP,c1,c2,rfl⟩:=NZ ao;obtain ⟨p,rfl⟩:=ar8 iP;obtain ⟨q,rfl⟩:=ar8 (Int.le_trans iP c1);simp only[asv] at h;have bP:cO (X.G.T e2) z e m k xs (aL fr x):=au.obj i _ _ hO ar.1;obtain ⟨bl,h1,J⟩:=afM (T:=X.G.T e2) ag (by rw[ti.tid];exact hu) (by rw[ti.tid];exact ti.af) ti.bu rfl (G4 (G5 aP dv)) (GQ (GR aP cP)) bP.a7 (by omega) (by omega);have hk:cF X O z e k vs K r bl m:=by
      by_cases Mm:aru md 0=arf
      ·rw[if_pos Mm] at h;exact cF.here (sv:= .cut i e2 p q) au ⟨_,ar,J⟩ h
      ·rw[if_neg Mm] at h;have a7:cO (X.G.T e2) z e m k ((xs.take q).drop p) bl:=⟨J.Ni bP.a7,fun b ab=>bP.fresh b (by
        have l0:cT (aL fr x)=ck (aL fr x):=fz (by obtain ⟨a,c,ax⟩:=bP.a7.len;intro r;rw[ax];simp);have hN:cT bl=ck bl:=fz (by obtain ⟨a,c,ax⟩:=(J.Ni bP.a7).len;intro r;rw[ax];simp);rw[<-l0,<-J.ay,hN];exact ab)⟩
       have tH:cT bl=cT (aL fr x):=J.ay;have dh:=fun j so w cQ ap ai hw=>au.eu j i so _ w _ cQ ap hO ai rfl hw ar.1;exact ⟨z,vs++[bl], .c (.own O.length),O.set i .dead++[.aE e2 ((xs.take q).drop p) arj arj],(Inv.set O i (.inl rfl)).trans (Inv.push _ _),cz.refl z,ih,
        (au.kill i).push (q:=cT (aL fr x)) (o':= .aE e2 ((xs.take q).drop p) arj arj) ⟨ars _,au.aR.dead,fun _ _ _=>rfl⟩ au.aR (fun j p w ap hw ai=>by
         rw[arY] at ap;split at ap
         ·split at ap
          ·cases ap;cases ai
          ·cases ap
         ·rename_i cQ;exact dh j p w (fun e=>cQ e.symm) ap ai hw) a7 (fun p an kT=>by rw[tH];exact kT),mN au (by obtain ⟨a,c,ax⟩:=a7.a7.len;exact ⟨a,c,ax⟩),h⟩
     rcases h1 with h1|h1
     ·exact bO.VU (D:=fun _ v m'=>cF X O z e k vs K r v m') (I:=fun _=>True) h1 hk
     ·exact bO.read (D:=fun _ v m'=>cF X O z e k vs K r v m') h1 hk
    ·cases h
   ·cases h
  ·cases h
theorem ahD {y eI:arm} (ag:o.op= .slice t x ari (are y) (are eI)) (au:bd X.G O z e m k vs) (aP:∀x,rel X.G z vs (cj E x) (aL fr x)) (h:Pz X t (cj E x) (cj E y) (cj E eI) O K=are r):bO P (aL fr) o m fun _ v m'=>cF X O z e k vs K r v m':=by
 unfold Pz at h;have eA:∀{al:Type} {p:Prop} [Decidable p] {x:Option al} {r:al},(if p then x else ari)=are r->p/\x=are r:=by
  intro al p _ x r h;split at h
  ·exact ⟨‹_›,h⟩
  ·cases h
 split at h
 ·rename_i bp bm p br q ak an aF;have ah:=aP y;rw[an] at ah;have ah:aL fr y= .int bm p:=ah;have lu:=aP eI;rw[aF] at lu;have lu:aL fr eI= .int br q:=lu;have ar:=aP x;split at h
  ·rename_i c U;rw[U] at ar;split at h
   ·rename_i e2 xs bB aK;split at h
    ·rename_i ti cA;obtain ⟨he,h⟩:=eA h;subst he;obtain ⟨DB,ao,h⟩:=bind_some h;unfold ZS at ao;obtain ⟨adm,kX⟩:=eA ao;obtain ⟨az,h1,J,o1⟩:=adm;subst o1;cases kX;obtain ⟨bR,g0,g1,g2,g3⟩:=zC au aK ar;obtain ⟨n,rfl⟩:=ar8 az;have av:n<=xs.length:=by omega
     have UO:n<bT:=by simp only[bT];omega
     have key:∃v,cm P (aL fr) o v/\rel X.G bR vs (.full bp (xs.take n)) v:=by
      rcases (g3:dW (X.G.T bp) bR xs (aL fr x)) with ⟨aa,rfl⟩|⟨b,off,bg,aa,afs,aft,afu⟩
      ·have tR:n=0:=by simpa using av
       subst tR;exact ⟨_, .DF t x eI (are y) bp ti.i br ag ak ti.af aa ⟨y,bm,rfl,ah⟩ lu, .inl ⟨rfl,by simp⟩,by simp[bT],ari,by simp⟩
      ·have dB:(bg<bT/\n<=bg)\/(bg=bT/\n<=xs.length):=by
        rcases aft with ⟨ad,_⟩|⟨ad,ai⟩
        ·exact .inr ⟨ad,av⟩
        ·exact .inl ⟨ad,by omega⟩
       have hlen:(xs.take n).length=n:=by rw[asq];omega
       refine ⟨_, .slice3 t x eI (are y) bp ti.i b off xs.length bg n n br ag ak ti.af aa dB ⟨y,bm,rfl,ah⟩ lu (ars _), ?_⟩;refine ⟨.inr ⟨b,off,n,by rw[hlen],afs, .inr ⟨UO,by rw[hlen];exact ars _⟩,fun i a af=> ?_⟩,by rw[hlen];exact UO,are ⟨b,off,ari⟩,by rw[hlen]⟩;rw[asg] at af;split at af
       ·exact afu i a af
       ·cases af
     obtain ⟨v,aa,kX⟩:=key;exact bO.pure aa (cF.from g0 g1 (cF.here g2 kX h))
    ·cases h
   ·cases h
  ·cases h
 ·cases h
theorem ah6 {a:aN D} {v:arh} {t:Nat} {xs:List (D t)} (au:bd X.G O z e m k vs) (h:pk O a=are ⟨t,xs⟩) (aa:rel X.G z vs a v):dW (X.G.T t) z xs v\/cO (X.G.T t) z e m k xs v:=by
 unfold pk at h;split at h
 ·cases h;exact .inl aa
 ·split at h
  ·rename_i cS u5 a6 bD ag;cases h;have bP:=au.obj _ _ v ag aa.1;cases a6 with
   |true=>exact .inl bP
   |false=>exact .inr bP
  ·cases h
 ·cases h
theorem ahB {a:aN D} (ag:o.op= .convert u t x) (au:bd X.G O z e m k vs) (ar:rel X.G z vs a (aL fr x)) (h:Px X u t a O K=are r):bO P (aL fr) o m fun _ v m'=>cF X O z e k vs K r v m':=by
 unfold Px at h;split at h
 ·rename_i bm br hu ak;split at h
  ·exact ij au h (Z1 ag hu ak ar) rfl
  ·cases h
 ·rename_i fJ hu ak;split at h
  ·rename_i s kx dS;obtain ⟨cV,aq,h⟩:=bind_some h;refine akJ ag hu ak kx.hu kx.af kx.iS ar aq au.aR ?_;intro bl m' aR a7 oD dh;have sn:=kx.ab _ _ _ _ _ _ a7;have ab:cT bl=ck bl:=fz (by obtain ⟨a,c,rfl⟩:=a7.a7.len;intro r;simp);refine ⟨z,vs++[bl], .c (.own O.length),_,Inv.push O _,cz.refl z,ih,au.push (q:=ari) oD aR (fun _ _ _ _ _ _=>dV.qX) ?_ (fun p an _=>by rw[ab];exact dh p an), ?_,h⟩
   ·exact sn
   ·refine ⟨?_, ?_⟩
    ·rw[<-au.len];simp
    ·obtain ⟨a,c,rfl⟩:=a7.a7.len;exact ⟨rfl,rfl⟩
  ·cases h
 ·rename_i fJ hu ak;split at h
  ·rename_i bp xs kx ai dS;split at h
   ·rename_i he;subst he;rcases ah6 au ai ar with aq|aq
    ·exact anY ag hu kx.hu ak rfl (kx.ao _ _ _ aq) au.aR (cF.here (sv:= .c (.str (kx.to xs))) au rfl h)
    ·exact anX ag hu kx.hu ak rfl (kx.ag _ _ _ _ _ _ aq) (cF.here (sv:= .c (.str (kx.to xs))) au rfl h)
   ·cases h
  ·cases h
 ·cases h
theorem ahP {a:aN D} {ts:Array arn} (ag:o.op= .call {callee:= .builtin .len,args:=#[x],argTypes:=#[t]}) (au:bd X.G O z e m k vs) (ar:rel X.G z vs a (aL fr x)) (h:Qj (P:=P) t a O K=are r):bO P (aL fr) o m fun _ v m'=>cF X O z e k vs K r v m':=by
 unfold Qj at h;split at h
 ·rename_i s ak;exact ij au h (Z7 ag rfl ak ar) rfl
 ·rename_i fJ ak;have aa:aL fr x= .slice ari 0 0:=ar;exact ij au h (Hx (xs:=([]:List Int)) ag ak rfl ⟨ari,0,aa⟩) rfl
 ·rename_i fJ aqv ak;split at h
  ·rename_i aT xs ai;exact ij au h (Hx ag ak rfl (ag7 au ai ar)) rfl
  ·split at h
   ·split at h
    ·rename_i aT t1 up c8 hole w hO;obtain ⟨hu,ws,bP⟩:=au.obj _ _ _ hO ar.1;exact ij au h (Hx (xs:=c8) ag ak rfl (by obtain ⟨a,c,ax⟩:=bP.a7.a7.len;exact ⟨a,c,by rw[ax,bP.len]⟩)) rfl
    ·cases h
   ·split at h
    ·rename_i i aT bf af vN ara e2 xs bD hO;split at h
     ·rename_i he;subst he;obtain ⟨w,hw,ad⟩:=ar;have bP:cO _ z e m k xs w:=au.obj _ _ _ hO hw.1;obtain ⟨cr,c1,ai⟩:=bP.a7.len;refine ij au h (Hx (xs:=(xs.take af).drop bf) ag ak rfl ?_) rfl;rcases ad with ⟨_,aa,rfl,rfl⟩|⟨b,f0,l,c,off,bg,az,aa,h1,J,aj,aJ⟩
      ·exact ⟨ari,0,by rw[aa];simp⟩
      ·rw[ai] at az;cases az;exact ⟨_,bg,by rw[aa,List.length_drop,asq,Nat.min_eq_left J]⟩
     ·cases h
    ·cases h
   ·cases h
 ·cases h
theorem X1 {al:Type} {T:cb al} {Ar:Tag->arh->Mem->Prop} {xs a8:List al} {w:arh} {a:Option Addr} {ae:arm->arh} {i:TypeInfo} (h:o.op= .call {callee:= .builtin .append,args:=#[x,y],argTypes:=#[t,u]}) (ak:P.underlying t=are (.slice T.tid)) (af:P.info? T.tid=are i) {b1:arh} (gA:i.zero=are b1) (b3:b1.cells.toList.all b7=arf) (cZ:b1.cells.size=i.size)
  (bu:i.size=T.aW) (dt:(T.aW==0)=arj) (fW:arF i.bytes 32768=arf) (hu:(∃bp,P.underlying u=are (.slice bp))\/P.underlying u=are .string) (U:ae x= .slice a xs.length xs.length) (aq:Src T z m xs (.slice a xs.length xs.length)) (ah:ae y=w) (lz:Src T z m a8 w) (bL:a8.isEmpty=arj)
  (aR:cu z e m k) {r:List al} (ao:eh xs a8=are r)
  (hk:∀bl m',cu z e m' k->cO T z e m' k r bl->eX m m' ari->(∀p,(∀b,p=are b->b<m.next)->dV p (ck bl))->Ar .ev bl m'):bO P ae o m Ar:=by
 obtain ⟨kW,rfl⟩:=ss ao;simp only[mq] at kW;have fW:=arG fW;have an:0<T.aW:=by
  rcases auc T.aW with az|az;·rw[az] at dt;cases dt
  ·exact az
 obtain ⟨hlen,cs,kf,hv,dm⟩:=lz;obtain ⟨tO,os,hex,iT,qM⟩:=aq;have Bw:gB (ae y)=a8.length:=by rw[ah];exact hlen
 have oh:0<a8.length:=by cases a8 with
  |nil=>cases bL
  |cons _ _=>simp
 have hmul:(xs.length+a8.length)*i.bytes<=4294967296*32768:=Nat.mul_le_mul kW fW;have pN:z m.next= .dead:=by
  have aD:=aR.a6;cases fE:z m.next with
  |dead=>rfl
  |ro rd=>have:=(aD m.next (by rw[fE];simp)).2;omega
  |own L t=>have:=(aD m.next (by rw[fE];simp)).2;omega
  |map L t=>have:=(aD m.next (by rw[fE];simp)).2;omega
  |lock _ _ _ _=>have:=(aD m.next (by rw[fE];simp)).2;omega
 have aP:fM P (hR P 0) ae o m (.slice (are ⟨m.next,0,ari⟩) (xs.length+gB (ae y)) bT) (m.push (.own (os++cs) T.tid)):=
  .qq x y t u T.tid i b1 a xs.length xs.length (gB (ae y)) os cs h ak af gA b3 cZ (by rw[bu];exact an) U (by rw[Bw];omega) (by rw[U,bu];exact hex) (by rw[bu];exact iT) (.el hu rfl (by rw[ah,bu];exact kf)) (by rw[Bw,bu];exact hv) (by rw[Bw];omega) (by rw[Bw];omega)
 rw[Bw] at aP;have tS:er T z (m.push (.own (os++cs) T.tid)) (xs++a8) (.slice (are ⟨m.next,0,ari⟩) (xs.length+a8.length) bT):=by
  refine er.x8 ⟨m.next,os++cs,bT,by simp,by simp[Mem.push],by simp[Mem.push],pN,by simp[iT,hv,arW], .inl rfl,fun n q ar=> ?_⟩;rw[at5] at ar;split at ar
  ·obtain ⟨c,g1,g2⟩:=qM n q ar;refine ⟨c,g1,fun k q hk=> ?_⟩;have:=g2 k q hk;rw[arQ (arp.1 this).1];exact this
  ·rename_i eT;obtain ⟨c,g1,g2⟩:=dm _ q ar;refine ⟨c,g1,fun k q hk=> ?_⟩;have:=g2 k q hk;have h1:n*T.aW=os.length+(n - xs.length)*T.aW:=by
    rw[iT,<-arW];congr 1;omega
   rw[h1,arZ,arP (by omega),Nat.add_sub_cancel_left];exact this
 obtain ⟨g1,g2,g3,g4⟩:=A2 (k:=k) aR tS rfl;exact bO.ev aP (hk _ _ g1 g2 g3 g4)
theorem agG {aT:Nat} {yf:TypeDesc} {b:aN D} {a8:List (D aT)} (au:bd X.G O z e m k vs) (hu:P.underlying u=are yf) (ab:rel X.G z vs b (aL fr y)) (mG:Pc X aT yf b O=are a8):
  Src (X.G.T aT) z m a8 (aL fr y)/\((∃bp,P.underlying u=are (.slice bp))\/P.underlying u=are .string):=by
 unfold Pc at mG;split at mG
 ·refine ⟨?_, .inl ⟨_,hu⟩⟩;split at mG
  ·cases mG;have aa:aL fr y= .slice ari 0 0:=ab;rw[aa];exact (dW.nil (T:=X.G.T aT)).src au.aR.a6
  ·split at mG
   ·rename_i e2 arb ai;split at mG
    ·rename_i di;subst di;cases mG;exact Xd au ai ab
    ·cases mG
   ·cases mG
 ·refine ⟨?_, .inr hu⟩;split at mG
  ·rename_i s kx _;cases mG;have aa:aL fr y=aQ.str s:=ab;rw[aa];exact kx.aq _ _ _ _ (aj2 s)
  ·cases mG
 ·cases mG
theorem XA {a b:aN D} (ag:o.op= .call {callee:= .builtin .append,args:=#[x,y],argTypes:=#[t,u]}) (au:bd X.G O z e m k vs) (ar:rel X.G z vs a (aL fr x)) (ab:rel X.G z vs b (aL fr y)) (h:HA X t u a b O K=are r):bO P (aL fr) o m fun _ v m'=>cF X O z e k vs K r v m':=by
 unfold HA at h;split at h
 ·rename_i fK aoK ak hu;split at h
  ·cases h
  ·rename_i ti cA;split at h
   ·cases h
   ·rename_i a8 mG;have BM:=agG (u:=u) au hu ab mG;have lz:Src (X.G.T fK) z m a8 (aL fr y):=BM.1;have kE:P.underlying t=are (.slice (X.G.T fK).tid):=by rw[ti.tid];exact ak
    have da:P.info? (X.G.T fK).tid=are ti.i:=by rw[ti.tid];exact ti.af
    split at h
    ·obtain ⟨q,aF,h⟩:=bind_some h;have aa:aL fr x= .slice ari 0 0:=ar;refine G3 (T:=X.G.T fK) (z:=z) ag kE da ti.aD ti.b3 ti.cZ ti.bu ti.dt ti.fW BM.2 aa cO.nil rfl lz au.aR aF fun bl m' dE a7 sm dh=> ?_;have hN:cT bl=ck bl:=fz (by obtain ⟨a,c,rfl⟩:=a7.a7.len;intro r;simp);exact nG (v:=bl) au dE sm (fun p an=>by rw[hN];exact dh p an dV.qX) h a7 (mN au a7.a7.len)
    ·rename_i e2 xs;by_cases di:e2=fK
     case neg=>rw[dif_neg di] at h;cases h
     rw[dif_pos di] at h;subst di;by_cases bL:a8.isEmpty=arf
     case pos=>rw[if_pos bL] at h;cases h
     rw[if_neg bL] at h;obtain ⟨q,aF,h⟩:=bind_some h;obtain ⟨f1,f2,a0,f3⟩:=ar;refine X1 (T:=X.G.T e2) (z:=z) ag kE da ti.aD ti.b3 ti.cZ ti.bu ti.dt ti.fW BM.2 f3 (by rw[<-f3];exact dW.src f1 au.aR.a6) rfl lz (by simpa using bL) au.aR aF fun bl m' dE a7 sm dh=> ?_;have hN:cT bl=ck bl:=fz (by obtain ⟨a,c,rfl⟩:=a7.a7.len;intro r;simp);exact nG (v:=bl) au dE sm (fun p an=>by rw[hN];exact dh p an) h a7 (mN au a7.a7.len)
    ·rename_i i;split at h
     ·rename_i e2 xs bD hO;split at h
      ·rename_i di;subst di;obtain ⟨q,aF,h⟩:=bind_some h;have bP:cO (X.G.T e2) z e m k xs (aL fr x):=au.obj i _ _ hO ar.1;refine G3 (T:=X.G.T e2) ag kE da ti.aD ti.b3 ti.cZ ti.bu ti.dt ti.fW BM.2 rfl bP rfl lz au.aR aF fun bl m' dE a7 sm dh=> ?_;have hN:cT bl=ck bl:=fz (by obtain ⟨a,c,rfl⟩:=a7.a7.len;intro r;simp);have l0:cT (aL fr x)=ck (aL fr x):=fz (by obtain ⟨a,c,ax⟩:=bP.a7.len;intro r;rw[ax];simp);have hn:=au.kill i;have hlen:(O.set i .dead).length=O.length:=asK;refine ⟨z,vs++[bl], .c (.own O.length),O.set i .dead++[.aE e2 q arj arj],(Inv.set O i (.inl rfl)).trans (Inv.push _ _),cz.refl z,ih,hn.push (o':= .aE e2 q arj arj) sm dE (fun j p w ap hw ai=> ?_) a7 (fun p an kT=>by rw[hN];exact dh p an kT), ?_,h⟩
       ·rw[arY] at ap;split at ap
        ·split at ap
         ·cases ap;cases ai
         ·cases ap
        ·rename_i cQ;rw[<-l0];exact au.eu j i p _ w _ (fun e=>cQ e.symm) ap hO ai rfl hw ar.1
       ·exact mN au a7.a7.len
      ·cases h
     ·cases h
    ·rename_i i aT bf n;by_cases dv:aru bf 0=arf
     case neg=>rw[if_neg dv] at h;cases h
     rw[if_pos dv] at h;obtain rfl:=arB dv;by_cases rU:aT=fK
     case neg=>rw[if_neg rU] at h;cases h
     rw[if_pos rU] at h;subst rU;split at h
     ·rename_i e2 xs bD hO;split at h
      ·rename_i di;subst di;obtain ⟨q,aF,h⟩:=bind_some h;obtain ⟨Ae,hY,fl⟩:=ar;have Mo:cO (X.G.T e2) z e m k xs Ae:=au.obj i _ _ hO hY.1;have adh:cT Ae=ck Ae:=fz (by obtain ⟨a,c,ax⟩:=Mo.a7.len;intro r;rw[ax];simp);have tS:=fl.a7 Mo.a7;have l0:cT (aL fr x)=ck (aL fr x):=fz (by obtain ⟨a,c,ax⟩:=tS.len;intro r;rw[ax];simp);have bP:cO (X.G.T e2) z e m k (xs.take n) (aL fr x):=⟨tS,fun b ab=>Mo.fresh b (by rw[<-adh,<-fl.ay,l0];exact ab)⟩
       refine G3 (T:=X.G.T e2) ag kE da ti.aD ti.b3 ti.cZ ti.bu ti.dt ti.fW BM.2 rfl bP rfl lz au.aR aF fun bl m' dE a7 sm dh=> ?_;have hN:cT bl=ck bl:=fz (by obtain ⟨a,c,rfl⟩:=a7.a7.len;intro r;simp);have hn:=au.kill i;refine ⟨z,vs++[bl], .c (.own O.length),O.set i .dead++[.aE e2 q arj arj],(Inv.set O i (.inl rfl)).trans (Inv.push _ _),cz.refl z,ih,hn.push (o':= .aE e2 q arj arj) sm dE (fun j p w ap hw ai=> ?_) a7 (fun p an kT=>by rw[hN];exact dh p an kT), ?_,h⟩
       ·rw[arY] at ap;split at ap
        ·split at ap
         ·cases ap;cases ai
         ·cases ap
        ·rename_i cQ;rw[<-l0,fl.ay];exact au.eu j i p _ w _ (fun e=>cQ e.symm) ap hO ai rfl hw hY.1
       ·exact mN au a7.a7.len
      ·cases h
     ·cases h
    ·cases h
 ·cases h
theorem ag3 {a b:aN D} (ag:o.op= .call {callee:= .builtin .append,args:=#[x,y],argTypes:=#[t,u]}) (au:bd X.G O z e m k vs) (ar:rel X.G z vs a (aL fr x)) (ab:rel X.G z vs b (aL fr y)) (h:Pl X t u a b O K=are r):bO P (aL fr) o m fun _ v m'=>cF X O z e k vs K r v m':=by
 unfold Pl at h;split at h
 ·rename_i fK aoK ak hu;split at h
  ·rename_i ti aT xs e2 a8 cA ai;by_cases di:aT=fK
   case neg=>rw[dif_neg di] at h;cases h
   rw[dif_pos di] at h;subst di;by_cases di:e2=aT
   case neg=>rw[dif_neg di] at h;cases h
   rw[dif_pos di] at h;subst di;obtain ⟨q,aF,h⟩:=bind_some h;have lz:=Xd au ai ab;have kE:P.underlying t=are (.slice (X.G.T e2).tid):=by rw[ti.tid];exact ak
   have da:P.info? (X.G.T e2).tid=are ti.i:=by rw[ti.tid];exact ti.af
   obtain ⟨f1,f2,a0,f3⟩:=ar;by_cases bL:a8.isEmpty=arf
   ·rw[if_pos bL] at h;obtain rfl:a8=[]:=by cases a8;rfl;cases bL
    obtain ⟨kW,rfl⟩:=ss aF;obtain ⟨hlen,cs,kf,hv,_⟩:=lz;obtain rfl:cs=[]:=asJ (by rw[hv];simp);have aP:fM P (hR P 0) (aL fr) o m (aL fr x) m:= .tt x y t u _ ti.i a0 xs.length xs.length ag kE da f3 (by omega) (ars _) (.el (.inl ⟨_,hu⟩) (by simpa using hlen) (by rw[ti.bu];exact kf));exact bO.ev aP (cF.here (X:=X) au (sv:= .c (.aE e2 (xs++[]))) (by rw[List.append_nil];exact f1) h)
   ·rw[if_neg bL] at h;refine X1 (T:=X.G.T e2) (z:=z) ag kE da ti.aD ti.b3 ti.cZ ti.bu ti.dt ti.fW (.inl ⟨_,hu⟩) f3 (by rw[<-f3];exact dW.src f1 au.aR.a6) rfl lz (by simpa using bL) au.aR aF fun bl m' dE a7 sm dh=> ?_;have hN:cT bl=ck bl:=fz (by obtain ⟨a,c,rfl⟩:=a7.a7.len;intro r;simp);exact nG (v:=bl) au dE sm (fun p an=>by rw[hN];exact dh p an) h a7 (mN au a7.a7.len)
  ·cases h
 ·cases h
theorem ahQ {kt vt:Nat} (ag:o.op= .makeMap t ari) (ak:P.underlying t=are (.map kt vt)) (au:bd X.G O z e m k vs) (h:K (.c (.own O.length)) (O++[.map t kt vt [] arj arj])=are r):bO P (aL fr) o m fun _ v m'=>cF X O z e k vs K r v m':=by
 refine ahW (X.G.M t kt vt) ag ak rfl au.aR fun bl m' dE a7 sm dh=> ?_;obtain ⟨q,rfl,aF⟩:=a7.a7;exact nG (v:= .map (are q)) au dE sm dh h a7 ⟨C8 au _,rfl,rfl⟩
theorem ahE {u kt vt:Nat} {es:List (D kt×D vt)} {a:D kt} {ea:Ec P X.G kt vt} {ok:Bool} {c:aN D} (ag:o.op= .lookup t x y ok) (ak:P.underlying t=are (.map kt vt)) (hu:P.underlying u=are (.map kt vt)) (au:bd X.G O z e m k vs)
  (U:kN (X.G.M u kt vt) z es (aL fr x)\/hU (X.G.M u kt vt) z e m k es (aL fr x)) (ah:rel X.G z vs c (aL fr y)) (hk:ea.o7 c=are a)
  (h:(aQ.lt (@bn _ _ ea.dec es a) fun y=>if ok=arf then K (.mV [.inl (ea.oG (y.getD ea.z0)), .inl (.bool y.isSome)]) O else K (.c (ea.oG (y.getD ea.z0))) O)=are r):bO P (aL fr) o m fun _ v m'=>cF X O z e k vs K r v m':=by
 letI aw:=ea.dec
 obtain ⟨w,hw,h⟩:=Yr h;have tM:=ea.tL z vs c a _ hk ah;have l5:=ea.l5 z vs (w.getD ea.z0);cases ok with
 |true=>
  rw[if_pos rfl] at h;have hrel:rel X.G z vs (.mV [.inl (ea.oG (w.getD ea.z0)), .inl (.bool w.isSome)]) (.tuple #[cN (cB P vt) (X.G.bX vt (w.getD ea.z0)), .bool w.isSome]):=⟨[_,_],rfl,l5,rfl,trivial⟩
  rcases U with U|U
  ·exact ZF (M:=X.G.M u kt vt) (a:=a) (z0:=ea.z0) ag ak hu ea.K ea.V ea.af ea.aD rfl U au.aR rfl tM hw (if_pos rfl) (cF.here au hrel h)
  ·exact ZE (M:=X.G.M u kt vt) (a:=a) (z0:=ea.z0) ag ak hu ea.K ea.V ea.af ea.aD rfl U rfl tM hw (if_pos rfl) (cF.here au hrel h)
 |false=>
  rw[if_neg (by simp)] at h;have hrel:rel X.G z vs (.c (ea.oG (w.getD ea.z0))) (cN (cB P vt) (X.G.bX vt (w.getD ea.z0))):=l5;rcases U with U|U
  ·exact ZF (M:=X.G.M u kt vt) (a:=a) (z0:=ea.z0) ag ak hu ea.K ea.V ea.af ea.aD rfl U au.aR rfl tM hw (if_neg (by simp)) (cF.here au hrel h)
  ·exact ZE (M:=X.G.M u kt vt) (a:=a) (z0:=ea.z0) ag ak hu ea.K ea.V ea.af ea.aD rfl U rfl tM hw (if_neg (by simp)) (cF.here au hrel h)
theorem XB {u kt vt i:Nat} {es:List (D kt×D vt)} {a:D kt} {b:D vt} {ea:Ec P X.G kt vt} {c:aN D} {d:bC D} {w:arm} (ag:o.op= .mapUpdate t x y w\/o.op= .insert t x y w) (ak:P.underlying t=are (.map kt vt)) (hu:P.underlying u=are (.map kt vt)) (au:bd X.G O z e m k vs)
  {bD:Bool} (hO:O[i]? =are (.map u kt vt es arj bD)) (U:vs[i]? =are (aL fr x)) (ah:rel X.G z vs c (aL fr y)) (hw:db X.G z vs d (aL fr w)) (hk:ea.o7 c=are a) (aa:ea.s9 d=are b)
  (h:(aQ.lt (@eJ _ _ ea.dec es a b) fun tC=>K .undef (O.set i (.map u kt vt tC arj arf)))=are r):bO P (aL fr) o m fun _ v m'=>cF X O z e k vs K r v m':=by
 letI aw:=ea.dec
 obtain ⟨tC,iB,h⟩:=Yr h;have bP:hU (X.G.M u kt vt) z e m k es (aL fr x):=au.obj i _ _ hO U;refine ajq (M:=X.G.M u kt vt) (a:=a) (b:=b) ag ak hu ea.K ea.V rfl bP rfl (ea.tL z vs c a _ hk ah) rfl (ea.yQ z vs d b _ aa hw) au.aR iB fun m' dE a7 sm=> ?_;have hN:cT (aL fr x)=sE (aL fr x):=by obtain ⟨q,aF,_⟩:=bP.a7;rw[aF];rfl
 exact CB au h hO U rfl rfl (by rw[hN];exact sm) dE a7
theorem OB {s:aN D} {g:arh} {c:Nat×List (bC D)} {bz:List (aG D)} (au:bd X.G O z e m k vs) (aq:rel X.G z vs s g) (h:w7 O s=are (c,bz)):∃z',Inv O bz/\cz e.next z z'/\bd X.G bz z' e m k vs/\mf X.G z' vs c.2 0 g:=by
 cases s with
 |gw t cs off=>
  simp only[w7] at h;split at h
  ·rename_i az;subst az;cases h;exact ⟨z,Inv.refl _,cz.refl z,au,aq⟩
  ·cases h
 |box i off=>
  simp only[w7] at h;obtain ⟨b,aa,aM⟩:=aq;split at h
  ·rename_i t cs a6 bD hO;split at h
   ·rename_i az;obtain ⟨az,_⟩:=az;subst az;cases h;have bP:=au.obj i _ _ hO aa;rw[aM];cases a6 with
    |true=>
     obtain ⟨hg,ds,he,ad,ao⟩:=bP;cases he;have:O.set i (.box t cs arf bD)=O:=by
      apply as8;intro j;rw[arY];split
      ·rename_i cQ;subst cQ;rw[hO,if_pos (arp.1 hO).1]
      ·rfl
     rw[this];exact ⟨z,Inv.refl _,cz.refl z,au,b,0,ds,rfl,ad,ao⟩
    |false=>obtain ⟨hg,ds,he,l0,fB,ao⟩:=bP;cases he;obtain ⟨bR,bm,br,dj,gk⟩:=l0.freeze fB au.aR;have yL:=nL.mono ao bm.le fun _ _ h=>h;exact ⟨bR,Inv.set O i (.inl rfl),bm,au.ib hO aa rfl rfl bm.le br gk ⟨b,ds,rfl,dj,yL⟩,b,0,ds,rfl,dj,yL⟩
   ·cases h
  ·cases h
 |_=>cases h
theorem WU:∀{l:List (aN D)} {gs:List arh} {caps:List (Nat×List (bC D))} {O bz:List (aG D)} {z:Nat->aV},bd X.G O z e m k vs->a1 (rel X.G z vs) l gs->C1 l O=are (caps,bz)->∃z',Inv O bz/\cz e.next z z'/\bd X.G bz z' e m k vs/\a1 (fun c g=>mf X.G z' vs c.2 0 g) caps gs
 |[],[],caps,O,bz,z,au,_,h=>by cases h;exact ⟨z,Inv.refl _,cz.refl z,au,trivial⟩
 |s::l,g::gs,caps,O,bz,z,au,⟨h1,J⟩,h=>by
  unfold C1 at h;split at h
  ·rename_i c bB ad;split at h
   ·rename_i r cE ao;cases h;obtain ⟨bR,hh,bm,br,dj⟩:=OB au h1 ad;obtain ⟨z2,g0,g1,g2,g3⟩:=WU br (a1.mono (fun _ _ h=>rel.mono h bm.le fun _ _ h=>h) J) ao;exact ⟨z2,hh.trans g0,bm.trans g1,g2,mf.mono dj g1.le fun _ _ h=>h,g3⟩
   ·cases h
  ·cases h
 |[],_::_,_,_,_,_,_,h,_=>h.elim
 |_::_,[],_,_,_,_,_,h,_=>h.elim
theorem wO {xs:List arm} (aP:∀x,rel X.G z vs (cj E x) (aL fr x)):a1 (rel X.G z vs) (xs.map (cj E)) (xs.map (aL fr)):=by
 induction xs with
 |nil=>trivial
 |cons x xs aU=>exact ⟨aP x,aU⟩
theorem ajw {s:aN D} {i:Nat} {v:arh} (au:bd X.G O z e m k vs) (h:J3 O s=are i) (ao:rel X.G z vs s v):rK vs i v:=by
 unfold J3 at h;split at h
 ·split at h
  ·split at h
   ·rename_i az;cases h;subst az;obtain ⟨b,h1,J⟩:=ao;exact ⟨by rw[J];exact h1,b,J⟩
   ·cases h
  ·cases h
 ·cases h
theorem Xs (au:bd X.G O z e m k vs):∀{l:List (aN D)} {gs:List arh} {is:List Nat},Dh O l=are is->a1 (rel X.G z vs) l gs->a1 (rK vs) is gs
 |[],[],is,h,_=>by cases h;trivial
 |s::l,g::gs,is,h,⟨h1,J⟩=>by
  unfold Dh at h;split at h
  ·rename_i i pV af ap;cases h;exact ⟨ajw au af h1,Xs au ap J⟩
  ·cases h
 |[],_::_,_,_,h=>h.elim
 |_::_,[],_,_,h=>h.elim
theorem ahN {f:FuncId} {first cap:Array arm} {is:List Nat} (ag:o.op= .makeFunc (.func f) first cap) (aK:first.toList=[]) (au:bd X.G O z e m k vs) (aP:∀x,rel X.G z vs (cj E x) (aL fr x)) (ad:Dh O (cap.toList.map (cj E))=are is) (h:K (.c (.fn f is)) O=are r):
  bO P (aL fr) o m fun _ v m'=>cF X O z e k vs K r v m':=by
 have aM:=Xs au ad (wO aP);have vG:first=#[]:=by cases first;simp at aK;subst aK;rfl
 subst vG;have dd:(cap.map (aL fr)).toList.all storable=arf:=by
  rw[arz];intro v aa;rw[as6] at aa;have:=arz.1 (OC aM) v aa;unfold xq at this;split at this
  ·rfl
  ·cases this
 exact ij au h (Z4 ag rfl dd) ⟨cap.toList.map (aL fr),by congr 1;apply asB;simp,aM⟩
theorem aj8 {f:FuncId} {first cap:Array arm} {caps:List (Nat×List (bC D))} {bz:List (aG D)} (ag:o.op= .makeFunc (.func f) first cap) (aK:first.toList=[]) (au:bd X.G O z e m k vs) (aP:∀x,rel X.G z vs (cj E x) (aL fr x)) (ad:C1 (cap.toList.map (cj E)) O=are (caps,bz)) (h:K (.fn f caps) bz=are r):
  bO P (aL fr) o m fun _ v m'=>cF X O z e k vs K r v m':=by
 obtain ⟨bR,g0,g1,g2,g3⟩:=WU au (wO aP) ad;have vG:first=#[]:=by cases first;simp at aK;subst aK;rfl
 subst vG;have dd:(cap.map (aL fr)).toList.all storable=arf:=by
  rw[arz];intro v aa;rw[as6] at aa;have:∀(cs:List (Nat×List (bC D))) (gs:List arh),a1 (fun c g=>mf X.G bR vs c.2 0 g) cs gs->∀v∈gs,storable v=arf:=by
   intro cs;induction cs with
   |nil=>intro gs aM v aa;cases gs with
    |nil=>cases aa
    |cons _ _=>exact aM.elim
   |cons c cs aU=>intro gs aM v aa;cases gs with
    |nil=>cases aa
    |cons g gs=>
     rcases arA.1 aa with rfl|aa
     ·obtain ⟨b,ek,ds,he,_⟩:=aM.1;rw[he];rfl
     ·exact aU gs aM.2 v aa
  exact this _ _ g3 v aa
 refine bO.pure (Z4 ag rfl dd) (cF.from g0 g1 (cF.here (sv:= .fn f caps) g2 ⟨cap.toList.map (aL fr), ?_,g3⟩ h));congr 1;apply asB;simp
end
end Go.aQ
end
section
namespace Go.aQ
section
variable {P:arl} {D:Nat->Type} {X:dk P D} {ae:Type} {z z':Nat->aV} {e m m':Mem} {k:Option Nat} {vs:List arh} {fr:Nat->arh} {E:List (Nat×aN D)} {O:List (aG D)} {o:Oper} {r:ae}
variable {x y:arm} {t u:arn} {K:aN D->List (aG D)->Option ae}
theorem ahR {l:Nat} {bx:Array (Nat×arm)} (ag:o.op= .buildSlice t l bx) (au:bd X.G O z e m k vs) (aP:∀x,rel X.G z vs (cj E x) (aL fr x)) (h:Qk X t l bx.toList E O K=are r):bO P (aL fr) o m fun _ v m'=>cF X O z e k vs K r v m':=by
 unfold Qk at h;split at h
 ·rename_i aT ak;split at h
  ·rename_i t1 hu;split at h
   ·rename_i dx bG;split at h
    ·rename_i Fv;refine Ps (T:=qn aT) ag ak dx.af dx.aD rfl (by rw[dx.h1];rfl) (by rw[dx.h1];rfl) [] [] rfl rfl rfl (by rw[Fv];trivial) au.aR fun bl m' dE a7 sm dh=> ?_;have ab:cT bl=ck bl:=fz (by obtain ⟨a,c,rfl⟩:=a7.a7.len;intro r;simp);exact nG (v:=bl) au dE sm (by rw[ab];exact dh) h ⟨fun f aK=>by cases aK;exact ⟨dx.bu,dx.tid,dx.ao⟩,_,a7,rfl,fun j w xs g1 g2 _=>by simp at g1,fun p an=>by cases an⟩ (mN au a7.a7.len)
    ·rename_i y Fv;split at h
     ·rename_i j ap;split at h
      ·rename_i t2 xs w hO;split at h
       ·rename_i J;have ah:=aP y;rw[ap] at ah;obtain ⟨aa,aq,ad⟩:=ah;refine Ps (T:=qn aT) ag ak dx.af dx.aD rfl (by rw[dx.h1];rfl) (by rw[dx.h1];rfl) [aL fr y] [[aL fr y]] rfl rfl rfl (by rw[Fv];exact ⟨rfl,aq,by rw[ad],⟨rfl,aq,ad⟩,trivial⟩) au.aR fun bl m' dE a7 sm dh=> ?_;have ab:cT bl=ck bl:=fz (by obtain ⟨a,c,rfl⟩:=a7.a7.len;intro r;simp);refine nG (v:=bl) au dE sm (by rw[ab];exact dh) h ⟨fun f aK=>by cases aK;exact ⟨dx.bu,dx.tid,dx.ao⟩,_,a7,rfl,fun j w xs g1 g2 g3=> ?_,fun p an=> ?_⟩ (mN au a7.a7.len)
        ·have:=(arp.1 g1).1;simp at this;subst this;exact absurd rfl (g3 _ rfl)
        ·cases an;exact ⟨Int.le_refl _,_,ih _ _ aa,rfl⟩
       ·cases h
      ·cases h
     ·cases h
    ·cases h
   ·cases h
  ·cases h
 ·cases h
theorem bd.aa8 (h:bd X.G O z e m k vs) (aD:eb z z') (aR:cu z' e m k) (aw:∀b,z b= .dead->z' b= .dead) (hk:∀(j:Nat) (q:aG D) (w:arh),O[j]? =are q->vs[j]? =are w->q.live=arf->Jz z z' (eG w)):bd X.G O z' e m k vs where
 aR:=aR
 len:=h.len
 obj:=fun j q w ap hw=>(h.obj j q w ap hw).h5 aD (fun ai b ab=>by
  have:=((h.obj j q w ap hw).lt ai b ab).2.1;rw[this,aw b this]) fun ai=>hk j q w ap hw ai
 eu:=h.eu
noncomputable def Ao (z:Nat->aV) (et ig hp de n':Nat):Nat->aV:=fun b=>
 match z b with
 | .lock n j L t=>if et<=b/\n≠0/\n=ig then .lock n' j L t else if et<=b/\n≠0/\n=hp then .lock n' (de+j) L t else .lock n j L t
 |x=>x
theorem Zr {et ig hp de n' b:Nat} (h:∀n j L t,z b≠ .lock n j L t):Ao z et ig hp de n' b=z b:=by
 unfold Ao;split
 ·rename_i n j L t aD;exact absurd aD (h n j L t)
 ·rfl
theorem sO {et ig hp de n' b n j:Nat} {L:List arh} {t:arn} (h:z b= .lock n j L t):Ao z et ig hp de n' b=if et<=b/\n≠0/\n=ig then .lock n' j L t else if et<=b/\n≠0/\n=hp then .lock n' (de+j) L t else .lock n j L t:=by
 unfold Ao;rw[h]
theorem Pf {al:Type} {T:cb al} {xs:List al} {v:arh} (h:cO T z e m k xs v) (U:xs≠[]):eG v≠0:=by
 intro az;unfold eG at az;rcases h.a7 with ⟨rfl,mD⟩|⟨bV,o',L',bg,rfl,_⟩
 ·exact U mD
 ·simp[ck] at az
theorem X2 {al:Type} {T:cb al} {x0:al} {Ar:Tag->arh->Mem->Prop} {ae:arm->arh} {i:TypeInfo} {kk bm:IntKind} {n:Int} {v:arh} {xs:List al} (h:o.op= .call {callee:= .builtin .append,args:=#[x,y],argTypes:=#[t,u]}) (ak:P.underlying t=are (.slice T.tid)) (af:P.info? T.tid=are i) {b1:arh} (gA:i.zero=are b1) (b3:b1.cells.toList.all b7=arf) (cZ:b1.cells.size=i.size)
  (bu:i.size=T.aW) (dt:(T.aW==0)=arj) (fW:arF i.bytes 32768=arf) (hu:P.underlying u=are (.int kk)) (U:ae x=v) (aq:cO T z e m k xs v) (ah:ae y= .int bm n) (dm:T.rd z x0 b1.cells.toList) (aR:cu z e m k) {a8 r:List al} (hm:k2 x0 n=are a8) (ao:eh xs a8=are r)
  (hk:∀bl m',cu z e m' k->cO T z e m' k r bl->eX m m' (ck v)->(∀p,(∀b,p=are b->b<m.next)->dV p (ck v)->dV p (ck bl))->Ar .ev bl m'):bO P ae o m Ar:=by
 obtain ⟨az,h1,rfl⟩:=CI hm;obtain ⟨c,rfl⟩:=ar8 az;have an:0<T.aW:=by
  rcases auc T.aW with az|az;·rw[az] at dt;cases dt
  ·exact az
 rw[asv] at ao;obtain ⟨bl,m',h1,J,aj,aJ⟩:=aiu (C:=hR P 0) (k:=bm) h ak af gA b3 cZ bu an (arG fW) hu U aq.a7 ah dm aR.a6 aR.dead ao;refine bO.ev h1 (hk _ _ (aR.same aj aq.aF) ⟨J,fun b ab=> ?_⟩ aj fun p an ar b ab ch=> ?_)
 ·rcases aJ b ab with aJ|aJ
  ·exact aq.fresh b aJ
  ·have:=aR.next;omega
 ·rcases aJ b ch with aJ|aJ
  ·exact ar b ab aJ
  ·have:=an b ab;omega
theorem agO {a b:aN D} (ag:o.op= .call {callee:= .builtin .append,args:=#[x,y],argTypes:=#[t,u]}) (hu:Pq (P.underlying u)=arf) (au:bd X.G O z e m k vs) (ar:rel X.G z vs a (aL fr x)) (ab:rel X.G z vs b (aL fr y)) (h:O3 X t a b O K=are r):bO P (aL fr) o m fun _ v m'=>cF X O z e k vs K r v m':=by
 have FD:∃kk,P.underlying u=are (.int kk):=by
  unfold Pq at hu;split at hu
  ·rename_i kk ax;exact ⟨kk,ax⟩
  ·cases hu
 obtain ⟨kk,FD⟩:=FD;unfold O3 at h;split at h
 ·rename_i aT bm n ak;split at h
  ·rename_i ti cA;split at h
   ·rename_i av;obtain ⟨xs,hm,h⟩:=bind_some h;have ao:eh ([]:List (D aT)) xs=are xs:=by
     obtain ⟨az,h1,rfl⟩:=CI hm;unfold eh;rw[if_pos (by simp only[atb,List.length_nil,mq] at*;omega),List.nil_append]
    refine X2 (T:=X.G.T aT) (xs:=[]) ag (by rw[ti.tid];exact ak) (by rw[ti.tid];exact ti.af) ti.aD ti.b3 ti.cZ ti.bu ti.dt ti.fW FD ar ⟨.inl ⟨rfl,rfl⟩,fun b ab=>by cases ab⟩ ab (ti.xv z) au.aR hm ao fun bl m' dE a7 sm dh=> ?_;have hN:cT bl=ck bl:=fz (by obtain ⟨a,c,rfl⟩:=a7.a7.len;intro r;simp);exact nG (v:=bl) au dE sm (by rw[hN];exact fun p an=>dh p an (by intro b ab ch;cases ch)) h a7 (mN au a7.a7.len)
   ·cases h
  ·cases h
 ·rename_i fJ i bm n ak;split at h
  ·rename_i bB L2;split at h
   ·rename_i aT t1 up mZ bD qx;split at h
    ·rename_i dx bG;split at h
     ·rename_i he;subst he;obtain ⟨a8,hm,h⟩:=bind_some h;obtain ⟨q,aF,h⟩:=bind_some h;obtain ⟨bR,i1,aZ,tl⟩:=CC au L2;obtain ⟨ad6,tP,rfl⟩:=CI hm;have kW:=(ss aF).1;have aeC:=(ss aF).2;subst aeC;have kj:=ar.1;obtain ⟨Ab,Ac,ig⟩:=tl.obj i _ _ qx kj;have ad':k2 (ast ari 0 0) n=are (arL n.toNat (ast ari 0 0)):=by
       unfold k2;rw[if_pos ⟨ad6,tP⟩]
      have Mw:eh Ac (arL n.toNat (ast ari 0 0))=are (Ac++arL n.toNat (ast ari 0 0)):=by unfold eh;rw[ig.len,atb,if_pos (by simpa using kW)]
      refine X2 (T:=qn aT) ag ak dx.af dx.aD rfl (by rw[dx.h1];rfl) (by rw[dx.h1];rfl) rfl dx.fW FD rfl ig.a7 ab ⟨rfl,rfl,rfl⟩ tl.aR ad' Mw fun bl m' dE a7 sm dh=> ?_;have qz:cT (aL fr x)=ck (aL fr x):=fz (by obtain ⟨a,c,ax⟩:=ig.a7.a7.len;rw[ax];intro r;simp);have hN:cT bl=ck bl:=fz (by obtain ⟨a,c,rfl⟩:=a7.a7.len;intro r;simp);have JA:=tl.mW (o':= .dead) qx kj rfl (by rw[qz];exact sm) dE trivial;have left:∀(l:Nat) (p:aG D) (w:arh),(bB.set i (.dead:aG D))[l]? =are p->vs[l]? =are w->p.live=arf->bB[l]? =are p/\l≠i:=by
       intro l p w ai hw an;rw[arY] at ai;split at ai
       ·split at ai
        ·cases ai;cases an
        ·cases ai
       ·rename_i h1;exact ⟨ai,fun ax=>h1 ax.symm⟩
      generalize o4:Ao bR e.next (eG (aL fr x)) 0 mZ.length (eG bl)=z3;have EL:∀b,(∀n j L t,bR b≠ .lock n j L t)->z3 b=bR b:=fun b ax=>by rw[<-o4];exact Zr ax
      have hle:eb bR z3:=fun b aK=>EL b fun n j L t ax=>by rw[ax] at aK;exact aK
      have jV:∀b,bR b= .dead->z3 b= .dead:=fun b aw=>by rw[EL b (fun n j L t ax=>by rw[aw] at ax;cases ax),aw]
      have pU:cz e.next bR z3:=⟨hle,fun b aO=>by
       cases aD:bR b with
       |lock n j L t=>rw[<-o4,sO aD,if_neg (by omega),if_neg (by omega)]
       |_=>rw[EL b (fun n j L t ax=>by rw[aD] at ax;cases ax),aD]⟩
      have dd:cu z3 e m' k:=⟨fun b ab=>by
       cases aD:bR b with
       |lock n j L t=>
        have aJ:=dE.a6 b (by rw[aD];simp);rw[aD] at aJ;rw[<-o4,sO aD];split
        ·exact aJ
        ·split
         ·exact aJ
         ·exact aJ
       |_=>
        have aj:=EL b (fun n j L t ax=>by rw[aD] at ax;cases ax);rw[aj] at ab⊢;exact dE.a6 b ab,dE.dead,dE.lX,dE.next,dE.kept⟩
      have AD:=JA.aa8 hle dd jV fun l p w ai hw an b bw L cS l3=>by
       obtain ⟨h1,J⟩:=left l p w ai hw an;have ne:eG w≠0->eG w≠eG (aL fr x):=by
        intro hM;have dh:=tl.eu l i _ _ _ _ J h1 qx an rfl hw kj;by_cases tY:∃r,w= .map r
        ·obtain ⟨r,rfl⟩:=tY;exact absurd OS hM
        ·rw[fz (fun r ao=>tY ⟨r,ao⟩),qz] at dh;rcases HB dh with ax|ax
         ·exact ax
         ·exact absurd ax hM
       rw[<-o4,sO l3,l3,if_neg fun ax=>ne ax.2.1 ax.2.2,if_neg fun ax=>ax.2.1 ax.2.2]
      have iC:fs X.G z3 e m' k (vs++[bl]) (.nest aT t1 up (mZ++arL n.toNat []) ari arj:aG D) bl:=by
       refine ⟨Ab,_,a7.h5 hle (fun b ab=>jV b (a7.a7.lt b ab).2▸((a7.a7.lt b ab).2).symm),by rw[arJ,arJ,ig.len,atb,atb],fun l w xs g1 g2 _=> ?_,fun p an=>by cases an⟩;by_cases ai:l<mZ.length
       ·rw[arQ (by rw[ig.len];exact ai)] at g1;rw[arQ ai] at g2;rcases ig.nx l w xs g1 g2 (fun p an=>by cases an) with ax|⟨b,f0,L,c,cI,cL,eQ,gu,ma,lF⟩
        ·exact .inl ax
        ·have az:=Pf ig.a7 (fun ax=>by rw[ax] at g1;simp at g1);refine .inr ⟨b,f0,L,c,cI,by rw[<-o4,sO cL,if_pos ⟨eQ,az,rfl⟩],eQ,gu,ma,fun i x af=> ?_⟩;obtain ⟨cs,gv,fQ⟩:=lF i x af;exact ⟨cs,(X.G.T t1).mono _ _ hle _ _ gv,fQ⟩
       ·rw[arP (by rw[ig.len];omega)] at g1;rw[arP (by omega)] at g2;have h1:=arI g1;have J:=arI g2;exact .inl ⟨List.eq_of_mem_replicate h1,List.eq_of_mem_replicate J⟩
      have JB:=AD.Nq iC fun _ l p w ai an hw=>by
       obtain ⟨h1,J⟩:=left l p w ai hw an;rw[hN];refine dh _ (fun b ab=>((tl.obj l p w h1 hw).lt an b ab).1) ?_;have:=tl.eu l i _ _ _ _ J h1 qx an rfl hw kj
       rwa [qz] at this
      have Mf:(bB.set i (.dead:aG D)).length=bB.length:=by simp
      refine ⟨z3,vs++[bl],_,_,i1.trans ((Inv.set bB i (.inl rfl)).trans (Inv.push _ _)),aZ.trans pU,ih,JB, ?_,h⟩;have:=mN AD a7.a7.len
      rwa [Mf] at this
     ·cases h
    ·cases h
   ·cases h
  ·cases h
 ·cases h
theorem ag2 {i:Nat} {b:aN D} (ag:o.op= .call {callee:= .builtin .append,args:=#[x,y],argTypes:=#[t,u]}) (au:bd X.G O z e m k vs) (ar:rel X.G z vs (.c (.own i)) (aL fr x)) (ab:rel X.G z vs b (aL fr y)) (h:Pk X t u i b O K=are r):bO P (aL fr) o m fun _ v m'=>cF X O z e k vs K r v m':=by
 unfold Pk at h;split at h
 ·rename_i fJ aq2 ak hu;split at h
  ·rename_i j;split at h
   ·cases h
   ·rename_i cQ;have cQ:i≠j:=fun ax=>cQ (by rw[ax];simp);split at h
    ·rename_i bB L2;split at h
     ·rename_i cE adB;split at h
      ·rename_i aT t1 up mZ bD e2 t2 aoI jc dR qx E9;split at h
       ·rename_i dx bG;split at h
        ·rename_i di;subst di;split at h
         ·rename_i he;obtain ⟨rfl,rfl⟩:=he;obtain ⟨q,aF,h⟩:=bind_some h;have aF:eh mZ jc=are q:=aF;obtain ⟨bR,i1,aZ,tl⟩:=CC au L2;obtain ⟨z2,i2,dy,M2⟩:=CC tl adB;obtain ⟨kW,rfl⟩:=ss aF;have kj:=ar.1;have pR:=ab.1;obtain ⟨Ab,Ac,ig⟩:=M2.obj i _ _ qx kj;obtain ⟨_,QS,hp⟩:=M2.obj j _ _ E9 pR;have Mw:eh Ac QS=are (Ac++QS):=by
           unfold eh;rw[ig.len,hp.len,if_pos kW]
          refine G3 (T:=qn e2) ag ak dx.af dx.aD rfl (by rw[dx.h1];rfl) (by rw[dx.h1];rfl) rfl dx.fW (.inl ⟨_,hu⟩) rfl ig.a7 rfl hp.a7.a7.src M2.aR Mw fun bl m' dE a7 sm dh=> ?_;have qz:cT (aL fr x)=ck (aL fr x):=fz (by obtain ⟨a,c,ax⟩:=ig.a7.a7.len;rw[ax];intro r;simp);have LP:cT (aL fr y)=ck (aL fr y):=fz (by obtain ⟨a,c,ax⟩:=hp.a7.a7.len;rw[ax];intro r;simp);have hN:cT bl=ck bl:=fz (by obtain ⟨a,c,rfl⟩:=a7.a7.len;intro r;simp);have Ul:=M2.eu i j _ _ _ _ cQ qx E9 rfl rfl kj pR;rw[qz,LP] at Ul;have JA:=M2.mW (o':= .dead) qx kj rfl (by rw[qz];exact sm) dE trivial;have acY:(cE.set i (.dead:aG D))[j]? =are (.nest e2 t2 aoI jc ari dR):=by rw[atg cQ];exact E9
          have abw:=JA.mW (m':=m') (o':= .dead) acY pR rfl ⟨ars _,dE.dead,fun _ _ _=>rfl⟩ dE trivial;have left:∀(l:Nat) (p:aG D) (w:arh),((cE.set i (.dead:aG D)).set j .dead)[l]? =are p->vs[l]? =are w->p.live=arf->cE[l]? =are p/\l≠i/\l≠j:=by
           intro l p w ai hw an;rw[arY] at ai;split at ai
           ·split at ai
            ·cases ai;cases an
            ·cases ai
           ·rename_i h1;rw[arY] at ai;split at ai
            ·split at ai
             ·cases ai;cases an
             ·cases ai
            ·rename_i J;exact ⟨ai,fun ax=>J ax.symm,fun ax=>h1 ax.symm⟩
          generalize o4:Ao z2 e.next (eG (aL fr x)) (eG (aL fr y)) mZ.length (eG bl)=z3;have aT:∀b,(∀n j L t,z2 b≠ .lock n j L t)->z3 b=z2 b:=fun b ax=>by rw[<-o4];exact Zr ax
          have hle:eb z2 z3:=fun b aK=>aT b fun n j L t ax=>by rw[ax] at aK;exact aK
          have jV:∀b,z2 b= .dead->z3 b= .dead:=fun b aw=>by rw[aT b (fun n j L t ax=>by rw[aw] at ax;cases ax),aw]
          have pU:cz e.next z2 z3:=⟨hle,fun b aO=>by
           cases aD:z2 b with
           |lock n j L t=>rw[<-o4,sO aD,if_neg (by omega),if_neg (by omega)]
           |_=>rw[aT b (fun n j L t ax=>by rw[aD] at ax;cases ax),aD]⟩
          have dd:cu z3 e m' k:=⟨fun b ab=>by
           cases aD:z2 b with
           |lock n j L t=>
            have aJ:=dE.a6 b (by rw[aD];simp);rw[aD] at aJ;rw[<-o4,sO aD];split
            ·exact aJ
            ·split
             ·exact aJ
             ·exact aJ
           |_=>
            have aj:=aT b (fun n j L t ax=>by rw[aD] at ax;cases ax);rw[aj] at ab⊢;exact dE.a6 b ab,dE.dead,dE.lX,dE.next,dE.kept⟩
          have AD:=abw.aa8 hle dd jV fun l p w ai hw an b bw L cS l3=>by
           obtain ⟨h1,J,aj⟩:=left l p w ai hw an;have ne:∀{cW:arh} {BX:Nat} {pb:aG D},l≠BX->cE[BX]? =are pb->pb.live=arf->vs[BX]? =are cW->(∀r,cW≠ .map r)->eG w≠0->eG w≠eG cW:=by
            intro cW BX pb bL aJ bk dn gz hM;have dh:=M2.eu l BX _ _ _ _ bL h1 aJ an bk hw dn;by_cases tY:∃r,w= .map r
            ·obtain ⟨r,rfl⟩:=tY;exact absurd OS hM
            ·rw[fz (fun r ao=>tY ⟨r,ao⟩),fz gz] at dh;rcases HB dh with ax|ax
             ·exact ax
             ·exact absurd ax hM
           have m1:∀r,aL fr x≠ .map r:=by obtain ⟨a,c,ax⟩:=ig.a7.a7.len;rw[ax];intro r;simp
           have m2:∀r,aL fr y≠ .map r:=by obtain ⟨a,c,ax⟩:=hp.a7.a7.len;rw[ax];intro r;simp
           rw[<-o4,sO l3,l3,if_neg fun ax=>ne J qx rfl kj m1 ax.2.1 ax.2.2,if_neg fun ax=>ne aj E9 rfl pR m2 ax.2.1 ax.2.2]
          have iC:fs X.G z3 e m' k (vs++[bl]) (.nest e2 t2 up (mZ++jc) ari arj:aG D) bl:=by
           refine ⟨Ab,Ac++QS,a7.h5 hle (fun b ab=>jV b (a7.a7.lt b ab).2▸((a7.a7.lt b ab).2).symm),by rw[arJ,arJ,ig.len,hp.len],fun l w xs g1 g2 _=> ?_,fun p an=>by cases an⟩;by_cases ai:l<mZ.length
           ·rw[arQ (by rw[ig.len];exact ai)] at g1;rw[arQ ai] at g2;rcases ig.nx l w xs g1 g2 (fun p an=>by cases an) with ax|⟨b,f0,L,c,cI,cL,eQ,gu,ma,lF⟩
            ·exact .inl ax
            ·have az:=Pf ig.a7 (fun ax=>by rw[ax] at g1;simp at g1);refine .inr ⟨b,f0,L,c,cI,by rw[<-o4,sO cL,if_pos ⟨eQ,az,rfl⟩],eQ,gu,ma,fun i x af=> ?_⟩;obtain ⟨cs,gv,fQ⟩:=lF i x af;exact ⟨cs,(X.G.T t2).mono _ _ hle _ _ gv,fQ⟩
           ·rw[arP (by rw[ig.len];omega),ig.len] at g1;rw[arP (by omega)] at g2;rcases hp.nx (l - mZ.length) w xs g1 g2 (fun p an=>by cases an) with ax|⟨b,f0,L,c,cI,cL,eQ,gu,ma,lF⟩
            ·exact .inl ax
            ·have az:=Pf hp.a7 (fun ax=>by rw[ax] at g1;simp at g1);have bL:eG (aL fr y)≠eG (aL fr x):=by
              rcases HB Ul.symm with ax|ax
              ·exact ax
              ·exact absurd ax az
             refine .inr ⟨b,f0,L,c,cI,by rw[<-o4,sO cL,if_neg (fun ax=>bL ax.2.2),if_pos ⟨eQ,az,rfl⟩,show mZ.length+(l - mZ.length)=l by omega],eQ,gu,ma,fun i x af=> ?_⟩;obtain ⟨cs,gv,fQ⟩:=lF i x af;exact ⟨cs,(X.G.T t2).mono _ _ hle _ _ gv,fQ⟩
          have JB:=AD.Nq iC fun _ l p w ai an hw=>by
           obtain ⟨h1,J,aj⟩:=left l p w ai hw an;rw[hN];refine dh _ (fun b ab=>((M2.obj l p w h1 hw).lt an b ab).1) ?_;have:=M2.eu l i _ _ _ _ J h1 qx an rfl hw kj
           rwa [qz] at this
          have Mf:((cE.set i (.dead:aG D)).set j .dead).length=cE.length:=by simp
          refine ⟨z3,vs++[bl],_,_,(i1.trans i2).trans ((Inv.set cE i (.inl rfl)).trans ((Inv.set _ j (.inl rfl)).trans (Inv.push _ _))),(aZ.trans dy).trans pU,ih,JB, ?_,h⟩;have:=mN AD a7.a7.len
          rwa [Mf] at this
         ·cases h
        ·cases h
       ·cases h
      ·cases h
     ·cases h
    ·cases h
  ·cases h
 ·cases h
end
end Go.aQ
end
section
namespace Go.aQ
section
variable {P:arl} {D:Nat->Type} {X:dk P D} {ae:Type} {z z':Nat->aV} {e m m':Mem} {k:Option Nat} {vs:List arh} {fr:Nat->arh} {E:List (Nat×aN D)} {O:List (aG D)} {o:Oper} {r:ae}
variable {x y:arm} {t u:arn} {K:aN D->List (aG D)->Option ae}
def eY (m m':Mem) (q:Option Nat):Prop:=m.next<=m'.next/\∀b,b<m.next->q≠are b->m'.ay b=m.ay b
def nd (vs:List arh) (ts:List Nat) (q:Option Nat):Prop:=q=ari\/∃i,i∈ts/\∃v,vs[i]? =are v/\q=cT v
theorem bO.mono {ae:arm->arh} {K kM:Tag->arh->Mem->Prop} (h:bO P ae o m K) (hk:∀t v m',K t v m'->kM t v m'):bO P ae o m kM:=by
 rcases h with ⟨v,h,g⟩|⟨v,I,h,g⟩|⟨v,h,g⟩|⟨Y,v,h,g⟩|⟨n,v,m',h,g⟩
 ·exact .inl ⟨v,h,hk _ _ _ g⟩
 ·exact .inr (.inl ⟨v,I,h,hk _ _ _ g⟩)
 ·exact .inr (.inr (.inl ⟨v,h,hk _ _ _ g⟩))
 ·exact .inr (.inr (.inr (.inl ⟨Y,v,h,hk _ _ _ g⟩)))
 ·exact .inr (.inr (.inr (.inr ⟨n,v,m',h,hk _ _ _ g⟩)))
def fL (X:dk P D):Prop:=∀(f:Nat) (bA:List (aN D)) (O:List (aG D)) {ae:Type} (K:aN D->List (aG D)->Option ae) (r:ae) {z:Nat->aV} {e m:Mem} {k:Option Nat} {vs:List arh} (args:List arh),
 bd X.G O z e m k vs->a1 (rel X.G z vs) bA args->X.C f bA O K=are r->fR P f args.toArray m fun v m'=>cF X O z e k vs K r v m'/\(X.F f bA O=arf->m'=m)/\(X.W f=arj->∃q,eY m m' q/\nd vs (p2 bA) q)
theorem a1.caps {caps:List (Nat×List (bC D))} {gs:List arh} (h:a1 (fun c g=>mf X.G z vs c.2 0 g) caps gs):a1 (rel X.G z vs) (caps.map fun p=>aN.gw p.1 p.2 0) gs:=by
 induction caps generalizing gs with
 |nil=>cases gs with
  |nil=>trivial
  |cons _ _=>exact h.elim
 |cons c caps aU=>cases gs with
  |nil=>exact h.elim
  |cons g gs=>exact ⟨h.1,aU h.2⟩
theorem NP {al:Type} {T:cb al} {dc:al->List arh} (aa:∀z x ds,T.rd z x ds->ds=dc x) {L:List arh}:∀{xs:List al} {o:Nat},(∀(i:Nat) (x:al),xs[i]? =are x->∃cs,T.rd z x cs/\om L (o+i*T.aW) cs)->(∀x∈xs,(dc x).length=T.aW)->
  ∀(i:Nat) (v:arh),(xs.flatMap dc)[i]? =are v->L[o+i]? =are v
 |[],o,_,_,i,v,h=>by simp at h
 |x::xs,o,h,ai,i,v,af=>by
  obtain ⟨cs,h1,J⟩:=h 0 x rfl;have:=aa _ _ _ h1;subst this;have tO:=ai x arS;rw[asl,at5] at af;split at af
  ·have:=J i v af
   rwa [asz,ar3] at this
  ·rename_i eT;have:=NP aa (xs:=xs) (o:=o+T.aW) (L:=L) (fun j y ap=>by
    obtain ⟨cs,g1,g2⟩:=h (j+1) y (by simpa using ap);exact ⟨cs,g1,by rw[arW,asS] at g2;rw[show o+T.aW+j*T.aW=o+(j*T.aW+T.aW) by omega];exact g2⟩) (fun y ah=>ai y (arK _ ah)) _ v af
   rw[tO] at this eT;rw[show o+i=o+T.aW+(i - T.aW) by omega];exact this
theorem OZ {al:Type} {dc:al->List arh} {n:Nat}:∀{xs:List al},(∀x∈xs,(dc x).length=n)->∀(i j:Nat) (x:al) (v:arh),xs[i]? =are x->(dc x)[j]? =are v->(xs.flatMap dc)[i*n+j]? =are v
 |[],_,i,j,x,v,h,_=>by simp at h
 |y::xs,ai,0,j,x,v,h,ap=>by simp at h;subst h;rw[asl,asz,arE,arQ (arp.1 ap).1];exact ap
 |y::xs,ai,i+1,j,x,v,h,ap=>by have ah:=ai y arS;rw[asl,arW,asS,arP (by omega),show i*n+n+j - (dc y).length=i*n+j by omega];exact OZ (fun x U=>ai x (arK _ U)) i j x v (by simpa using h) ap
theorem CD {al:Type} {dc:al->List arh} {n:Nat}:∀{xs:List al},(∀x∈xs,(dc x).length=n)->(xs.flatMap dc).length=xs.length*n
 |[],_=>by simp
 |x::xs,h=>by rw[asl,arJ,h x arS,CD fun y ah=>h y (arK _ ah),arU,arW];omega
theorem aiT {bA:List (aN D)} {n:Nat} (h:QD (Il bA) n=arf):∃s,bA=[s, .fn n []]:=by
 unfold Il at h;split at h
 ·rename_i s g;obtain rfl:=arB h;exact ⟨s,rfl⟩
 ·cases h
theorem GO {f:Nat} {caps:List (Nat×List (bC D))} {bA:List (aN D)} {eL:pB P X.G}:∀{l:List (pB P X.G)},xo X l f caps bA=are eL->eL.f=f/\caps=[]/\∃s,bA=[s, .fn eL.g []]
 |[],h=>by cases h
 |s::l,h=>by
  unfold xo at h;by_cases ad:(aru s.f f&&(caps.isEmpty&&QD (Il bA) s.g))=arf
  ·rw[if_pos ad] at h;cases h;simp only[arq] at ad;exact ⟨arB ad.1,by simpa using ad.2.1,aiT ad.2.2⟩
  ·rw[if_neg ad] at h;exact GO h
theorem Xl {f:Nat} {bA:List (aN D)} {eL:pB P X.G} {args:List arh} {caps:List (Nat×List (bC D))} (aK:xo X X.S f caps bA=are eL) (au:bd X.G O z e m k vs) (b5:a1 (rel X.G z vs) bA args) (h:PA X eL bA O K=are r):
  fR P f args.toArray m fun v m'=>cF X O z e k vs K r v m'/\∃q,eY m m' q/\nd vs (zF bA) q:=by
 obtain ⟨rfl,_,s,rfl⟩:=GO aK
 match args,b5 with
 |[cr,a2],⟨h1,⟨gs,J,aj⟩,_⟩=>
  have vK:gs=[]:=by cases gs with
   |nil=>rfl
   |cons _ _=>exact aj.elim
  subst vK;subst J;unfold PA at h;split at h
  ·rename_i cV l aq;cases aq;have h1:cr= .slice ari 0 0:=h1;subst h1;exact fR.sort eL.ok (.none ari 0 eL.g eL.az rfl) ⟨cF.here (sv:= .mV []) au ⟨[],rfl,trivial⟩ h,ari,⟨ars _,fun _ _ _=>rfl⟩, .inl rfl⟩
  ·rename_i i l aq;cases aq;split at h
   ·rename_i t xs w ag;split at h
    ·rename_i he;subst he;obtain ⟨a8,ah,h⟩:=bind_some h;have bP:cO (X.G.T eL.e) z e m k xs cr:=au.obj i _ cr ag h1.1;have sa:∀x∈xs,(eL.dc x).length=(X.G.T eL.e).aW:=fun x _=>(X.G.T eL.e).len z x _ (eL.ao z x);have Vc:∀x∈a8,(eL.dc x).length=(X.G.T eL.e).aW:=fun x _=>(X.G.T eL.e).len z x _ (eL.ao z x);have av:=eL.av xs a8 ah;have gZ:∀l:List (D eL.e),(l.flatMap eL.dc).all b7=arf:=fun l=>by
      rw[arz];intro v aa;obtain ⟨x,_,U⟩:=List.mem_flatMap.1 aa;exact arz.1 (eL.aK x) v U
     rcases bP.a7 with ⟨rfl,rfl⟩|⟨b,f0,L,c,rfl,g1,g2,g3,g4,g5,g6⟩
     ·have oh:a8=[]:=asJ (by rw[av];rfl);subst oh;refine fR.sort eL.ok (.none ari 0 eL.g eL.az rfl) ⟨⟨z,vs, .mV [],_,Inv.set O i (.inr rfl),cz.refl z,fun _ _ h=>h, ?_,⟨[],rfl,trivial⟩,h⟩,ari,⟨ars _,fun _ _ _=>rfl⟩, .inl rfl⟩;exact au.mW (m':=m) ag h1.1 rfl ⟨ars _,au.aR.dead,fun _ _ _=>rfl⟩ au.aR bP
     ·by_cases dT:xs.length=0
      ·have MM:xs=[]:=asJ dT;subst MM;have oh:a8=[]:=asJ (by rw[av];rfl);subst oh;refine fR.sort eL.ok (.none _ c eL.g eL.az rfl) ⟨⟨z,vs, .mV [],_,Inv.set O i (.inr rfl),cz.refl z,fun _ _ h=>h, ?_,⟨[],rfl,trivial⟩,h⟩,ari,⟨ars _,fun _ _ _=>rfl⟩, .inl rfl⟩;exact au.mW (m':=m) ag h1.1 rfl ⟨ars _,au.aR.dead,fun _ _ _=>rfl⟩ au.aR bP
      ·have rY:=CD sa;have UI:=CD Vc;have hlen:(ee L f0 (a8.flatMap eL.dc)).length=L.length:=nH _ _ _;have aF:=bP.aF b rfl;have vW:eX m (m.put b (.own (ee L f0 (a8.flatMap eL.dc)) (X.G.T eL.e).tid)) (are b):=by
        refine ⟨ars _,fun c ad=> ?_,fun c ad hk=> ?_⟩
        ·have ad:m.next<=c:=ad;simp only[Mem.put];rw[if_neg (by omega)];exact au.aR.dead c ad
        ·simp only[Mem.put];rw[if_neg (fun cJ=>hk (by rw[cJ]))]
       refine fR.sort eL.ok (.row b f0 xs.length c eL.g L (X.G.T eL.e).tid (xs.flatMap eL.dc) (a8.flatMap eL.dc) (eL.aq xs a8 ah (by omega)) rfl (by omega) g1 ?_ (by rw[rY];exact g4) (by rw[rY,UI,av]) (gZ _) (gZ _)) ⟨⟨z,vs, .mV [],_,Inv.set O i (.inr rfl),cz.refl z,fun _ _ h=>h, ?_,⟨[],rfl,trivial⟩,h⟩,are b,⟨ars _,vW.ay⟩, .inr ⟨i,by simp[zF],_,h1.1,rfl⟩⟩
       ·refine as8 fun j=> ?_;rw[asg];split
        ·rename_i ap;rw[asE];have aa:=arX ap;rw[aa];exact NP eL.aa (fun i x U=>g6 i x U) sa j _ aa
        ·rename_i ap;rw[atG (by omega)]
       ·refine au.mW ag h1.1 rfl vW (au.aR.put _ g3 g2 aF.2) ⟨.inr ⟨b,f0,ee L f0 (a8.flatMap eL.dc),c,by rw[av],by simp[Mem.put],g2,g3,by rw[av,hlen];exact g4,by rw[av,hlen];exact g5,fun i x U=> ?_⟩,bP.fresh⟩;refine ⟨eL.dc x,eL.ao z x,fun j v ap=> ?_⟩;have hk:=OZ Vc i j x v U ap;rw[ow _ _ _ _ (by rw[UI,av];exact g4)];have aO:=(arp.1 hk).1;rw[if_pos (by omega),show f0+i*(X.G.T eL.e).aW+j - f0=i*(X.G.T eL.e).aW+j by omega];exact hk
    ·cases h
   ·cases h
  ·cases h
 |[],h=>exact h.elim
 |[_],⟨_,h⟩=>exact h.elim
 |_::_::_::_,⟨_,_,h⟩=>exact h.elim
theorem Xt:∀{is:List Nat} {gs:List arh},a1 (rK vs) is gs->a1 (rel X.G z vs) (is.map fun i=>aN.box i 0) gs
 |[],[],_=>trivial
 |[],_::_,h=>h.elim
 |_::_,[],h=>h.elim
 |_::_,_::_,⟨⟨az,b,h⟩,J⟩=>⟨⟨b,by subst h;exact az,h⟩,Xt J⟩
theorem ag4 (bI:fL X) {c:Call} (ag:o.op= .call c) (au:bd X.G O z e m k vs) (aP:∀x,rel X.G z vs (cj E x) (aL fr x)) (h:q2 X c E O K=are r):bO P (aL fr) o m fun _ v m'=>cF X O z e k vs K r v m':=by
 obtain ⟨ce,as,ts⟩:=c;cases ce with
 |invoke r m=>cases h
 |value f=>
  simp only[q2] at h;split at h
  ·rename_i jS caps aK;have fB:=aP f;rw[aK] at fB;obtain ⟨gs,vH,aM⟩:=fB;split at h
   ·rename_i eL oc;have LV:caps=[]:=(GO oc).2.1;subst LV;have vK:gs=[]:=by cases gs with
     |nil=>rfl
     |cons _ _=>exact aM.elim
    subst vK;refine bO.call (CG (args:=(as.toList.map (aL fr)).toArray) (caps:=#[]) ag vH (by apply asB;simp) rfl) ?_;have:=(Xl oc au (wO aP) h).mono fun _ _ h=>h.1;simpa using this
   refine bO.call (CG (args:=(as.toList.map (aL fr)).toArray) (caps:=gs.toArray) ag vH (by apply asB;simp) rfl) ?_;have:=(bI jS _ O K r (as.toList.map (aL fr)++gs) au ((wO aP).append aM.caps) h).mono fun _ _ h=>h.1;simpa using this
  ·rename_i jS is aK;have fB:=aP f;rw[aK] at fB;obtain ⟨gs,vH,aM⟩:=fB;refine bO.call (CG (args:=(as.toList.map (aL fr)).toArray) (caps:=gs.toArray) ag vH (by apply asB;simp) rfl) ?_;have:=(bI jS _ O K r (as.toList.map (aL fr)++gs) au ((wO aP).append (Xt aM)) h).mono fun _ _ h=>h.1;simpa using this
  ·cases h
 |builtin b=>
  cases b with
  |len=>
   simp only[q2] at h;split at h
   ·rename_i x t ar ak;have nj:as=#[x]:=by cases as;simp at ar;subst ar;rfl
    have kE:ts=#[t]:=by cases ts;simp at ak;subst ak;rfl
    subst nj kE;exact ahP (ts:=#[t]) ag au (aP x) h
   ·cases h
  |append=>
   simp only[q2] at h;split at h
   ·rename_i x y t u ar ak;have nj:as=#[x,y]:=by cases as;simp at ar;subst ar;rfl
    have kE:ts=#[t,u]:=by cases ts;simp at ak;subst ak;rfl
    subst nj kE;split at h
    ·rename_i hu;exact agO ag hu au (aP x) (aP y) h
    split at h
    ·exact ag3 ag au (aP x) (aP y) h
    have U:=aP x;split at h
    ·rename_i i af;rw[af] at U;split at h
     ·exact ag2 ag au U (aP y) h
     ·rw[af] at h;exact XA ag au U (aP y) h
    ·exact XA ag au U (aP y) h
   ·cases h
  |cap=>
   simp only[q2] at h;split at h
   ·rename_i x t ar ak;have nj:as=#[x]:=by cases as;simp at ar;subst ar;rfl
    have kE:ts=#[t]:=by cases ts;simp at ak;subst ak;rfl
    subst nj kE;split at h
    ·rename_i fJ U hu;have aa:=aP x;rw[U] at aa;exact bO.pure (.AU x t fJ ag hu aa) (cF.here (sv:= .c (.int .i64 0)) au rfl h)
    ·cases h
   ·cases h
  |max=>
   simp only[q2] at h;split at h
   ·rename_i x y ar;have nj:as=#[x,y]:=by cases as;simp at ar;subst ar;rfl
    subst nj;have U:=aP x;have ah:=aP y;split at h
    ·rename_i bm a br b h1 J;rw[h1] at U;rw[J] at ah;split at h
     ·rename_i hk;subst hk;exact ij au h (aaa ag U ah) rfl
     ·cases h
    ·cases h
   ·cases h
  |min=>
   simp only[q2] at h;split at h
   ·rename_i x y ar;have nj:as=#[x,y]:=by cases as;simp at ar;subst ar;rfl
    subst nj;have U:=aP x;have ah:=aP y;split at h
    ·rename_i bm a br b h1 J;rw[h1] at U;rw[J] at ah;split at h
     ·rename_i hk;subst hk;exact ij au h (aab ag U ah) rfl
     ·cases h
    ·cases h
   ·cases h
  |_=>cases h
theorem ah5 {s:aN D} {v:arh} {p:SN D} (au:bd X.G O z e m k vs) (h:PS O s=are p) (aa:rel X.G z vs s v):kN (X.G.M p.u p.kt p.vt) z p.es v\/hU (X.G.M p.u p.kt p.vt) z e m k p.es v:=by
 unfold PS at h;split at h
 ·cases h;exact .inl aa
 ·split at h
  ·rename_i u kt vt es a6 bD ag;cases h;have bP:=au.obj _ _ v ag aa.1;cases a6 with
   |true=>exact .inl bP
   |false=>exact .inr bP
  ·cases h
 ·cases h
theorem Hj (bI:fL X) {op:Op} (ag:o.op=op) (au:bd X.G O z e m k vs) (aP:∀x,rel X.G z vs (cj E x) (aL fr x)) (h:fY X op E O K=are r):bO P (aL fr) o m fun _ v m'=>cF X O z e k vs K r v m':=by
 cases op with
 |move x=>exact ij au h (an6 ag rfl) (aP x)
 |assign x=>exact ij au h (akb ag rfl) (aP x)
 |nilCheck x=>
  have U:=aP x;simp only[fY] at h;split at h
  ·rename_i i off aq;have j0:=U;rw[aq] at j0;obtain ⟨b,_,aa⟩:=j0;exact ij au h (by rw[aa];exact .nilCheck x _ ag aa) U
  ·rename_i i aq;have j0:=U;rw[aq] at j0;obtain ⟨b,l,_,aa⟩:=j0;exact ij au h (by rw[aa];exact .nilCheck x _ ag aa) U
  ·rename_i i aT ca off aq;have j0:=U;rw[aq] at j0;obtain ⟨b,f0,l,c,_,aa⟩:=j0;exact ij au h (by rw[aa];exact .nilCheck x _ ag aa) U
  ·rename_i t cs off aq;have j0:=U;rw[aq] at j0;obtain ⟨b,ek,ds,aa,_⟩:=j0;exact ij au h (by rw[aa];exact .nilCheck x _ ag aa) U
  ·cases h
 |extract x i=>
  have U:=aP x;simp only[fY] at h;split at h
  ·rename_i l aq;rw[aq] at U;obtain ⟨ds,aa,ai⟩:=U;split at h
   ·rename_i c ad;obtain ⟨w,hw,ao⟩:=ai.get i _ ad;exact ij au h (XD ag aa hw) ao
   ·rename_i p ad;obtain ⟨w,hw,ao⟩:=ai.get i _ ad;exact ij au h (XD ag aa hw) ao
   ·cases h
  ·cases h
 |pick c a b=>
  have ad:=aP c;simp only[fY] at h;split at h
  ·rename_i aq;rw[aq] at ad;exact ij au h (aae (t:=arf) ag ad (if_pos rfl)) (aP a)
  ·rename_i aq;rw[aq] at ad;exact ij au h (aae (t:=arj) ag ad (if_neg (by simp))) (aP b)
  ·cases h
 |binOp op t x y u=>
  simp only[fY] at h;have U:=aP x;have ah:=aP y;split at h
  ·rename_i t1 c1 t2 c2 h1 J;rw[h1] at U;rw[J] at ah;obtain ⟨c,v,fA,an,ao⟩:=ak2 ag U ah h;exact ij au fA an ao
  ·obtain ⟨c,v,fA,an,ao⟩:=ai3 ag au U ah h;exact ij au fA an ao
 |unOp op t x=>
  have U:=aP x;cases op with
  |not=>
   simp only[fY] at h;split at h
   ·rename_i b aq;rw[aq] at U;exact ij au h (VP ag U) rfl
   ·cases h
  |neg=>
   simp only[fY] at h;split at h
   ·rename_i kk a aq;rw[aq] at U;exact ij au h (VN ag U) rfl
   ·cases h
  |_=>simp[fY] at h
 |convert s t x=>exact ahB ag au (aP x) h
 |indexAddr t x y=>exact ahO ag au (aP x) (aP y) h
 |fieldAddr t x n=>exact aih ag au (aP x) h
 |load t x=>
  simp only[fY] at h;split at h
  ·unfold YZ at h;refine (Xk ag au (aP x) h).mono fun _ v m' av=> ?_;obtain ⟨bR,ja,sv,bB,az,h1,J,aj,aJ,bk⟩:=av;dsimp only at bk;split at bk
   ·rename_i j;split at bk
    ·rename_i c cE aK;obtain ⟨z2,cr,a2,a3,a4⟩:=YD aj aK aJ.1;exact ⟨z2,ja, .c c,cE,az.trans cr,h1.trans a2,J,a3,a4,bk⟩
    ·cases bk
   ·cases bk
  ·exact Xk ag au (aP x) h
 |store t x y=>exact agT ag au (aP x) (aP y) h
 |alloc t=>exact agN ag au h
 |box t x=>
  simp only[fY] at h;split at h
  ·rename_i i cs af ad;split at h
   ·rename_i ai;exact aie ag au (aP x) af ad ai h
   ·cases h
  ·cases h
 |makeSlice t x y=>
  have U:=aP x;simp only[fY] at h;split at h
  ·rename_i fK kk n ak aq;rw[aq] at U;split at h
   ·exact agS ag ak au U h
   ·split at h
    ·rename_i ti cA mF;exact ahF ag ak au U mF h
    ·cases h
  ·cases h
 |buildSlice t l bx=>
  simp only[fY] at h;split at h
  ·exact ahR ag au aP h
  ·split at h
   ·rename_i fK ak;split at h
    ·rename_i ti cA;exact agQ ag ak au aP h
    ·cases h
   ·cases h
 |build t bx=>
  simp only[fY] at h;split at h
  ·rename_i aY ti ak cA;split at h
   ·rename_i an;split at h
    ·rename_i cs ad;exact agm ag ak au aP an ad h
    ·cases h
   ·cases h
  ·rename_i n tB ti ak cA;split at h
   ·rename_i kk hk;split at h
    ·rename_i cs ad;exact agP ag ak hk au aP ad h
    ·cases h
   ·cases h
  ·cases h
 |slice t x bf af eI=>
  cases eI with
  |none=>exact ahC ag au aP (aP x) h
  |some eI=>
   cases bf with
   |some _=>simp[fY] at h
   |none=>
    cases af with
    |none=>simp[fY] at h
    |some y=>exact ahD ag au aP h
 |index t x y=>
  have U:=aP x;have ah:=aP y;simp only[fY] at h;split at h
  ·rename_i s kk n ak h1 J;rw[h1] at U;rw[J] at ah;obtain ⟨c,ad,h⟩:=bind_some h;exact ajp ag ak U ah ad (cF.here (sv:= .c (.int .u8 (UInt8.toNat c:Int))) au rfl h)
  ·cases h
 |makeFunc fn first cap=>
  cases fn with
  |func f=>
   simp only[fY] at h;split at h
   ·split at h
    ·rename_i is aK ad;exact ahN ag aK au aP ad h
    ·cases h
   ·split at h
    ·rename_i caps bB aK ad;exact aj8 ag aK au aP ad h
    ·cases h
  |_=>simp[fY] at h
 |makeMap t rs=>
  cases rs with
  |none=>
   simp only[fY] at h;split at h
   ·rename_i kt vt ak;exact ahQ ag ak au h
   ·cases h
  |some _=>simp[fY] at h
 |lookup t x y ok=>
  have U:=aP x;have ah:=aP y;simp only[fY] at h;split at h
  ·rename_i u kt vt es ai;have hm:=ah5 au ai U;split at h
   ·rename_i bm v1 br v2 ak hu;split at h
    ·rename_i di;obtain ⟨rfl,rfl,rfl,rfl⟩:=di;split at h
     ·rename_i ea Ud;split at h
      ·rename_i a ar;exact ahE ag ak hu au hm ah ar h
      ·cases h
     ·cases h
    ·cases h
   ·cases h
  ·cases h
 |mapUpdate t x y w=>
  have U:=aP x;have ah:=aP y;have hw:=aP w;simp only[fY] at h;split at h
  ·rename_i i d h1 aj;rw[h1] at U;rw[aj] at hw;split at h
   ·rename_i u kt vt es bD hO;split at h
    ·rename_i bm v1 br v2 ak hu;split at h
     ·rename_i di;obtain ⟨rfl,rfl,rfl,rfl⟩:=di;split at h
      ·rename_i ea Ud;split at h
       ·rename_i a b ar ab;exact XB (.inl ag) ak hu au hO U.1 ah hw ar ab h
       ·cases h
      ·cases h
     ·cases h
    ·cases h
   ·cases h
  ·cases h
 |insert t x y w=>
  have U:=aP x;have ah:=aP y;have hw:=aP w;simp only[fY] at h;split at h
  ·rename_i i d h1 aj;rw[h1] at U;rw[aj] at hw;split at h
   ·rename_i u kt vt es bD hO;split at h
    ·rename_i bm v1 br v2 ak hu;split at h
     ·rename_i di;obtain ⟨rfl,rfl,rfl,rfl⟩:=di;split at h
      ·rename_i ea Ud;split at h
       ·rename_i a b ar ab;exact XB (.inr ag) ak hu au hO U.1 ah hw ar ab h
       ·cases h
      ·cases h
     ·cases h
    ·cases h
   ·cases h
  ·cases h
 |call c=>exact ag4 bI ag au aP h
 |_=>simp[fY] at h
end
end Go.aQ
end
section
namespace Go.aQ
section
variable {P:arl} {D:Nat->Type} {X:dk P D} {ae:Type} {z z':Nat->aV} {e m m':Mem} {k:Option Nat} {vs vs':List arh} {fr:Nat->arh} {E:List (Nat×aN D)} {O bz:List (aG D)} {o:Oper} {r:ae}
theorem eA {al:Type} {p:Prop} [Decidable p] {a:Option al} {x:al} (h:(if p then a else ari)=are x):p/\a=are x:=by
 split at h
 ·exact ⟨‹_›,h⟩
 ·cases h
theorem eY.refl (m:Mem):eY m m ari:=⟨ars _,fun _ _ _=>rfl⟩
theorem eY.push (m:Mem) (Y:aV):eY m (m.push Y) ari:=⟨ar7 _,fun b ab _=>if_neg (by omega)⟩
theorem eY.put (m:Mem) (c:Nat) (Y:aV):eY m (m.put c Y) (are c):=⟨ars _,fun b ab av=>if_neg (fun h=>av (by rw[h]))⟩
theorem eY.any (h:eY m m' ari) (q:Option Nat):eY m m' q:=⟨h.1,fun b ab _=>h.2 b ab (by simp)⟩
theorem bO.FX {ae:arm->arh} {K kM:Tag->arh->Mem->Prop} (h:bO P ae o m K)
  (h1:∀v,cm P ae o v->(∃t,K t v m)->kM .pure v m) (J:∀v,dX P ae o m v->K (.read fun m=>dX P ae o m v) v m->kM (.read fun m=>dX P ae o m v) v m)
  (aj:∀Y v,hI P ae o m.next Y v->K .new v (m.push Y)->kM .new v (m.push Y)) (aJ:∀n v m',fM P (hR P n) ae o m v m'->K .ev v m'->kM .ev v m'):bO P ae o m kM:=by
 rcases h with ⟨v,h,g⟩|⟨v,I,h,g⟩|⟨v,h,g⟩|⟨Y,v,h,g⟩|⟨n,v,m',h,g⟩
 ·exact .inl ⟨v,h,h1 v h ⟨_,g⟩⟩
 ·exact .inl ⟨v,h,h1 v h ⟨_,g⟩⟩
 ·exact .inr (.inr (.inl ⟨v,h,J v h g⟩))
 ·exact .inr (.inr (.inr (.inl ⟨Y,v,h,aj Y v h g⟩)))
 ·exact .inr (.inr (.inr (.inr ⟨n,v,m',h,aJ n v m' h g⟩)))
theorem ajI {C:FuncId->Array arh->Mem->arh->Mem->Prop} {v:arh} (aP:∀x,rel X.G z vs (cj E x) (aL fr x)) (h:fM P C (aL fr) o m v m') {ts:List Nat} (ak:q8 X E o.op=are ts)
  (aa:∀x as qe,o.op≠ .call {callee:= .value x,args:=as,argTypes:=qe}):∃q,eY m m' q/\nd vs ts q:=by
 cases h with
 |store t x y b off i L e h U af hm aa aq ai=>
  simp only[q8,h] at ak;have ao:=aP x;split at ak
  ·rename_i j p aq;cases ak;rw[aq] at ao;obtain ⟨bV,g1,g2⟩:=ao;rw[U] at g2;cases g2;exact ⟨_,eY.put m b _, .inr ⟨j,by simp,_,g1,rfl⟩⟩
  ·rename_i j u ca p aq;cases ak;rw[aq] at ao;obtain ⟨bV,f0,l,c,g1,g2⟩:=ao;rw[U] at g2;cases g2;exact ⟨_,eY.put m b _, .inr ⟨j,by simp,_,g1,rfl⟩⟩
  ·cases ak
 |call f args v m' h bI=>obtain ⟨x,as,qe,first,cap,h,_⟩:=h;exact absurd h (aa x as qe)
 |tt x y t u e i a l c h _ _ _ _ _ _=>exact ⟨ari,eY.refl _, .inl rfl⟩
 |qq x y t u e i z a l c n cK new h _ _ _ _ _ _ _ _ _ _ _ _ _ _=>exact ⟨ari,eY.push _ _, .inl rfl⟩
 |x6 x y t u e i b off l c k n L new h _ _ U _ _ hv Mk _ jE _=>
  simp only[q8,h] at ak;have ao:=aP x;split at ak
  ·rename_i aq;rw[aq] at ao;have ao:aL fr x= .slice ari 0 0:=ao;rw[U] at ao;cases ao
  ·rename_i j aq;cases ak;rw[aq] at ao;exact ⟨_,eY.put m b _, .inr ⟨j,by simp,_,ao.1,by rw[U];rfl⟩⟩
  ·rename_i j _ _ _ aq;cases ak;rw[aq] at ao;obtain ⟨w,g1,g2⟩:=ao;exact ⟨_,eY.put m b _, .inr ⟨j,by simp,_,g1.1,by rw[<-g2.ay,U];rfl⟩⟩
  ·rename_i aq;cases ak;rw[aq] at ao;obtain ⟨_,_,a,ar⟩:=ao;rw[U] at ar;cases ar;have az:n=0:=by omega
   have nr:new=[]:=asJ (by rw[jE,az,asz]);subst nr;refine ⟨ari,⟨ars _,fun c _ _=> ?_⟩, .inl rfl⟩;simp only[Mem.put,ee];split
   ·rename_i cJ;rw[cJ,Mk]
   ·rfl
  ·cases ak
 |vn x y t u e i b off l c n L new h _ _ U _ hv Mk _ jE _=>
  simp only[q8,h] at ak;have ao:=aP x;split at ak
  ·rename_i aq;rw[aq] at ao;have ao:aL fr x= .slice ari 0 0:=ao;rw[U] at ao;cases ao
  ·rename_i j aq;cases ak;rw[aq] at ao;exact ⟨_,eY.put m b _, .inr ⟨j,by simp,_,ao.1,by rw[U];rfl⟩⟩
  ·rename_i j _ _ _ aq;cases ak;rw[aq] at ao;obtain ⟨w,g1,g2⟩:=ao;exact ⟨_,eY.put m b _, .inr ⟨j,by simp,_,g1.1,by rw[<-g2.ay,U];rfl⟩⟩
  ·rename_i aq;cases ak;rw[aq] at ao;obtain ⟨_,_,a,ar⟩:=ao;rw[U] at ar;cases ar;have az:n=0:=by omega
   have nr:new=[]:=asJ (by rw[jE,az,asz]);subst nr;refine ⟨ari,⟨ars _,fun c _ _=> ?_⟩, .inl rfl⟩;simp only[Mem.put,ee];split
   ·rename_i cJ;rw[cJ,Mk]
   ·rfl
  ·cases ak
 |append x y t u e i z b off l n L new h _ _ _ _ _ _ U _ _ _ _ _ _=>
  simp only[q8,h] at ak;have ao:=aP x;have ad:eY m ((m.put b .dead).push (.own ((L.drop off).take (l*i.size)++new) e)) (are b):=by have:=eY.put m b .dead;exact ⟨ar7 _,fun c ad av=>by rw[show ((m.put b .dead).push _).ay c=(m.put b .dead).ay c from if_neg (by show c≠m.next;omega)];exact this.2 c ad av⟩
  split at ak
  ·rename_i aq;rw[aq] at ao;have ao:aL fr x= .slice ari 0 0:=ao;rw[U] at ao;cases ao
  ·rename_i j aq;cases ak;rw[aq] at ao;exact ⟨_,ad, .inr ⟨j,by simp,_,ao.1,by rw[U];rfl⟩⟩
  ·rename_i j _ _ _ aq;cases ak;rw[aq] at ao;obtain ⟨w,g1,g2⟩:=ao;exact ⟨_,ad, .inr ⟨j,by simp,_,g1.1,by rw[<-g2.ay,U];rfl⟩⟩
  ·rename_i aq;cases ak;rw[aq] at ao;obtain ⟨_,dS,a,ar⟩:=ao;rw[U] at ar;injection ar with _ h1 J;rw[<-J] at dS;exact absurd dS (Nat.lt_irrefl _)
  ·cases ak
 |clear x t e i z b off l c L h _ _ _ _ _ _ _ _ _=>simp[q8,h] at ak
 |copy x y t u e i b off l c L cs h _ _ _ _ _ _ _=>simp[q8,h] at ak
 |mapUpdate eE x fG fb u kt vt b L bX vc F nc gp h _ _ U _ _ _ _ _ _ _ _ _ _ _ _ _ _ _=>
  have ao:=aP x;have ak:(match cj E x with| .c (.own j)=>are [j]|_=>ari)=are ts:=by rcases h with h|h<;>(rw[h] at ak;exact ak)
  split at ak
  ·rename_i j aq;cases ak;rw[aq] at ao;exact ⟨_,eY.put m b _, .inr ⟨j,by simp,_,ao.1,by rw[U];rfl⟩⟩
  ·cases ak
theorem Wk {caps:List (Nat×List (bC D))}:∀{l:List (aN D)},p2 (l++caps.map fun p=>aN.gw p.1 p.2 0)=p2 l
 |[]=>by
  induction caps with
  |nil=>rfl
  |cons c caps aU=>exact aU
 |s::l=>by cases s<;>simp only[List.cons_append,p2,Wk (l:=l)]
theorem alB (bI:fL X) {K:aN D->List (aG D)->Option ae} (au:bd X.G O z e m k vs) (aP:∀x,rel X.G z vs (cj E x) (aL fr x)) (nm:iH o.op=arf) {ts:List Nat} (ak:q8 X E o.op=are ts) (h:fY X o.op E O K=are r):
  bO P (aL fr) o m fun _ v m'=>cF X O z e k vs K r v m'/\(p3 X E O o.op=arf->m'=m)/\∃q,eY m m' q/\nd vs ts q:=by
 have Vt:(∀x as qe,o.op≠ .call {callee:= .value x,args:=as,argTypes:=qe})->∀{p:Prop},p3 X E O o.op=arf->p:=fun aa p aF=>by
  unfold p3 at aF;split at aF
  ·rename_i c ad;split at aF
   ·rename_i f aK;obtain ⟨ce,as,ts⟩:=c;exact absurd (by rw[ad];simp only at aK;rw[aK]) (aa f as ts)
   ·cases aF
  ·cases aF
 have gen:(∀x as qe,o.op≠ .call {callee:= .value x,args:=as,argTypes:=qe})->bO P (aL fr) o m fun _ v m'=>cF X O z e k vs K r v m'/\(p3 X E O o.op=arf->m'=m)/\∃q,eY m m' q/\nd vs ts q:=fun aa=>
  (Hj bI rfl au aP h).FX (fun v _ ⟨_,hk⟩=>⟨hk,fun _=>rfl,ari,eY.refl _, .inl rfl⟩) (fun v _ hk=>⟨hk,fun _=>rfl,ari,eY.refl _, .inl rfl⟩) (fun Y v _ hk=>⟨hk,Vt aa,ari,eY.push _ _, .inl rfl⟩) fun n v m' he hk=>⟨hk,Vt aa,ajI aP he ak aa⟩
 by_cases aa:∀x as qe,o.op≠ .call {callee:= .value x,args:=as,argTypes:=qe}
 ·exact gen aa
 ·simp only[Classical.not_forall,ne_eq,Classical.not_not] at aa;obtain ⟨f,as,qe,ag⟩:=aa;rw[ag] at h ak;simp only[q8] at ak;have h:q2 X {callee:= .value f,args:=as,argTypes:=qe} E O K=are r:=h;simp only[q2] at h;split at h
  ·rename_i jS caps aK;rw[aK] at ak;simp only at ak;have fB:=aP f;rw[aK] at fB;obtain ⟨gs,vH,aM⟩:=fB;split at h
   ·rename_i eL oc;rw[oc] at ak;cases ak;have LV:caps=[]:=(GO oc).2.1;subst LV;have vK:gs=[]:=by cases gs with
     |nil=>rfl
     |cons _ _=>exact aM.elim
    subst vK;refine bO.call (CG (args:=(as.toList.map (aL fr)).toArray) (caps:=#[]) ag vH (by apply asB;simp) rfl) ?_;have aF:p3 X E O o.op=arj:=by rw[ag];simp only[p3,aK,oc]
    rw[aF];have:=(Xl oc au (wO aP) h).mono fun v m' (h:_/\_)=>(⟨h.1,fun ax=>aut ax,h.2⟩:cF X O z e k vs K r v m'/\(arj=arf->m'=m)/\∃q,eY m m' q/\nd vs (zF (as.toList.map (cj E))) q)
    simpa using this
   rename_i ME;rw[ME] at ak;simp only at ak;split at ak
   ·cases ak
   rename_i hw;have hw:X.W jS=arj:=by simpa using hw
   cases ak;refine bO.call (CG (args:=(as.toList.map (aL fr)).toArray) (caps:=gs.toArray) ag vH (by apply asB;simp) rfl) ?_;have:=(bI jS _ O K r (as.toList.map (aL fr)++gs) au ((wO aP).append aM.caps) h).mono fun v m' ax=>(⟨ax.1,ax.2.1,ax.2.2 hw⟩:_/\_/\_)
   rw[Wk] at this;have aF:p3 X E O o.op=X.F jS (as.toList.map (cj E)++caps.map fun p=> .gw p.1 p.2 0) O:=by rw[ag];simp only[p3,aK,ME]
   rw[aF];simpa using this
  ·rename_i jS is aK;rw[aK] at ak;cases ak
  ·cases h
theorem Oh {C:FuncId->Array arh->Mem->arh->Mem->Prop} (bI:∀f args m v m',C f args m v m'->m.next<=m'.next) {ae:arm->arh} {v:arh} (h:fM P C ae o m v m'):m.next<=m'.next:=by
 cases h with
 |call f args v m' h ad=>exact bI _ _ _ _ _ ad
 |qq=>exact ar7 _
 |append=>exact ar7 _
 |_=>exact ars _
theorem ahn {C:FuncId->Array arh->Mem->arh->Mem->Prop} (bI:∀f args m v m',C f args m v m'->m.next<=m'.next) {ae:arm->arh} {v:arh} (h:nX P C ae o m v m'):m.next<=m'.next:=by
 cases h with
 |new h=>exact ar7 _
 |ev h=>exact Oh bI h
 |_=>exact ars _
theorem OG {C:FuncId->Array arh->Mem->arh->Mem->Prop} (bI:∀f args m v m',C f args m v m'->m.next<=m'.next) {ops:List Oper}:∀{l:List Oper} {fr fr':Nat->arh} {m m':Mem},iZ P C ops l fr m fr' m'->m.next<=m'.next
 |[],_,_,_,_,⟨_,h⟩=>by rw[h];exact ars _
 |o::l,fr,fr',m,m',h=>by
  unfold iZ at h;split at h
  ·obtain ⟨v,m1,h1,J⟩:=h;exact arR (ahn bI h1) (OG bI J)
  ·exact OG bI h
theorem ze {C:FuncId->Array arh->Mem->arh->Mem->Prop} (bI:∀f args m v m',C f args m v m'->m.next<=m'.next) {ops:List Oper} {B:Array Nat}:∀{l:List Oper} {i:Nat} {A:Acc} {fr fr':Nat->arh} {m m':Mem},fZ P C ops B i l A fr m fr' m'->m.next<=m'.next
 |[],_,_,_,_,_,_,⟨_,h⟩=>by rw[h];exact ars _
 |o::l,i,A,fr,fr',m,m',h=>by
  unfold fZ at h;split at h
  ·rcases h with ⟨v,_,h⟩|⟨v,_,_,h⟩|⟨Y,v,_,h⟩|⟨v,m1,h1,_,_,h⟩
   ·exact ze bI h
   ·exact ze bI h
   ·exact arR (ar7 _) (ze bI h)
   ·exact arR (Oh bI h1) (ze bI h)
  ·exact ze bI h
theorem WV {C:FuncId->Array arh->Mem->arh->Mem->Prop} (bI:∀f args m v m',C f args m v m'->m.next<=m'.next):∀(n:Nat) {c:Code} {fr fr':Nat->arh} {m m':Mem} {e:dF},j4 P C n c fr m e fr' m'->m.next<=m'.next:=by
 intro n;induction n with
 |zero=>intro c fr fr' m m' e h;exact h.elim
 |succ n aU=>
  intro c fr fr' m m' e h;cases c with
  |skip=>obtain ⟨_,rfl,rfl⟩:=h;exact ars _
  |label l=>obtain ⟨_,rfl,rfl⟩:=h;exact ars _
  |exit id=>obtain ⟨_,rfl,rfl⟩:=h;exact ars _
  |ret=>obtain ⟨_,rfl,rfl⟩:=h;exact ars _
  |region id ops d=>
   cases d with
   |false=>exact OG bI h.2
   |true=>exact ze bI h.2
  |seq a b=>
   rcases h with ⟨aT,cd,m1,h1,J⟩|h
   rotate_left
   ·exact h.2.next
   split at J
   ·exact arR (aU h1) (aU J)
   ·obtain ⟨_,rfl,rfl⟩:=J;exact aU h1
  |cond c a b=>obtain ⟨t,_,h1⟩:=h;exact aU h1
  |block id c=>obtain ⟨aT,h1,_⟩:=h;exact aU h1
  |scope c=>exact aU h
  |loop c=>
   obtain ⟨aT,cd,m1,h1,J⟩:=h;split at J
   ·exact arR (aU h1) (aU J)
   ·obtain ⟨_,rfl,rfl⟩:=J;exact aU h1
  |rangeFunc f bx x y=>exact h.elim
  |goto l=>exact h.elim
  |refuse s=>exact h.elim
theorem NJ:∀(n:Nat) (f:FuncId) (args:Array arh) (m:Mem) (v:arh) (m':Mem),hR P n f args m v m'->m.next<=m'.next
 |0,_,_,_,_,_,h=>h.elim
 |n+1,f,args,m,v,m',h=>by
  rcases h with ⟨_,h⟩|⟨fn,c,e,fr,m1,vs,_,_,_,_,h,_,_,_,_,J⟩
  ·cases h<;>first|exact ars _|exact ar7 _
  ·have h1:=WV (NJ n) n h;rcases J with rfl|⟨rfl,_⟩
   ·exact h1
   ·exact ars _
def AK (m:Mem) (I:Mem->Prop) (ob:Option Nat):Prop:=∀m',(∀b,ob=are b->m'.ay b=m.ay b)->I m'
theorem X5 {b off:Nat} {v:arh} (h:m.load b off=are v) (ab:m'.ay b=m.ay b):m'.load b off=are v:=by
 unfold Mem.load at h⊢;rw[ab];exact h
theorem GZ {b:Nat} (ab:m'.ay b=m.ay b):∀(n off:Nat),il m' b off n=il m b off n
 |0,_=>rfl
 |n+1,off=>by
  have:∀o,m'.load b o=m.load b o:=fun o=>by unfold Mem.load;rw[ab]
  simp only[il,this,GZ ab n]
def tr (z:Nat->aV) (vs:List arh) (ob:Option Nat):kO->Prop
 | .oj=>False
 | .lost=>False
 | .a6=>∀b,ob=are b->(z b).fw
 | .ob j=>∀b,ob=are b->∃u,vs[j]? =are u/\cT u=are b
def vl (z:Nat->aV) (vs:List arh) (b:Nat):kO->Prop
 | .oj=>False
 | .lost=>False
 | .a6=>(z b).fw
 | .ob j=>∃u,vs[j]? =are u/\cT u=are b
theorem vl.at {b:Nat} {s:kO} (h:vl z vs b s):tr z vs (are b) s:=by
 cases s with
 |oj=>exact h
 |lost=>exact h
 |a6=>intro c ad;cases ad;exact h
 |ob j=>intro c ad;cases ad;exact h
theorem alf {s:kO} {v:arh} (au:bd X.G O z e m k vs) (aP:∀x,rel X.G z vs (cj E x) (aL fr x)) (aq:q7 E o.op=are s) (h:dX P (aL fr) o m v):
  ∃ob,AK m (fun m=>dX P (aL fr) o m v) ob/\tr z vs ob s:=by
 have ack:∀{t:Nat} {c:bC D} {cs:List (bC D)} {off b Ng:Nat},rel X.G z vs (.gw t (c::cs) off) (.pointer (are ⟨b,Ng,ari⟩))->(z b).fw:=by
  rintro t c cs off b Ng ⟨bV,o',ds,h1,J,aj⟩;cases h1;cases ds with
  |nil=>exact aj.elim
  |cons d ds=>exact CH (J 0 d rfl)
 have ptr:∀{x:arm} {b off:Nat},aL fr x= .pointer (are ⟨b,off,ari⟩)->(match cj E x with| .gw _ (_::_) _=>are kO.a6| .box j _=>are (.ob j)| .el j _ _ _=>are (.ob j)|_=>ari)=are s->vl z vs b s:=by
  intro x b off U aq;have ao:=aP x;split at aq
  ·rename_i h1;cases aq;rw[h1,U] at ao;exact ack ao
  ·rename_i h1;cases aq;rw[h1,U] at ao;obtain ⟨bV,g1,g2⟩:=ao;cases g2;exact ⟨_,g1,rfl⟩
  ·rename_i h1;cases aq;rw[h1,U] at ao;obtain ⟨bV,f0,l,c,g1,g2⟩:=ao;cases g2;exact ⟨_,g1,rfl⟩
  ·cases aq
 have aE:∀{t:Nat} {xs:List (D t)} {b off l c:Nat},dW (X.G.T t) z xs (.slice (are ⟨b,off,ari⟩) l c)->(z b).fw:=by
  rintro t xs b off l c (⟨h1,_⟩|⟨bV,o',bg,h1,J,_⟩)
  ·cases h1
  ·cases h1;exact J
 cases h with
 |load t x b off d v h U ak aw aa=>simp only[q7,h] at aq;exact ⟨are b,fun m' hm=> .load t x b off d v h U ak aw (X5 aa (hm b rfl)),(ptr U aq).at⟩
 |ud t x b off d i cs h U ak aw af aa=>simp only[q7,h] at aq;exact ⟨are b,fun m' hm=> .ud t x b off d i cs h U ak aw af (by rw[GZ (hm b rfl)];exact aa),(ptr U aq).at⟩
 |slice t x bf af bp i L b off l n bq h ak da U hm dv cP h1 J aj=>
  simp only[q7,h] at aq;refine ⟨are b,fun m' fD=> .slice t x bf af bp i L b off l n bq h ak da U (by rw[fD b rfl];exact hm) dv cP h1 J aj,vl.at ?_⟩;have ao:=aP x;split at aq
  ·rename_i g;rw[g,U] at ao;cases ao
  ·rename_i g;cases aq;rw[g,U] at ao;exact aE ao
  ·rename_i g;cases aq;rw[g,U] at ao;exact ⟨_,ao.1,rfl⟩
  ·cases aq
 |xA t x bf af bp i L b off l c k n bq h ak da U hk hm dv cP h1 J aj=>
  simp only[q7,h] at aq;refine ⟨are b,fun m' fD=> .xA t x bf af bp i L b off l c k n bq h ak da U hk (by rw[fD b rfl];exact hm) dv cP h1 J aj,vl.at ?_⟩;have ao:=aP x;split at aq
  ·rename_i g;rw[g,U] at ao;cases ao
  ·rename_i g;cases aq;rw[g,U] at ao;exact aE ao
  ·rename_i g;cases aq;rw[g,U] at ao;exact ⟨_,ao.1,rfl⟩
  ·cases aq
 |str cV t x bp b off l c cs h kh he ak U aa=>
  simp only[q7,h] at aq;refine ⟨are b,fun m' fD=> .str cV t x bp b off l c cs h kh he ak U (by rw[GZ (fD b rfl)];exact aa),vl.at ?_⟩;have ao:=aP x;split at aq
  ·rename_i g;cases aq;rw[g,U] at ao;exact aE ao
  ·rename_i g;cases aq;rw[g,U] at ao;exact ⟨_,ao.1,rfl⟩
  ·rename_i g;rw[g,U] at ao;cases ao
  ·rename_i g;rw[g,U] at ao;cases ao
  ·cases aq
 |xB cV t x bp l c h kh he ak U=>
  simp only[q7,h] at aq;refine ⟨ari,fun m' fD=> .xB cV t x bp l c h kh he ak U, ?_⟩;have ao:=aP x;split at aq
  ·cases aq;intro b ab;cases ab
  ·cases aq;intro b ab;cases ab
  ·rename_i g;rw[g,U] at ao;cases ao
  ·rename_i g;rw[g,U] at ao;cases ao
  ·cases aq
 |lookup eE x ca ok u kt vt b L F i z' v0 t gp h fX hu U lq kZ kM aK hk aM af aD b3 ai=>
  simp only[q7,h] at aq;rcases U with ⟨U,hm,lk⟩|⟨U,lk⟩
  ·refine ⟨are b,fun m' fD=> .lookup eE x ca ok u kt vt b L F i z' v0 t gp h fX hu (.inl ⟨U,by rw[fD b rfl];exact hm,lk⟩) lq kZ kM aK hk aM af aD b3 ai,vl.at ?_⟩;have ao:=aP x;split at aq
   ·rename_i g;cases aq;rw[g,U] at ao;rcases ao with ⟨h1,_⟩|⟨r,h1,J⟩
    ·cases h1
    ·cases h1;show (z _).fw;rw[J];exact True.intro
   ·rename_i g;cases aq;rw[g,U] at ao;exact ⟨_,ao.1,rfl⟩
   ·cases aq
  ·refine ⟨ari,fun m' fD=> .lookup eE x ca ok u kt vt b L F i z' v0 t gp h fX hu (.inr ⟨U,lk⟩) lq kZ kM aK hk aM af aD b3 ai, ?_⟩;split at aq
   ·cases aq;intro b ab;cases ab
   ·cases aq;intro b ab;cases ab
   ·cases aq
def abA (z:Nat->aV) (m:Mem) (vs:List arh) (I:Mem->Prop) (s:kO):Prop:=
 s= .lost\/∃ob,AK m I ob/\(∀b,ob=are b->b<m.next)/\tr z vs ob s
structure hc (z:Nat->aV) (m:Mem) (vs:List arh) (A:Acc) (L:eS):Prop where
 rd:∀x∈A.reads,∃y∈L.rd,y.1=x.1/\abA z m vs x.2 y.2
 ix:∀x∈A.e6,∃y∈L.ix,y.1=x.1/\(y.2.1=arf->m=x.2)/\∀j∈y.2.2,∃v,vs[j]? =are v/\∀b,cT v=are b->b<m.next/\m.ay b=x.2.ay b
 ha:∀x∈A.news,∃y∈L.ha,y.1=x.1/\x.2<m.next/\∃v,vs[y.2]? =are v/\cT v=are x.2
theorem AK.step {I:Mem->Prop} {ob q:Option Nat} (h:AK m I ob) (ab:∀b,ob=are b->b<m.next) (ad:eY m m' q) (aF:∀b,ob=are b->q≠are b):AK m' I ob:=fun m2 hm=>h m2 fun b ch=>by
 rw[hm b ch,ad.2 b (ab b ch) (aF b ch)]
theorem tr.mono {ob:Option Nat} {s:kO} (h:tr z vs ob s) (aD:eb z z') (aa:∀(i:Nat) (u:arh),vs[i]? =are u->vs'[i]? =are u):tr z' vs' ob s:=by
 cases s with
 |oj=>exact h
 |lost=>exact h
 |a6=>intro b ab;rw[aD b (h b ab)];exact h b ab
 |ob j=>intro b ab;obtain ⟨u,g1,g2⟩:=h b ab;exact ⟨u,aa _ _ g1,g2⟩
theorem hc.step {A:Acc} {L:eS} {q:Option Nat} (h:hc z m vs A L) (aD:eb z z') (aa:∀(i:Nat) (u:arh),vs[i]? =are u->vs'[i]? =are u) (ad:eY m m' q)
  (L':eS) (ao:∀y∈L.rd,∃jt∈L'.rd,jt.1=y.1/\(jt.2= .lost\/jt.2=y.2/\∀ob,tr z vs ob y.2->∀b,ob=are b->q≠are b))
  (he:∀y∈L.ix,∃jt∈L'.ix,jt.1=y.1/\(jt.2.1=arf->y.2.1=arf/\m'=m)/\∀j∈jt.2.2,j∈y.2.2/\∀v b,vs[j]? =are v->cT v=are b->q≠are b) (av:∀y∈L.ha,y∈L'.ha):hc z' m' vs' A L' where
 rd:=fun x U=>by
  obtain ⟨y,ah,h1,J⟩:=h.rd x U;obtain ⟨jt,sb,g1,g2⟩:=ao y ah;refine ⟨jt,sb,by rw[g1,h1], ?_⟩;rcases g2 with g2|⟨g2,g3⟩
  ·exact .inl g2
  ·rcases J with J|⟨ob,bm,br,dj⟩
   ·exact .inl (by rw[g2,J])
   ·exact .inr ⟨ob,bm.step br ad (g3 ob dj),fun b ab=>arT (br b ab) ad.1,by rw[g2];exact dj.mono aD aa⟩
 ix:=fun x U=>by obtain ⟨y,ah,h1,az,J⟩:=h.ix x U;obtain ⟨jt,sb,g1,g0,g2⟩:=he y ah;refine ⟨jt,sb,by rw[g1,h1],fun aK=>by rw[(g0 aK).2];exact az (g0 aK).1,fun j ap=> ?_⟩;obtain ⟨g3,g4⟩:=g2 j ap;obtain ⟨v,bm,br⟩:=J j g3;refine ⟨v,aa _ _ bm,fun b ab=> ?_⟩;obtain ⟨dj,gk⟩:=br b ab;exact ⟨arT dj ad.1,by rw[ad.2 b dj (g4 v b bm ab)];exact gk⟩
 ha:=fun x U=>by obtain ⟨y,ah,h1,J,v,aj,aJ⟩:=h.ha x U;exact ⟨y,av y ah,h1,arT J ad.1,v,aa _ _ aj,aJ⟩
theorem hc.quiet {A:Acc} {L:eS} (h:hc z m vs A L) (aD:eb z z') (aa:∀(i:Nat) (u:arh),vs[i]? =are u->vs'[i]? =are u) (hm:m'=m):hc z' m' vs' A L:=
 h.step (q:=ari) aD aa (by rw[hm];exact eY.refl m) L (fun y ah=>⟨y,ah,rfl, .inr ⟨rfl,fun _ _ _ _=>by simp⟩⟩) (fun y ah=>⟨y,ah,rfl,fun h=>⟨h,hm⟩,fun j ap=>⟨ap,fun _ _ _ _=>by simp⟩⟩) fun y ah=>ah
theorem YI {j:Nat} (au:bd X.G O z e m k vs) (h:Hr O j=arf):∃v,vs[j]? =are v/\∀b,cT v=are b->b<m.next/\(z b≠ .dead\/∃o,O[j]? =are o/\o.live=arf):=by
 unfold Hr at h;have fin:∀{o:aG D},O[j]? =are o->o≠ .dead->(∀t w,o≠ .box t [] arf w)->∃v,vs[j]? =are v/\∀b,cT v=are b->b<m.next/\(z b≠ .dead\/∃o,O[j]? =are o/\o.live=arf):=by
  intro o ag aw l0;obtain ⟨v,aa,bP⟩:=au.at ag;refine ⟨v,aa,fun b ab=> ?_⟩;cases ai:o.live with
  |true=>exact ⟨(bP.lt ai b ab).1, .inr ⟨o,ag,ai⟩⟩
  |false=>
   have aD:z b≠ .dead:=by
    cases o with
    |dead=>exact absurd rfl aw
    |aE t xs a6 w=>
     cases a6 with
     |false=>cases ai
     |true=>
      rcases (bP:dW (X.G.T t) z xs v) with ⟨rfl,_⟩|⟨bV,o',bg,rfl,J,_⟩
      ·cases ab
      ·cases ab;exact J.ne
    |box t cs a6 w=>
     cases a6 with
     |false=>cases ai
     |true=>
      obtain ⟨bV,ds,rfl,J,aj⟩:=bP;cases ab;cases cs with
      |nil=>exact absurd rfl (l0 t w)
      |cons c cs=>
       cases ds with
       |nil=>exact aj.elim
       |cons d ds=>have:=J 0 d rfl;intro aw;unfold k1 at this;rw[aw] at this;cases this
    |recv t cs w=>cases ai
    |arr _ _ _ _ _=>cases ai
    |nest _ _ _ _ _ _=>cases ai
    |map t kt vt es a6 w=>
     cases a6 with
     |false=>cases ai
     |true=>
      rcases (bP:kN (X.G.M t kt vt) z es v) with ⟨rfl,_⟩|⟨r,rfl,J⟩
      ·cases ab
      ·cases ab;intro aw;rw[aw] at J;cases J
   refine ⟨?_, .inl aD⟩;exact (au.aR.a6 b aD).2
 split at h
 ·cases h
 ·cases h
 ·rename_i o h1 J ag;exact fin ag (fun ax=>h1 ax) fun t w ax=>J t w ax
 ·cases h
theorem Yh {l:List Nat} {j:Nat}:l.any (aru j)=arf↔j∈l:=by
 simp only[List.any_eq_true];constructor
 ·rintro ⟨x,U,h⟩;have:=arB h;subst this;exact U
 ·intro h;exact ⟨j,h,by simp⟩
theorem Yp {j:Nat} (h:sy O j=arf):∃o,O[j]? =are o/\o.live=arf:=by
 unfold sy at h;split at h
 ·exact ⟨_,‹_›,h⟩
 ·cases h
theorem GL {ts:List Nat} {q:Option Nat} (au:bd X.G O z e m k vs) (ai:ts.all (sy O)=arf) (aF:nd vs ts q) {j:Nat} (h:uD O ts j=arf) {v:arh} {b:Nat} (aa:vs[j]? =are v) (ab:cT v=are b):q≠are b:=by
 simp only[uD,arq,aso] at h;rcases aF with rfl|⟨i,af,w,hw,rfl⟩
 ·simp
 ·intro o2;have cQ:i≠j:=by
   rintro rfl;rw[Yh.2 af] at h;cases h.2
  obtain ⟨o,ag,iT⟩:=Yp (arz.1 ai i af);have aw:=((au.obj i o w ag hw).lt iT b o2).2.1;obtain ⟨bl,lB,h1⟩:=YI au h.1;rw[aa] at lB;cases lB;rcases (h1 b ab).2 with J|⟨p,an,oa⟩
  ·exact J aw
  ·exact au.eu i j o p w v cQ ag an iT oa hw aa b o2 ab
theorem ahV {ts:List Nat} {q:Option Nat} (au:bd X.G O z e m k vs) (ai:ts.all (sy O)=arf) (aF:nd vs ts q) {b:Nat} (aD:z b≠ .dead):q≠are b:=by
 rcases aF with rfl|⟨i,af,w,hw,rfl⟩
 ·simp
 ·intro o2;obtain ⟨o,ag,iT⟩:=Yp (arz.1 ai i af);exact aD ((au.obj i o w ag hw).lt iT b o2).2.1
theorem W5 {ts:List Nat} {q:Option Nat} (au:bd X.G O z e m k vs) (ai:ts.all (sy O)=arf) (aF:nd vs ts q) {s:kO} (h:DG O ts s=arf) {ob:Option Nat} (aq:tr z vs ob s):∀b,ob=are b->q≠are b:=by
 intro b ab;cases s with
 |oj=>exact aq.elim
 |lost=>exact aq.elim
 |a6=>exact ahV au ai aF (aq b ab).ne
 |ob j=>obtain ⟨u,g1,g2⟩:=aq b ab;exact GL au ai aF h g1 g2
theorem Wc:∀{l:List (aG D)} {i j:Nat},j∈uA O i l->∃n o,j=i+n/\l[n]? =are o/\o.live=arf
 |[],i,j,h=>by simp[uA] at h
 |o::l,i,j,h=>by
  simp only[uA] at h;have tail:j∈uA O (i+1) l->∃n p,j=i+n/\(o::l)[n]? =are p/\p.live=arf:=fun h=>by obtain ⟨n,p,h1,J,aj⟩:=Wc h;exact ⟨n+1,p,by omega,J,aj⟩
  split at h
  ·rename_i ag;rcases arA.1 h with rfl|h
   ·exact ⟨0,o,rfl,rfl,ag⟩
   ·exact tail h
  ·exact tail h
theorem hc.ev {A:Acc} {L:eS} {q:Option Nat} {B:Array Nat} {i:Nat} {ts:List Nat} {qc:Bool} (h:hc z m vs A L) (au:bd X.G O z e m k vs) (aD:eb z z') (aa:∀(i:Nat) (u:arh),vs[i]? =are u->vs'[i]? =are u) (ad:eY m m' q) (aF:nd vs ts q) (vV:qc=arf->m'=m)
  (hk:PU B i O L ts=arf):uh B i A m .ev m'/\hc z' m' vs' (pE A i m .ev) (AY i O ts qc L):=by
 simp only[PU,arq,arz,asi] at hk;obtain ⟨ai,o0,rV⟩:=hk;have ai:ts.all (sy O)=arf:=arz.2 ai;refine ⟨⟨fun x U ar=> ?_,fun x U ar=> ?_⟩, ?_⟩
 ·obtain ⟨y,ah,h1,J⟩:=h.rd x U;have:=o0 y ah;rw[h1,ar] at this;have aq:DG O ts y.2=arf:=by simpa using this
  rcases J with J|⟨ob,bm,br,dj⟩
  ·rw[J] at aq;cases aq
  ·exact bm m' fun b ab=>ad.2 b (br b ab) (W5 au ai aF aq dj b ab)
 ·obtain ⟨y,ah,h1,J,v,aj,aJ⟩:=h.ha x U;have:=rV y ah;rw[h1,ar] at this;have aq:uD O ts y.2=arf:=by simpa using this
  exact ad.2 _ J (GL au ai aF aq aj aJ)
 ·have aR:=h.step (L':=AY i O ts qc L) aD aa ad (fun y ah=> ?_) (fun y ah=> ?_) fun y ah=>ah
  ·refine ⟨aR.rd,fun x U=> ?_,aR.ha⟩;rcases arA.1 U with rfl|U
   ·refine ⟨(i,arf&&qc,(uA O 0 O).filter (uD O ts)),by simp[AY],rfl,fun aK=>vV (by simpa using aK),fun j ap=> ?_⟩;obtain ⟨mB,yy⟩:=aua.1 ap;obtain ⟨n,o,g1,g2,g3⟩:=Wc mB;rw[arE] at g1;subst g1;obtain ⟨v,g4,g5⟩:=au.at g2;refine ⟨v,aa _ _ g4,fun b ab=> ?_⟩;have aO:=(g5.lt g3 b ab).1;exact ⟨arT aO ad.1,ad.2 b aO (GL au ai aF yy g4 ab)⟩
   ·exact aR.ix x U
  ·refine ⟨if DG O ts y.2=arf then y else (y.1, .lost),arC.2 ⟨y,ah,rfl⟩,by split<;>rfl, ?_⟩;split
   ·rename_i aq;exact .inr ⟨rfl,fun ob ag=>W5 au ai aF aq ag⟩
   ·exact .inl rfl
  ·refine ⟨(y.1,y.2.1&&qc,y.2.2.filter (uD O ts)),arC.2 ⟨y,arK _ ah,rfl⟩,rfl,fun aK=>by simp only[arq] at aK;exact ⟨aK.1,vV aK.2⟩,fun j ap=> ?_⟩;obtain ⟨mB,yy⟩:=aua.1 ap;exact ⟨mB,fun v b h1 J=>GL au ai aF yy h1 J⟩
theorem hc.AZ {A:Acc} {L:eS} {B:Array Nat} {i:Nat} (h:hc z m vs A L) (aa:∀(i:Nat) (u:arh),vs[i]? =are u->vs'[i]? =are u) (av:m.next<=m'.next)
  (hk:Pa B i L=arf):uh B i A m .ev m'/\hc z' m' vs' (pE A i m .ev) (PV i L):=by
 simp only[Pa,arq,arz] at hk;refine ⟨⟨fun x U ar=> ?_,fun x U ar=> ?_⟩,⟨fun x U=> ?_,fun x U=> ?_,fun x U=> ?_⟩⟩
 ·obtain ⟨y,ah,h1,_⟩:=h.rd x U;have:=hk.1 y ah;rw[h1,ar] at this;cases this
 ·obtain ⟨y,ah,h1,_⟩:=h.ha x U;have:=hk.2 y ah;rw[h1,ar] at this;cases this
 ·obtain ⟨y,ah,h1,_⟩:=h.rd x U;exact ⟨(y.1, .lost),arC.2 ⟨y,ah,rfl⟩,h1, .inl rfl⟩
 ·rcases arA.1 U with rfl|U
  ·exact ⟨(i,arj,[]),arS,rfl,fun ax=>aut ax,fun j ap=>absurd ap (by simp)⟩
  ·obtain ⟨y,ah,h1,_⟩:=h.ix x U;exact ⟨(y.1,arj,[]),arK _ (arC.2 ⟨y,ah,rfl⟩),h1,fun ax=>aut ax,fun j ap=>absurd ap (by simp)⟩
 ·obtain ⟨y,ah,h1,J,v,aj,aJ⟩:=h.ha x U;exact ⟨y,ah,h1,arT J av,v,aa _ _ aj,aJ⟩
theorem hc.aav {A:Acc} {L:eS} (h:hc z m vs A L) (i:Nat) (s:kO) (n:Option Nat):hc z m vs A (oC i s n L) where
 rd:=fun x U=>by obtain ⟨y,ah,h1,J⟩:=h.rd x U;refine ⟨y, ?_,h1,J⟩;unfold oC;cases s<;>first|exact ah|exact arK _ ah
 ix:=fun x U=>by
  obtain ⟨y,ah,h1,J,aj⟩:=h.ix x U;cases n with
  |none=>exact ⟨y,ah,h1,J,aj⟩
  |some j=>exact ⟨(y.1,arj,y.2.2),arC.2 ⟨y,ah,rfl⟩,h1,(by simp),aj⟩
 ha:=fun x U=>by
  obtain ⟨y,ah,h1⟩:=h.ha x U;refine ⟨y, ?_,h1⟩;unfold oC;cases n with
  |none=>exact ah
  |some j=>exact arK _ ah
structure e1 (et:Nat) (z0 z:Nat->aV) (fr:Nat->arh) (E:List (Nat×aN D)) (m:Mem) (A:Acc) (L:eS):Prop where
 le:eb z0 z
 n:et<=m.next
 lt:∀b,(z0 b).fw->b<et
 jT:∀x∈A.e6,∀b,(z0 b).fw->m.ay b=x.2.ay b
 cK:∀d,(L.mj.any (aru d))=arj->yV (dQ E d)=arf->∀b,cT (fr d)=are b->(z0 b).fw
variable {z0:Nat->aV}
theorem e1.at {et:Nat} {A:Acc} {L:eS} (h:e1 et z0 z fr E m A L) {x:arm} (U:sj E L x=arf):∀b,cT (aL fr x)=are b->(z0 b).fw:=by
 unfold sj at U;split at U
 ·rename_i d;simp only[arq,aso] at U;exact h.cK d U.1 U.2
 ·cases U
theorem e1.read {et:Nat} {A:Acc} {L:eS} {B:Array Nat} {i:Nat} {v:arh} (h:e1 et z0 z fr E m A L) (ai:Vi E L o.op=arf) (ao:dX P (aL fr) o m v):∀x∈A.e6,eM B i x.1=arj->dX P (aL fr) o x.2 v:=by
 intro x U ar;have ab:=h.jT x U;cases ao with
 |load t q b off d v bq aF ak aw aa=>rw[bq] at ai;have:=h.at ai b (by rw[aF];rfl);exact .load t q b off d v bq aF ak aw (X5 aa (ab b this).symm)
 |ud t q b off d i cs bq aF ak aw af aa=>rw[bq] at ai;have:=h.at ai b (by rw[aF];rfl);exact .ud t q b off d i cs bq aF ak aw af (by rw[GZ (ab b this).symm];exact aa)
 |slice t q bf af bp i L' b off l n bq az ak da aF hm dv cP g1 g2 g3=>rw[az] at ai;have:=h.at ai b (by rw[aF];rfl);exact .slice t q bf af bp i L' b off l n bq az ak da aF (by rw[<-ab b this];exact hm) dv cP g1 g2 g3
 |xA t q bf af bp i L' b off l c k n bq az ak da aF hk hm dv cP g1 g2 g3=>rw[az] at ai;have:=h.at ai b (by rw[aF];rfl);exact .xA t q bf af bp i L' b off l c k n bq az ak da aF hk (by rw[<-ab b this];exact hm) dv cP g1 g2 g3
 |str cV t q bp b off l c cs az kh he ak aF aa=>rw[az] at ai;cases ai
 |xB cV t q bp l c az kh he ak aF=>rw[az] at ai;cases ai
 |lookup eE q ca ok u kt vt b L' F i z' v0 t gp az fX hu aF lq kZ kM aK hk aM af aD b3 eP=>rw[az] at ai;cases ai
theorem e1.h5 {et:Nat} {A:Acc} {L:eS} (h:e1 et z0 z fr E m A L) (aD:eb z z'):e1 et z0 z' fr E m A L:=⟨h.le.trans aD,h.n,h.lt,h.jT,h.cK⟩
theorem aiJ {L:eS} {v:arh} {et:Nat} {A:Acc} (h:e1 et z0 z fr E m A L) (aw:qu E L o.op=arf) (an:cm P (aL fr) o v):∀b,cT v=are b->(z0 b).fw:=by
 have jT:∀{w:arh},flat w=arf->∀b,cT w=are b->(z0 b).fw:=by
  intro w hw b ab;cases w with
  |pointer a=>cases a with
   |none=>cases ab
   |some a=>cases hw
  |slice a l c=>cases a with
   |none=>cases ab
   |some a=>cases hw
  |map r=>cases r with
   |none=>cases ab
   |some r=>cases hw
  |_=>cases ab
 cases an with
 |flat v aq U aa ao=>exact jT aa
 |move x ag=>
  rcases ag with ag|ag
  ·rw[ag] at aw;exact h.at aw
  ·rw[ag] at aw;exact h.at aw
 |nilCheck x a ag U=>rw[ag] at aw;intro b ab;exact h.at aw b (by rw[U];exact ab)
 |fieldAddr t x i aY f k b off ag ak aK hk aq U=>rw[ag] at aw;intro c ad;exact h.at aw c (by rw[U];exact ad)
 |indexAddr t x y e i b off l c k n ag ak af U ah az h1=>rw[ag] at aw;intro c ad;exact h.at aw c (by rw[U];exact ad)
 |BU t x y e i b off l k n ag ak af U ah az h1=>rw[ag] at aw;intro c ad;exact h.at aw c (by rw[U];exact ad)
 |pick c a b t ag ad=>rw[ag] at aw;cases aw
 |extract x i us v ag U aa=>rw[ag] at aw;cases aw
 |field t x i aY f d cs v ag _ _ _ _ _=>rw[ag] at aw;cases aw
 |build t bx aY i z cs ag _ _ _ _ _ _=>rw[ag] at aw;cases aw
 |AS t bx n e i k z cs ag _ _ _ _ _ _=>rw[ag] at aw;cases aw
 |slice t x bf af e i b off l c n bq ag _ _ _ _ _ _ _ _ _=>rw[ag] at aw;cases aw
 |k8 t x bf af e i ag _ _ _ _ _=>rw[ag] at aw;cases aw
 |slice3 t x eI af e i b off l c bq bW km ag _ _ _ _ _ _ _=>rw[ag] at aw;cases aw
 |IB t x bf af eI e i b off l c n bq bW FQ FO km ag _ _ _ _ _ _ _ _ _=>rw[ag] at aw;cases aw
 |DF t x eI af e i km ag _ _ _ _ _=>rw[ag] at aw;cases aw
 |len x t e a l c ag _ _=>rw[ag] at aw;cases aw
 |AU x t e ag _ _=>rw[ag] at aw;cases aw
 |vp neq x y t u e a l c ag _ _ _=>rw[ag] at aw;cases neq<;>cases aw
 |func fn first captured ag _=>rw[ag] at aw;cases aw
theorem e1.put {et:Nat} {A:Acc} {L:eS} {v:arh} {sv:aN D} (h:e1 et z0 z fr E m A L) (aa:qu E L o.op=arf->∀b,cT v=are b->(z0 b).fw):e1 et z0 z (set fr o.dst v) (lE E o.dst sv) m A (qh E o L):=by
 cases aw:o.dst with
 |none=>
  have e:qh E o L=L:=by unfold qh;rw[aw]
  rw[e];exact ⟨h.le,h.n,h.lt,h.jT,h.cK⟩
 |some d=>
  refine ⟨h.le,h.n,h.lt,h.jT,fun c ad aK b ab=> ?_⟩;by_cases tI:c=d
  ·subst tI;simp only[set,if_true] at ab;by_cases yv:qu E L o.op=arf
   ·exact aa yv b ab
   ·have e:(qh E o L).mj=c::L.mj:=by unfold qh;rw[aw];dsimp only;rw[if_neg yv]
    rw[e] at ad;simp at ad
  ·simp only[set,if_neg tI] at ab;have ai:dQ (lE E (are d) sv) c=dQ E c:=by
    simp only[lE,dQ];rw[if_neg];intro ax;exact tI (arB ax).symm
   rw[ai] at aK;refine h.cK c ?_ aK b ab;unfold qh at ad;rw[aw] at ad;dsimp only at ad;split at ad
   ·rw[List.any_eq_false] at ad⊢;intro y ah MP;have MP:=arB MP;subst MP;refine ad c (aua.2 ⟨ah, ?_⟩) (by simp);simp only[aso];cases aF:aru d c with
    |false=>rfl
    |true=>exact absurd (arB aF).symm tI
   ·simp only[List.any_cons,auu] at ad;exact ad.2
theorem e1.log {et:Nat} {A hb:Acc} {L L':eS} (h:e1 et z0 z fr E m A L) (c9:hb.e6=A.e6) (ah:L'.mj=L.mj):e1 et z0 z fr E m hb L':=⟨h.le,h.n,h.lt,by rw[c9];exact h.jT,by rw[ah];exact h.cK⟩
theorem e1.grow {et:Nat} {A:Acc} {L:eS} (h:e1 et z0 z fr E m A L) (ad:eY m m' ari):e1 et z0 z fr E m' A L:=⟨h.le,arR h.n ad.1,h.lt,fun x U b ab=>by
 rw[ad.2 b (arT (h.lt b ab) h.n) (by simp)];exact h.jT x U b ab,h.cK⟩
theorem e1.ev {et i:Nat} {A:Acc} {L:eS} {q:Option Nat} {ts:List Nat} {qc:Bool} (h:e1 et z0 z fr E m A L) (ad:eY m m' q) (aF:∀b,(z0 b).fw->q≠are b):e1 et z0 z fr E m' (pE A i m .ev) (AY i O ts qc L):=by
 have key:∀b,(z0 b).fw->m'.ay b=m.ay b:=fun b ab=>ad.2 b (arT (h.lt b ab) h.n) (fun ax=>aF b ab ax);refine ⟨h.le,arR h.n ad.1,h.lt,fun x U b ab=> ?_,h.cK⟩;rcases arA.1 U with rfl|U
 ·exact key b ab
 ·rw[key b ab];exact h.jT x U b ab
theorem e1.AZ {et i:Nat} {A:Acc} {L:eS} {bW:Option Nat} (h:e1 et z0 z fr E m A L) (av:m.next<=m'.next) (aD:eb z z') (s1:cu z e m k) (s2:cu z' e m' bW):e1 et z0 z' fr E m' (pE A i m .ev) (PV i L):=by
 have key:∀b,(z0 b).fw->m'.ay b=m.ay b:=fun b ab=>by have h1:=h.le b ab;have J:=aD b (by rw[h1];exact ab);rw[(s1.a6 b (by rw[h1];exact ab.ne)).1,(s2.a6 b (by rw[J,h1];exact ab.ne)).1,J]
 refine ⟨h.le.trans aD,arR h.n av,h.lt,fun x U b ab=> ?_,h.cK⟩;rcases arA.1 U with rfl|U
 ·exact key b ab
 ·rw[key b ab];exact h.jT x U b ab
theorem aiA {ts:List Nat} {q:Option Nat} (au:bd X.G O z e m k vs) (ai:ts.all (sy O)=arf) (aF:nd vs ts q) (aD:eb z0 z):∀b,(z0 b).fw->q≠are b:=by
 intro b ab o2;rcases aF with aF|⟨i,af,v,aa,he⟩
 ·rw[aF] at o2;cases o2
 ·have:=arz.1 ai i af;unfold sy at this;split at this
  ·rename_i p an;have:=((au.obj i p v an aa).lt this b (by rw[<-he];exact o2)).2.1;rw[aD b ab] at this;rw[this] at ab;exact ab.elim
  ·cases this
theorem e1.start {E:List (Nat×aN D)} (au:bd X.G O z e m k vs) (aP:∀d,rel X.G z vs (dQ E d) (fr d)):e1 m.next z z fr E m ⟨[],[],[]⟩ ⟨[],[],[],[],[]⟩:=by
 refine ⟨eb.refl z,ars _,fun b ab=>(au.aR.a6 b ab.ne).2,by simp,fun d _ aK b ab=> ?_⟩;have ao:=aP d;unfold yV at aK;split at aK
 ·rename_i aT xs aq;rw[aq] at ao;rcases (ao:dW (X.G.T aT) z xs (fr d)) with ⟨h1,_⟩|⟨bV,o',bg,h1,J,_⟩
  ·rw[h1] at ab;cases ab
  ·rw[h1] at ab;cases ab;exact J
 ·rename_i t c cs off aq;rw[aq] at ao;obtain ⟨b,o',ds,h1,J,aj⟩:=ao;rw[h1] at ab;cases ab;cases ds with
  |nil=>exact aj.elim
  |cons d ds=>have aJ:=J 0 d rfl;exact CH aJ
 ·cases aK
theorem wU {A:Acc} {L:eS} {E:List (Nat×aN D)} (h:hc z m vs A L):hc z m vs A (qh E o L):=by
 unfold qh;split
 ·exact h
 ·split<;>exact ⟨h.rd,h.ix,h.ha⟩
theorem hc.read {A:Acc} {L:eS} {B:Array Nat} {i:Nat} {s:kO} {v:arh} {n:Option Nat} (h:hc z m vs A L) (au:bd X.G O z e m k vs) (aP:∀x,rel X.G z vs (cj E x) (aL fr x)) (aD:eb z z') (aa:∀(i:Nat) (u:arh),vs[i]? =are u->vs'[i]? =are u)
  {et:Nat} (aq:q7 E o.op=are s) (hk:(zR B i O L s||Hv B i E L s o.op)=arf) (ao:dX P (aL fr) o m v) (aM:e1 (D:=D) et z0 z fr E m A L):
  uh B i A m (.read fun m=>dX P (aL fr) o m v) m/\hc z' m vs' (pE A i m (.read fun m=>dX P (aL fr) o m v)) (oC i s n L):=by
 obtain ⟨ob,h1,J⟩:=alf au aP aq ao;rw[asi] at hk;have lt:∀b,ob=are b->b<m.next:=by
  intro b ab;cases s with
  |oj=>exact J.elim
  |lost=>exact J.elim
  |a6=>have aD:=J b ab;exact (au.aR.a6 b aD.ne).2
  |ob j=>have hk:zR B i O L (.ob j)=arf:=hk.resolve_right (by simp[Hv,TY]);simp only[zR,arq] at hk;obtain ⟨u,g1,g2⟩:=J b ab;obtain ⟨bl,g3,g4⟩:=YI au hk.1;rw[g1] at g3;cases g3;exact (g4 b g2).1
 refine ⟨fun x U ar=> ?_, ?_⟩
 ·rcases hk with hk|hk
  case inr=>
   simp only[Hv,arq] at hk;exact aM.read (B:=B) hk.2 ao x U ar
  obtain ⟨y,ah,bm,hh,br⟩:=h.ix x U;refine h1 x.2 fun b ab=> ?_;cases s with
  |oj=>exact J.elim
  |lost=>exact J.elim
  |a6=>simp only[zR,arz] at hk;have:=hk y ah;rw[bm,ar,Bool.false_or] at this;rw[hh this]
  |ob j=>
   simp only[zR,arq,arz,asi] at hk;have:=hk.2 y ah;rw[bm,ar] at this;have ap:y.2.1=arf\/j∈y.2.2:=by
    rcases this with h|h|h
    ·cases h
    ·exact .inl h
    ·exact .inr (Yh.1 h)
   rcases ap with ap|ap
   ·rw[hh ap]
   obtain ⟨bl,g1,g2⟩:=br j ap;obtain ⟨u,g3,g4⟩:=J b ab;rw[g3] at g1;cases g1;exact (g2 b g4).2.symm
 ·have aR:=((h.quiet (eb.refl z) (fun _ _ h=>h) rfl).aav i s n).quiet (m':=m) aD aa rfl;refine ⟨fun x U=> ?_,aR.ix,aR.ha⟩;rcases arA.1 U with rfl|U
  ·refine ⟨(i,s), ?_,rfl, .inr ⟨ob,h1,lt,J.mono aD aa⟩⟩;unfold oC;cases s<;>first|exact J.elim|exact arS
  ·exact aR.rd x U
theorem akx {Y:aV} {v:arh} {sv:aN D} {n:Option Nat} {N:Nat} (h:hI P (aL fr) o N Y v) (ao:rel X.G z vs sv v) (av:PK sv=are n):∃j,n=are j/\∃u,vs[j]? =are u/\cT u=are N:=by
 have aa:cT v=are N:=by cases h<;>rfl
 unfold PK at av;split at av
 ·cases av;exact ⟨_,rfl,v,ao.1,aa⟩
 ·cases av;obtain ⟨b,g1,rfl⟩:=ao;exact ⟨_,rfl,_,g1,aa⟩
 ·cases av;obtain ⟨b,l,g1,rfl⟩:=ao;exact ⟨_,rfl,_,g1,aa⟩
 ·have ao:v= .int _ _:=ao;rw[ao] at aa;cases aa
 ·have ao:v=aQ.str _:=ao;rw[ao] at aa;cases aa
 ·cases av
theorem hc.new {A:Acc} {L:eS} {i:Nat} {s:kO} {j:Nat} {Y:aV} (h:hc z m vs A L) (aD:eb z z') (aa:∀(i:Nat) (u:arh),vs[i]? =are u->vs'[i]? =are u) (ap:∃u,vs'[j]? =are u/\cT u=are m.next):
  hc z' (m.push Y) vs' (pE A i m .new) (oC i s (are j) L):=by
 have aR:=h.step (m':=m.push Y) (q:=ari) aD aa (eY.push m Y) (oC i s (are j) L) (fun y ah=>⟨y,by unfold oC;cases s<;>first|exact ah|exact arK _ ah,rfl, .inr ⟨rfl,fun _ _ _ _=>by simp⟩⟩)
  (fun y ah=>⟨(y.1,arj,y.2.2),arC.2 ⟨y,ah,rfl⟩,rfl,by simp,fun j ap=>⟨ap,fun _ _ _ _=>by simp⟩⟩) fun y ah=>arK _ ah
 refine ⟨aR.rd,aR.ix,fun x U=> ?_⟩;rcases arA.1 U with rfl|U
 ·obtain ⟨u,g1,g2⟩:=ap;exact ⟨(i,j),by simp[oC],rfl,Nat.lt_succ_self _,u,g1,g2⟩
 ·exact aR.ha x U
end
end Go.aQ
end
section
namespace Go.aQ
section
variable {P:arl} {D:Nat->Type} {X:dk P D} {ae:Type} {z z':Nat->aV} {e m m':Mem} {k:Option Nat} {vs:List arh} {fr:Nat->arh} {E:List (Nat×aN D)} {O:List (aG D)} {o:Oper} {r:ae}
def ef (X:dk P D) (z:Nat->aV) (vs:List arh) (E:List (Nat×aN D)) (fr:Nat->arh):Prop:=∀d,rel X.G z vs (dQ E d) (fr d)
theorem ef.mono (h:ef X z vs E fr) {vs':List arh} (aD:eb z z') (aa:∀(i:Nat) (u:arh),vs[i]? =are u->vs'[i]? =are u):ef X z' vs' E fr:=fun d=>rel.mono (h d) aD aa
theorem ef.cons (h:ef X z vs E fr) {d:Nat} {s:aN D} (aq:rel X.G z vs s (fr d)):ef X z vs ((d,s)::E) fr:=fun i=>by
 simp only[dQ];split
 ·rename_i af;have:d=i:=arB af;subst this;exact aq
 ·exact h i
theorem ef.put (h:ef X z vs E fr) {d:Option Nat} {s:aN D} {v:arh} (aq:rel X.G z vs s v):ef X z vs (lE E d s) (set fr d v):=by
 cases d with
 |none=>exact h
 |some d=>
  intro i;simp only[lE,dQ,set];split
  ·rename_i af;have:d=i:=arB af;subst this;rw[if_pos rfl];exact aq
  ·rename_i af;rw[if_neg]
   ·exact h i
   ·intro ax;subst ax;simp at af
def hi (X:dk P D) (O:List (aG D)) (z:Nat->aV) (e:Mem) (k:Option Nat) (vs:List arh) (K:List (Nat×aN D)->List (aG D)->Option ae) (r:ae) (fr':Nat->arh) (m':Mem):Prop:=
 ∃z' vs' E' bz,Inv O bz/\cz e.next z z'/\(∀(i:Nat) (u:arh),vs[i]? =are u->vs'[i]? =are u)/\bd X.G bz z' e m' k vs'/\ef X z' vs' E' fr'/\K E' bz=are r
theorem hi.from {K:List (Nat×aN D)->List (aG D)->Option ae} {fr':Nat->arh} {bR:Nat->aV} {ja:List arh} {bB:List (aG D)} (af:Inv O bB) (aD:cz e.next z bR) (aa:∀(i:Nat) (u:arh),vs[i]? =are u->ja[i]? =are u) (h:hi X bB bR e k ja K r fr' m'):hi X O z e k vs K r fr' m':=by
 obtain ⟨z',vs',sv,bz,az,h1,J,aj,aJ,bk⟩:=h;exact ⟨z',vs',sv,bz,af.trans az,aD.trans h1,fun i u hu=>J i u (aa i u hu),aj,aJ,bk⟩
theorem hi.here {K:List (Nat×aN D)->List (aG D)->Option ae} (au:bd X.G O z e m k vs) (aP:ef X z vs E fr) (fA:K E O=are r):hi X O z e k vs K r fr m:=⟨z,vs,E,O,Inv.refl O,cz.refl z,fun _ _ h=>h,au,aP,fA⟩
theorem W1 {d:Nat} {K:List (Nat×aN D)->Option ae} (aP:ef X z vs E fr) (h:uK E d K=are r):∃E',ef X z vs E' fr/\K E'=are r:=by
 unfold uK at h;have aw:=aP d;split at h
 ·rename_i b aq;rw[aq] at aw;cases b with
  |true=>rw[if_pos rfl] at h;exact ⟨_,aP.cons (s:= .c (.bool arf)) aw,h⟩
  |false=>rw[if_neg (by simp)] at h;exact ⟨_,aP.cons (s:= .c (.bool arj)) aw,h⟩
 ·exact ⟨_,aP,h⟩
 ·cases h
theorem alA (bI:fL X) {K:List (Nat×aN D)->List (aG D)->Option ae} (au:bd X.G O z e m k vs) (aP:ef X z vs E fr) (h:B7 X o E O K=are r):bO P (aL fr) o m fun _ v m'=>hi X O z e k vs K r (set fr o.dst v) m':=by
 have go:∀{E:List (Nat×aN D)},ef X z vs E fr->fY X o.op E O (fun v O=>K (lE E o.dst v) O)=are r->bO P (aL fr) o m fun _ v m'=>hi X O z e k vs K r (set fr o.dst v) m':=by intro E aP h;refine bO.mono (Hj bI rfl au (Ow aP) h) ?_;rintro t v m' ⟨z',vs',sv,bz,az,h1,J,aj,aJ,bk⟩;exact ⟨z',vs',_,bz,az,h1,J,aj,(aP.mono h1.le J).put aJ,bk⟩
 unfold B7 at h;split at h
 ·obtain ⟨E',lk,h⟩:=W1 aP h;exact go lk h
 ·exact go aP h
theorem zy (bI:fL X) {ops:List Oper} {K:List (Nat×aN D)->List (aG D)->Option ae}:∀{l:List Oper} {E:List (Nat×aN D)} {O:List (aG D)} {z:Nat->aV} {vs:List arh} {m:Mem} {fr:Nat->arh},bd X.G O z e m k vs->ef X z vs E fr->ps X ops l E O K=are r->fc P ops l (hi X O z e k vs K r) fr m
 |[],E,O,z,vs,m,fr,au,aP,h=>fc.nil (hi.here au aP h)
 |o::l,E,O,z,vs,m,fr,au,aP,h=>by
  unfold ps at h;have step:∀{E:List (Nat×aN D)},ef X z vs E fr->(B7 X o E O fun E O=>ps X ops l E O K)=are r->bO P (aL fr) o m fun _ v m1=>fc P ops l (hi X O z e k vs K r) (set fr o.dst v) m1:=by intro E aP h;refine bO.mono (alA bI au aP h) ?_;rintro t v m1 ⟨z',vs',E',bz,az,h1,J,aj,aJ,bk⟩;exact fc.mono (zy bI aj aJ bk) fun _ _ av=>av.from az h1 J
  split at h
  ·rename_i aM;exact fc.J9 (by simp only[wanted,aM]) (step aP h)
  ·rename_i j want aM;split at h
   ·cases h
   ·rename_i d aw;obtain ⟨jQ,rT,h⟩:=W1 aP h;have aa:=rT d;split at h
    ·rename_i b aq;rw[aq] at aa;split at h
     ·rename_i ab;exact fc.J8 aM aw aa ab (step rT h)
     ·rename_i ab;exact fc.IA aM aw aa (by cases b<;>cases want<;>simp at ab⊢) (zy bI au (rT.put (s:= .undef) rfl) h)
    ·rename_i aq;rw[aq] at aa;exact fc.QF aM aw aa (zy bI au (rT.put (s:= .undef) rfl) h)
    ·cases h
variable {z0:Nat->aV}
theorem WE {d:Nat} {K:List (Nat×aN D)->Option ae} (aP:ef X z vs E fr) (h:uK E d K=are r):∃E',ef X z vs E' fr/\(∀c,dQ E' c=dQ E c\/yV (dQ E' c)=arj)/\K E'=are r:=by
 have aw:=aP d;have B5:∀{b:Bool} (c:Nat),dQ ((d, .c (.bool b))::E) c=dQ E c\/yV (dQ ((d, .c (.bool b))::E) c)=arj:=by
  intro b c;simp only[dQ];split
  ·exact .inr rfl
  ·exact .inl rfl
 unfold uK at h;split at h
 ·rename_i b ab;rw[ab] at aw;have aw:fr d= .bool b:=aw;split at h
  ·rename_i ak;exact ⟨_,aP.cons (by rw[aw,ak];exact rfl),B5,h⟩
  ·rename_i ak;exact ⟨_,aP.cons (by rw[aw];cases b with|true=>exact absurd rfl ak|false=>exact rfl),B5,h⟩
 ·exact ⟨E,aP,fun _=> .inl rfl,h⟩
 ·cases h
theorem e1.split {et:Nat} {A:Acc} {L:eS} {E':List (Nat×aN D)} (h:e1 et z0 z fr E m A L) (aF:∀c,dQ E' c=dQ E c\/yV (dQ E' c)=arj):e1 et z0 z fr E' m A L:=⟨h.le,h.n,h.lt,h.jT,fun d aw aK=>by
 rcases aF d with aF|aF
 ·rw[aF] at aK;exact h.cK d aw aK
 ·rw[aF] at aK;cases aK⟩
theorem e1.skip {et:Nat} {A:Acc} {L:eS} {dst:Option Nat} (h:e1 et z0 z fr E m A L):e1 et z0 z (set fr dst undef) (lE E dst .undef) m A L:=by
 cases dst with
 |none=>exact h
 |some d=>
  refine ⟨h.le,h.n,h.lt,h.jT,fun c ad aK b ab=> ?_⟩;simp only[lE,dQ] at aK;split at aK
  ·cases aK
  ·rename_i tI;have:c≠d:=by rintro rfl;simp at tI
   simp only[set,if_neg this] at ab;exact h.cK c ad aK b ab
theorem YY (bI:fL X) {B:Array Nat} {ops l:List Oper} {i:Nat} {A:Acc} {L:eS} {et:Nat} {Q:(Nat->arh)->Mem->Prop} {K:eS->List (Nat×aN D)->List (aG D)->Option ae} (au:bd X.G O z e m k vs) (aP:ef X z vs E fr) (b5:hc z m vs A L) (aM:e1 et z0 z fr E m A L) (h:F4 X B i o L E O K=are r)
  (hk:∀{z':Nat->aV} {vs':List arh} {m':Mem} {hb:Acc} {L':eS} {E':List (Nat×aN D)} {bz:List (aG D)} {v:arh},Inv O bz->cz e.next z z'->(∀(i:Nat) (u:arh),vs[i]? =are u->vs'[i]? =are u)->bd X.G bz z' e m' k vs'->ef X z' vs' E' (set fr o.dst v)->hc z' m' vs' hb L'->e1 et z0 z' (set fr o.dst v) E' m' hb L'->K L' E' bz=are r->gn P ops B (i+1) l hb Q (set fr o.dst v) m'):
  bO P (aL fr) o m fun t v m1=>uh B i A m t m1/\gn P ops B (i+1) l (pE A i m t) Q (set fr o.dst v) m1:=by
 have ba:=Ow aP;unfold F4 at h;split at h
 ·rename_i nm;split at h
  ·rename_i ts ak;obtain ⟨ke,h⟩:=eA h;have rL:∀{v:arh},dX P (aL fr) o m v->False:=fun ao=>by
    have:=Gh ao;revert this nm;cases o.op<;>simp[iH,looks]
   have J5:∀{Y:aV} {v:arh},hI P (aL fr) o m.next Y v->False:=fun ao=>by have:=Cr ao;revert this nm;cases o.op<;>simp[iH,nK]
   have gX:qu E L o.op=arf->False:=fun aw=>by revert aw nm;cases o.op<;>simp[iH,qu]
   refine (alB bI au ba nm ak h).FX (fun v _ ax=> ?_) (fun v ao _=>(rL ao).elim) (fun Y v ao _=>(J5 ao).elim) fun n v m' he ax=> ?_
   ·obtain ⟨_,⟨z',vs',sv,bz,az,h1,J,aj,aJ,bk⟩,vV,q,ad,aF⟩:=ax;obtain ⟨g1,g2⟩:=b5.ev (B:=B) (qc:=p3 X E O o.op) au h1.le J (eY.any (eY.refl m) ari) (.inl rfl) (fun _=>rfl) ke;have e2:=(aM.ev (O:=O) (ts:=ts) (q:=ari) (i:=i) (qc:=p3 X E O o.op) (eY.refl m) (fun b _=>by simp)).h5 h1.le;exact ⟨trivial,hk az h1 J aj ((aP.mono h1.le J).put aJ) (wU ⟨g2.rd,fun x U=>g2.ix x (arK _ U),g2.ha⟩) (e1.put ⟨e2.le,e2.n,e2.lt,fun x U=>e2.jT x (arK _ U),e2.cK⟩ fun aw=>(gX aw).elim) bk⟩
   ·obtain ⟨⟨z',vs',sv,bz,az,h1,J,aj,aJ,bk⟩,vV,q,ad,aF⟩:=ax;obtain ⟨g1,g2⟩:=b5.ev (B:=B) au h1.le J ad aF vV ke;exact ⟨g1,hk az h1 J aj ((aP.mono h1.le J).put aJ) (wU g2) (e1.put ((aM.ev ad (aiA au (att.1 ke).1 aF aM.le)).h5 h1.le) fun aw=>(gX aw).elim) bk⟩
  ·obtain ⟨ke,h⟩:=eA h;have rL:∀{v:arh},dX P (aL fr) o m v->False:=fun ao=>by
    have:=Gh ao;revert this nm;cases o.op<;>simp[iH,looks]
   have J5:∀{Y:aV} {v:arh},hI P (aL fr) o m.next Y v->False:=fun ao=>by have:=Cr ao;revert this nm;cases o.op<;>simp[iH,nK]
   have gX:qu E L o.op=arf->False:=fun aw=>by revert aw nm;cases o.op<;>simp[iH,qu]
   refine (Hj bI rfl au ba h).FX (fun v _ ax=> ?_) (fun v ao _=>(rL ao).elim) (fun Y v ao _=>(J5 ao).elim) fun n v m' he ax=> ?_
   ·obtain ⟨_,z',vs',sv,bz,az,h1,J,aj,aJ,bk⟩:=ax;obtain ⟨g1,g2⟩:=b5.AZ (z':=z') (m':=m) J (ars _) ke;have e2:=aM.AZ (i:=i) (ars _) h1.le au.aR aj.aR;exact ⟨trivial,hk az h1 J aj ((aP.mono h1.le J).put aJ) (wU ⟨g2.rd,fun x U=>g2.ix x (arK _ U),g2.ha⟩) (e1.put ⟨e2.le,e2.n,e2.lt,fun x U=>e2.jT x (arK _ U),e2.cK⟩ fun aw=>(gX aw).elim) bk⟩
   ·obtain ⟨z',vs',sv,bz,az,h1,J,aj,aJ,bk⟩:=ax;have av:=Oh (NJ n) he;obtain ⟨g1,g2⟩:=b5.AZ (z':=z') J av ke;exact ⟨g1,hk az h1 J aj ((aP.mono h1.le J).put aJ) (wU g2) (e1.put (aM.AZ av h1.le au.aR aj.aR) fun aw=>(gX aw).elim) bk⟩
 ·rename_i nm;split at h
  ·rename_i s aq;obtain ⟨ke,h⟩:=eA h;refine (Hj bI rfl au ba h).FX (fun v an ax=> ?_) (fun v ao ax=> ?_) (fun Y v ao ax=> ?_) fun n v m' he _=>absurd (N0 he) nm
   ·obtain ⟨_,z',vs',sv,bz,az,h1,J,aj,aJ,bk⟩:=ax;dsimp only at bk;split at bk
    ·rename_i n av;exact ⟨trivial,hk az h1 J aj ((aP.mono h1.le J).put aJ) (wU ((b5.quiet h1.le J rfl).aav i s n)) (e1.put (L:=oC i s n L) ((aM.h5 h1.le).log rfl rfl) fun aw=>aiJ aM aw an) bk⟩
    ·cases bk
   ·obtain ⟨z',vs',sv,bz,az,h1,J,aj,aJ,bk⟩:=ax;dsimp only at bk;split at bk
    ·rename_i n av;obtain ⟨g1,g2⟩:=b5.read (n:=n) (B:=B) (i:=i) au ba h1.le J aq ke ao aM;exact ⟨g1,hk az h1 J aj ((aP.mono h1.le J).put aJ) (wU g2) (e1.put (L:=oC i s n L) ((aM.h5 h1.le).log rfl rfl) fun aw=>(by
      have:=Gh ao;revert this aw;cases o.op<;>simp[qu,looks])) bk⟩
    ·cases bk
   ·obtain ⟨z',vs',sv,bz,az,h1,J,aj,aJ,bk⟩:=ax;dsimp only at bk;split at bk
    ·rename_i n av;rw[Vu,if_pos (Cr ao)] at av;obtain ⟨j,rfl,ap⟩:=akx ao aJ av;exact ⟨trivial,hk az h1 J aj ((aP.mono h1.le J).put aJ) (wU (b5.new (i:=i) (s:=s) (Y:=Y) h1.le J ap)) (e1.put (L:=oC i s (are j) L) (((aM.grow (eY.push m Y)).h5 h1.le).log rfl rfl) fun aw=>(by
      have:=Cr ao;revert this aw;cases o.op<;>simp[qu,nK])) bk⟩
    ·cases bk
  ·cases h
theorem alz (bI:fL X) {B:Array Nat} {ops l:List Oper} {i:Nat} {A:Acc} {L:eS} {et:Nat} {Q:(Nat->arh)->Mem->Prop} {K:eS->List (Nat×aN D)->List (aG D)->Option ae} (au:bd X.G O z e m k vs) (aP:ef X z vs E fr) (b5:hc z m vs A L) (aM:e1 et z0 z fr E m A L) (h:B6 X B i o L E O K=are r)
  (hk:∀{z':Nat->aV} {vs':List arh} {m':Mem} {hb:Acc} {L':eS} {E':List (Nat×aN D)} {bz:List (aG D)} {v:arh},Inv O bz->cz e.next z z'->(∀(i:Nat) (u:arh),vs[i]? =are u->vs'[i]? =are u)->bd X.G bz z' e m' k vs'->ef X z' vs' E' (set fr o.dst v)->hc z' m' vs' hb L'->e1 et z0 z' (set fr o.dst v) E' m' hb L'->K L' E' bz=are r->gn P ops B (i+1) l hb Q (set fr o.dst v) m'):
  bO P (aL fr) o m fun t v m1=>uh B i A m t m1/\gn P ops B (i+1) l (pE A i m t) Q (set fr o.dst v) m1:=by
 unfold B6 at h;split at h
 ·rename_i nf UX;obtain ⟨E',lk,aF,h⟩:=WE aP h;have adE:=aM.split aF;exact YY bI au lk b5 adE h hk
 ·exact YY bI au aP b5 aM h hk
theorem gn.mono {ops l:List Oper} {B:Array Nat} {i:Nat} {A:Acc} {K kM:(Nat->arh)->Mem->Prop} (h:gn P ops B i l A K fr m) (hk:∀fr m,K fr m->kM fr m):gn P ops B i l A kM fr m:=
 let ⟨n,fr',m',h1,J⟩:=h;⟨n,fr',m',h1,hk _ _ J⟩
theorem Hc (bI:fL X) {B:Array Nat} {ops:List Oper} {et:Nat} {K:List (Nat×aN D)->List (aG D)->Option ae}:∀{l:List Oper} {i:Nat} {A:Acc} {L:eS} {E:List (Nat×aN D)} {O:List (aG D)} {z:Nat->aV} {vs:List arh} {m:Mem} {fr:Nat->arh},bd X.G O z e m k vs->ef X z vs E fr->hc z m vs A L->e1 et z0 z fr E m A L->uZ X B ops i l L E O K=are r->gn P ops B i l A (hi X O z e k vs K r) fr m
 |[],i,A,L,E,O,z,vs,m,fr,au,aP,b5,lZ,h=>gn.done fun fr' aK=>by rw[aK];exact hi.here au aP h
 |o::l,i,A,L,E,O,z,vs,m,fr,au,aP,b5,lZ,h=>by
  unfold uZ at h;have step:∀{E:List (Nat×aN D)},ef X z vs E fr->e1 et z0 z fr E m A L->(B6 X B i o L E O fun L E O=>uZ X B ops (i+1) l L E O K)=are r->bO P (aL fr) o m fun t v m1=>uh B i A m t m1/\gn P ops B (i+1) l (pE A i m t) (hi X O z e k vs K r) (set fr o.dst v) m1:=by intro E aP aM h;refine alz bI au aP b5 aM h ?_;intro z' vs' m' hb L' E' bz v az h1 J aj aJ bk gz dn;exact gn.mono (Hc bI aj aJ bk gz dn) fun _ _ av=>av.from az h1 J
  split at h
  ·rename_i aM;exact gn.cons (by simp only[wanted,aM]) (step aP lZ h)
  ·rename_i j want aM;split at h
   ·cases h
   ·rename_i d aw;obtain ⟨jQ,rT,aeA,h⟩:=WE aP h;have Bp:=lZ.split aeA;have aa:=rT d;split at h
    ·rename_i b aq;rw[aq] at aa;split at h
     ·rename_i ab;exact gn.J8 aM aw aa ab (step rT Bp h)
     ·rename_i ab;exact gn.IA aM aw aa (by cases b<;>cases want<;>simp at ab⊢) (Hc bI au (rT.put (s:= .undef) rfl) b5 Bp.skip h)
    ·rename_i aq;rw[aq] at aa;exact gn.QF aM aw aa (Hc bI au (rT.put (s:= .undef) rfl) b5 Bp.skip h)
    ·cases h
theorem hc.start:hc z m vs ⟨[],[],[]⟩ ⟨[],[],[],[],[]⟩:=⟨by simp,by simp,by simp⟩
def pA (X:dk P D) (B:Code) (u:lg D):Prop:=∀{ae:Type} (E:List (Nat×aN D)) (O:List (aG D)) (K:dF->List (Nat×aN D)->List (aG D)->Option ae) (r:ae) {z:Nat->aV} {e m:Mem} {k:Option Nat} {vs:List arh} {fr:Nat->arh},
 u.fits E O=arf->bd X.G O z e m k vs->ef X z vs E fr->u.run E O K=are r->W P (sub B u.path) (fun x=>hi X O z e k vs (K x) r) fr m
theorem OV:∀(c:Code) (p q:List Nat),sub (sub c p) q=sub c (p++q):=by
 intro c p;induction p generalizing c with
 |nil=>intro q;cases c<;>rfl
 |cons i p aU=>
  intro q;cases c with
  |seq a b=>cases i with
   |zero=>exact aU a q
   |succ i=>exact aU b q
  |cond x a b=>cases i with
   |zero=>exact aU a q
   |succ i=>exact aU b q
  |block n c=>cases i with
   |zero=>exact aU c q
   |succ i=>exact aU c q
  |scope c=>cases i with
   |zero=>exact aU c q
   |succ i=>exact aU c q
  |loop c=>cases i with
   |zero=>exact aU c q
   |succ i=>exact aU c q
  |_=>rcases q with _|⟨_|j,q⟩<;>cases i<;>rfl
theorem zv {B c:Code} {p:List Nat} {i:Nat} (h:sub B p.reverse=c):sub B (i::p).reverse=sub c [i]:=by rw[List.reverse_cons,<-OV,h]
theorem pe (c:Code):sub c []=c:=by cases c<;>rfl
theorem Zw:∀{p q:List Nat},EP p q=arf->p=q
 |[],[],_=>rfl
 |a::p,b::q,h=>by simp only[EP,arq] at h;rw[arB h.1,Zw h.2]
 |[],_::_,h=>by cases h
 |_::_,[],h=>by cases h
theorem agv {us:List (lg D)} {p:List Nat} {u:lg D} (h:q4 us p E O=are u):u∈us/\u.path=p/\u.fits E O=arf:=by
 induction us with
 |nil=>cases h
 |cons w us aU=>
  simp only[q4] at h;split at h
  ·rename_i hw;cases h;simp only[arq] at hw;exact ⟨arS,Zw hw.1,hw.2⟩
  ·obtain ⟨h1,J⟩:=aU h;exact ⟨arK _ h1,J⟩
theorem Xy:∀{n:Nat} {O bB:List (aG D)} {z:Nat->aV} {m:Mem} {vs:List arh},bd X.G O z e m k vs->HE n O=are bB->∃z',Inv O bB/\cz e.next z z'/\bd X.G bB z' e m k vs
 |0,O,bB,z,m,vs,au,h=>by cases h;exact ⟨z,Inv.refl O,cz.refl z,au⟩
 |n+1,O,bB,z,m,vs,au,h=>by
  simp only[HE] at h;split at h
  ·rename_i cE J;obtain ⟨bR,cr,a2,a3⟩:=Xy au J;split at h
   ·split at h
    ·cases h;exact ⟨bR,cr,a2,a3⟩
    ·obtain ⟨z2,fe,hg,qs⟩:=CC a3 h;exact ⟨z2,cr.trans fe,a2.trans hg,qs⟩
   ·cases h;exact ⟨bR,cr,a2,a3⟩
  ·cases h
theorem hi.fill {K:List (Nat×aN D)->List (aG D)->Option ae} {r:ae} {vs:List arh} {m':Mem} {fr':Nat->arh} (h:hi X O z e k vs (uL K) r fr' m'):hi X O z e k vs K r fr' m':=by
 obtain ⟨bR,ja,jQ,bB,az,h1,J,aj,aJ,bk⟩:=h;unfold uL at bk;split at bk
 ·rename_i cE aK;obtain ⟨z2,cr,a2,a3⟩:=Xy aj aK;exact ⟨z2,ja,jQ,cE,az.trans cr,h1.trans a2,J,a3,aJ.mono a2.le fun _ _ h=>h,bk⟩
 ·cases bk
theorem zI (bI:fL X) {B:Code} {us:List (lg D)} {L:Nat} (r8:∀u∈us,L<u.path.length->pA X B u):
  ∀(c:Code) (top:Bool) (p:List Nat) (E:List (Nat×aN D)) (O:List (aG D)) (K:dF->List (Nat×aN D)->List (aG D)->Option ae) (r:ae) {z:Nat->aV} {vs:List arh} {m:Mem} {fr:Nat->arh},
   sub B p.reverse=c->L<=p.length->(top=arj->L<p.length)->bd X.G O z e m k vs->ef X z vs E fr->hK X us calm top p c E O K=are r->W P c (fun x=>hi X O z e k vs (K x) r) fr m:=by
 intro c;have piece:∀{c:Code} {top:Bool} {p:List Nat} {E:List (Nat×aN D)} {O:List (aG D)} {K:dF->List (Nat×aN D)->List (aG D)->Option ae} {r:ae} {z:Nat->aV} {vs:List arh} {m:Mem} {fr:Nat->arh} {u:lg D},
   sub B p.reverse=c->(top=arj->L<p.length)->bd X.G O z e m k vs->ef X z vs E fr->(if top=arf then ari else q4 us p.reverse E O)=are u->u.run E O K=are r->W P c (fun x=>hi X O z e k vs (K x) r) fr m:=by
  intro c top p E O K r z vs m fr u an ak au aP hu h;cases top with
  |true=>cases hu
  |false=>obtain ⟨h1,J,aj⟩:=agv hu;have:=r8 u h1 (by rw[J,List.length_reverse];exact ak rfl) E O K r aj au aP h;rw[J,an] at this;exact this
 induction c with
 |seq a b wc we=>
  intro top p E O K r z vs m fr an b5 ak au aP h;simp only[hK] at h;split at h
  ·rename_i u hu;exact piece an ak au aP hu h
  ·refine W.seq ((wc arj (0::p) E O _ r (by rw[zv an];exact pe a) (by simp;omega) (fun _=>by simp;omega) au aP h).mono ?_);rintro x cd m1 ⟨bR,ja,jQ,bB,az,h1,J,aj,aJ,bk⟩;cases x with
   |normal=>have bk:=(if_pos rfl).symm.trans bk;exact (we arj (1::p) jQ bB K r (by rw[zv an];exact pe b) (by simp;omega) (fun _=>by simp;omega) aj aJ bk).mono fun _ _ _ av=>av.from az h1 J
   |exit i=>exact ⟨bR,ja,jQ,bB,az,h1,J,aj,aJ,(if_neg (by simp)).symm.trans bk⟩
   |ret=>exact ⟨bR,ja,jQ,bB,az,h1,J,aj,aJ,(if_neg (by simp)).symm.trans bk⟩
 |cond x a b wc we=>
  intro top p E O K r z vs m fr an b5 ak au aP h;simp only[hK] at h;split at h
  ·rename_i u hu;exact piece an ak au aP hu h
  ·split at h
   ·rename_i t aq;have U:=Ow aP x;rw[aq] at U;cases t with
    |true=>rw[if_pos rfl] at h;exact W.ab5 U rfl (wc arj (0::p) E O K r (by rw[zv an];exact pe a) (by simp;omega) (fun _=>by simp;omega) au aP h)
    |false=>rw[if_neg (by simp)] at h;exact W.ab4 U rfl (we arj (1::p) E O K r (by rw[zv an];exact pe b) (by simp;omega) (fun _=>by simp;omega) au aP h)
   ·cases h
 |scope c aU=>
  intro top p E O K r z vs m fr an b5 ak au aP h;simp only[hK] at h;split at h
  ·rename_i u hu;exact piece an ak au aP hu h
  ·exact W.scope (aU arj (0::p) E O K r (by rw[zv an];exact pe c) (by simp;omega) (fun _=>by simp;omega) au aP h)
 |block i c aU=>
  intro top p E O K r z vs m fr an b5 ak au aP h;simp only[hK] at h;split at h
  ·rename_i u hu;exact piece an ak au aP hu h
  ·refine W.block ((aU arj (0::p) E O _ r (by rw[zv an];exact pe c) (by simp;omega) (fun _=>by simp;omega) au aP h).mono ?_);rintro x cd m1 av;obtain ⟨bR,ja,jQ,bB,az,h1,J,aj,aJ,bk⟩:=av;cases x with
   |normal=>exact ⟨bR,ja,jQ,bB,az,h1,J,aj,aJ,by simpa using bk⟩
   |exit j=>
    by_cases cQ:j=i
    ·subst cQ;exact oP.hit ⟨bR,ja,jQ,bB,az,h1,J,aj,aJ,by simpa using bk⟩
    ·exact oP.nz (by simpa using cQ) ⟨bR,ja,jQ,bB,az,h1,J,aj,aJ,by simpa[cQ] using bk⟩
   |ret=>exact ⟨bR,ja,jQ,bB,az,h1,J,aj,aJ,by simpa using bk⟩
 |region id ops d=>
  intro top p E O K r z vs m fr an b5 ak au aP h;simp only[hK] at h;split at h
  ·rename_i u hu;exact piece an ak au aP hu h
  ·cases d with
   |true=>
    rw[if_pos rfl] at h;split at h
    ·rename_i ad;exact (W.calm (Q:=fun x=>hi X O z e k vs (uL (K x)) r) ad (zy bI au aP h)).mono fun _ _ _ av=>av.fill
    ·exact (W.draw (Q:=fun x=>hi X O z e k vs (uL (K x)) r) (Hc bI au aP hc.start (e1.start au aP) h)).mono fun _ _ _ av=>av.fill
   |false=>rw[if_neg (by simp)] at h;exact (W.region (Q:=fun x=>hi X O z e k vs (uL (K x)) r) (zy bI au aP h)).mono fun _ _ _ av=>av.fill
 |loop c aU=>
  intro top p E O K r z vs m fr an b5 ak au aP h;simp only[hK] at h;split at h
  ·rename_i u hu;exact piece an ak au aP hu h
  ·cases h
 |skip=>intro top p E O K r z vs m fr an b5 ak au aP h;exact W.skip (hi.here au aP h)
 |label l=>intro top p E O K r z vs m fr an b5 ak au aP h;exact W.label (hi.here au aP h)
 |exit i=>intro top p E O K r z vs m fr an b5 ak au aP h;exact W.exit (hi.here au aP h)
 |ret=>intro top p E O K r z vs m fr an b5 ak au aP h;exact W.ret (hi.here au aP h)
 |_=>intro top p E O K r z vs m fr an b5 ak au aP h;simp[hK] at h
end
end Go.aQ
end
section
namespace Go.aQ
inductive e5 where
 |int (k:IntKind)|bool|str
 |aE (e:Nat)|mp (t kt vt:Nat)
 |agg (t:Nat)|gw (t:Nat)
 |fn (f:Nat) (ts:List Nat)
 |cut (j e:Nat)
inductive bt where
 |aE (e:Nat)|box (t:Nat)|recv (t:Nat)|arr (e t n:Nat)|map (t kt vt:Nat)
 |eH (t:Nat) (l:List (Nat×Nat))
 |ia (t f:Nat) (is:List Nat)
 |ne (e t:Nat)
inductive c7 where
 |v (d:Nat) (c:e5)
 |o (d:Nat) (c:bt)
 |u (j:Nat) (c:bt)
noncomputable section
section
variable {P:arl} {D:Nat->Type}
def ub (D:Nat->Type):List Nat->Type
 |[]=>Unit
 |t::ts=>D t×ub D ts
def e5.ty (D:Nat->Type):e5->Type
 | .int _=>Int
 | .bool=>Bool
 | .str=>List UInt8
 | .aE e=>List (D e)
 | .mp _ kt vt=>List (D kt×D vt)
 | .agg t=>D t
 | .gw t=>D t
 | .fn _ ts=>ub D ts
 | .cut _ _=>Nat×Nat
def bt.ty (D:Nat->Type):bt->Type
 | .aE e=>List (D e)
 | .box t=>D t
 | .recv t=>D t
 | .arr e _ _=>List (D e)
 | .map _ kt vt=>List (D kt×D vt)
 | .eH t _=>D t
 | .ia _ _ _=>Unit
 | .ne _ t=>List (List (D t))
def c7.ty (D:Nat->Type):c7->Type
 | .v _ c=>c.ty D
 | .o _ c=>c.ty D
 | .u _ c=>c.ty D
def dD (D:Nat->Type):List c7->Type
 |[]=>Unit
 |i::is=>i.ty D×dD D is
variable (X:dk P D)
def hB (t:Nat) (x:D t):List (bC D):=match X.I t with|some ti=>ti.lC x|none=>[]
def k6 (t:Nat) (cs:List (bC D)):Option (D t):=match X.I t with|some ti=>ti.pc cs|none=>ari
def sA:(ts:List Nat)->ub D ts->List (Nat×List (bC D))
 |[],_=>[]
 |t::ts,x=>(t,hB X t x.1)::sA ts x.2
def wW:(ts:List Nat)->List (Nat×List (bC D))->Option (ub D ts)
 |[],[]=>are ()
 |t::ts,p::l=>if p.1=t then (match k6 X t p.2,wW ts l with|some a,are b=>are (a,b)|_,_=>ari) else ari
 |_,_=>ari
def e5.mk:(c:e5)->c.ty D->aN D
 | .int k,n=> .c (.int k n)
 | .bool,b=> .c (.bool b)
 | .str,s=> .c (.str s)
 | .aE e,xs=> .c (.aE e xs)
 | .mp t kt vt,es=> .c (.mp t kt vt es)
 | .agg t,x=> .agg t (hB X t x)
 | .gw t,x=> .gw t (hB X t x) 0
 | .fn f ts,x=> .fn f (sA X ts x)
 | .cut j e,x=> .cut j e x.1 x.2
def e5.get:(c:e5)->aN D->Option (c.ty D)
 | .int k, .c (.int bW n)=>if bW=k then are n else ari
 | .bool, .c (.bool b)=>are b
 | .str, .c (.str s)=>are s
 | .aE e, .c .fH=>are []
 | .mp t kt vt, .c .nA=>are []
 | .aE e, .c (.aE bp xs)=>if h:bp=e then are (h▸xs) else ari
 | .mp t kt vt, .c (.mp cS gr gx es)=>if h:gr=kt/\gx=vt then (if cS=t then are (h.1▸h.2▸es) else ari) else ari
 | .agg t, .agg cS cs=>if cS=t then k6 X t cs else ari
 | .gw t, .gw cS cs off=>if cS=t/\off=0 then k6 X t cs else ari
 | .fn f ts, .fn jS l=>if jS=f then wW X ts l else ari
 | .cut _ e, .cut _ bp bf n=>if bp=e then are (bf,n) else ari
 |_,_=>ari
def lj:List (Nat×Nat)->Nat->Option Nat
 |[],_=>ari
 |p::l,i=>if aru p.1 i=arf then are p.2 else lj l i
def nD (bN:Nat->Nat) (l:List (Nat×Nat)):Nat->List (bC D)->List (bC D)
 |_,[]=>[]
 |i,c::cs=>(match lj l i with|some n=> .own (bN n)|none=>c)::nD bN l (i+1) cs
def tg (t:Nat):List (bC D):=match X.I t with|some ti=>ti.qj|none=>[]
def pZ (dI:List (bC D)) (l:List (Nat×Nat)):Nat->List (bC D)->List (bC D)
 |_,[]=>[]
 |i,c::cs=>(match lj l i with|some _=>dI.getD i .fH|none=>c)::pZ dI l (i+1) cs
def bt.eZ (bN:Nat->Nat):(c:bt)->c.ty D->Bool->aG D
 | .aE e,xs,w=> .aE e xs arj w
 | .box t,x,w=> .box t (hB X t x) arj w
 | .recv t,x,w=> .recv t (hB X t x) w
 | .arr e t n,xs,w=> .arr e t n xs w
 | .map t kt vt,es,w=> .map t kt vt es arj w
 | .eH t l,x,w=> .box t (nD bN l 0 (hB X t x)) arj w
 | .ia t f is,_,w=> .box t [.fn f (is.map bN)] arj w
 | .ne e t,c8,w=> .nest e t ((X.N e t).map px.up) c8 ari w
def bt.mk (c:bt) (x:c.ty D) (w:Bool):aG D:=bt.eZ X (fun n=>n) c x w
def bt.fI:bt->List Nat
 | .eH _ l=>l.map Prod.snd
 | .ia _ _ is=>is
 |_=>[]
def pa (a:Option Nat) (i:Nat):Bool:=match a with|some j=>aru j i|none=>arj
def Dl (aX:List Nat) (cs:List (bC D)):List (Nat×Nat)->Bool
 |[]=>arf
 |p::l=>(match cs[p.1]? with|some (.own i)=>pa (aX[p.2]?) i|_=>arj)&&Dl aX cs l
def Ez (aX:List Nat):List Nat->List Nat->Bool
 |[],[]=>arf
 |n::l,i::k=>pa (aX[n]?) i&&Ez aX l k
 |_,_=>arj
def bt.get (aX:List Nat):(c:bt)->aG D->Option (c.ty D)
 | .aE e, .aE bp xs arj _=>if h:bp=e then are (h▸xs) else ari
 | .box t, .box cS cs arj _=>if cS=t then k6 X t cs else ari
 | .recv t, .recv cS cs _=>if cS=t then k6 X t cs else ari
 | .arr e t n, .arr bp cS n' xs _=>if h:bp=e then (if cS=t/\n'=n then are (h▸xs) else ari) else ari
 | .map t kt vt, .map cS gr gx es arj _=>if h:gr=kt/\gx=vt then (if cS=t then are (h.1▸h.2▸es) else ari) else ari
 | .eH t l, .box cS cs arj _=>if cS=t/\Dl aX cs l=arf then k6 X t (pZ (tg X t) l 0 cs) else ari
 | .ia t f is, .box cS [.fn jS pV] arj _=>if cS=t/\jS=f/\Ez aX is pV=arf then are () else ari
 | .ne e t, .nest bp cS _ c8 ari _=>if h:cS=t then (if bp=e then are (h▸c8) else ari) else ari
 |_,_=>ari
def aG.clean:aG D->Bool
 | .box _ cs _ _=>cs.all zP
 | .recv _ cs _=>cs.all zP
 | .nest _ _ _ _ _ _=>arj
 |_=>arf
def Ll (O:List (aG D)):aN D->Option (aN D×List (aG D))
 | .c c=>(match rQ O c with|some (bg,bz)=>are (.c bg,bz)|none=>ari)
 | .agg t cs=>(match A1 O cs with|some (cs',bz)=>are (.agg t cs',bz)|none=>ari)
 | .cut i e bf n=>(match vu O i with|some (.aE bp xs,bz)=>if bp=e then are (.c (.aE bp ((xs.take n).drop bf)),bz) else ari|_=>ari)
 |s=>are (s,O)
def PM:aN D->Option Nat
 | .c (.own i)=>are i
 | .box i _=>are i
 | .arr i=>are i
 | .el i _ _ _=>are i
 |_=>ari
def xE (l:List (Nat×Nat)):Nat->List (bC D)->Bool
 |_,[]=>arj
 |i,c::cs=>(match c with| .own _=>(match lj l i with|none=>arf|_=>arj)|_=>arj)||xE l (i+1) cs
def EW (l:List (Nat×Nat)):Nat->List (bC D)->List (aG D)->Option (List (bC D)×List (aG D))
 |_,[],O=>are ([],O)
 |i,c::cs,O=>
  match (match lj l i with|some _=>are (c,O)|none=>rQ O c) with
  |some (bg,bz)=>(match EW l (i+1) cs bz with|some (cs',tn)=>are (bg::cs',tn)|none=>ari)
  |none=>ari
def tD (l:List (Nat×Nat)) (O:List (aG D)) (i:Nat):Option (List (aG D)):=
 match O[i]? with
 |some (.box t cs arj _)=>if xE l 0 cs=arf then (match EW l 0 cs O with|some (cs',bz)=>are (bz.set i (.box t cs' arj arf))|none=>ari) else are O
 |_=>are O
def Lm (c:e5) (O:List (aG D)) (s:aN D):Option (aN D×List (aG D)):=
 match c,s with
 | .cut _ _,s=>are (s,O)
 | .gw _, .box i off=>
  (match tD [] O i with
  |some bB=>(match w7 bB (.box i off) with|some (p,cE)=>are (.gw p.1 p.2 0,cE)|none=>ari)
  |none=>ari)
 |_,s=>Ll O s
def pH (E:List (Nat×aN D)):List c7->List (aG D)->Option (List (aN D)×List (aG D))
 |[],O=>are ([],O)
 | .v d c::aC,O=>
  match Lm c O (dQ E d) with
  |some (s,bz)=>(match pH E aC bz with|some (l,tn)=>are (s::l,tn)|none=>ari)
  |none=>ari
 |_::aC,O=>match pH E aC O with|some (l,bz)=>are (.un::l,bz)|none=>ari
def rE:Nat:=2000000
def TB:Nat:=100000000
def TC:Nat:=200000000
def Dk:List (bC D)->List Nat
 |[]=>[]
 | .own i::cs=>i::Dk cs
 | .fn _ is::cs=>is++Dk cs
 |_::cs=>Dk cs
def ZP (O:List (aG D)) (i:Nat):List Nat:=
 match O[i]? with
 |some (.box _ cs _ _)=>Dk cs
 |some (.recv _ cs _)=>Dk cs
 |_=>[]
def Pu (O:List (aG D)):Nat->List Nat->List Nat->List Nat
 |0,_,s=>s
 |_+1,[],s=>s
 |n+1,i::l,s=>if s.any (aru i)=arf then Pu O n l s else Pu O n (ZP O i++l) (s++[i])
def ZR:List (Nat×aN D)->List Nat
 |[]=>[]
 |p::E=>(match PM p.2 with|some i=>[i]|none=>[])++ZR E
def ZQ (E:List (Nat×aN D)) (O:List (aG D)):Nat->Nat->Option Nat
 |0,_=>ari
 |n+1,m=>if aru (m%64) 0=arf then PM (dQ E (m / 64)) else (match ZQ E O n (m / 64) with|some i=>(ZP O i)[m%64 - 1]? |none=>ari)
def JW (E:List (Nat×aN D)) (O:List (aG D)) (d:Nat):Option Nat:=
 if arF TC d=arf then ZQ E O 8 (d - TC) else
 if ar5 d rE=arf then PM (dQ E d)
 else if arF TB d=arf then are (d - TB)
 else match dQ E ((d - rE) / 1000) with
  | .box i 0=>(match O[i]? with|some (.box _ cs _ _)=>(match cs[(d - rE)%1000]? with|some (.own n)=>are n|_=>ari)|_=>ari)
  |_=>ari
def Et (E:List (Nat×aN D)) (O:List (aG D)):List c7->Option (List Nat)
 |[]=>are []
 | .o d _::aC=>(match JW E O d,Et E O aC with|some i,are l=>are (i::l)|_,_=>ari)
 |_::aC=>Et E O aC
def nZ (E:List (Nat×aN D)):List c7->List (aG D)->Option (List (aG D))
 |[],O=>are O
 | .o d (.box _)::aC,O=>(match JW E O d with|some i=>(match tD [] O i with|some bz=>nZ E aC bz|none=>ari)|none=>ari)
 | .o d (.eH _ l)::aC,O=>(match JW E O d with|some i=>(match tD l O i with|some bz=>nZ E aC bz|none=>ari)|none=>ari)
 | .u j (.box _)::aC,O=>(match tD [] O j with|some bz=>nZ E aC bz|none=>ari)
 | .u j (.eH _ l)::aC,O=>(match tD l O j with|some bz=>nZ E aC bz|none=>ari)
 |_::aC,O=>nZ E aC O
def TO (aX:List Nat):e5->aN D->Bool
 | .cut j _, .cut i _ _ _=>pa (aX[j]?) i
 |_,_=>arf
def gl (eF:List Nat) (O:List (aG D)):(aC:List c7)->List (aN D)->List Nat->Option (dD D aC)
 |[],_,[]=>are ()
 | .v d c::aC,s::l,aX=>if TO eF c s=arf then (match e5.get X c s,gl eF O aC l aX with|some x,are y=>are (x,y)|_,_=>ari) else ari
 | .o d c::aC,_::l,i::aX=>
  match O[i]? with
  |some o=>(match bt.get X eF c o,gl eF O aC l aX with|some x,are y=>are (x,y)|_,_=>ari)
  |none=>ari
 | .u j c::aC,_::l,aX=>
  match O[j]? with
  |some o=>(match bt.get X eF c o,gl eF O aC l aX with|some x,are y=>are (x,y)|_,_=>ari)
  |none=>ari
 |_,_,_=>ari
def dC:(aC:List c7)->dD D aC->List (aG D)
 |[],_=>[]
 | .o _ c::aC,x=>bt.mk X c x.1 arj::dC aC x.2
 | .v _ _::aC,x=>dC aC x.2
 | .u _ _::aC,x=>dC aC x.2
def fO:(aC:List c7)->dD D aC->List (Nat×aN D)
 |[],_=>[]
 | .v d c::aC,x=>(d,e5.mk X c x.1)::fO aC x.2
 | .o _ _::aC,x=>fO aC x.2
 | .u _ _::aC,x=>fO aC x.2
def tE (aX:List Nat):aN D->aN D->Bool
 | .c (.own j), .c (.own i)=>pa (aX[j]?) i
 | .box j o, .box i p=>pa (aX[j]?) i&&aru o p
 | .arr j, .arr i=>pa (aX[j]?) i
 | .c .fH, .c .fH=>arf
 | .c .y4, .c .y4=>arf
 | .c .nA, .c .nA=>arf
 | .undef, .undef=>arf
 | .un,_=>arf
 | .c (.int k n), .c (.int bW n')=>decide (k=bW)&&(n==n')
 | .c (.bool b), .c (.bool bV)=>b==bV
 | .fn f [], .fn jS []=>aru f jS
 |_,_=>arj
def xx (bN:Nat->Nat):aN D->aN D
 | .c (.own j)=> .c (.own (bN j))
 | .box j o=> .box (bN j) o
 | .arr j=> .arr (bN j)
 |s=>s
def sB:List Nat->Bool
 |[]=>arf
 |i::l=> !(l.any fun j=>aru j i)&&sB l
def C3 (l:List (Nat×Nat)):Nat->List (bC D)->Bool
 |_,[]=>arf
 |i,c::cs=>(match lj l i with|some _=>arf|none=>zP c)&&C3 l (i+1) cs
def bt.J6:bt->aG D->Bool
 | .eH _ l, .box _ cs _ _=>C3 l 0 cs
 |_,o=>o.clean
def sQ (c:bt) (O:List (aG D)) (i:Nat):Bool:=match O[i]? with|some o=>o.la|| !(c.J6 o)|none=>arf
def k4 (eF:List Nat):(aC:List c7)->dD D aC->List Nat->List (aG D)->List (aG D)
 | .o _ c::aC,x,i::aX,O=>k4 eF aC x.2 aX (O.set i (bt.eZ X (fun n=>eF.getD n 0) c x.1 (sQ c O i)))
 | .v _ _::aC,x,aX,O=>k4 eF aC x.2 aX O
 | .u _ _::aC,x,aX,O=>k4 eF aC x.2 aX O
 |_,_,_,O=>O
def Ii (aC:List c7) (fx:List (Nat×aN D)) (E:List (Nat×aN D)) (O:List (aG D)):Option (dD D aC×List Nat×List (aG D)):=
 match pH E aC O,Et E O aC with
 |some (bA,bB),are aX=>
  if (sB aX&&fx.all fun p=>tE aX p.2 (dQ E p.1))=arf then
   match gl X aX bB aC bA aX with
   |some x=>are (x,aX,k4 X aX aC x aX bB)
   |none=>ari
  else ari
 |_,_=>ari
def rb (aC:List c7) (fx:List (Nat×aN D)) (E:List (Nat×aN D)) (O:List (aG D)):Option (dD D aC×List Nat×List (aG D)):=
 match nZ E aC O with
 |some lQ=>Ii X aC fx E lQ
 |none=>ari
end
section
variable {P:arl} {D:Nat->Type} {X:dk P D} {z z':Nat->aV} {e m m':Mem} {k:Option Nat} {vs vs':List arh} {fr:Nat->arh} {E:List (Nat×aN D)} {O bz:List (aG D)}
theorem sz {t:Nat} {x:D t} {ds:List arh} (h:a1 (db X.G z vs) (hB X t x) ds):a1 (db X.G z vs') (hB X t x) ds:=by
 unfold hB at h⊢;split at h
 ·rename_i ti _;exact ti.rc z vs' x ds (ti.q0 z vs _ x ds (ti.Nl x) h)
 ·exact a1.mono (fun _ _ h=>h) (by cases ds with|nil=>trivial|cons _ _=>exact h.elim)
theorem uI {t:Nat} {x:D t} {cs:List (bC D)} {ds:List arh} (an:k6 X t cs=are x) (h:a1 (db X.G z vs) cs ds):a1 (db X.G z vs') (hB X t x) ds:=by
 unfold k6 at an;unfold hB;split at an
 ·rename_i ti cA;exact ti.rc z vs' x ds (ti.q0 z vs cs x ds an h)
 ·cases an
theorem Ig {t:Nat} {x:D t} {cs:List (bC D)} (an:k6 X t cs=are x) (h:cs.all zP=arf):cs=hB X t x:=by
 unfold k6 at an;unfold hB;split at an
 ·rename_i ti cA;exact (ti.F8 cs x an).eq h
 ·cases an
theorem an9 {t:Nat} {x:D t} {cs:List (bC D)} (an:k6 X t cs=are x):oO cs (hB X t x):=by
 unfold k6 at an;unfold hB;split at an
 ·rename_i ti cA;exact ti.F8 cs x an
 ·cases an
theorem Xg:∀{ts:List Nat} {x:ub D ts} {gs:List arh},a1 (fun c g=>mf X.G z vs c.2 0 g) (sA X ts x) gs->a1 (fun c g=>mf X.G z vs' c.2 0 g) (sA X ts x) gs
 |[],_,[],_=>trivial
 |[],_,_::_,h=>h.elim
 |t::ts,x,[],h=>h.elim
 |t::ts,x,g::gs,⟨⟨b,o,ds,h1,J,aj⟩,aJ⟩=>⟨⟨b,o,ds,h1,J,sz aj⟩,Xg aJ⟩
theorem Xb:∀{ts:List Nat} {l:List (Nat×List (bC D))} {x:ub D ts} {gs:List arh},wW X ts l=are x->a1 (fun c g=>mf X.G z vs c.2 0 g) l gs->a1 (fun c g=>mf X.G z vs' c.2 0 g) (sA X ts x) gs
 |[],[],_,[],_,_=>trivial
 |[],[],_,_::_,_,h=>h.elim
 |[],_::_,_,_,h,_=>by cases h
 |_::_,[],_,_,h,_=>by cases h
 |t::ts,p::l,x,[],_,h=>h.elim
 |t::ts,p::l,x,g::gs,h,⟨⟨b,o,ds,h1,J,aj⟩,aJ⟩=>by
  simp only[wW] at h;split at h
  ·split at h
   ·rename_i a bV ar ab;cases h;exact ⟨⟨b,o,ds,h1,J,uI ar aj⟩,Xb ab aJ⟩
   ·cases h
  ·cases h
def e5.y3:e5->Bool
 | .cut _ _=>arj
 |_=>arf
theorem e5.M6 {c:e5} {x:c.ty D} {v:arh} (ad:c.y3=arf) (h:rel X.G z vs (e5.mk X c x) v):rel X.G z vs' (e5.mk X c x) v:=by
 cases c with
 |cut j e=>cases ad
 |agg t=>obtain ⟨ds,h1,J⟩:=h;exact ⟨ds,h1,sz J⟩
 |gw t=>obtain ⟨b,o,ds,h1,J,aj⟩:=h;exact ⟨b,o,ds,h1,J,sz aj⟩
 |fn f ts=>obtain ⟨gs,h1,J⟩:=h;exact ⟨gs,h1,Xg J⟩
 |_=>exact h
theorem Y1 {a:Option Nat} {i:Nat} (h:pa a i=arf):a=are i:=by
 unfold pa at h;split at h
 ·rw[arB h]
 ·cases h
theorem e5.A6 {aX:List Nat} {c:e5} {x:c.ty D} {s:aN D} {v:arh} (hm:∀(j i:Nat) (u:arh),aX[j]? =are i->vs[i]? =are u->vs'[j]? =are u) (cJ:TO aX c s=arf) (aM:e5.get X c s=are x) (h:rel X.G z vs s v):rel X.G z vs' (e5.mk X c x) v:=by
 unfold e5.get at aM;split at aM
 ·split at aM
  ·rename_i hk;cases aM;subst hk;exact h
  ·cases aM
 ·cases aM;exact h
 ·cases aM;exact h
 ·cases aM;exact .inl ⟨h,rfl⟩
 ·cases aM;exact .inl ⟨h,rfl⟩
 ·split at aM
  ·rename_i hk;cases aM;subst hk;exact h
  ·cases aM
 ·split at aM
  ·rename_i hk;split at aM
   ·rename_i ak;obtain ⟨h1,J⟩:=hk;subst h1 J ak;cases aM;exact h
   ·cases aM
  ·cases aM
 ·obtain ⟨_,aM⟩:=eA aM;obtain ⟨ds,h1,J⟩:=h;exact ⟨ds,h1,uI aM J⟩
 ·obtain ⟨hk,aM⟩:=eA aM;obtain ⟨b,o,ds,h1,J,aj⟩:=h;exact ⟨b,o,ds,by rw[h1,hk.2],J,uI aM aj⟩
 ·obtain ⟨hk,aM⟩:=eA aM;subst hk;obtain ⟨gs,h1,J⟩:=h;exact ⟨gs,h1,Xb aM J⟩
 ·obtain ⟨hk,aM⟩:=eA aM;subst hk;cases aM;obtain ⟨w,h1,J⟩:=h;exact ⟨w,⟨hm _ _ _ (Y1 cJ) h1.1,h1.2⟩,J⟩
 ·cases aM
theorem bt.sg {bN:Nat->Nat} {c:bt} {x:c.ty D} {w:Bool}:(bt.eZ X bN c x w).live=arf:=by cases c<;>rfl
theorem bt.FV {bN:Nat->Nat} {c:bt} {x:c.ty D} {w:Bool}:(bt.eZ X bN c x w).la=w:=by cases c<;>first|rfl|simp[bt.eZ,aG.la]
theorem bt.uf {c:bt} {x:c.ty D} {w:Bool}:(bt.mk X c x w).live=arf:=bt.sg
theorem mb {al bs:Type} {R:al->bs->Prop}:∀{l:List al} {k:List bs},a1 R l k↔l.length=k.length/\∀(i:Nat) (a:al) (b:bs),l[i]? =are a->k[i]? =are b->R a b
 |[],[]=>by simp[a1]
 |[],_::_=>by simp[a1]
 |_::_,[]=>by simp[a1]
 |a::l,b::k=>by
  simp only[a1,mb (l:=l) (k:=k),arU];constructor
  ·rintro ⟨h1,J,aj⟩;refine ⟨by omega,fun i x y U ah=> ?_⟩;cases i with
   |zero=>simp at U ah;subst U ah;exact h1
   |succ i=>exact aj i x y (by simpa using U) (by simpa using ah)
  ·rintro ⟨h1,J⟩;exact ⟨J 0 a b rfl rfl,by omega,fun i x y U ah=>J (i+1) x y (by simpa using U) (by simpa using ah)⟩
theorem Cw {bN:Nat->Nat} {l:List (Nat×Nat)}:∀{cs:List (bC D)} {i0 i:Nat},(nD bN l i0 cs)[i]? =(cs[i]?).map fun c=>match lj l (i0+i) with|some n=> .own (bN n)|none=>c
 |[],i0,i=>by simp[nD]
 |c::cs,i0,0=>by simp[nD]
 |c::cs,i0,i+1=>by simp only[nD,asZ];rw[Cw (cs:=cs),show i0+1+i=i0+(i+1) by omega]
theorem X8 {dI:List (bC D)} {l:List (Nat×Nat)}:∀{cs:List (bC D)} {i0 i:Nat},(pZ dI l i0 cs)[i]? =(cs[i]?).map fun c=>match lj l (i0+i) with|some _=>dI.getD (i0+i) .fH|none=>c
 |[],i0,i=>by simp[pZ]
 |c::cs,i0,0=>by simp[pZ]
 |c::cs,i0,i+1=>by simp only[pZ,asZ];rw[X8 (cs:=cs),show i0+1+i=i0+(i+1) by omega]
theorem Od {bN:Nat->Nat} {l:List (Nat×Nat)}:∀{cs:List (bC D)} {i0:Nat},(nD bN l i0 cs).length=cs.length
 |[],_=>rfl
 |c::cs,i0=>by simp[nD,Od (cs:=cs)]
theorem Zq {t:Nat} (i:Nat):∃v,∀(z:Nat->aV) (vs:List arh),db X.G z vs ((tg X t).getD i .fH) v:=by
 unfold tg;cases cA:X.I t with
 |none=>exact ⟨.slice ari 0 0,fun z vs=>rfl⟩
 |some ti=>
  simp only;cases ad:ti.qj[i]? with
  |none=>exact ⟨.slice ari 0 0,fun z vs=>by rw[atZ,ad];rfl⟩
  |some c=>obtain ⟨v,aa,_⟩:=(ti.pT (fun _=> .dead) []).get i c ad;refine ⟨v,fun z vs=> ?_⟩;rw[atZ,ad];exact (mb.1 (ti.pT z vs)).2 i c v ad aa
theorem X9 {dI:List (bC D)} {l:List (Nat×Nat)}:∀{cs:List (bC D)} {i0:Nat},(pZ dI l i0 cs).length=cs.length
 |[],_=>rfl
 |c::cs,i0=>by simp[pZ,X9 (cs:=cs)]
theorem CF:∀{l:List (Nat×Nat)} {i n:Nat},lj l i=are n->(i,n)∈l
 |[],_,_,h=>by cases h
 |p::l,i,n,h=>by
  simp only[lj] at h;split at h
  ·rename_i an;cases h;have:=arB an;subst this;exact arS
  ·exact arK _ (CF h)
theorem GS {aX:List Nat} {cs:List (bC D)}:∀{l:List (Nat×Nat)},Dl aX cs l=arf->∀p∈l,∃i,cs[p.1]? =are (.own i)/\aX[p.2]? =are i
 |[],_,_,h=>by simp at h
 |q::l,h,p,an=>by
  simp only[Dl,arq] at h;rcases arA.1 an with rfl|an
  ·have h1:=h.1;split at h1
   ·rename_i i af;refine ⟨i,af, ?_⟩;unfold pa at h1;split at h1
    ·rename_i j ap;rw[ap,arB h1]
    ·cases h1
   ·cases h1
  ·exact GS h.2 p an
theorem ajv {t:Nat} {x:D t}:(hB X t x).all o8=arf:=by
 unfold hB;split
 ·rename_i ti _;exact ti.M4 x
 ·rfl
theorem agV {c:bC D} {v:arh} (ad:o8 c=arf) (h:db X.G z vs c v) (aK:∀f is,c≠ .fn f is):db X.G z vs' c v:=by
 cases c<;>first|exact h|cases ad|exact absurd rfl (aK _ _)
theorem ahu {c:bC D} {v:arh} (ad:o8 c=arf) (h:db X.G z vs c v):db X.G z vs' c v:=by
 cases c with
 |fn f is=>
  cases is with
  |nil=>obtain ⟨gs,h1,J⟩:=h;exact ⟨gs,h1,by cases gs with|nil=>trivial|cons _ _=>exact J.elim⟩
  |cons _ _=>cases ad
 |_=>exact agV ad h (by simp)
def PG (i:Nat):aG D->Prop
 | .box _ cs _ _=> .own i∈cs\/∃f is, .fn f is∈cs/\i∈is
 |_=>False
theorem Ha {aX:List Nat}:∀{l k:List Nat},Ez aX l k=arf->a1 (fun n i=>aX[n]? =are i) l k
 |[],[],_=>trivial
 |n::l,i::k,h=>by simp only[Ez,arq] at h;exact ⟨Y1 h.1,Ha h.2⟩
 |[],_::_,h=>by cases h
 |_::_,[],h=>by cases h
theorem Yk {bN mn:Nat->Nat}:∀{is:List Nat} {gs:List arh},(∀n∈is,∀u,vs[bN n]? =are u->vs'[mn n]? =are u)->a1 (rK vs) (is.map bN) gs->a1 (rK vs') (is.map mn) gs
 |[],[],_,_=>trivial
 |[],_::_,_,h=>h.elim
 |_::_,[],_,h=>h.elim
 |n::is,g::gs,aa,⟨h1,J⟩=>⟨⟨aa n arS g h1.1,h1.2⟩,Yk (fun m hm=>aa m (arK _ hm)) J⟩
theorem Yl {aX:List Nat} {bN:Nat->Nat} (aa:∀n i u,aX[n]? =are i->vs[i]? =are u->vs'[bN n]? =are u):∀{is pV:List Nat} {gs:List arh},a1 (fun n i=>aX[n]? =are i) is pV->a1 (rK vs) pV gs->a1 (rK vs') (is.map bN) gs
 |[],[],[],_,_=>trivial
 |_::_,[],_,h,_=>h.elim
 |[],_::_,_,h,_=>h.elim
 |[],[],_::_,_,h=>h.elim
 |_::_,_::_,[],_,h=>h.elim
 |n::is,j::pV,g::gs,⟨h1,J⟩,⟨bm,br⟩=>⟨⟨aa n j g h1 bm.1,bm.2⟩,Yl aa J br⟩
theorem bt.Vo {bN mn:Nat->Nat} {c:bt} {x:c.ty D} {v:arh} {w:Bool} (w':Bool) (h:fs X.G z e m k vs (bt.eZ X bN c x w) v) (aa:∀n∈c.fI,PG (bN n) (bt.eZ X bN c x w)->∀u,vs[bN n]? =are u->vs'[mn n]? =are u):fs X.G z e m k vs' (bt.eZ X mn c x w') v:=by
 cases c with
 |box t=>obtain ⟨b,ds,h1,J,aj,aJ⟩:=h;exact ⟨b,ds,h1,J,aj,sz aJ⟩
 |recv t=>obtain ⟨b,ds,h1,J,aJ⟩:=h;exact ⟨b,ds,h1,J,sz aJ⟩
 |eH t l=>
  obtain ⟨b,ds,h1,J,aj,aJ⟩:=h;refine ⟨b,ds,h1,J,aj,mb.2 ⟨?_,fun i a d ar aw=> ?_⟩⟩
  ·have:=(mb.1 aJ).1;rw[Od] at this⊢;exact this
  ·rw[Cw] at ar;obtain ⟨a0,az,ar⟩:=atH.1 ar;have ao:=(mb.1 aJ).2 i _ d (by rw[Cw,az];rfl) aw;rw[arE] at ar ao;cases aK:lj l i with
   |none=>rw[aK] at ar ao;subst ar;exact ahu (arz.1 ajv a0 (arI az)) ao
   |some n=>rw[aK] at ar ao;subst ar;exact ⟨aa n (arC.2 ⟨_,CF aK,rfl⟩) (.inl (arI (i:=i) (by rw[Cw,az,arE,asQ,aK]))) d ao.1,ao.2⟩
 |ia t f is=>
  obtain ⟨b,ds,h1,J,aj,aJ⟩:=h;refine ⟨b,ds,h1,J,aj, ?_⟩
  match ds,aJ with
  |[d],⟨⟨gs,g1,g2⟩,_⟩=>exact ⟨⟨gs,g1,Yk (fun n av=>aa n av (.inr ⟨f,_,arS,arC.2 ⟨n,av,rfl⟩⟩)) g2⟩,trivial⟩
 |ne e t=>obtain ⟨hu,ws,h⟩:=h;exact ⟨hu,ws,h.a7,h.len,h.nx,fun p an=>by cases an⟩
 |_=>exact h
theorem bt.yZ {bN mn:Nat->Nat} {c:bt} {x:c.ty D} {v:arh} {w:Bool} (w':Bool) (h:fs X.G z e m k vs (bt.eZ X bN c x w) v) (aa:∀n∈c.fI,∀u,vs[bN n]? =are u->vs'[mn n]? =are u):fs X.G z e m k vs' (bt.eZ X mn c x w') v:=bt.Vo w' h fun n av _=>aa n av
theorem alh {e t:Nat}:TA X.G e t ((X.N e t).map px.up):=by
 intro f aK;cases av:X.N e t with
 |none=>rw[av] at aK;cases aK
 |some dx=>rw[av] at aK;cases aK;exact ⟨dx.bu,dx.tid,dx.ao⟩
theorem bt.A6 {aX:List Nat} {bN:Nat->Nat} {c:bt} {x:c.ty D} {o:aG D} {v:arh} (aM:bt.get X aX c o=are x) (h:fs X.G z e m k vs o v) (aa:∀n i u,aX[n]? =are i->vs[i]? =are u->vs'[bN n]? =are u) (w:Bool):fs X.G z e m k vs' (bt.eZ X bN c x w) v:=by
 unfold bt.get at aM;split at aM
 ·split at aM
  ·rename_i hk;cases aM;subst hk;exact h
  ·cases aM
 ·obtain ⟨hk,aM⟩:=eA aM;subst hk;obtain ⟨b,ds,h1,J,aj,aJ⟩:=h;exact ⟨b,ds,h1,J,aj,uI aM aJ⟩
 ·obtain ⟨hk,aM⟩:=eA aM;subst hk;obtain ⟨b,ds,h1,J,aJ⟩:=h;exact ⟨b,ds,h1,J,uI aM aJ⟩
 ·split at aM
  ·rename_i hk;split at aM
   ·rename_i ak;obtain ⟨h1,J⟩:=ak;subst hk h1 J;cases aM;exact h
   ·cases aM
  ·cases aM
 ·split at aM
  ·rename_i hk;split at aM
   ·rename_i ak;obtain ⟨h1,J⟩:=hk;subst h1 J ak;cases aM;exact h
   ·cases aM
  ·cases aM
 ·rename_i t l cS cs cW;obtain ⟨hk,aM⟩:=eA aM;obtain ⟨rfl,ai⟩:=hk;obtain ⟨b,ds,h1,J,aj,aJ⟩:=h;have hlen:=(mb.1 aJ).1;have av:a1 (db X.G z vs) (pZ (tg X cS) l 0 cs) ((ar2 ds.length).map fun i=>match lj l i with|some _=>Classical.choose (Zq (X:=X) (t:=cS) i)|none=>ds.getD i undef):=by
   refine mb.2 ⟨by rw[X9];simp[hlen],fun i a d ar aw=> ?_⟩;rw[X8] at ar;obtain ⟨a0,az,ar⟩:=atH.1 ar;rw[arE] at ar;have af:i<ds.length:=by rw[<-hlen];exact (arp.1 az).1
   rw[ar4,atD af] at aw;have aw:=arw.inj aw;cases aK:lj l i with
   |none=>rw[aK] at ar;simp only[aK] at aw;subst ar aw;exact (mb.1 aJ).2 i a0 _ az (by simp[asG,arX af])
   |some n=>rw[aK] at ar;simp only[aK] at aw;subst ar aw;exact Classical.choose_spec (Zq (X:=X) (t:=cS) i) z vs
  have av:=uI (vs':=vs') aM av;refine ⟨b,ds,h1,J,aj,mb.2 ⟨by rw[Od,(mb.1 av).1];simp,fun i a d ar aw=> ?_⟩⟩;rw[Cw] at ar;obtain ⟨a0,az,ar⟩:=atH.1 ar;rw[arE] at ar;have af:i<ds.length:=(arp.1 aw).1;cases aK:lj l i with
  |none=>rw[aK] at ar;subst ar;have:=(mb.1 av).2 i a0 d az (by rw[ar4,atD af];simp only[asQ,aK];simp[asG,aw]);exact this
  |some n=>rw[aK] at ar;subst ar;obtain ⟨i0,g1,g2⟩:=GS ai _ (CF aK);have ao:=(mb.1 aJ).2 i _ d g1 aw;exact ⟨aa n i0 d g2 ao.1,ao.2⟩
 ·obtain ⟨⟨rfl,rfl,ad⟩,aM⟩:=eA aM;obtain ⟨b,ds,h1,J,aj,aJ⟩:=h;refine ⟨b,ds,h1,J,aj, ?_⟩
  match ds,aJ with
  |[d],⟨⟨gs,g1,g2⟩,_⟩=>exact ⟨⟨gs,g1,Yl aa (Ha ad) g2⟩,trivial⟩
 ·split at aM
  ·rename_i hk;subst hk;obtain ⟨hk,aM⟩:=eA aM;subst hk;cases aM;obtain ⟨_,ws,h⟩:=h;exact ⟨alh,ws,h.a7,h.len,h.nx,fun p an=>by cases an⟩
  ·cases aM
 ·cases aM
theorem bt.acs {aX:List Nat} {c:bt} {x:c.ty D} {o:aG D} (aM:bt.get X aX c o=are x):∀n∈c.fI,∃i,aX[n]? =are i:=by
 intro n av;unfold bt.get at aM;split at aM
 ·simp[bt.fI] at av
 ·simp[bt.fI] at av
 ·simp[bt.fI] at av
 ·simp[bt.fI] at av
 ·simp[bt.fI] at av
 ·obtain ⟨⟨_,ai⟩,_⟩:=eA aM;obtain ⟨p,an,rfl⟩:=arC.1 av;obtain ⟨i,_,h⟩:=GS ai p an;exact ⟨i,h⟩
 ·rename_i t f is cS jS pV cW;obtain ⟨⟨_,_,ad⟩,_⟩:=eA aM;have:∀{l k:List Nat},a1 (fun n i=>aX[n]? =are i) l k->∀n∈l,∃i,aX[n]? =are i:=by
   intro l;induction l with
   |nil=>intro k _ n av;cases av
   |cons a l aU=>
    intro k hk n av;cases k with
    |nil=>exact hk.elim
    |cons b k=>
     rcases arA.1 av with rfl|av
     ·exact ⟨b,hk.1⟩
     ·exact aU hk.2 n av
  exact this (Ha ad) n av
 ·simp[bt.fI] at av
 ·cases aM
theorem bt.Lp {aX:List Nat} {c:bt} {x:c.ty D} {o:aG D} (aM:bt.get X aX c o=are x):o.live=arf:=by
 unfold bt.get at aM;split at aM<;>first|rfl|cases aM
theorem Xm {bN:Nat->Nat} {dI:List (bC D)} {l:List (Nat×Nat)}:∀{cs ds:List (bC D)} {i:Nat},oO (pZ dI l i cs) ds->C3 l i cs=arf->(∀j n,lj l (i+j)=are n->cs[j]? =ari\/cs[j]? =are (.own (bN n)))->nD bN l i ds=cs
 |[],[],_,_,_,_=>rfl
 |[],_::_,_,h,_,_=>h.elim
 |_::_,[],_,h,_,_=>h.elim
 |c::cs,d::ds,i,h,ad,ag=>by
  simp only[C3,arq] at ad;have J:=Xm (cs:=cs) (ds:=ds) (i:=i+1) h.2 ad.2 fun j n ap=>by have:=ag (j+1) n (by rw[<-ap];congr 1;omega);simpa using this
  simp only[nD,J];have az:=ag 0;rw[ar3] at az;cases aK:lj l i with
  |some n=>have:=az n aK;simp at this;simp[this]
  |none=>have h1:=h.1;simp only[aK] at h1 ad;simp only;rw[h1 ad.1]
theorem bt.acq {aX:List Nat} {c:bt} {x:c.ty D} {o:aG D} (aM:bt.get X aX c o=are x) (h:c.J6 o=arf):o=bt.eZ X (fun n=>aX.getD n 0) c x o.la:=by
 unfold bt.get at aM;split at aM
 ·split at aM
  ·rename_i hk;cases aM;subst hk;rfl
  ·cases aM
 ·obtain ⟨hk,aM⟩:=eA aM;subst hk;simp only[bt.eZ,aG.la];rw[<-Ig aM h]
 ·obtain ⟨hk,aM⟩:=eA aM;subst hk;simp only[bt.eZ,aG.la];rw[<-Ig aM h]
 ·split at aM
  ·rename_i hk;split at aM
   ·rename_i ak;obtain ⟨h1,J⟩:=ak;subst hk h1 J;cases aM;rfl
   ·cases aM
  ·cases aM
 ·split at aM
  ·rename_i hk;split at aM
   ·rename_i ak;obtain ⟨h1,J⟩:=hk;subst h1 J ak;cases aM;rfl
   ·cases aM
  ·cases aM
 ·rename_i t l cS cs cW;obtain ⟨⟨rfl,ai⟩,aM⟩:=eA aM;simp only[bt.eZ,aG.la];rw[Xm (an9 aM) (h:C3 l 0 cs=arf) fun j n ap=> .inr ?_];obtain ⟨i,g1,g2⟩:=GS ai (j,n) (CF (by rwa [arE] at ap));rw[g1,atZ,g2];rfl
 ·rename_i t f is cS jS pV cW;obtain ⟨⟨rfl,rfl,ad⟩,aM⟩:=eA aM;have:∀{l k:List Nat},a1 (fun n i=>aX[n]? =are i) l k->l.map (fun n=>aX.getD n 0)=k:=by
   intro l;induction l with
   |nil=>intro k hk;cases k with
    |nil=>rfl
    |cons _ _=>exact hk.elim
   |cons a l aU=>
    intro k hk;cases k with
    |nil=>exact hk.elim
    |cons b k=>rw[List.map_cons,aU hk.2,atZ,hk.1];rfl
  simp only[bt.eZ,aG.la];rw[this (Ha ad)]
 ·split at aM
  ·rename_i hk;subst hk;obtain ⟨hk,aM⟩:=eA aM;subst hk;cases h
  ·cases aM
 ·cases aM
end
end
end Go.aQ
end
section
namespace Go.aQ
section
variable {P:arl} {D:Nat->Type} {X:dk P D} {z z':Nat->aV} {e m m':Mem} {k:Option Nat} {vs vs':List arh} {fr:Nat->arh} {E:List (Nat×aN D)} {O bz:List (aG D)}
theorem bd.DD (h:bd X.G O z e m k vs) (len:vs'.length=bz.length) (Ap:Nat->Nat)
  (ai:∀(i:Nat) (o:aG D),bz[i]? =are o->o.live=arf->∃p v,O[Ap i]? =are p/\p.live=arf/\vs[Ap i]? =are v/\vs'[i]? =are v/\fs X.G z e m k vs' o v)
  (aK:∀(i:Nat) (o:aG D) (v:arh),bz[i]? =are o->o.live=arj->vs'[i]? =are v->fs X.G z e m k vs' o v)
  (inj:∀(i j:Nat) (o p:aG D),bz[i]? =are o->bz[j]? =are p->o.live=arf->p.live=arf->Ap i=Ap j->i=j):bd X.G bz z e m k vs' where
 aR:=h.aR
 len:=len
 obj:=fun i o v ag aa=>by
  cases b5:o.live with
  |false=>exact aK i o v ag b5 aa
  |true=>obtain ⟨p,w,_,_,_,aJ,bk⟩:=ai i o ag b5;rw[aa] at aJ;cases aJ;exact bk
 eu:=fun i j o p v w cQ ag an bf ej aa hw=>by obtain ⟨en,v1,g1,g2,g3,g4,_⟩:=ai i o ag bf;obtain ⟨fo,v2,bm,br,dj,gk,_⟩:=ai j p an ej;rw[aa] at g4;cases g4;rw[hw] at gk;cases gk;exact h.eu (Ap i) (Ap j) en fo v w (fun ax=>cQ (inj i j o p ag an bf ej ax)) g1 bm g2 br g3 dj
theorem fs.frozen {o:aG D} {v:arh} (ai:o.live=arj) (h:fs X.G z e m k vs o v) (aD:eb z z') (aa:∀(i:Nat) (u:arh),vs[i]? =are u->vs'[i]? =are u):fs X.G z' e m' k vs' o v:=by
 cases o with
 |dead=>trivial
 |aE t xs a6 _=>cases a6 with
  |true=>exact dW.mono aD h
  |false=>cases ai
 |box t cs a6 _=>cases a6 with
  |true=>obtain ⟨b,ds,h1,J,aj⟩:=h;exact ⟨b,ds,h1,Ge aD J,nL.mono aj aD aa⟩
  |false=>cases ai
 |map t kt vt es a6 _=>cases a6 with
  |true=>exact kN.mono h aD
  |false=>cases ai
 |_=>cases ai
theorem Dd (h:∀p∈E,rel X.G z vs p.2 (fr p.1)):ef X z vs E fr:=by
 induction E with
 |nil=>intro d;trivial
 |cons p E aU=>exact (aU fun q aF=>h q (arK _ aF)).cons (h p arS)
theorem ajP {s cV:aN D} {v:arh} (au:bd X.G O z e m k vs) (h:Ll O s=are (cV,bz)) (aa:rel X.G z vs s v):∃z',Inv O bz/\cz e.next z z'/\bd X.G bz z' e m k vs/\rel X.G z' vs cV v:=by
 unfold Ll at h;split at h
 ·split at h
  ·rename_i c bg bB ad;cases h;exact zC au ad aa
  ·cases h
 ·split at h
  ·rename_i t cs cs' bB ad;cases h;obtain ⟨ds,h1,J⟩:=aa;obtain ⟨z',g0,g1,g2,g3⟩:=O0 au ad J;exact ⟨z',g0,g1,g2,ds,h1,g3⟩
  ·cases h
 ·split at h
  ·rename_i aT xs bB ad;split at h
   ·rename_i he;subst he;cases h;obtain ⟨w,h1,J⟩:=aa;obtain ⟨z',g0,g1,g2,g3⟩:=zC (c:= .own _) au ad h1;exact ⟨z',g0,g1,g2,J.aog g3⟩
   ·cases h
  ·cases h
 ·cases h;exact ⟨z,Inv.refl _,cz.refl z,au,aa⟩
theorem aiz {i j t:Nat} {c:bC D} {cs:List (bC D)} {a6 w:Bool} (h:vu O j=are (c,bz)) (af:O[i]? =are (.box t cs a6 w)):bz[i]? =are (.box t cs a6 w):=by
 unfold vu at h;split at h
 ·rename_i ag;cases h;rw[arY];split
  ·rename_i ap;subst ap;rw[ag] at af;cases af
  ·exact af
 ·rename_i ag;cases h;rw[arY];split
  ·rename_i ap;subst ap;rw[ag] at af;cases af
  ·exact af
 ·rename_i ag;cases h;rw[arY];split
  ·rename_i ap;subst ap;rw[ag] at af;cases af
  ·exact af
 ·cases h
theorem aiy {i t:Nat} {c bg:bC D} {cs:List (bC D)} {a6 w:Bool} (h:rQ O c=are (bg,bz)) (af:O[i]? =are (.box t cs a6 w)):bz[i]? =are (.box t cs a6 w):=by
 unfold rQ at h;split at h
 ·exact aiz h af
 ·cases h;exact af
theorem YC {l:List (Nat×Nat)}:∀{cs cs':List (bC D)} {n:Nat} {O bz:List (aG D)} {ds:List arh} {z:Nat->aV},bd X.G O z e m k vs->EW l n cs O=are (cs',bz)->a1 (db X.G z vs) cs ds->
  ∃z',Inv O bz/\cz e.next z z'/\bd X.G bz z' e m k vs/\a1 (db X.G z' vs) cs' ds/\∀(i t:Nat) (fu:List (bC D)) (a6 w:Bool),O[i]? =are (.box t fu a6 w)->bz[i]? =are (.box t fu a6 w)
 |[],cs',n,O,bz,[],z,au,h,_=>by cases h;exact ⟨z,Inv.refl _,cz.refl z,au,trivial,fun _ _ _ _ _ h=>h⟩
 |c::cs,cs',n,O,bz,d::ds,z,au,h,⟨h1,J⟩=>by
  unfold EW at h;split at h
  ·rename_i bg bB ad;split at h
   ·rename_i ab6 cE gI;cases h;have step:∃bR,Inv O bB/\cz e.next z bR/\bd X.G bB bR e m k vs/\db X.G bR vs bg d/\∀(i t:Nat) (fu:List (bC D)) (a6 w:Bool),O[i]? =are (.box t fu a6 w)->bB[i]? =are (.box t fu a6 w):=by
     split at ad
     ·cases ad;exact ⟨z,Inv.refl _,cz.refl z,au,h1,fun _ _ _ _ _ h=>h⟩
     ·obtain ⟨bR,g0,g1,g2,g3⟩:=zC au ad h1;exact ⟨bR,g0,g1,g2,g3,fun _ _ _ _ _ h=>aiy ad h⟩
    obtain ⟨bR,g0,g1,g2,g3,g4⟩:=step;obtain ⟨z2,hh,bm,br,dj,gk⟩:=YC g2 gI (nL.mono J g1.le fun _ _ h=>h);exact ⟨z2,g0.trans hh,g1.trans bm,br,⟨db.mono g3 bm.le fun _ _ h=>h,dj⟩,fun _ _ _ _ _ h=>gk _ _ _ _ _ (g4 _ _ _ _ _ h)⟩
   ·cases h
  ·cases h
 |[],_,_,_,_,_::_,_,_,_,h=>h.elim
 |_::_,_,_,_,_,[],_,_,_,h=>h.elim
theorem YF {l:List (Nat×Nat)} {i:Nat} (au:bd X.G O z e m k vs) (h:tD l O i=are bz):∃z',Inv O bz/\cz e.next z z'/\bd X.G bz z' e m k vs:=by
 unfold tD at h;split at h
 ·rename_i t cs w ag;split at h
  ·split at h
   ·rename_i cs' bB aK;cases h;obtain ⟨v,aa,b,ds,h1,J,aj,aJ⟩:=au.at ag;obtain ⟨bR,g0,g1,g2,g3,g4⟩:=YC au aK aJ;have UR:=g4 _ _ _ _ _ ag;obtain ⟨bV,ng,cI,cL,eQ,gu⟩:=g2.obj i _ v UR aa;have l0:h6 bR e m k b ds t:=by
     rw[h1] at cI;cases cI;exact ⟨J.ay,cL.lt,cL.dead,cL.fresh⟩
    refine ⟨bR,g0.trans (Inv.set bB i (.inr rfl)),g1,g2.mW (m':=m) UR aa rfl ⟨ars _,g2.aR.dead,fun _ _ _=>rfl⟩ g2.aR ⟨b,ds,h1,l0,aj,g3⟩⟩
   ·cases h
  ·cases h;exact ⟨z,Inv.refl _,cz.refl z,au⟩
 ·cases h;exact ⟨z,Inv.refl _,cz.refl z,au⟩
theorem zB:∀{aC:List c7} {O bz:List (aG D)} {z:Nat->aV},bd X.G O z e m k vs->nZ E aC O=are bz->∃z',Inv O bz/\cz e.next z z'/\bd X.G bz z' e m k vs
 |[],O,bz,z,au,h=>by cases h;exact ⟨z,Inv.refl _,cz.refl z,au⟩
 |it::aC,O,bz,z,au,h=>by
  have go:∀{l:List (Nat×Nat)} {i:Nat},(match tD l O i with|some bz=>nZ E aC bz|none=>ari)=are bz->∃z',Inv O bz/\cz e.next z z'/\bd X.G bz z' e m k vs:=by
   intro l i h;split at h
   ·rename_i bB aK;obtain ⟨bR,g0,g1,g2⟩:=YF au aK;obtain ⟨z2,hh,bm,br⟩:=zB g2 h;exact ⟨z2,g0.trans hh,g1.trans bm,br⟩
   ·cases h
  cases it with
  |v d c=>exact zB (aC:=aC) au h
  |o d c=>
   cases c with
   |box t=>
    simp only[nZ] at h;split at h
    ·exact go h
    ·cases h
   |eH t l=>
    simp only[nZ] at h;split at h
    ·exact go h
    ·cases h
   |_=>exact zB (aC:=aC) au h
  |u j c=>
   cases c with
   |box t=>simp only[nZ] at h;exact go h
   |eH t l=>simp only[nZ] at h;exact go h
   |_=>exact zB (aC:=aC) au h
def xS (X:dk P D) (z:Nat->aV) (vs:List arh) (fr:Nat->arh):List c7->List (aN D)->Prop
 |[],[]=>True
 | .v d _::aC,s::l=>rel X.G z vs s (fr d)/\xS X z vs fr aC l
 | .o _ _::aC,_::l=>xS X z vs fr aC l
 | .u _ _::aC,_::l=>xS X z vs fr aC l
 |_,_=>False
theorem ajQ {c:e5} {s cV:aN D} {v:arh} (au:bd X.G O z e m k vs) (h:Lm c O s=are (cV,bz)) (aa:rel X.G z vs s v):∃z',Inv O bz/\cz e.next z z'/\bd X.G bz z' e m k vs/\rel X.G z' vs cV v:=by
 unfold Lm at h;split at h
 ·cases h;exact ⟨z,Inv.refl _,cz.refl z,au,aa⟩
 ·rename_i t i off;split at h
  ·rename_i bB U;split at h
   ·rename_i p cE an;cases h;obtain ⟨bR,g0,g1,g2⟩:=YF au U;obtain ⟨z2,hh,bm,br,dj⟩:=OB g2 (rel.mono aa g1.le fun _ _ h=>h) an;exact ⟨z2,g0.trans hh,g1.trans bm,br,dj⟩
   ·cases h
  ·cases h
 ·exact ajP au h aa
theorem uz:∀{aC:List c7} {O bz:List (aG D)} {l:List (aN D)} {z:Nat->aV},bd X.G O z e m k vs->ef X z vs E fr->pH E aC O=are (l,bz)->∃z',Inv O bz/\cz e.next z z'/\bd X.G bz z' e m k vs/\xS X z' vs fr aC l
 |[],O,bz,l,z,au,aP,h=>by cases h;exact ⟨z,Inv.refl _,cz.refl z,au,trivial⟩
 | .v d c::aC,O,bz,l,z,au,aP,h=>by
  simp only[pH] at h;split at h
  ·rename_i s bB aq;split at h
   ·rename_i pX cE ai;cases h;obtain ⟨bR,g0,g1,g2,g3⟩:=ajQ au aq (aP d);obtain ⟨z2,hh,bm,br,dj⟩:=uz g2 (aP.mono g1.le fun _ _ h=>h) ai;exact ⟨z2,g0.trans hh,g1.trans bm,br,rel.mono g3 bm.le fun _ _ h=>h,dj⟩
   ·cases h
  ·cases h
 | .o d c::aC,O,bz,l,z,au,aP,h=>by
  simp only[pH] at h;split at h
  ·rename_i pX cE ai;cases h;exact uz (aC:=aC) au aP ai
  ·cases h
 | .u d c::aC,O,bz,l,z,au,aP,h=>by
  simp only[pH] at h;split at h
  ·rename_i pX cE ai;cases h;exact uz (aC:=aC) au aP ai
  ·cases h
structure xU (D:Nat->Type) where
 c:bt
 x:c.ty D
def cos:(aC:List c7)->dD D aC->List (xU D)
 |[],_=>[]
 | .o _ c::aC,x=>⟨c,x.1⟩::cos aC x.2
 | .v _ _::aC,x=>cos aC x.2
 | .u _ _::aC,x=>cos aC x.2
theorem k7:∀{aC:List c7} {x:dD D aC},dC X aC x=(cos aC x).map fun q=>bt.mk X q.c q.x arj
 |[],_=>rfl
 | .o d c::aC,x=>by show bt.mk X c x.1 arj::dC X aC x.2=bt.mk X c x.1 arj::(cos aC x.2).map _;rw[k7]
 | .v d c::aC,x=>k7 (aC:=aC)
 | .u d c::aC,x=>k7 (aC:=aC)
def xX (X:dk P D) (eF:List Nat) (O:List (aG D)):List Nat->List (xU D)->Prop:=a1 fun i q=>∃o,O[i]? =are o/\bt.get X eF q.c o=are q.x
theorem zQ {eF:List Nat} (hm:∀(j i:Nat) (u:arh),eF[j]? =are i->vs[i]? =are u->vs'[j]? =are u):∀{aC:List c7} {l:List (aN D)} {aX:List Nat} {x:dD D aC},gl X eF O aC l aX=are x->xS X z vs fr aC l->∀p∈fO X aC x,rel X.G z vs' p.2 (fr p.1)
 |[],_,_,_,_,_=>by simp[fO]
 | .v d c::aC,[],_,_,_,h=>h.elim
 | .o d c::aC,[],_,_,_,h=>h.elim
 | .u d c::aC,[],_,_,_,h=>h.elim
 | .v d c::aC,s::l,aX,x,h,ar=>by
  simp only[gl] at h;obtain ⟨cJ,h⟩:=eA h;split at h
  ·rename_i a b h1 J;cases h;intro p an;simp only[fO,arA] at an;rcases an with rfl|an
   ·exact e5.A6 hm cJ h1 ar.1
   ·exact zQ hm J ar.2 p an
  ·cases h
 | .o d c::aC,s::l,[],x,h,ar=>by cases h
 | .o d c::aC,s::l,i::aX,x,h,ar=>by
  simp only[gl] at h;split at h
  ·split at h
   ·rename_i a b h1 J;cases h;intro p an;exact zQ hm J ar p an
   ·cases h
  ·cases h
 | .u d c::aC,s::l,aX,x,h,ar=>by
  simp only[gl] at h;split at h
  ·split at h
   ·rename_i a b h1 J;cases h;intro p an;exact zQ hm J ar p an
   ·cases h
  ·cases h
theorem Dp {eF:List Nat}:∀{aC:List c7} {l:List (aN D)} {aX:List Nat} {x:dD D aC},gl X eF O aC l aX=are x->xX X eF O aX (cos aC x)
 |[],[],[],_,_=>trivial
 |[],_::_,[],_,_=>trivial
 |[],_,_::_,_,h=>by simp[gl] at h
 | .v d c::aC,[],_,_,h=>by simp[gl] at h
 | .o d c::aC,[],_,_,h=>by simp[gl] at h
 | .u d c::aC,[],_,_,h=>by simp[gl] at h
 | .v d c::aC,s::l,aX,x,h=>by
  simp only[gl] at h;obtain ⟨_,h⟩:=eA h;split at h
  ·rename_i a b h1 J;cases h;show xX X eF O aX (cos aC b);exact Dp J
  ·cases h
 | .o d c::aC,s::l,[],x,h=>by cases h
 | .o d c::aC,s::l,i::aX,x,h=>by
  simp only[gl] at h;split at h
  ·rename_i o ag;split at h
   ·rename_i a b h1 J;cases h;exact ⟨⟨o,ag,h1⟩,Dp J⟩
   ·cases h
  ·cases h
 | .u d c::aC,s::l,aX,x,h=>by
  simp only[gl] at h;split at h
  ·split at h
   ·rename_i a b h1 J;cases h;show xX X eF O aX (cos aC b);exact Dp J
   ·cases h
  ·cases h
theorem Wu {i:Nat} {l:List Nat} (h:sB (i::l)=arf):i∉l/\sB l=arf:=by
 simp only[sB,arq,aso,List.any_eq_false] at h;refine ⟨fun af=> ?_,h.2⟩;exact h.1 i af (by simp)
theorem NQ:∀{l:List Nat},sB l=arf->∀(a b i:Nat),l[a]? =are i->l[b]? =are i->a=b
 |[],_,a,b,i,h,_=>by simp at h
 |x::l,h,a,b,i,ar,ab=>by
  obtain ⟨h1,J⟩:=Wu h;cases a with
  |zero=>
   cases b with
   |zero=>rfl
   |succ b=>simp at ar ab;subst ar;exact absurd (arI ab) h1
  |succ a=>
   cases b with
   |zero=>simp at ar ab;subst ab;exact absurd (arI ar) h1
   |succ b=>simp at ar ab;rw[NQ J a b i ar ab]
def SP (X:dk P D) (eF:List Nat) (O:List (aG D)):List Nat->List (xU D)->Prop:=a1 fun i q=>∃w,O[i]? =are (bt.eZ X (fun n=>eF.getD n 0) q.c q.x w)
theorem aku {eF:List Nat} (au:bd X.G O z e m k vs) {i:Nat} {o:aG D} {c:bt} {x:c.ty D} (ag:O[i]? =are o) (aM:bt.get X eF c o=are x) (w:Bool):bd X.G (O.set i (bt.eZ X (fun n=>eF.getD n 0) c x w)) z e m k vs:=by
 obtain ⟨v,aa,bP⟩:=au.at ag;have af:=(arp.1 ag).1;refine au.DD (by rw[asK];exact au.len) id (fun j p an ai=> ?_) (fun j p u an ai hu=> ?_) (fun i j _ _ _ _ _ _ h=>h)
 ·rw[arY] at an;split at an
  ·rename_i cQ;subst cQ;cases an;exact ⟨o,v,ag,bt.Lp aM,aa,aa,bt.A6 aM bP (fun n i u h1 J=>by simpa[asG,h1] using J) w⟩
  ·obtain ⟨u,hu,qL⟩:=au.at an;exact ⟨p,u,an,ai,hu,hu,qL⟩
 ·rw[arY] at an;split at an
  ·cases an;rw[bt.sg] at ai;cases ai
  ·exact au.obj j p u an hu
theorem ZB {eF:List Nat} {i:Nat} {p:aG D}:∀{aX:List Nat} {C:List (xU D)},xX X eF O aX C->i∉aX->xX X eF (O.set i p) aX C
 |[],[],_,_=>trivial
 |j::aX,q::C,⟨⟨o,h1,J⟩,aj⟩,af=>by
  refine ⟨⟨o, ?_,J⟩,ZB aj fun h=>af (arK _ h)⟩;rw[atg]
  ·exact h1
  ·rintro rfl;exact af arS
 |[],_::_,h,_=>h.elim
 |_::_,[],h,_=>h.elim
theorem aiS {al:Type} {l:List al} {i:Nat} {a:al} (h:l[i]? =are a):l.set i a=l:=by
 apply as8;intro j;rw[arY];have af:=(arp.1 h).1;by_cases cQ:i=j
 ·subst cQ;rw[if_pos rfl,if_pos af,h]
 ·simp[cQ]
theorem Hu {eF:List Nat}:∀{aC:List c7} {x:dD D aC} {aX:List Nat} {O:List (aG D)},bd X.G O z e m k vs->xX X eF O aX (cos aC x)->sB aX=arf->
  Inv O (k4 X eF aC x aX O)/\bd X.G (k4 X eF aC x aX O) z e m k vs/\SP X eF (k4 X eF aC x aX O) aX (cos aC x)/\∀i,i∉aX->(k4 X eF aC x aX O)[i]? =O[i]?
 |[],x,[],O,au,_,_=>⟨Inv.refl _,au,trivial,fun _ _=>rfl⟩
 |[],x,_::_,O,au,h,_=>h.elim
 | .v d c::aC,x,aX,O,au,h,av=>by have:=Hu (aC:=aC) (x:=x.2) (aX:=aX) au h av;simpa only[k4,cos] using this
 | .u d c::aC,x,aX,O,au,h,av=>by have:=Hu (aC:=aC) (x:=x.2) (aX:=aX) au h av;simpa only[k4,cos] using this
 | .o d c::aC,x,[],O,au,h,av=>h.elim
 | .o d c::aC,x,i::aX,O,au,⟨⟨o,h1,J⟩,aj⟩,av=>by
  obtain ⟨iE,hQ⟩:=Wu av;have hn:=aku au h1 J (sQ c O i);obtain ⟨g1,g2,g3,g4⟩:=Hu (aC:=aC) (x:=x.2) (aX:=aX) hn (ZB aj iE) hQ;have af:=(arp.1 h1).1;refine ⟨Inv.trans ?_ g1,g2,⟨⟨sQ c O i, ?_⟩,g3⟩,fun j ap=> ?_⟩
  ·cases ak:sQ c O i with
   |true=>exact Inv.set O i (.inr bt.FV)
   |false=>
    have ad:o.la=arj/\c.J6 o=arf:=by simp only[sQ,h1,auu,Bool.not_eq_false'] at ak;exact ak
    have dj:=bt.acq J ad.2;rw[ad.1] at dj;have:O.set i (bt.eZ X (fun n=>eF.getD n 0) c x.1 arj)=O:=aiS (by rw[h1];exact congrArg are dj);rw[this];exact Inv.refl O
  ·show (k4 X eF aC x.2 aX (O.set i (bt.eZ X _ c x.1 (sQ c O i))))[i]? =_;rw[g4 i iE,arY];simp[af]
  ·show (k4 X eF aC x.2 aX (O.set i (bt.eZ X _ c x.1 (sQ c O i))))[j]? =_;rw[g4 j fun h=>ap (arK _ h),atg];rintro rfl;exact ap arS
theorem GW {a:Option Nat} {i:Nat} (h:pa a i=arf):a=are i:=by
 unfold pa at h;split at h
 ·rw[arB h]
 ·cases h
theorem Pn {aX:List Nat} {s cV:aN D} {v:arh} (bN:Nat->Nat) (h:tE aX s cV=arf) (ao:rel X.G z vs cV v) (aa:∀(j i:Nat) (u:arh),aX[j]? =are i->vs[i]? =are u->vs'[bN j]? =are u):rel X.G z vs' (xx bN s) v:=by
 unfold tE at h;split at h
 ·exact ⟨aa _ _ _ (GW h) ao.1,ao.2⟩
 ·simp only[arq] at h;obtain ⟨b,h1,J⟩:=ao;have:=arB h.2;subst this;exact ⟨b,aa _ _ _ (GW h.1) h1,J⟩
 ·obtain ⟨b,l,h1,J⟩:=ao;exact ⟨b,l,aa _ _ _ (GW h) h1,J⟩
 ·exact ao
 ·exact ao
 ·exact ao
 ·exact ao
 ·trivial
 ·simp only[arq,decide_eq_true_eq,beq_iff_eq] at h;obtain ⟨rfl,rfl⟩:=h;exact ao
 ·have:=eq_of_beq h;subst this;exact ao
 ·have:=arB h;subst this;obtain ⟨gs,h1,J⟩:=ao;refine ⟨gs,h1, ?_⟩;cases gs with
  |nil=>trivial
  |cons _ _=>exact J.elim
 ·cases h
theorem Hm (s:aN D):xx id s=s:=by
 cases s with
 |c c=>cases c<;>rfl
 |_=>rfl
structure Ru (X:dk P D) (aC:List c7) (fx:List (Nat×aN D)) (x:dD D aC) (aX:List Nat) (cE:List (aG D)) (z:Nat->aV) (e m:Mem) (k:Option Nat) (vs bY:List arh) (fr:Nat->arh):Prop where
 y0:bd X.G cE z e m k vs
 Vp:bd X.G (dC X aC x) z e m k bY
 aao:ef X z bY (fO X aC x++fx) fr
 gX:sB aX=arf
 uk:SP X aX cE aX (cos aC x)
 len:bY.length=aX.length
 c3:∀(j i:Nat),aX[j]? =are i->∃u,bY[j]? =are u/\vs[i]? =are u
 gt:∀q∈cos aC x,∀n∈q.c.fI,∃i,aX[n]? =are i
theorem ak1 {aC:List c7} {fx:List (Nat×aN D)} {x:dD D aC} {aX:List Nat} {cE:List (aG D)} (au:bd X.G O z e m k vs) (aP:ef X z vs E fr) (h:Ii X aC fx E O=are (x,aX,cE)):
  ∃z' bY,Inv O cE/\cz e.next z z'/\Ru X aC fx x aX cE z' e m k vs bY fr:=by
 unfold Ii at h;split at h
 ·rename_i bA bB ard aK ar;split at h
  ·rename_i ad;simp only[arq] at ad;split at h
   ·rename_i gY ab;cases h;obtain ⟨bR,g0,g1,g2,g3⟩:=uz au aP aK;have wv:=Dp ab;obtain ⟨iE,hQ,ug,aqN⟩:=Hu g2 wv ad.1;have ic:∀(j i:Nat),aX[j]? =are i->∃u,(aX.map fun i=>vs.getD i undef)[j]? =are u/\vs[i]? =are u:=by
     intro j i ap;obtain ⟨q,_,w,hw⟩:=ug.get j i ap;obtain ⟨v,aa,_⟩:=hQ.at hw;refine ⟨v, ?_,aa⟩;rw[ar4,ap];simp[aa]
    have hlen:(dC X aC x).length=aX.length:=by rw[k7,ar9];exact ug.length.symm
    have Br:∀(j:Nat) (k5:aG D),(dC X aC x)[j]? =are k5->∃i q,q∈cos aC x/\k5=bt.mk X q.c q.x arj/\aX[j]? =are i/\∃w,(k4 X aX aC x aX bB)[i]? =are (bt.eZ X (fun n=>aX.getD n 0) q.c q.x w):=by intro j k5 ap;have aO:=(arp.1 ap).1;have aq:aX[j]? =are (aX[j]'(by omega)):=arX (by omega);obtain ⟨q,dj,w,gk⟩:=ug.get j _ aq;rw[k7,ar4,dj] at ap;exact ⟨_,q,arI dj,(arw.inj ap).symm,aq,w,gk⟩
    have n4:∀q∈cos aC x,∀n∈q.c.fI,∃i,aX[n]? =are i:=by
     intro q aF;obtain ⟨j,ap,he⟩:=List.mem_iff_getElem.1 aF;have Bt:(cos aC x)[j]? =are q:=by rw[arX ap,he]
     have aq:aX[j]? =are (aX[j]'(by rw[wv.length];exact ap)):=arX _;obtain ⟨dL,bm,o,_,br⟩:=wv.get j _ aq;rw[Bt] at bm;cases bm;exact bt.acs br
    refine ⟨bR,aX.map fun i=>vs.getD i undef,g0.trans iE,g1,hQ, ?_, ?_,ad.1,ug,by simp,ic,n4⟩
    ·refine hQ.DD (by rw[ar9];exact hlen.symm) (fun j=>aX.getD j 0) (fun j k5 ap ai=> ?_) (fun j k5 u ap ai hu=> ?_) (fun i j o p af ap _ _ cQ=> ?_)
     ·obtain ⟨i,q,aF,rfl,aq,w,hw⟩:=Br j k5 ap;obtain ⟨u,aeX,U8⟩:=ic j i aq;have aw:aX.getD j 0=i:=by simp[asG,aq]
      refine ⟨_,u,by rw[aw];exact hw,bt.sg,by rw[aw];exact U8,aeX, ?_⟩;have:=hQ.obj i _ u hw U8;refine bt.yZ arj this fun n av mg jo=> ?_;obtain ⟨kl,da⟩:=n4 q aF n av;have jU:aX.getD n 0=kl:=by simp[asG,da]
      rw[jU] at jo;obtain ⟨DH,h1,J⟩:=ic n kl da;rw[jo] at J;cases J;exact h1
     ·obtain ⟨i,q,_,rfl,aq,w,hw⟩:=Br j k5 ap;rw[bt.uf] at ai;cases ai
     ·obtain ⟨a,_,_,_,ar,_⟩:=Br i o af;obtain ⟨b,_,_,_,ab,_⟩:=Br j p ap;have aT:aX.getD i 0=a:=by simp[asG,ar]
      have e2:aX.getD j 0=b:=by simp[asG,ab]
      have:a=b:=by rw[<-aT,<-e2];exact cQ
      subst this;exact NQ ad.1 i j a ar ab
    ·refine Dd fun p an=> ?_;rcases arO.1 an with an|an
     ·refine zQ (fun j i u ap hu=> ?_) ab g3 p an;obtain ⟨mg,h1,J⟩:=ic j i ap;rw[hu] at J;cases J;exact h1
     ·have ak:=arz.1 ad.2 p an;have:=Pn (X:=X) (z:=bR) (vs:=vs) (vs':=aX.map fun i=>vs.getD i undef) id ak ((aP.mono g1.le fun _ _ h=>h) p.1) fun j i u ap hu=>by
       obtain ⟨mg,h1,J⟩:=ic j i ap;rw[hu] at J;cases J;exact h1
      rwa [Hm] at this
   ·cases h
  ·cases h
 ·cases h
theorem entry {aC:List c7} {fx:List (Nat×aN D)} {x:dD D aC} {aX:List Nat} {cE:List (aG D)} (au:bd X.G O z e m k vs) (aP:ef X z vs E fr) (h:rb X aC fx E O=are (x,aX,cE)):
  ∃z' bY,Inv O cE/\cz e.next z z'/\Ru X aC fx x aX cE z' e m k vs bY fr:=by
 unfold rb at h;split at h
 ·rename_i lQ aK;obtain ⟨bR,g0,g1,g2⟩:=zB au aK;obtain ⟨z2,bY,hh,bm,br⟩:=ak1 g2 (aP.mono g1.le fun _ _ h=>h) h;exact ⟨z2,bY,g0.trans hh,g1.trans bm,br⟩
 ·cases h
def ZI (E:List (Nat×aN D)) (O:List (aG D)) (q off:Nat):Option (Nat×Nat×List (bC D)×Bool):=
 match dQ E q with
 | .box i 0=>(match O[i]? with|some (.box t cs arj w)=>(match cs[off]? with|some .fH=>are (i,t,cs,w)|_=>ari)|_=>ari)
 |_=>ari
def jI:List c7->List (Nat×aN D)->List (aG D)->List (Nat×aN D)×List (aG D)
 | .o d (.aE t)::aC,E,O=>
  if ar5 d rE=arf then (match dQ E d with| .c .fH=>jI aC ((d, .c (.own O.length))::E) (O++[.aE t [] arj arj])|_=>jI aC E O)
  else (match ZI E O ((d - rE) / 1000) ((d - rE)%1000) with|some (i,u,cs,_)=>jI aC E (O.set i (.box u (cs.set ((d - rE)%1000) (.own O.length)) arj arf)++[.aE t [] arj arj])|none=>jI aC E O)
 |_::aC,E,O=>jI aC E O
 |[],E,O=>(E,O)
theorem lH:∀{aC:List c7} {E:List (Nat×aN D)} {O:List (aG D)} {vs:List arh},bd X.G O z e m k vs->ef X z vs E fr->∃vs',Inv O (jI aC E O).2/\(∀(i:Nat) (u:arh),vs[i]? =are u->vs'[i]? =are u)/\bd X.G (jI aC E O).2 z e m k vs'/\ef X z vs' (jI aC E O).1 fr
 |[],E,O,vs,au,aP=>⟨vs,Inv.refl _,fun _ _ h=>h,au,aP⟩
 | .v _ _::aC,E,O,vs,au,aP=>lH (aC:=aC) au aP
 | .u _ _::aC,E,O,vs,au,aP=>lH (aC:=aC) au aP
 | .o _ (.box _)::aC,E,O,vs,au,aP=>lH (aC:=aC) au aP
 | .o _ (.recv _)::aC,E,O,vs,au,aP=>lH (aC:=aC) au aP
 | .o _ (.arr _ _ _)::aC,E,O,vs,au,aP=>lH (aC:=aC) au aP
 | .o _ (.map _ _ _)::aC,E,O,vs,au,aP=>lH (aC:=aC) au aP
 | .o _ (.eH _ _)::aC,E,O,vs,au,aP=>lH (aC:=aC) au aP
 | .o _ (.ia _ _ _)::aC,E,O,vs,au,aP=>lH (aC:=aC) au aP
 | .o _ (.ne _ _)::aC,E,O,vs,au,aP=>lH (aC:=aC) au aP
 | .o d (.aE t)::aC,E,O,vs,au,aP=>by
  have Uf:∀{O:List (aG D)},bd X.G O z e m k vs->bd X.G (O++[.aE t [] arj arj]) z e m k (vs++[.slice ari 0 0]):=fun {O} au=>by refine au.push (q:=ari) ⟨ars _,au.aR.dead,fun _ _ _=>rfl⟩ au.aR (fun _ _ _ _ _ _=>dV.qX) ?_ fun _ _ _=>dV.qX;exact (⟨.inl ⟨rfl,rfl⟩,fun b ab=>by cases ab⟩:cO (X.G.T t) z e m k [] (.slice ari 0 0))
  unfold jI;split
  ·split
   ·rename_i aq;have aw:=aP d;rw[aq] at aw;have aw:fr d= .slice ari 0 0:=aw;obtain ⟨vs',g1,g2,g3,g4⟩:=lH (aC:=aC) (E:=(d, .c (.own O.length))::E) (Uf au) ((aP.mono (eb.refl z) ih).cons ⟨by rw[aw,<-au.len];simp,by rw[aw];rfl,by rw[aw];rfl⟩);exact ⟨vs',(Inv.push O _).trans g1,fun i u hu=>g2 i u (ih i u hu),g3,g4⟩
   ·exact lH (aC:=aC) au aP
  ·generalize (d - rE) / 1000=q;generalize (d - rE)%1000=off;split
   ·rename_i i u cs w av;have ab:O[i]? =are (.box u cs arj w)/\cs[off]? =are .fH:=by
     unfold ZI at av;split at av
     ·split at av
      ·split at av
       ·rename_i J _ aj;cases av;exact ⟨J,aj⟩
       ·cases av
      ·cases av
     ·cases av
    obtain ⟨v,aa,b,ds,h1,J,aj,aJ⟩:=au.at ab.1;have Bb:=Uf au;have af:=(arp.1 ab.1).1;have mC:O.set i (.box u (cs.set off (.own O.length)) arj arf)++[(.aE t [] arj arj:aG D)]=(O++[(.aE t [] arj arj:aG D)]).set i (.box u (cs.set off (.own O.length)) arj arf):=by rw[List.set_append_left _ _ af]
    have vy:bd X.G (O.set i (.box u (cs.set off (.own O.length)) arj arf)++[.aE t [] arj arj]) z e m k (vs++[.slice ari 0 0]):=by
     rw[mC];refine Bb.mW (m':=m) (v:=v) (o:= .box u cs arj w) (by rw[arQ af];exact ab.1) (ih _ _ aa) rfl ⟨ars _,au.aR.dead,fun _ _ _=>rfl⟩ au.aR ?_;refine ⟨b,ds,h1,J,aj,mb.2 ⟨by rw[asK];exact (mb.1 aJ).1,fun j a d ar aw=> ?_⟩⟩;rw[arY] at ar;split at ar
     ·rename_i ap;split at ar
      ·cases ar;subst ap;have ao:d= .slice ari 0 0:=(mb.1 aJ).2 off _ d ab.2 aw;exact ⟨by rw[ao,<-au.len];simp,by rw[ao];rfl,by rw[ao];rfl⟩
      ·cases ar
     ·exact db.mono ((mb.1 aJ).2 j a d ar aw) (eb.refl z) ih
    obtain ⟨vs',g1,g2,g3,g4⟩:=lH (aC:=aC) (E:=E) vy (aP.mono (eb.refl z) ih);exact ⟨vs',((Inv.set O i (.inr rfl)).trans (Inv.push _ _)).trans g1,fun i u hu=>g2 i u (ih i u hu),g3,g4⟩
   ·exact lH (aC:=aC) au aP
end
end Go.aQ
end
section
namespace Go.aQ
structure kL (D:Nat->Type) where
 ex:dF
 outs:List c7
 fx:List (Nat×aN D)
noncomputable section
section
variable {P:arl} {D:Nat->Type}
def j3 (D:Nat->Type):List c7->Type
 |[]=>Unit
 |[i]=>i.ty D
 |i::j::is=>i.ty D×j3 D (j::is)
def HQ:(aC:List c7)->dD D aC->j3 D aC
 |[],_=>()
 |[_],x=>x.1
 |_::j::is,x=>(x.1,HQ (j::is) x.2)
def eK:(aC:List c7)->j3 D aC->dD D aC
 |[],_=>()
 |[_],y=>(y,())
 |_::j::is,y=>(y.1,eK (j::is) y.2)
def rh:List (kL D)->Type
 |[]=>Empty
 |[x]=>j3 D x.outs
 |x::y::xs=>j3 D x.outs⊕rh (y::xs)
def Ew {al:Type}:(h9:List (kL D))->rh h9->((x:kL D)->j3 D x.outs->al)->al
 |[],e,_=>nomatch (e:Empty)
 |[x],y,k=>k x y
 |x::y::xs,r,k=>match (r:j3 D x.outs⊕rh (y::xs)) with| .inl a=>k x a| .inr b=>Ew (y::xs) b k
variable (X:dk P D)
def ZV (n:Nat):aG D->Bool
 | .box _ cs _ _=>cs.all fun c=>match c with| .own i=>ar5 i n| .fn _ is=>is.all fun i=>ar5 i n|_=>arf
 |_=>arf
def Dj (n:Nat) (O:List (aG D)):Nat->List Nat->Bool
 |_,[]=>arf
 |j,k::ks=>(if k=1 then (match O[j]? with|some o=>o.live&& !o.la&&ZV n o|none=>arj) else arf)&&Dj n O (j+1) ks
def QA (n:Nat) (ks:List Nat) (x:kL D) (E:List (Nat×aN D)) (O:List (aG D)):Option (j3 D x.outs):=
 match pH E x.outs O,Et E O x.outs with
 |some (bA,bB),are aX=>
  if (sB aX&&(aX.all fun i=>arF n i||aru (ks.getD i 0) 0)&&Dj n bB 0 ks&&x.fx.all fun p=>tE (ar2 n++aX) p.2 (dQ E p.1))=arf then
   match gl X (ar2 n++aX) bB x.outs bA aX with
   |some y=>are (HQ x.outs y)
   |none=>ari
  else ari
 |_,_=>ari
def zX (n:Nat) (ks:List Nat) (x:kL D) (E:List (Nat×aN D)) (O:List (aG D)):Option (j3 D x.outs):=
 match nZ (jI x.outs E O).1 x.outs (jI x.outs E O).2 with
 |some bz=>QA X n ks x (jI x.outs E O).1 bz
 |none=>ari
def pr (n:Nat) (ks:List Nat):(h9:List (kL D))->dF->List (Nat×aN D)->List (aG D)->Option (rh h9)
 |[],_,_,_=>ari
 |[x],e,E,O=>if e=x.ex then zX X n ks x E O else ari
 |x::y::xs,e,E,O=>if e=x.ex then (match zX X n ks x E O with|some a=>are (Sum.inl a)|none=>ari) else (match pr n ks (y::xs) e E O with|some b=>are (Sum.inr b)|none=>ari)
def ik (bN:Nat->Nat):(aC:List c7)->dD D aC->Nat->aG D
 | .u i c::aC,x,j=>if aru i j=arf then bt.eZ X bN c x.1 arf else ik bN aC x.2 j
 | .v _ _::aC,x,j=>ik bN aC x.2 j
 | .o _ _::aC,x,j=>ik bN aC x.2 j
 |[],_,_=> .dead
def wb (n:Nat):Nat:=n
def mJ (outs:List c7) (y:dD D outs):Nat->List Nat->List (aG D)->List (aG D)
 |i,k::ks,o::O=>(if k=1 then o else if k=2 then ik X wb outs y i else .dead)::mJ outs y (i+1) ks O
 |i,[],o::O=> .dead::mJ outs y (i+1) [] O
 |_,_,[]=>[]
def jL (ks:List Nat) (lQ:List (aG D)) (outs:List c7) (y:dD D outs):List (aG D):=mJ X outs y 0 ks lQ++dC X outs y
end
section
variable {P:arl} {D:Nat->Type} {X:dk P D} {z z':Nat->aV} {e m m':Mem} {k:Option Nat} {vs vs':List arh} {fr:Nat->arh} {E:List (Nat×aN D)} {O bz:List (aG D)}
theorem ZK:∀{aC:List c7} (x:dD D aC),eK aC (HQ aC x)=x
 |[],_=>rfl
 |[_],_=>rfl
 |_::j::is,x=>by show (x.1,eK (j::is) (HQ (j::is) x.2))=x;rw[ZK (aC:=j::is) x.2];rfl
theorem Cs {n:Nat} {ks:List Nat} {ex:dF}:∀{h9:List (kL D)} {cv:rh h9},pr X n ks h9 ex E O=are cv->∃x y,x∈h9/\ex=x.ex/\zX X n ks x E O=are y/\∀{al:Type} (K:(x:kL D)->j3 D x.outs->al),Ew h9 cv K=K x y
 |[],_,h=>by cases h
 |[x],cv,h=>by obtain ⟨h1,J⟩:=eA h;exact ⟨x,cv,arS,h1,J,fun _=>rfl⟩
 |x::y::xs,cv,h=>by
  simp only[pr] at h;split at h
  ·rename_i U;split at h
   ·rename_i a ar;cases h;exact ⟨x,a,arS,U,ar,fun _=>rfl⟩
   ·cases h
  ·split at h
   ·rename_i b ab;cases h;obtain ⟨gY,jt,h1,J,aj,aJ⟩:=Cs ab;exact ⟨gY,jt,arK _ h1,J,aj,fun K=>aJ K⟩
   ·cases h
theorem GK {eF:List Nat} {n:Nat}:∀{aC:List c7} {l:List (aN D)} {aX:List Nat} {x:dD D aC} {j:Nat},gl X eF O aC l aX=are x->(∀bN,ik X bN aC x j= .dead)\/∃c y o,O[j]? =are o/\bt.get X eF c o=are y/\∀bN,ik X bN aC x j=bt.eZ X bN c y arf
 |[],_,_,_,_,_=> .inl fun _=>rfl
 | .v d c::aC,[],_,_,_,h=>by simp[gl] at h
 | .o d c::aC,[],_,_,_,h=>by simp[gl] at h
 | .u d c::aC,[],_,_,_,h=>by simp[gl] at h
 | .v d c::aC,s::l,aX,x,j,h=>by
  simp only[gl] at h;obtain ⟨_,h⟩:=eA h;split at h
  ·rename_i a b h1 J;cases h;exact GK (n:=n) (aC:=aC) J
  ·cases h
 | .o d c::aC,s::l,[],x,j,h=>by cases h
 | .o d c::aC,s::l,i::aX,x,j,h=>by
  simp only[gl] at h;split at h
  ·split at h
   ·rename_i a b h1 J;cases h;exact GK (n:=n) (aC:=aC) J
   ·cases h
  ·cases h
 | .u d c::aC,s::l,aX,x,j,h=>by
  simp only[gl] at h;split at h
  ·rename_i o ag;split at h
   ·rename_i a b h1 J;cases h;by_cases aw:aru d j=arf
    ·have:=arB aw;subst this;refine .inr ⟨c,a,o,ag,h1,fun bN=> ?_⟩;show (if aru d d=arf then bt.eZ X bN c a arf else _)=_;rw[if_pos aw]
    ·have aT:∀bN,ik X bN (.u d c::aC) (a,b) j=ik X bN aC b j:=fun bN=>by
      show (if aru d j=arf then bt.eZ X bN c a arf else _)=_;rw[if_neg aw]
     simp only[aT];exact GK (n:=n) (aC:=aC) (j:=j) J
   ·cases h
  ·cases h
def c7.fI:c7->List Nat
 | .v _ _=>[]
 | .o _ c=>c.fI
 | .u _ c=>c.fI
def c7.y3:c7->Bool
 | .v _ c=>c.y3
 |_=>arf
theorem sw:∀{aC:List c7} {x:dD D aC} {j:Nat},(∀bN,ik X bN aC x j= .dead)\/∃d c y,c7.u d c∈aC/\∀bN,ik X bN aC x j=bt.eZ X bN c y arf
 |[],_,_=> .inl fun _=>rfl
 | .v d c::aC,x,j=>by
  rcases sw (aC:=aC) (x:=x.2) (j:=j) with h|⟨d,c,y,h1,J⟩
  ·exact .inl h
  ·exact .inr ⟨d,c,y,arK _ h1,J⟩
 | .o d c::aC,x,j=>by
  rcases sw (aC:=aC) (x:=x.2) (j:=j) with h|⟨d,c,y,h1,J⟩
  ·exact .inl h
  ·exact .inr ⟨d,c,y,arK _ h1,J⟩
 | .u d c::aC,x,j=>by
  by_cases aw:aru d j=arf
  ·exact .inr ⟨d,c,x.1,arS,fun bN=>if_pos aw⟩
  ·have aT:∀bN,ik X bN (.u d c::aC) x j=ik X bN aC x.2 j:=fun bN=>if_neg aw;simp only[aT];rcases sw (aC:=aC) (x:=x.2) (j:=j) with h|⟨d,c,y,h1,J⟩
   ·exact .inl h
   ·exact .inr ⟨d,c,y,arK _ h1,J⟩
theorem w3:∀{aC:List c7} {x:dD D aC} {o:aG D},o∈dC X aC x->∃d c y,c7.o d c∈aC/\o=bt.mk X c y arj
 |[],_,_,h=>by simp[dC] at h
 | .v d c::aC,x,o,h=>let ⟨d,c,y,h1,J⟩:=w3 (aC:=aC) (x:=x.2) h;⟨d,c,y,arK _ h1,J⟩
 | .u d c::aC,x,o,h=>let ⟨d,c,y,h1,J⟩:=w3 (aC:=aC) (x:=x.2) h;⟨d,c,y,arK _ h1,J⟩
 | .o d c::aC,x,o,h=>by
  simp only[dC,arA] at h;rcases h with rfl|h
  ·exact ⟨d,c,x.1,arS,rfl⟩
  ·obtain ⟨d,c,y,h1,J⟩:=w3 (aC:=aC) (x:=x.2) h;exact ⟨d,c,y,arK _ h1,J⟩
theorem zE:∀{aC:List c7} {x:dD D aC} {p:Nat×aN D},p∈fO X aC x->∃d c y,c7.v d c∈aC/\p.2=e5.mk X c y
 |[],_,_,h=>by simp[fO] at h
 | .o d c::aC,x,o,h=>by obtain ⟨df,bg,y,h1,J⟩:=zE (aC:=aC) (x:=x.2) h;exact ⟨df,bg,y,arK _ h1,J⟩
 | .u d c::aC,x,o,h=>by obtain ⟨df,bg,y,h1,J⟩:=zE (aC:=aC) (x:=x.2) h;exact ⟨df,bg,y,arK _ h1,J⟩
 | .v d c::aC,x,o,h=>by
  simp only[fO,arA] at h;rcases h with rfl|h
  ·exact ⟨d,c,x.1,arS,rfl⟩
  ·obtain ⟨df,bg,y,h1,J⟩:=zE (aC:=aC) (x:=x.2) h;exact ⟨df,bg,y,arK _ h1,J⟩
theorem mP {outs:List c7} {y:dD D outs}:∀{i:Nat} {ks:List Nat} {O:List (aG D)},(mJ X outs y i ks O).length=O.length
 |i,[],[]=>rfl
 |i,_::_,[]=>rfl
 |i,k::ks,o::O=>by simp[mJ,mP]
 |i,[],o::O=>by simp[mJ,mP]
theorem uG {outs:List c7} {y:dD D outs}:∀{i:Nat} {ks:List Nat} {O:List (aG D)} {j:Nat} {o:aG D},O[j]? =are o->(mJ X outs y i ks O)[j]? =are (if ks.getD j 0=1 then o else if ks.getD j 0=2 then ik X wb outs y (i+j) else .dead)
 |i,ks,[],j,o,h=>by simp at h
 |i,k::ks,p::O,0,o,h=>by simp at h;subst h;simp[mJ]
 |i,k::ks,p::O,j+1,o,h=>by simp only[asZ] at h;have:=uG (outs:=outs) (y:=y) (i:=i+1) (ks:=ks) h;simp only[mJ,asZ,this,au7];rw[arZ,Nat.add_comm 1 j]
 |i,[],p::O,0,o,h=>by simp[mJ]
 |i,[],p::O,j+1,o,h=>by simp only[asZ] at h;have:=uG (outs:=outs) (y:=y) (i:=i+1) (ks:=[]) h;simp only[mJ,asZ,this];simp
theorem aiO {n:Nat} {o:aG D} (h:ZV n o=arf):∀i,PG i o->i<n:=by
 intro i af;cases o with
 |box t cs a6 w=>
  rcases af with af|⟨f,is,af,hm⟩
  ·have:=arz.1 h _ af;simpa[at0] using this
  ·have:=arz.1 h _ af;have:=arz.1 this _ hm;simpa[at0] using this
 |_=>exact af.elim
theorem X3 {n:Nat}:∀{ks:List Nat} {i j:Nat},Dj n O i ks=arf->ks.getD j 0=1->∃o,O[i+j]? =are o/\o.live=arf/\o.la=arj/\∀i,PG i o->i<n
 |[],i,j,_,h=>by simp at h
 |k::ks,i,0,hk,h=>by
  simp only[Dj,arq] at hk;simp at h;subst h;have h1:=hk.1;rw[if_pos rfl] at h1;split at h1
  ·rename_i o ag;simp only[arq,aso] at h1;exact ⟨o,ag,h1.1.1,h1.1.2,aiO h1.2⟩
  ·cases h1
 |k::ks,i,j+1,hk,h=>by simp only[Dj,arq] at hk;simp only[au7] at h;obtain ⟨o,h1,J⟩:=X3 hk.2 h;exact ⟨o,by rw[<-h1];congr 1;omega,J⟩
theorem aiH {ins:List c7} {ks:List Nat} {x:dD D ins} {cw:kL D} {y:j3 D cw.outs} {bY:List arh} (af:Inv (dC X ins x) O) (aa:∀(i:Nat) (u:arh),bY[i]? =are u->vs[i]? =are u) (dT:bY.length=(dC X ins x).length)
  (au:bd X.G O z e m k vs) (aP:ef X z vs E fr) (h:QA X bY.length ks cw E O=are y):
  ∃z' c3,cz e.next z z'/\bd X.G (jL X ks (dC X ins x) cw.outs (eK _ y)) z' e m k (bY++c3)/\∀p∈fO X cw.outs (eK _ y)++cw.fx,rel X.G z' (bY++c3) p.2 (fr p.1):=by
 unfold QA at h;split at h
 ·rename_i bA bB aX aK ar;split at h
  ·rename_i ad;simp only[arq] at ad;obtain ⟨⟨⟨c1,c2⟩,iw⟩,lW⟩:=ad;split at h
   ·rename_i jt ab;cases h;rw[ZK];obtain ⟨bR,g0,g1,g2,g3⟩:=uz au aP aK;have wv:=Dp ab;have iS:=af.trans g0;have Ft:∀(j i:Nat),aX[j]? =are i->∃u,(aX.map fun i=>vs.getD i undef)[j]? =are u/\vs[i]? =are u:=by
     intro j i ap;obtain ⟨q,_,o,ag,_⟩:=wv.get j i ap;obtain ⟨v,aa,_⟩:=g2.at ag;exact ⟨v,by rw[ar4,ap];simp[aa],aa⟩
    have hlen:(dC X cw.outs jt).length=aX.length:=by rw[k7,ar9];exact wv.length.symm
    have fl:∀(j:Nat) (o:aG D),(jL X ks (dC X ins x) cw.outs jt)[j]? =are o->
      (j<bY.length/\∃k5,(dC X ins x)[j]? =are k5/\o=(if ks.getD j 0=1 then k5 else if ks.getD j 0=2 then ik X wb cw.outs jt j else .dead))\/
      (bY.length<=j/\(dC X cw.outs jt)[j - bY.length]? =are o):=by
     intro j o ap;unfold jL at ap;by_cases aO:j<bY.length
     ·refine .inl ⟨aO, ?_⟩;rw[arQ (by rw[mP];omega)] at ap;have aq:(dC X ins x)[j]? =are ((dC X ins x)[j]'(by omega)):=arX (by omega);have:=uG (X:=X) (outs:=cw.outs) (y:=jt) (i:=0) (ks:=ks) aq;rw[ap] at this;refine ⟨_,aq, ?_⟩;have:=arw.inj this;rw[arE] at this;exact this
     ·refine .inr ⟨by omega, ?_⟩;rw[arP (by rw[mP];omega),mP,<-dT] at ap;exact ap
    have yF:∀(j:Nat) (u:arh),j<bY.length->vs[j]? =are u->(bY++aX.map fun i=>vs.getD i undef)[j]? =are u:=by intro j u ap hu;rw[arQ ap];have:bY[j]? =are bY[j]:=arX ap;have:=aa j _ this;rw[hu] at this;cases this;exact arX ap
    have n4:∀(n i:Nat) (u:arh),(ar2 bY.length++aX)[n]? =are i->vs[i]? =are u->(bY++aX.map fun i=>vs.getD i undef)[n]? =are u:=by
     intro n i u av hu;by_cases aO:n<bY.length
     ·rw[arQ (by simpa using aO),atD aO] at av;cases av;exact yF n u aO hu
     ·rw[arP (by simpa using aO),aud] at av;obtain ⟨mg,h1,J⟩:=Ft _ _ av;rw[hu] at J;cases J;rw[arP (by omega)];exact h1
    refine ⟨bR,aX.map fun i=>vs.getD i undef,g1, ?_, ?_⟩
    ·refine g2.DD ?_ (fun j=>if j<bY.length then j else aX.getD (j - bY.length) 0) (fun j o ap ai=> ?_) (fun j o u ap ai hu=> ?_) (fun i j o p da ap Mg Fq cQ=> ?_)
     ·unfold jL;rw[arJ,arJ,mP,hlen,ar9,dT]
     ·rcases fl j o ap with ⟨aO,k5,qJ,ag⟩|⟨eT,ag⟩
      ·simp only[if_pos aO];by_cases bm:ks.getD j 0=1
       ·rw[if_pos bm] at ag;subst ag;obtain ⟨p,en,fo,hC,iF⟩:=X3 iw bm;rw[arE] at en;have:=iS.cK j p (by omega) en fo hC;rw[qJ] at this;cases this;obtain ⟨v,v1,v2⟩:=g2.at en;obtain ⟨_,c,w,_,rfl⟩:=w3 (arI qJ);exact ⟨_,v,en,fo,v1,yF j v aO v1,bt.Vo arj v2 fun n _ ag u hu=>yF n u (iF n ag) hu⟩
       ·rw[if_neg bm] at ag;by_cases br:ks.getD j 0=2
        ·rw[if_pos br] at ag;rcases GK (n:=0) (j:=j) ab with aw|⟨c,w,p,en,fo,hC⟩
         ·rw[ag,aw] at ai;cases ai
         ·obtain ⟨v,v1,v2⟩:=g2.at en;refine ⟨p,v,en,bt.Lp fo,v1,yF j v aO v1, ?_⟩;rw[ag,hC];exact bt.A6 fo v2 n4 arf
        ·rw[if_neg br] at ag;rw[ag] at ai;cases ai
      ·have av:¬j<bY.length:=by omega
       simp only[if_neg av];have aO:=(arp.1 ag).1;have aq:aX[j - bY.length]? =are (aX[j - bY.length]'(by omega)):=arX (by omega);obtain ⟨q,cI,p,en,fo⟩:=wv.get _ _ aq;rw[k7,ar4,cI] at ag;have ag:=(arw.inj ag).symm;subst ag;obtain ⟨u,xC,DH⟩:=Ft _ _ aq;obtain ⟨v,v1,v2⟩:=g2.at en;rw[DH] at v1;cases v1;have aw:aX.getD (j - bY.length) 0=aX[j - bY.length]'(by omega):=by simp[asG,aq]
       refine ⟨p,u,by rw[aw];exact en,bt.Lp fo,by rw[aw];exact DH, ?_, ?_⟩
       ·rw[arP eT];exact xC
       ·exact bt.A6 fo v2 n4 arj
     ·rcases fl j o ap with ⟨aO,k5,qJ,ag⟩|⟨eT,ag⟩
      ·by_cases bm:ks.getD j 0=1
       ·rw[if_pos bm] at ag;subst ag;obtain ⟨_,c,w,_,rfl⟩:=w3 (arI qJ);rw[bt.uf] at ai;cases ai
       ·rw[if_neg bm] at ag;by_cases br:ks.getD j 0=2
        ·rw[if_pos br] at ag;rcases sw (X:=X) (aC:=cw.outs) (x:=jt) (j:=j) with aw|⟨_,c,w,_,aw⟩
         ·rw[ag,aw];trivial
         ·rw[ag,aw,bt.sg] at ai;cases ai
        ·rw[if_neg br] at ag;rw[ag];trivial
      ·obtain ⟨_,c,w,_,rfl⟩:=w3 (arI ag);rw[bt.uf] at ai;cases ai
     ·have dead:∀(i j:Nat) (o p:aG D),i<bY.length->bY.length<=j->(jL X ks (dC X ins x) cw.outs jt)[i]? =are o->(jL X ks (dC X ins x) cw.outs jt)[j]? =are p->o.live=arf->i=aX.getD (j - bY.length) 0->False:=by
       intro i j o p jm yy ag an dv cQ;rcases fl j p an with ⟨aO,_⟩|⟨_,qL⟩
       ·omega
       ·have aO:=(arp.1 qL).1;have aq:aX[j - bY.length]? =are (aX[j - bY.length]'(by omega)):=arX (by omega);have aw:aX.getD (j - bY.length) 0=aX[j - bY.length]'(by omega):=by simp[asG,aq]
        have hm:i∈aX:=by rw[cQ,aw];exact List.getElem_mem _
        have:=arz.1 c2 i hm;simp only[asi] at this;have lq:ks.getD i 0=0:=by
         rcases this with h1|h1
         ·have:=arG h1;omega
         ·exact arB h1
        rcases fl i o ag with ⟨_,k5,_,jF⟩|⟨eT,_⟩
        ·rw[lq] at jF;simp at jF;rw[jF] at dv;cases dv
        ·omega
      by_cases h1:i<bY.length
      ·by_cases J:j<bY.length
       ·simpa[h1,J] using cQ
       ·simp only[if_pos h1,if_neg J] at cQ;exact (dead i j o p h1 (by omega) da ap Mg cQ).elim
      ·by_cases J:j<bY.length
       ·simp only[if_neg h1,if_pos J] at cQ;exact (dead j i p o J (by omega) ap da Fq cQ.symm).elim
       ·simp only[if_neg h1,if_neg J] at cQ;rcases fl i o da with ⟨aO,_⟩|⟨_,jm⟩
        ·omega
        ·rcases fl j p ap with ⟨aO,_⟩|⟨_,yy⟩
         ·omega
         ·have aqs:=(arp.1 jm).1;have UM:=(arp.1 yy).1;have s1:aX[i - bY.length]? =are (aX.getD (i - bY.length) 0):=by rw[arX (by omega)];simp[asG,arX (show i - bY.length<aX.length by omega)]
          have s2:aX[j - bY.length]? =are (aX.getD (j - bY.length) 0):=by rw[arX (by omega)];simp[asG,arX (show j - bY.length<aX.length by omega)]
          rw[cQ] at s1;have:=NQ c1 _ _ _ s1 s2;omega
    ·intro p an;rcases arO.1 an with an|an
     ·refine zQ (fun j i u ap hu=> ?_) ab g3 p an;by_cases aO:j<bY.length
      ·rw[arQ (by simpa using aO)] at ap;rw[atD aO] at ap;cases ap;exact yF j u aO hu
      ·rw[arP (by simpa using aO)] at ap;rw[aud] at ap;obtain ⟨mg,h1,J⟩:=Ft _ _ ap;rw[hu] at J;cases J;show (bY++_)[j]? =_;rw[arP (by omega)];exact h1
     ·have ak:=arz.1 lW p an;have:=Pn (X:=X) (z:=bR) (vs:=vs) (vs':=bY++aX.map fun i=>vs.getD i undef) id ak ((aP.mono g1.le fun _ _ h=>h) p.1) fun j i u ap hu=>by
       by_cases aO:j<bY.length
       ·rw[arQ (by simpa using aO)] at ap;rw[atD aO] at ap;cases ap;exact yF j u aO hu
       ·rw[arP (by simpa using aO)] at ap;rw[aud] at ap;obtain ⟨mg,h1,J⟩:=Ft _ _ ap;rw[hu] at J;cases J;show (bY++_)[j]? =_;rw[arP (by omega)];exact h1
      rwa [Hm] at this
   ·cases h
  ·cases h
 ·cases h
theorem CT {ins:List c7} {ks:List Nat} {x:dD D ins} {cw:kL D} {y:j3 D cw.outs} {bY:List arh} (af:Inv (dC X ins x) O) (aa:∀(i:Nat) (u:arh),bY[i]? =are u->vs[i]? =are u) (dT:bY.length=(dC X ins x).length)
  (au:bd X.G O z e m k vs) (aP:ef X z vs E fr) (h:zX X bY.length ks cw E O=are y):
  ∃z' c3,cz e.next z z'/\bd X.G (jL X ks (dC X ins x) cw.outs (eK _ y)) z' e m k (bY++c3)/\∀p∈fO X cw.outs (eK _ y)++cw.fx,rel X.G z' (bY++c3) p.2 (fr p.1):=by
 obtain ⟨vs',g1,g2,g3,g4⟩:=lH (aC:=cw.outs) au aP;unfold zX at h;split at h
 ·rename_i lQ aK;obtain ⟨bR,hh,bm,br⟩:=zB g3 aK;obtain ⟨z2,c3,l9,cI,cL⟩:=aiH ((af.trans g1).trans hh) (fun i u hu=>g2 i u (aa i u hu)) dT br (g4.mono bm.le fun _ _ h=>h) h;exact ⟨z2,c3,bm.trans l9,cI,cL⟩
 ·cases h
end
end
end Go.aQ
end
section
namespace Go.aQ
structure gb (D:Nat->Type) where
 path:List Nat
 ins:List c7
 fx:List (Nat×aN D)
 ks:List Nat
 h9:List (kL D)
 keep:List Nat
noncomputable section
section
variable {P:arl} {D:Nat->Type}
def gb.F (p:gb D):Type:=dD D p.ins->Option (rh p.h9)
def e0:List c7->Nat
 |[]=>0
 | .o _ _::aC=>e0 aC+1
 |_::aC=>e0 aC
def sP:aN D->Bool
 | .c (.own _)| .box _ _| .arr _| .c .fH| .c .y4| .c .nA| .undef| .un| .c (.int _ _)| .c (.bool _)| .fn _ []=>arf
 |_=>arj
def Dz:aN D->Option Nat
 | .c (.own j)| .box j _| .arr j=>are j
 |_=>ari
def EY (n:Nat) (ks:List Nat) (s:aN D):Bool:=sP s&&match Dz s with|some j=>arF n j|| !Nat.beq (ks.getD j 0) 0|none=>arf
def qb:List Nat->Nat->Option Nat
 |[],_=>ari
 |a::aX,i=>if aru a i=arf then are 0 else (match qb aX i with|some j=>are (j+1)|none=>ari)
variable (X:dk P D)
def q9 (bN:Nat->Nat) (aX ks:List Nat) (outs:List c7) (y:dD D outs):Nat->List (aG D)->List (aG D)
 |_,[]=>[]
 |i,o::O=>(match qb aX i with|some j=>(if ks.getD j 0=1 then o else if ks.getD j 0=2 then ik X bN outs y j else .dead)|none=>if o.live=arf then .dead else o)::q9 bN aX ks outs y (i+1) O
def mkOr (bN:Nat->Nat):(aC:List c7)->dD D aC->List (aG D)
 |[],_=>[]
 | .o _ c::aC,x=>bt.eZ X bN c x.1 arj::mkOr bN aC x.2
 | .v _ _::aC,x=>mkOr bN aC x.2
 | .u _ _::aC,x=>mkOr bN aC x.2
def num (aX:List Nat) (n N:Nat) (j:Nat):Nat:=if ar5 j n=arf then aX.getD j 0 else N+(j - n)
def AO (p:gb D) (aX:List Nat) (N:Nat) (cw:kL D) (y:dD D cw.outs) (E:List (Nat×aN D)):List (Nat×aN D):=
 fO X cw.outs y++((cw.fx.map fun q=>(q.1,xx (num aX (e0 p.ins) N) q.2))++p.keep.map fun d=>(d,dQ E d))
def qo (p:gb D) (aX:List Nat) (cE:List (aG D)) (cw:kL D) (y:dD D cw.outs):List (aG D):=q9 X (num aX (e0 p.ins) cE.length) aX p.ks cw.outs y 0 cE++mkOr X (num aX (e0 p.ins) cE.length) cw.outs y
def gb.z6 (p:gb D) (F:p.F) (E:List (Nat×aN D)) (O:List (aG D)) {ae:Type} (K:dF->List (Nat×aN D)->List (aG D)->Option ae):Option ae:=
 match rb X p.ins p.fx E O with
 |some (x,aX,cE)=>ark (F x) fun cv=>Ew p.h9 cv fun cw y=>K cw.ex (AO X p aX cE.length cw (eK _ y) E) (qo X p aX cE cw (eK _ y))
 |none=>ari
def gb.run (p:gb D) (F:p.F) (E:List (Nat×aN D)) (O:List (aG D)) {ae:Type} (K:dF->List (Nat×aN D)->List (aG D)->Option ae):Option ae:=p.z6 X F (jI p.ins E O).1 (jI p.ins E O).2 K
def gb.za (p:gb D) (F:p.F):lg D where
 path:=p.path
 fits:=fun E O=>(rb X p.ins p.fx (jI p.ins E O).1 (jI p.ins E O).2).isSome
 run:=fun E O {_} K=>p.run X F E O K
def F2 (n:Nat) (ks:List Nat) (r:Nat):Bool:=arF n r|| !Nat.beq (ks.getD r 0) 0
def zD (n:Nat) (ks:List Nat):Nat->List c7->Bool
 |_,[]=>arf
 |j, .o _ c::aC=>(!Nat.beq (ks.getD j 0) 1||c.fI.all (F2 n ks))&&zD n ks (j+1) aC
 |j,_::aC=>zD n ks j aC
def gb.oQ (B:Code) (p:gb D):Bool:=((p.h9.all fun cw=>cw.outs.all fun i=>i.y3&&i.fI.all (F2 (e0 p.ins) p.ks))&&zD (e0 p.ins) p.ks 0 p.ins)&&(p.h9.all (fun cw=>cw.fx.all fun q=>EY (e0 p.ins) p.ks q.2)&&p.keep.all fun d=> !(jK (sub B p.path)).contains d)
def yY:Nat->List Nat->List Nat->List (aG D)->Bool
 |_,[],_,_=>arf
 |j,k::ks,aX,O=>(if k=0 then arf else pa (aX[j]?) j&&(if k=1 then (match O[j]? with|some o=> !o.la|none=>arj) else arf))&&yY (j+1) ks aX O
def ZH (p:gb D) (F:p.F) (ex:dF) (E:List (Nat×aN D)) (O:List (aG D)):Option (rh p.h9):=
 if ex= .normal then
  match rb X p.ins p.fx (jI p.ins E O).1 (jI p.ins E O).2 with
  |some (x,aX,cE)=>if yY 0 p.ks aX cE=arf then F x else ari
  |none=>ari
 else pr X (e0 p.ins) p.ks p.h9 ex E O
end
section
variable {P:arl} {D:Nat->Type} {X:dk P D} {z z':Nat->aV} {e m m':Mem} {k:Option Nat} {vs vs':List arh} {fr:Nat->arh} {E:List (Nat×aN D)} {O bz:List (aG D)}
theorem Zc {n:Nat} {ks:List Nat} {r:Nat} (h:F2 n ks r=arf):n<=r\/ks.getD r 0≠0:=by
 simp only[F2,asi,aso] at h;rcases h with h|h
 ·exact .inl (arG h)
 ·refine .inr fun ax=> ?_;rw[ax] at h;cases h
theorem Cp {n:Nat} {ks:List Nat}:∀{aC:List c7} {x:dD D aC} {i j:Nat} {q:xU D},zD n ks i aC=arf->(cos aC x)[j]? =are q->ks.getD (i+j) 0=1->∀r∈q.c.fI,n<=r\/ks.getD r 0≠0
 |[],_,_,_,_,_,h,_=>by simp[cos] at h
 | .v d c::aC,x,i,j,q,hk,h,h1=>Cp (aC:=aC) (x:=x.2) hk h h1
 | .u d c::aC,x,i,j,q,hk,h,h1=>Cp (aC:=aC) (x:=x.2) hk h h1
 | .o d c::aC,x,i,0,q,hk,h,h1=>by simp only[cos,List.getElem?_cons_zero] at h;cases h;simp only[zD,arq] at hk;intro r ao;have J:=hk.1;rw[ar3] at h1;rw[h1] at J;exact Zc (arz.1 (by simpa using J) r ao)
 | .o d c::aC,x,i,j+1,q,hk,h,h1=>by simp only[cos,asZ] at h;simp only[zD,arq] at hk;exact Cp (aC:=aC) (x:=x.2) hk.2 h (by rw[<-h1];congr 1;omega)
theorem XC {bN mn:Nat->Nat} {l:List (Nat×Nat)} (h:∀p∈l,bN p.2=mn p.2):∀{cs:List (bC D)} {i:Nat},nD bN l i cs=nD mn l i cs
 |[],_=>rfl
 |c::cs,i=>by
  simp only[nD,XC h (cs:=cs)];congr 1;cases aK:lj l i with
  |none=>rfl
  |some n=>simp only;rw[h _ (CF aK)]
theorem ai7 {bN mn:Nat->Nat} {c:bt} {x:c.ty D} {w:Bool} (h:∀r∈c.fI,bN r=mn r):bt.eZ X bN c x w=bt.eZ X mn c x w:=by
 cases c with
 |eH t l=>simp only[bt.eZ];rw[XC fun p an=>h p.2 (arC.2 ⟨p,an,rfl⟩)]
 |ia t f is=>simp only[bt.eZ];rw[show is.map bN=is.map mn from List.map_congr_left fun n av=>h n av]
 |_=>rfl
theorem uv {bN:Nat->Nat}:∀{aC:List c7} {x:dD D aC},mkOr X bN aC x=(cos aC x).map fun q=>bt.eZ X bN q.c q.x arj
 |[],_=>rfl
 | .o d c::aC,x=>by show bt.eZ X bN c x.1 arj::mkOr X bN aC x.2=bt.eZ X bN c x.1 arj::(cos aC x.2).map _;rw[uv]
 | .v d c::aC,x=>uv (aC:=aC)
 | .u d c::aC,x=>uv (aC:=aC)
theorem jJ:∀{aC:List c7} {x:dD D aC},(dC X aC x).length=e0 aC
 |[],_=>rfl
 | .v _ _::aC,x=>jJ (aC:=aC)
 | .u _ _::aC,x=>jJ (aC:=aC)
 | .o _ _::aC,x=>by show ((dC X aC x.2).length+1)=e0 aC+1;rw[jJ]
def PH (X:dk P D) (p:gb D) (x:dD D p.ins) (cv:rh p.h9) (z:Nat->aV) (e:Mem) (k:Option Nat) (bY:List arh) (ex:dF) (fr':Nat->arh) (m':Mem):Prop:=
 ∃z' c3 cw y,cw∈p.h9/\ex=cw.ex/\(∀{al:Type} (K:(x:kL D)->j3 D x.outs->al),Ew p.h9 cv K=K cw y)/\cz e.next z z'/\
  bd X.G (jL X p.ks (dC X p.ins x) cw.outs (eK _ y)) z' e m' k (bY++c3)/\∀q∈fO X cw.outs (eK _ y)++cw.fx,rel X.G z' (bY++c3) q.2 (fr' q.1)
def rq (qk:dF->dF) (X:dk P D) (B:Code) (p:gb D) (F:p.F):Prop:=∀(x:dD D p.ins) (cv:rh p.h9) {z:Nat->aV} {e m:Mem} {k:Option Nat} {bY:List arh} {fr:Nat->arh},
 F x=are cv->bd X.G (dC X p.ins x) z e m k bY->ef X z bY (fO X p.ins x++p.fx) fr->W P (sub B p.path) (fun ex=>PH X p x cv z e k bY (qk ex)) fr m
def nO (X:dk P D) (B:Code) (p:gb D) (F:p.F):Prop:=∀(x:dD D p.ins) (cv:rh p.h9) {z:Nat->aV} {e m:Mem} {k:Option Nat} {bY:List arh} {fr:Nat->arh},
 F x=are cv->bd X.G (dC X p.ins x) z e m k bY->ef X z bY (fO X p.ins x++p.fx) fr->W P (sub B p.path) (PH X p x cv z e k bY) fr m
theorem rq.of {qk:dF->dF} (bI:fL X) {B:Code} {us:List (lg D)} {p:gb D} {F:p.F} (r8:∀u∈us,p.path.length<u.path.length->pA X B u)
  (di:∀x,hK X us calm arf p.path.reverse (sub B p.path) (fO X p.ins x++p.fx) (dC X p.ins x) (fun ex=>pr X (e0 p.ins) p.ks p.h9 (qk ex))=F x):rq qk X B p F:=by
 intro x cv z e m k bY fr bM au aP;have h:=di x;rw[bM] at h;have av:bY.length=e0 p.ins:=by rw[au.len,jJ]
 refine (zI bI (L:=p.path.length) r8 (sub B p.path) arf p.path.reverse _ _ _ cv (by rw[au8]) (by simp) (by simp) au aP h).mono ?_;rintro ex cd m1 ⟨bR,ja,jQ,bB,az,h1,J,aj,aJ,bk⟩;obtain ⟨cw,y,g1,g2,g3,g4⟩:=Cs bk;obtain ⟨z2,c3,bm,br,dj⟩:=CT (ks:=p.ks) (x:=x) az J au.len aj aJ (by rw[av];exact g3);exact ⟨z2,c3,cw,y,g1,g2,g4,h1.trans bm,br,dj⟩
theorem nO.of (bI:fL X) {B:Code} {us:List (lg D)} {p:gb D} {F:p.F} (r8:∀u∈us,p.path.length<u.path.length->pA X B u)
  (di:∀x,hK X us calm arf p.path.reverse (sub B p.path) (fO X p.ins x++p.fx) (dC X p.ins x) (pr X (e0 p.ins) p.ks p.h9)=F x):nO X B p F:=by
 intro x cv z e m k bY fr bM au aP;have h:=di x;rw[bM] at h;have av:bY.length=e0 p.ins:=by rw[au.len,jJ]
 refine (zI bI (L:=p.path.length) r8 (sub B p.path) arf p.path.reverse _ _ _ cv (by rw[au8]) (by simp) (by simp) au aP h).mono ?_;rintro ex cd m1 ⟨bR,ja,jQ,bB,az,h1,J,aj,aJ,bk⟩;obtain ⟨cw,y,g1,g2,g3,g4⟩:=Cs bk;obtain ⟨z2,c3,bm,br,dj⟩:=CT (ks:=p.ks) (x:=x) az J au.len aj aJ (by rw[av];exact g3);exact ⟨z2,c3,cw,y,g1,g2,g4,h1.trans bm,br,dj⟩
theorem P7 {s:aN D} {v:arh} {bN:Nat->Nat} (h:sP s=arf) (ao:rel X.G z vs s v) (aa:∀(j:Nat) (u:arh),Dz s=are j->vs[j]? =are u->vs'[bN j]? =are u):rel X.G z vs' (xx bN s) v:=by
 unfold sP at h;split at h
 ·exact ⟨aa _ _ rfl ao.1,ao.2⟩
 ·obtain ⟨b,h1,J⟩:=ao;exact ⟨b,aa _ _ rfl h1,J⟩
 ·obtain ⟨b,l,h1,J⟩:=ao;exact ⟨b,l,aa _ _ rfl h1,J⟩
 ·exact ao
 ·exact ao
 ·exact ao
 ·exact ao
 ·exact ao
 ·exact ao
 ·exact ao
 ·obtain ⟨gs,h1,J⟩:=ao;refine ⟨gs,h1, ?_⟩;cases gs with
  |nil=>trivial
  |cons _ _=>exact J.elim
 ·cases h
theorem YG {n:Nat} {ks:List Nat} {s:aN D} (h:EY n ks s=arf):sP s=arf/\∀j,Dz s=are j->n<=j\/ks.getD j 0≠0:=by
 simp only[EY,arq] at h;refine ⟨h.1,fun j ap=> ?_⟩;have J:=h.2;rw[ap] at J;simp only[asi,aso] at J;rcases J with J|J
 ·exact .inl (arG J)
 ·refine .inr fun ax=> ?_;rw[ax] at J;cases J
theorem G6:∀{ks:List Nat} {i j:Nat} {aX:List Nat},yY i ks aX O=arf->ks.getD j 0≠0->aX[i+j]? =are (i+j)/\(ks.getD j 0=1->∃o,O[i+j]? =are o/\o.la=arj)
 |[],i,j,aX,_,h=>by simp at h
 |k::ks,i,0,aX,hk,h=>by
  simp only[yY,arq] at hk;simp only[List.getD_cons_zero] at h⊢;have h1:=hk.1;rw[if_neg h] at h1;simp only[arq] at h1;refine ⟨GW h1.1,fun bm=> ?_⟩;have J:=h1.2;rw[if_pos bm] at J;split at J
  ·rename_i o ag;exact ⟨o,ag,by simpa using J⟩
  ·cases J
 |k::ks,i,j+1,aX,hk,h=>by simp only[yY,arq] at hk;simp only[au7] at h⊢;have:=G6 hk.2 h;rw[show i+(j+1)=i+1+j by omega];exact this
theorem an7 {outs:List c7} {y:dD D outs} {ks:List Nat} {A B:List (aG D)} (ai:A.length=B.length) (h:∀j,ks.getD j 0=1->A[j]? =B[j]?):mJ X outs y 0 ks A=mJ X outs y 0 ks B:=by
 apply as8;intro j;by_cases ap:j<A.length
 ·have a:A[j]? =are A[j]:=arX ap;have b:B[j]? =are (B[j]'(by omega)):=arX (by omega);rw[uG a,uG b];by_cases bm:ks.getD j 0=1
  ·have e:=h j bm;rw[a,b] at e;rw[if_pos bm,if_pos bm,arw.inj e]
  ·rw[if_neg bm,if_neg bm]
 ·rw[atG (by rw[mP];omega),atG (by rw[mP];omega)]
theorem nO.loop (bI:fL X) {B c:Code} {us:List (lg D)} {p:gb D} {F:Nat->p.F} (dS:sub B p.path= .loop c) (hk:p.oQ B=arf) (r8:∀u∈us,p.path.length+1<u.path.length->pA X B u) (az:∀x,F 0 x=ari)
  (di:∀n x,hK X us calm arf (0::p.path.reverse) c (fO X p.ins x++p.fx) (dC X p.ins x) (ZH X p (F n))=F (n+1) x):∀n,nO X B p (F n):=by
 intro n;induction n with
 |zero=>intro x cv z e m k bY fr bM;rw[az] at bM;cases bM
 |succ n aU=>
  intro x cv z e m k bY fr bM au aP;have h:=di n x;rw[bM] at h;rw[dS];have av:bY.length=e0 p.ins:=by rw[au.len,jJ]
  refine W.afE ((zI bI (L:=p.path.length+1) r8 c arf (0::p.path.reverse) _ _ _ cv (by rw[List.reverse_cons,au8,<-OV,dS];exact pe c) (by simp) (by simp) au aP h).mono ?_);rintro ex cd m1 ⟨bR,ja,jQ,bB,az,h1,J,aj,aJ,bk⟩;have other:pr X (e0 p.ins) p.ks p.h9 ex jQ bB=are cv->PH X p x cv z e k bY ex cd m1:=by intro bk;obtain ⟨cw,y,g1,g2,g3,g4⟩:=Cs bk;obtain ⟨z2,c3,bm,br,dj⟩:=CT (ks:=p.ks) (x:=x) az J au.len aj aJ (by rw[av];exact g3);exact ⟨z2,c3,cw,y,g1,g2,g4,h1.trans bm,br,dj⟩
  cases ex with
  |exit i=>exact other bk
  |ret=>exact other bk
  |normal=>
   show W P (.loop c) _ cd m1;have bk:(match rb X p.ins p.fx (jI p.ins jQ bB).1 (jI p.ins jQ bB).2 with
    |some (x,aX,cE)=>if yY 0 p.ks aX cE=arf then F n x else ari
    |none=>ari)=are cv:=bk
   split at bk
   ·rename_i gY aX cE ao;obtain ⟨Mi,jl⟩:=eA bk;obtain ⟨aoO,bD,dR,mi,ID⟩:=lH (aC:=p.ins) aj aJ;obtain ⟨z2,QQ,i1,i2,hW⟩:=entry mi ID ao;have i1:=bD.trans i1;have J:∀(i:Nat) (u:arh),bY[i]? =are u->aoO[i]? =are u:=fun i u hu=>dR i u (J i u hu);have yx:=aU gY cv jl hW.Vp hW.aao;rw[dS] at yx;refine yx.mono ?_;rintro ex ff m2 ⟨z3,c3,cw,y,g1,g2,g3,g4,g5,g6⟩;have same:∀j,p.ks.getD j 0≠0->∀u,QQ[j]? =are u->bY[j]? =are u:=by
     intro j ap u hu;obtain ⟨s1,_⟩:=G6 Mi ap;rw[arE] at s1;obtain ⟨mg,t1,t2⟩:=hW.c3 _ _ s1;rw[hu] at t1;cases t1;have aO:j<bY.length:=by have:=(arp.1 hu).1;rw[hW.len,hW.uk.length,<-ar9 (f:=fun q=>bt.mk X q.c q.x arj),<-k7,jJ] at this;omega
     have:=J j _ (arX aO);rw[t2] at this;cases this;exact arX aO
    have gU:QQ.length=bY.length:=by rw[hW.len,hW.uk.length,<-ar9 (f:=fun q=>bt.mk X q.c q.x arj),<-k7,jJ,av]
    have QC:∀(j:Nat) (u:arh),e0 p.ins<=j\/p.ks.getD j 0≠0->(QQ++c3)[j]? =are u->(bY++c3)[j]? =are u:=by
     intro j u ap hu;by_cases aO:j<bY.length
     ·rw[arQ (by omega)] at hu⊢;rcases ap with ap|ap
      ·omega
      ·exact same j ap u hu
     ·rw[arP (by omega)] at hu⊢;rw[gU] at hu;exact hu
    have hy:=hk;simp only[gb.oQ,arq] at hy;have UG:=hy.1.1;have yE:=hy.1.2;have aew:mJ X cw.outs (eK _ y) 0 p.ks (dC X p.ins gY)=mJ X cw.outs (eK _ y) 0 p.ks (dC X p.ins x):=by
     refine an7 (by rw[jJ,jJ]) fun j ap=> ?_;obtain ⟨s1,s2⟩:=G6 Mi (show p.ks.getD j 0≠0 by rw[ap];simp);obtain ⟨o,ek,eV⟩:=s2 ap;rw[arE] at s1 ek;obtain ⟨q,cI,w,cL⟩:=hW.uk.get j j s1;rw[ek] at cL;have cL:=arw.inj cL;subst cL;rw[bt.FV] at eV;subst eV;have B8:(dC X p.ins gY)[j]? =are (bt.mk X q.c q.x arj):=by rw[k7,ar4,cI];rfl
     have hP:j<(dC X p.ins x).length:=by rw[jJ,<-jJ (X:=X) (x:=gY)];exact (arp.1 B8).1
     have cK:=(az.trans i1).cK j _ hP ek bt.sg bt.FV;rw[B8,cK];refine congrArg are (ai7 fun r ao=> ?_);obtain ⟨afp,L9⟩:=hW.gt q (arI cI) r ao;have BK:r<e0 p.ins:=by have:=(arp.1 L9).1;rw[hW.uk.length,<-ar9 (f:=fun q=>bt.mk X q.c q.x arj),<-k7,jJ] at this;exact this
     rcases Cp (i:=0) yE cI (by rw[arE];exact ap) r ao with h|h
     ·omega
     ·obtain ⟨lL,_⟩:=G6 Mi h;rw[arE] at lL;simp[asG,lL]
    have Bo:∀q∈cw.fx,EY (e0 p.ins) p.ks q.2=arf:=by exact fun q aF=>arz.1 (arz.1 hy.2.1 cw g1) q aF
    have pO:∀i∈cw.outs,∀r∈i.fI,e0 p.ins<=r\/p.ks.getD r 0≠0:=fun i af r ao=>Zc (arz.1 (att.1 (arz.1 (arz.1 UG cw g1) i af)).2 r ao);refine ⟨z3,c3,cw,y,g1,g2,g3,(h1.trans i2).trans g4, ?_,fun q aF=> ?_⟩
    ·have vU:jL X p.ks (dC X p.ins gY) cw.outs (eK _ y)=jL X p.ks (dC X p.ins x) cw.outs (eK _ y):=by rw[jL,jL,aew]
     rw[vU] at g5;have key:∀(i:Nat) (o:aG D),(jL X p.ks (dC X p.ins x) cw.outs (eK _ y))[i]? =are o->o.live=arf->(e0 p.ins<=i\/p.ks.getD i 0≠0):=by
      intro i o ag ai;by_cases aO:i<e0 p.ins
      ·refine .inr fun lq=> ?_;unfold jL at ag;rw[arQ (by rw[mP,jJ];exact aO)] at ag;have aq:(dC X p.ins x)[i]? =are ((dC X p.ins x)[i]'(by rw[jJ];exact aO)):=arX _;rw[uG aq,lq] at ag;simp at ag;subst ag;cases ai
      ·exact .inl (by omega)
     have mk:∀(i:Nat) (o:aG D),(jL X p.ks (dC X p.ins x) cw.outs (eK _ y))[i]? =are o->o= .dead\/∃c a w,o=bt.mk X c a w/\∀r∈c.fI,e0 p.ins<=r\/p.ks.getD r 0≠0:=by
      intro i o ag;unfold jL at ag;by_cases aO:i<e0 p.ins
      ·rw[arQ (by rw[mP,jJ];exact aO)] at ag;have aq:(dC X p.ins x)[i]? =are ((dC X p.ins x)[i]'(by rw[jJ];exact aO)):=arX _;rw[uG aq] at ag;have ag:=(arw.inj ag).symm;by_cases bm:p.ks.getD i 0=1
       ·rw[if_pos bm] at ag;have kh:(dC X p.ins x)[i]? =are o:=by rw[ag];exact aq
        rw[k7,ar4] at kh;obtain ⟨q,aF,he⟩:=atH.1 kh;exact .inr ⟨q.c,q.x,arj,he.symm,Cp (i:=0) yE aF (by rw[arE];exact bm)⟩
       ·rw[if_neg bm] at ag;by_cases br:p.ks.getD i 0=2
        ·rw[if_pos br] at ag;rcases sw (X:=X) (aC:=cw.outs) (x:=eK _ y) (j:=0+i) with aw|⟨d,c,a,aw,he⟩
         ·exact .inl (by rw[ag,aw])
         ·exact .inr ⟨c,a,arf,by rw[ag,he];rfl,pO _ aw⟩
        ·rw[if_neg br] at ag;exact .inl ag
      ·rw[arP (by rw[mP,jJ];omega)] at ag;obtain ⟨d,c,a,aw,ax⟩:=w3 (arI ag);exact .inr ⟨c,a,arj,ax,pO _ aw⟩
     refine g5.DD (by rw[<-g5.len];simp[gU]) id (fun i o ag ai=> ?_) (fun i o u ag ai hu=> ?_) (fun i j _ _ _ _ _ _ h=>h)
     ·obtain ⟨v,v1,v2⟩:=g5.at ag;refine ⟨o,v,ag,ai,v1,QC i v (key i o ag ai) v1, ?_⟩;rcases mk i o ag with rfl|⟨c,a,w,rfl,ao⟩
      ·trivial
      ·exact bt.yZ w v2 fun r nv u hu=>QC r u (ao r nv) hu
     ·rcases mk i o ag with rfl|⟨c,a,w,rfl,_⟩
      ·trivial
      ·rw[bt.uf] at ai;cases ai
    ·have ao:=g6 q aF;rcases arO.1 aF with aF|aF
     ·obtain ⟨d,c,a,aw,ad⟩:=zE aF;rw[ad] at ao⊢;exact e5.M6 (att.1 (arz.1 (arz.1 UG cw g1) _ aw)).1 ao
     ·obtain ⟨s1,s2⟩:=YG (Bo q aF);have:=P7 (X:=X) (bN:=id) (vs':=bY++c3) s1 ao fun j u ap hu=>QC j u (s2 j ap) hu
      rwa [Hm] at this
   ·cases bk
theorem zo:∀{aX:List Nat} {i j:Nat},qb aX i=are j->aX[j]? =are i
 |[],_,_,h=>by cases h
 |a::aX,i,j,h=>by
  simp only[qb] at h;split at h
  ·rename_i ar;cases h;rw[arB ar];rfl
  ·split at h
   ·rename_i bw ap;cases h;rw[asZ];exact zo ap
   ·cases h
theorem zl {bN:Nat->Nat} {aX ks:List Nat} {outs:List c7} {y:dD D outs}:∀{i:Nat} {O:List (aG D)},(q9 X bN aX ks outs y i O).length=O.length
 |i,[]=>rfl
 |i,o::O=>by simp[q9,zl]
theorem W7 {bN:Nat->Nat} {aX ks:List Nat} {outs:List c7} {y:dD D outs}:∀{i:Nat} {O:List (aG D)} {a:Nat} {o:aG D},O[a]? =are o->(q9 X bN aX ks outs y i O)[a]? =are (match qb aX (i+a) with|some j=>(if ks.getD j 0=1 then o else if ks.getD j 0=2 then ik X bN outs y j else .dead)|none=>if o.live=arf then .dead else o)
 |i,[],a,o,h=>by simp at h
 |i,p::O,0,o,h=>by simp at h;subst h;simp[q9]
 |i,p::O,a+1,o,h=>by simp only[asZ] at h;have:=W7 (bN:=bN) (aX:=aX) (ks:=ks) (outs:=outs) (y:=y) (i:=i+1) h;simp only[q9,asZ,this];rw[show i+(a+1)=i+1+a by omega]
theorem rq.F7 {qk:dF->dF} {B:Code} {p:gb D} {F:p.F} (h:rq qk X B p F) (hk:p.oQ B=arf) {ae:Type} (E:List (Nat×aN D)) (O:List (aG D)) (K:dF->List (Nat×aN D)->List (aG D)->Option ae) (r:ae) {z:Nat->aV} {e m:Mem} {k:Option Nat} {vs:List arh} {fr:Nat->arh}
  (au:bd X.G O z e m k vs) (aP:ef X z vs E fr) (ao:p.z6 X F E O K=are r):W P (sub B p.path) (fun x=>hi X O z e k vs (K (qk x)) r) fr m:=by
 unfold gb.z6 at ao;split at ao
 ·rename_i x aX cE af;obtain ⟨cv,bM,ao⟩:=bind_some ao;obtain ⟨bR,bY,i1,i2,hW⟩:=entry au aP af;simp only[gb.oQ,arq] at hk;have av:aX.length=e0 p.ins:=by rw[<-jJ (X:=X) (x:=x),k7,ar9];exact hW.uk.length
  have tR:bY.length=e0 p.ins:=by rw[hW.len,av]
  refine (h x cv bM hW.Vp hW.aao).keep ?_;rintro ex cd m1 adR ⟨z2,c3,cw,y,g1,g2,g3,g4,g5,g6⟩;rw[g3] at ao;rw[g2];have jE:c3.length=(dC X cw.outs (eK _ y)).length:=by have:=g5.len;unfold jL at this;rw[arJ,arJ,mP,jJ] at this;omega
  have bG:vs.length=cE.length:=hW.y0.len;have yw:∀(i:Nat) (u:arh),vs[i]? =are u->(vs++c3)[i]? =are u:=ih;have n4:∀(j:Nat) (u:arh),(bY++c3)[j]? =are u->(vs++c3)[num aX (e0 p.ins) cE.length j]? =are u:=by
   intro j u hu;unfold num;by_cases aO:j<e0 p.ins
   ·have ab:ar5 j (e0 p.ins)=arf:=by simpa[at0] using aO
    rw[if_pos ab];rw[arQ (by omega)] at hu;have aq:aX[j]? =are (aX.getD j 0):=by rw[arX (by omega)];simp[asG,arX (show j<aX.length by omega)]
    obtain ⟨mg,t1,t2⟩:=hW.c3 _ _ aq;rw[hu] at t1;cases t1;exact yw _ _ t2
   ·have ab:¬ar5 j (e0 p.ins)=arf:=by simpa[at0] using aO
    rw[if_neg ab];rw[arP (by omega),tR] at hu;rw[arP (by omega),bG];rw[show cE.length+(j - e0 p.ins) - cE.length=j - e0 p.ins by omega];exact hu
  have fl:∀(i:Nat) (o:aG D),(qo X p aX cE cw (eK _ y))[i]? =are o->
    (i<cE.length/\∃eV,cE[i]? =are eV/\o=(match qb aX i with|some j=>(if p.ks.getD j 0=1 then eV else if p.ks.getD j 0=2 then ik X (num aX (e0 p.ins) cE.length) cw.outs (eK _ y) j else .dead)|none=>if eV.live=arf then .dead else eV))\/
    (cE.length<=i/\(mkOr X (num aX (e0 p.ins) cE.length) cw.outs (eK _ y))[i - cE.length]? =are o):=by
   intro i o ag;unfold qo at ag;by_cases aO:i<cE.length
   ·refine .inl ⟨aO, ?_⟩;rw[arQ (by rw[zl];exact aO)] at ag;have aq:cE[i]? =are cE[i]:=arX aO;rw[W7 aq,arE] at ag;exact ⟨_,aq,(arw.inj ag).symm⟩
   ·refine .inr ⟨by omega, ?_⟩;rw[arP (by rw[zl];omega),zl] at ag;exact ag
  have vU:∀(j:Nat) (k5:aG D),(dC X p.ins x)[j]? =are k5->(jL X p.ks (dC X p.ins x) cw.outs (eK _ y))[j]? =are (if p.ks.getD j 0=1 then k5 else if p.ks.getD j 0=2 then ik X wb cw.outs (eK _ y) j else .dead):=by intro j k5 ap;unfold jL;rw[arQ (by rw[mP];exact (arp.1 ap).1)];have:=uG (X:=X) (outs:=cw.outs) (y:=eK _ y) (i:=0) (ks:=p.ks) ap;rw[arE] at this;exact this
  have aex:∀(i:Nat) (o:aG D),(dC X cw.outs (eK _ y))[i]? =are o->(jL X p.ks (dC X p.ins x) cw.outs (eK _ y))[e0 p.ins+i]? =are o:=by intro i o ag;unfold jL;rw[arP (by rw[mP,jJ];omega),mP,jJ,show e0 p.ins+i - e0 p.ins=i by omega];exact ag
  have kD:∀(i:Nat) (o:aG D),(qo X p aX cE cw (eK _ y))[i]? =are o->o.live=arf->
    (∃j,qb aX i=are j/\((p.ks.getD j 0=1/\cE[i]? =are o)\/(p.ks.getD j 0≠1/\p.ks.getD j 0=2/\o=ik X (num aX (e0 p.ins) cE.length) cw.outs (eK _ y) j)))\/(cE.length<=i/\(mkOr X (num aX (e0 p.ins) cE.length) cw.outs (eK _ y))[i - cE.length]? =are o):=by
   intro i o ag ai;rcases fl i o ag with ⟨aO,eV,J,aj⟩|h
   ·left;cases an:qb aX i with
    |some j=>
     rw[an] at aj;dsimp only at aj;refine ⟨j,rfl, ?_⟩;by_cases bm:p.ks.getD j 0=1
     ·rw[if_pos bm] at aj;exact .inl ⟨bm,by rw[J,aj]⟩
     ·rw[if_neg bm] at aj;by_cases br:p.ks.getD j 0=2
      ·rw[if_pos br] at aj;exact .inr ⟨bm,br,aj⟩
      ·rw[if_neg br] at aj;rw[aj] at ai;cases ai
    |none=>
     rw[an] at aj;dsimp only at aj;by_cases aJ:eV.live=arf
     ·rw[if_pos aJ] at aj;rw[aj] at ai;cases ai
     ·rw[if_neg aJ] at aj;rw[aj] at ai;exact absurd ai aJ
   ·exact .inr h
  refine ⟨z2,vs++c3,_,_,i1.trans ?_,i2.trans g4,yw, ?_,Dd ?_,ao⟩
  ·refine ⟨?_,fun i o af ag ai ak=> ?_⟩
   ·unfold qo;rw[arJ,zl];omega
   ·rcases kD i o ag ai with ⟨j,_,h|⟨_,_,h⟩⟩|h
    ·exact h.2
    ·rcases sw (X:=X) (aC:=cw.outs) (x:=eK _ y) (j:=j) with aw|⟨_,c,a,_,aw⟩
     ·rw[h,aw] at ai;cases ai
     ·rw[h,aw,bt.FV] at ak;cases ak
    ·omega
  ·refine g5.DD ?_ (fun i=>if i<cE.length then (qb aX i).getD 0 else e0 p.ins+(i - cE.length)) (fun i o ag ai=> ?_) (fun i o u ag ai hu=> ?_) (fun i j o q da ap Mg Fq cQ=> ?_)
   ·unfold qo;rw[arJ,arJ,zl,jE,bG,uv,k7,ar9,ar9]
   ·rcases kD i o ag ai with ⟨j,an,ad⟩|⟨eT,ad⟩
    ·have aq:=zo an;obtain ⟨q,B8,w,cL⟩:=hW.uk.get j i aq;have cI:(dC X p.ins x)[j]? =are (bt.mk X q.c q.x arj):=by rw[k7,ar4,B8];rfl
     obtain ⟨u,t1,t2⟩:=hW.c3 _ _ aq;have aO:i<cE.length:=(arp.1 cL).1;simp only[if_pos aO,an,asN];have r4:=vU j _ cI;have FC:(bY++c3)[j]? =are u:=ih _ _ t1;rcases ad with ⟨bm,ad⟩|⟨bm,br,ad⟩
     ·rw[if_pos bm] at r4;rw[cL] at ad;have ad:=arw.inj ad;subst ad;have bP:=g5.obj j _ u r4 FC;refine ⟨_,u,r4,bt.uf,FC,yw _ _ t2,bt.yZ w bP fun r ao mg jo=> ?_⟩;obtain ⟨afp,L9⟩:=hW.gt q (arI B8) r ao;have ad3:r<e0 p.ins:=by rw[<-av];exact (arp.1 L9).1
      have:=n4 r mg jo;unfold num at this
      rwa [if_pos (by simpa[at0] using ad3)] at this
     ·rw[if_neg bm,if_pos br] at r4;have bP:=g5.obj j _ u r4 FC;rcases sw (X:=X) (aC:=cw.outs) (x:=eK _ y) (j:=j) with aw|⟨_,c,a,_,aw⟩
      ·rw[ad,aw] at ai;cases ai
      ·rw[aw] at bP;refine ⟨_,u,r4,by rw[aw];exact bt.sg,FC,yw _ _ t2, ?_⟩;rw[ad,aw];exact bt.yZ arf bP fun r _ mg jo=>n4 r mg jo
    ·have aee:¬i<cE.length:=by omega
     simp only[if_neg aee];rw[uv,ar4] at ad;obtain ⟨q,aF,rfl⟩:=atH.1 ad;have r4:=aex (i - cE.length) (bt.mk X q.c q.x arj) (by rw[k7,ar4,aF];rfl);obtain ⟨u,xC,DH⟩:=g5.at r4;refine ⟨_,u,r4,bt.uf,xC, ?_, ?_⟩
     ·rw[arP (by omega),tR,show e0 p.ins+(i - cE.length) - e0 p.ins=i - cE.length by omega] at xC;rw[arP (by omega),bG];exact xC
     ·exact bt.yZ arj DH fun r _ mg jo=>n4 r mg jo
   ·rcases fl i o ag with ⟨aO,eV,J,aj⟩|⟨_,h⟩
    ·cases an:qb aX i with
     |some j=>
      rw[an] at aj;dsimp only at aj;have aq:=zo an;obtain ⟨q,cI,w,cL⟩:=hW.uk.get j i aq;rw[J] at cL;by_cases bm:p.ks.getD j 0=1
      ·rw[if_pos bm] at aj;rw[aj,arw.inj cL,bt.sg] at ai;cases ai
      ·rw[if_neg bm] at aj;by_cases br:p.ks.getD j 0=2
       ·rw[if_pos br] at aj;rcases sw (X:=X) (aC:=cw.outs) (x:=eK _ y) (j:=j) with aw|⟨_,c,a,_,aw⟩
        ·rw[aj,aw];trivial
        ·rw[aj,aw,bt.sg] at ai;cases ai
       ·rw[if_neg br] at aj;rw[aj];trivial
     |none=>
      rw[an] at aj;dsimp only at aj;by_cases aJ:eV.live=arf
      ·rw[if_pos aJ] at aj;rw[aj];trivial
      ·rw[if_neg aJ] at aj;subst aj;rw[arQ (by omega)] at hu;exact (hW.y0.obj i o u J hu).frozen ai g4.le yw
    ·rw[uv,ar4] at h;obtain ⟨q,aF,rfl⟩:=atH.1 h;rw[bt.sg] at ai;cases ai
   ·have one:∀(i:Nat) (o:aG D),(qo X p aX cE cw (eK _ y))[i]? =are o->o.live=arf->(i<cE.length/\∃j,qb aX i=are j/\j<e0 p.ins)\/cE.length<=i:=by
     intro i o ag ai;rcases kD i o ag ai with ⟨j,an,_⟩|⟨eT,_⟩
     ·have aq:=zo an;obtain ⟨k5,cI,w,cL⟩:=hW.uk.get j i aq;exact .inl ⟨(arp.1 cL).1,j,an,by have:=(arp.1 aq).1;omega⟩
     ·exact .inr eT
    rcases one i o da Mg with ⟨cr,a2,a3,a4⟩|cr
    ·rcases one j q ap Fq with ⟨fe,hg,qs,vo⟩|fe
     ·simp only[if_pos cr,if_pos fe,a3,qs,asN] at cQ;subst cQ;have s1:=zo a3;have s2:=zo qs;rw[s1] at s2;exact arw.inj s2
     ·have ab:¬j<cE.length:=by omega
      simp only[if_pos cr,if_neg ab,a3,asN] at cQ;omega
    ·have ar:¬i<cE.length:=by omega
     rcases one j q ap Fq with ⟨fe,hg,qs,vo⟩|fe
     ·simp only[if_neg ar,if_pos fe,qs,asN] at cQ;omega
     ·have ab:¬j<cE.length:=by omega
      simp only[if_neg ar,if_neg ab] at cQ;omega
  ·intro q aF;unfold AO at aF;rcases arO.1 aF with aF|aF
   ·obtain ⟨d,c,a,aw,ad⟩:=zE aF;have:=g6 q (arO.2 (.inl aF));rw[ad] at this⊢;exact e5.M6 (att.1 (arz.1 (arz.1 hk.1.1 cw g1) _ aw)).1 this
   ·rcases arO.1 aF with aF|aF
    ·obtain ⟨l9,yJ,rfl⟩:=arC.1 aF;have:=g6 l9 (arO.2 (.inr yJ));obtain ⟨s1,_⟩:=YG (arz.1 (arz.1 hk.2.1 cw g1) l9 yJ);exact P7 s1 this fun j u _ hu=>n4 j u hu
    ·obtain ⟨d,aw,rfl⟩:=arC.1 aF;have hw:=arz.1 hk.2.2 d aw;have:=adR d (by simpa using hw);show rel X.G z2 (vs++c3) (dQ E d) (cd d);rw[this];exact rel.mono (aP d) (i2.le.trans g4.le) yw
 ·cases ao
theorem nO.F7 {B:Code} {p:gb D} {F:p.F} (h:nO X B p F) (hk:p.oQ B=arf) {ae:Type} (E:List (Nat×aN D)) (O:List (aG D)) (K:dF->List (Nat×aN D)->List (aG D)->Option ae) (r:ae) {z:Nat->aV} {e m:Mem} {k:Option Nat} {vs:List arh} {fr:Nat->arh}
  (au:bd X.G O z e m k vs) (aP:ef X z vs E fr) (ao:p.z6 X F E O K=are r):W P (sub B p.path) (fun x=>hi X O z e k vs (K x) r) fr m:=
 rq.F7 (qk:=id) h hk E O K r au aP ao
theorem rq.za {qk:dF->dF} {B:Code} {p:gb D} {F:p.F} (h:rq qk X B p F) (hk:p.oQ B=arf) {ae:Type} (E:List (Nat×aN D)) (O:List (aG D)) (K:dF->List (Nat×aN D)->List (aG D)->Option ae) (r:ae) {z:Nat->aV} {e m:Mem} {k:Option Nat} {vs:List arh} {fr:Nat->arh}
  (au:bd X.G O z e m k vs) (aP:ef X z vs E fr) (ao:p.run X F E O K=are r):W P (sub B p.path) (fun x=>hi X O z e k vs (K (qk x)) r) fr m:=by
 obtain ⟨vs',g1,g2,g3,g4⟩:=lH (aC:=p.ins) au aP;exact (h.F7 hk _ _ K r g3 g4 ao).mono fun _ _ _ av=>av.from g1 (cz.refl z) g2
theorem nO.za {B:Code} {p:gb D} {F:p.F} (h:nO X B p F) (hk:p.oQ B=arf):pA X B (p.za X F):=by
 intro ae E O K r z e m k vs fr _ au aP ao;obtain ⟨vs',g1,g2,g3,g4⟩:=lH (aC:=p.ins) au aP;exact (h.F7 hk _ _ K r g3 g4 ao).mono fun _ _ _ av=>av.from g1 (cz.refl z) g2
end
end
end Go.aQ
end
section
namespace Go.aQ
structure bZ (D:Nat->Type) where
 f:Nat
 np:Nat
 ins:List c7
 fx:List (Nat×aN D)
 h2:Option (Nat×Nat)
 qd:Nat
 outs:List c7
 lD:List (Nat×aN D)
 kK:List ResultVar
 flat:Bool
def mw:Nat:=1000000
def j6:Nat->List ResultVar->List Nat
 |_,[]=>[]
 |n, .tmp d::rs=>d::j6 (n+1) rs
 |n, .cell _ _::rs=>n::j6 (n+1) rs
def bZ.cv {D:Nat->Type} (d:bZ D):List Nat:=j6 mw d.kK
noncomputable section
section
variable {P:arl} {D:Nat->Type}
def PQ (P:arl) (t:Nat) (a:aN D) (O:List (aG D)):Option (aN D):=
 match a with
 | .box i off=>
  match O[i]? with
  |some (.box _ cs _ _)=>pj (P:=P) t cs off are
  |some (.recv _ cs _)=>pj (P:=P) t cs off are
  |_=>ari
 |_=>ari
def xy (P:arl) (E:List (Nat×aN D)) (O:List (aG D)):Nat->List ResultVar->Option (List (Nat×aN D))
 |_,[]=>are []
 |n, .tmp d::rs=>if ar5 d mw=arf then xy P E O (n+1) rs else ari
 |n, .cell a t::rs=>match PQ P t (dQ E a) O,xy P E O (n+1) rs with|some V,are l=>are ((n,V)::l)|_,_=>ari
def s4 (D:Nat->Type):Option (Nat×Nat)->Type
 |none=>Unit
 |some p=>D p.2
def bZ.F (d:bZ D):Type:=s4 D d.h2->dD D d.ins->Option (j3 D d.outs)
variable (X:dk P D)
def pq:(c:Option (Nat×Nat))->s4 D c->List (aG D)
 |none,_=>[]
 |some p,x=>[.recv p.2 (hB X p.2 x) arj]
def Dx:Option (Nat×Nat)->List (Nat×aN D)
 |none=>[]
 |some p=>[(p.1, .box 0 0)]
def xw (d:bZ D):List Nat:=match d.h2 with|none=>[]|some _=>[d.qd]
def bZ.cw (d:bZ D):kL D:=⟨.ret,d.outs,d.lD⟩
def aan (d:bZ D) (ex:dF) (E:List (Nat×aN D)) (O:List (aG D)):Option (j3 D d.outs):=
 if ex= .normal\/ex= .ret then ark (xy P E O mw d.kK) fun l=>zX X (xw d).length (xw d) d.cw (l++E) O else ari
def j5:Nat->List (aN D)->List (Nat×aN D)
 |_,[]=>[]
 |i,s::l=>(i,s)::j5 (i+1) l
def IC (E:List (Nat×aN D)):List Nat->Option (List (bC D⊕(Nat×List (bC D))))
 |[]=>are []
 |d::ds=>
  match dQ E d,IC E ds with
  | .c c,are l=>are (.inl c::l)
  | .agg t cs,are l=>are (.inr (t,cs)::l)
  |_,_=>ari
def s5 (E:List (Nat×aN D)):List Nat->Option (aN D)
 |[d]=>are (dQ E d)
 |ds=>match IC E ds with|some l=>are (.mV l)|none=>ari
def Dn:bC D->Option arh
 | .int k n=>are (.int k n)
 | .bool b=>are (.bool b)
 | .str s=>are (aQ.str s)
 |_=>ari
def xp:List (bC D)->Option (List arh)
 |[]=>are []
 |c::cs=>match Dn c,xp cs with|some v,are l=>are (v::l)|_,_=>ari
def sD:List (bC D⊕(Nat×List (bC D)))->Option (List arh)
 |[]=>are []
 | .inl c::l=>(match Dn c,sD l with|some v,are vs=>are (v::vs)|_,_=>ari)
 | .inr p::l=>(match xp p.2,sD l with|some ds,are vs=>are (.agg ds.toArray::vs)|_,_=>ari)
def uM:aN D->Option arh
 | .c c=>Dn c
 | .agg _ cs=>(match xp cs with|some ds=>are (.agg ds.toArray)|none=>ari)
 | .mV l=>(match sD l with|some vs=>are (.tuple vs.toArray)|none=>ari)
 |_=>ari
def zV (t:Nat):Option (aG D)->Option (D t)
 |some (.box cS cs arj _)=>if cS=t then k6 X t cs else ari
 |some (.recv cS cs _)=>if cS=t then k6 X t cs else ari
 |_=>ari
def Dy (t:Nat) (cs:List (bC D)):aG D->aG D
 | .box _ _ _ _=> .box t cs arj arf
 |_=> .recv t cs arf
def q6:List c7->Bool
 |[]=>arf
 | .o _ (.recv _)::_=>arj
 | .o _ _::aC=>q6 aC
 | .v _ c::aC=>c.y3&&q6 aC
 | .u _ _::aC=>q6 aC
def wo (i N j:Nat):Nat:=if aru j 0=arf then i else N+(j - 1)
def CY (outs:List c7) (lD:List (Nat×aN D)) (cv:List Nat) (flat:Bool) (qd:Nat) (bA:List (aN D)) (O bB:List (aG D)) {ae:Type} (K:aN D->List (aG D)->Option ae):(h2:Option (Nat×Nat))->(s4 D h2->Option (j3 D outs))->Option ae
 |none,G=>
  ark (G ()) fun y=>
   match s5 (fO X outs (eK _ y)++lD.map fun q=>(q.1,xx (fun j=>bB.length+j) q.2)) cv with
   |some sv=>if flat=arf then (match uM sv with|some _=>K sv O|none=>ari) else K sv (bB++mkOr X (fun j=>bB.length+j) outs (eK _ y))
   |none=>ari
 |some p,G=>
  match dQ (j5 0 bA) p.1 with
  | .box i 0=>
   match bB[i]? with
   |some o=>
    ark (zV X p.2 (are o)) fun r=>
    ark (G r) fun y=>
     match s5 (fO X outs (eK _ y)++lD.map fun q=>(q.1,xx (wo i bB.length) q.2)) cv with
     |some sv=>
      if qd=2 then
       match ik X wb outs (eK _ y) 0 with
       | .recv t cs _=>if t=p.2 then K sv (bB.set i (Dy p.2 cs o)++mkOr X (wo i bB.length) outs (eK _ y)) else ari
       |_=>ari
      else if qd=1 then (if o.clean=arf then K sv (bB++mkOr X (wo i bB.length) outs (eK _ y)) else K sv (bB.set i (Dy p.2 (hB X p.2 r) o)++mkOr X (wo i bB.length) outs (eK _ y))) else ari
     |none=>ari
   |none=>ari
  |_=>ari
def bZ.call (d:bZ D) (F:d.F) (bA:List (aN D)) (O:List (aG D)) {ae:Type} (K:aN D->List (aG D)->Option ae):Option ae:=
 if aru bA.length d.np=arf then
  match pH (j5 0 bA) d.ins O with
  |some (jh,bB)=>
   if (d.fx.all fun p=>tE [] p.2 (dQ (j5 0 bA) p.1))=arf then
    match gl X [] bB d.ins jh [] with
    |some x=>CY X d.outs d.lD d.cv d.flat d.qd bA O bB K d.h2 fun r=>F r x
    |none=>ari
   else ari
  |none=>ari
 else ari
end
section
variable {P:arl} {D:Nat->Type} {X:dk P D} {z bR z2:Nat->aV} {e m m1:Mem} {k q:Option Nat} {vs:List arh} {fr:Nat->arh} {E:List (Nat×aN D)} {O bz:List (aG D)}
theorem bd.call (h:bd X.G O bR e m k vs) (aD:cz m.next bR z2) (s:eX m m1 q) (aR:cu z2 e m1 k) (ai:bz.length=O.length)
  (ag:∀(j:Nat) (o':aG D),bz[j]? =are o'->(O[j]? =are o'/\(o'.live=arf->∀v,vs[j]? =are v->dV (cT v) q))\/(∃o,O[j]? =are o/\o.live=arf/\∀v,vs[j]? =are v->fs X.G z2 e m1 k vs o' v)):bd X.G bz z2 e m1 k vs where
 aR:=aR
 len:=by rw[ai];exact h.len
 obj:=fun j o' v ap aa=>by
  rcases ag j o' ap with ⟨h1,J⟩|⟨o,h1,J,aj⟩
  ·have bP:=h.obj j o' v h1 aa;cases b5:o'.live with
   |false=>exact bP.frozen b5 aD.le fun _ _ h=>h
   |true=>exact (bP.same s (fun _=>J b5 v aa) fun _ _ h=>h).h5 aD.le (fun _ b ab=>aD.low b (bP.lt b5 b ab).1) fun _ b j L t ab=>aD.low b (h.aR.a6 b (by rw[ab];simp)).2
  ·exact aj v aa
 eu:=fun a b o p v w eD ar ab de j1 aa hw=>by
  have key:∀(j:Nat) (o':aG D),bz[j]? =are o'->o'.live=arf->∃o,O[j]? =are o/\o.live=arf:=by
   intro j o' ap ai;rcases ag j o' ap with ⟨h1,_⟩|⟨o,h1,J,_⟩
   ·exact ⟨o',h1,ai⟩
   ·exact ⟨o,h1,J⟩
  obtain ⟨ek,g1,g2⟩:=key a o ar de;obtain ⟨eV,g3,g4⟩:=key b p ab j1;exact h.eu a b ek eV v w eD g1 g3 g2 g4 aa hw
theorem bd.abX {N:List (aG D)} {c3:List arh} {lim:Nat} (h:bd X.G O z e m k vs) (ai:c3.length=N.length)
  (aO:∀(j:Nat) (o:aG D) (v:arh),O[j]? =are o->vs[j]? =are v->o.live=arf->∀b,cT v=are b->b<lim)
  (av:∀(j:Nat) (o:aG D) (v:arh),N[j]? =are o->c3[j]? =are v->fs X.G z e m k (vs++c3) o v/\∀b,cT v=are b->lim<=b)
  (ar:∀(i j:Nat) (o p:aG D) (v w:arh),i≠j->N[i]? =are o->N[j]? =are p->c3[i]? =are v->c3[j]? =are w->dV (cT v) (cT w)):bd X.G (O++N) z e m k (vs++c3):=by
 have cs:∀(j:Nat) (o:aG D) (v:arh),(O++N)[j]? =are o->(vs++c3)[j]? =are v->(j<O.length/\O[j]? =are o/\vs[j]? =are v)\/(O.length<=j/\N[j - O.length]? =are o/\c3[j - O.length]? =are v):=by
  intro j o v ag aa;by_cases ap:j<O.length
  ·rw[arQ ap] at ag;rw[arQ (by rw[h.len];exact ap)] at aa;exact .inl ⟨ap,ag,aa⟩
  ·rw[arP (by omega)] at ag;rw[arP (by rw[h.len];omega),h.len] at aa;exact .inr ⟨by omega,ag,aa⟩
 refine ⟨h.aR,by rw[arJ,arJ,h.len,ai],fun j o v ag aa=> ?_,fun i j o p v w cQ ag an bf ej aa hw=> ?_⟩
 ·rcases cs j o v ag aa with ⟨_,h1,J⟩|⟨_,h1,J⟩
  ·exact (h.obj j o v h1 J).same (m':=m) (q:=ari) ⟨ars _,h.aR.dead,fun _ _ _=>rfl⟩ (fun _=>dV.qX) ih
  ·exact (av _ o v h1 J).1
 ·have mix:∀(i j:Nat) (o p:aG D) (v w:arh),O[i]? =are o->vs[i]? =are v->o.live=arf->N[j]? =are p->c3[j]? =are w->dV (cT v) (cT w):=by
   intro i j o p v w ag aa bf an hw b ab ch;have:=aO i o v ag aa bf b ab;have:=(av j p w an hw).2 b ch;omega
  rcases cs i o v ag aa with ⟨_,h1,J⟩|⟨_,h1,J⟩
  ·rcases cs j p w an hw with ⟨_,aj,aJ⟩|⟨_,aj,aJ⟩
   ·exact h.eu i j o p v w cQ h1 aj bf ej J aJ
   ·exact mix i _ o p v w h1 J bf aj aJ
  ·rcases cs j p w an hw with ⟨_,aj,aJ⟩|⟨_,aj,aJ⟩
   ·exact (mix j _ p o w v aj aJ ej h1 J).symm
   ·exact ar _ _ o p v w (by omega) h1 aj J aJ
theorem GB:∀{aC:List c7} {x:dD D aC} {q:xU D},q6 aC=arf->q∈cos aC x->∀t,q.c≠ .recv t
 |[],_,_,_,h=>by simp[cos] at h
 | .v d c::aC,x,o,av,h=>GB (aC:=aC) (x:=x.2) (att.1 av).2 h
 | .u d c::aC,x,o,av,h=>GB (aC:=aC) (x:=x.2) av h
 | .o d c::aC,x,o,av,h=>by
  simp only[cos,arA] at h;have lv:(∀t,c≠ .recv t)/\q6 aC=arf:=by
   cases c with
   |recv t=>cases av
   |_=>exact ⟨fun t h=>(by cases h),av⟩
  rcases h with rfl|h
  ·exact lv.1
  ·exact GB (aC:=aC) (x:=x.2) lv.2 h
theorem born {c:bt} {x:c.ty D} {w:Bool} {v:arh} {kk:Option Nat} {bN:Nat->Nat} (ad:∀t,c≠ .recv t) (he:e.next<=m.next) (h:fs X.G z m m1 kk vs (bt.eZ X bN c x w) v):fs X.G z e m1 k vs (bt.eZ X bN c x w) v/\∀b,cT v=are b->m.next<=b:=by
 cases c with
 |recv t=>exact absurd rfl (ad t)
 |eH t l=>obtain ⟨b,ds,rfl,h1,J,aj⟩:=h;exact ⟨⟨b,ds,rfl,⟨h1.ay,h1.lt,h1.dead, .inl (arR he J)⟩,arR he J,aj⟩,fun c ad=>by cases ad;exact J⟩
 |ia t f is=>obtain ⟨b,ds,rfl,h1,J,aj⟩:=h;exact ⟨⟨b,ds,rfl,⟨h1.ay,h1.lt,h1.dead, .inl (arR he J)⟩,arR he J,aj⟩,fun c ad=>by cases ad;exact J⟩
 |aE t=>have h:cO (X.G.T t) z m m1 kk x v:=h;refine ⟨(⟨h.a7,fun b ab=>arR he (h.fresh b ab)⟩:cO (X.G.T t) z e m1 k x v), ?_⟩;rw[fz (by obtain ⟨a,c,rfl⟩:=h.a7.len;intro r;simp)];exact h.fresh
 |box t=>obtain ⟨b,ds,rfl,h1,J,aj⟩:=h;exact ⟨⟨b,ds,rfl,⟨h1.ay,h1.lt,h1.dead, .inl (arR he J)⟩,arR he J,aj⟩,fun c ad=>by cases ad;exact J⟩
 |arr t u n=>obtain ⟨⟨b,rfl⟩,h⟩:=h;exact ⟨⟨⟨b,rfl⟩,h.a7,fun b ab=>arR he (h.fresh b ab)⟩,fun c ad=>h.fresh c ad⟩
 |map t kt vt=>have h:hU (X.G.M t kt vt) z m m1 kk x v:=h;obtain ⟨r,rfl,h1,J,aj,aJ⟩:=h.a7;exact ⟨(⟨⟨r,rfl,h1,J,aj,arR he aJ⟩⟩:hU (X.G.M t kt vt) z e m1 k x _),fun c ad=>by cases ad;exact aJ⟩
 |ne cH t=>obtain ⟨hu,ws,h⟩:=h;refine ⟨⟨hu,ws,⟨h.a7.a7,fun b ab=>arR he (h.a7.fresh b ab)⟩,h.len,fun j w xs h1 J aj=>(h.nx j w xs h1 J aj).Eu he,fun p an=>by cases an⟩, ?_⟩;rw[fz (by obtain ⟨a,c,rfl⟩:=h.a7.a7.len;intro r;simp)];exact h.a7.fresh
theorem OX:∀{cv:List Nat} {l:List (bC D⊕(Nat×List (bC D)))},ef X z vs E fr->IC E cv=are l->a1 (uY X.G z vs) l (cv.map fr)/\∀x∈cv.map fr,storable x=arf
 |[],l,aP,h=>by cases h;exact ⟨trivial,by simp⟩
 |d::ds,l,aP,h=>by
  simp only[IC] at h;have aw:=aP d;split at h
  ·rename_i c pX ad ai;cases h;rw[ad] at aw;obtain ⟨g1,g2⟩:=OX aP ai;refine ⟨⟨aw,g1⟩,fun x U=> ?_⟩;rcases arA.1 U with rfl|U
   ·exact (db.aat aw).1
   ·exact g2 x U
  ·rename_i t cs pX ad ai;cases h;rw[ad] at aw;obtain ⟨g1,g2⟩:=OX aP ai;refine ⟨⟨aw,g1⟩,fun x U=> ?_⟩;rcases arA.1 U with rfl|U
   ·obtain ⟨ds,aw,_⟩:=aw;rw[aw];rfl
   ·exact g2 x U
  ·cases h
theorem O7 {cv:List Nat} {sv:aN D} (aP:ef X z vs E fr) (h:s5 E cv=are sv):rel X.G z vs sv (pack (cv.map fr))/\((cv.map fr).length=1\/∀x∈cv.map fr,storable x=arf):=by
 unfold s5 at h;split at h
 ·cases h;exact ⟨aP _, .inl rfl⟩
 ·rename_i ds kV;split at h
  ·rename_i l ai;cases h;obtain ⟨g1,g2⟩:=OX aP ai;refine ⟨?_, .inr g2⟩;have:pack (cv.map fr)= .tuple (cv.map fr).toArray:=by
    unfold pack;split
    ·rename_i x U
     match cv,kV,U with
     |[d],kV,_=>exact absurd rfl (kV d)
    ·rfl
   rw[this];exact ⟨_,rfl,g1⟩
  ·cases h
theorem Oj {c:bC D} {v w:arh} (h:Dn c=are w) (ao:db X.G z vs c v):v=w/\b7 w=arf:=by
 cases c<;>first|(cases h;done)|(cases h;exact ⟨ao,rfl⟩)
theorem Ol:∀{cs:List (bC D)} {ds ws:List arh},xp cs=are ws->a1 (db X.G z vs) cs ds->ds=ws/\ws.all b7=arf
 |[],[],_,h,_=>by cases h;exact ⟨rfl,rfl⟩
 |c::cs,d::ds,ws,h,⟨h1,J⟩=>by
  simp only[xp] at h;split at h
  ·rename_i v l aa ai;cases h;obtain ⟨rfl,g1⟩:=Oj aa h1;obtain ⟨rfl,g2⟩:=Ol ai J;exact ⟨rfl,by simp only[asb,g1,g2,as3]⟩
  ·cases h
 |[],_::_,_,_,h=>h.elim
 |_::_,[],_,_,h=>h.elim
theorem Om:∀{l:List (bC D⊕(Nat×List (bC D)))} {ds ws:List arh},sD l=are ws->a1 (uY X.G z vs) l ds->ds=ws/\ws.all hS=arf
 |[],[],_,h,_=>by cases h;exact ⟨rfl,rfl⟩
 | .inl c::l,d::ds,ws,h,⟨h1,J⟩=>by
  simp only[sD] at h;split at h
  ·rename_i v pX aa ai;cases h;obtain ⟨rfl,g1⟩:=Oj aa h1;obtain ⟨rfl,g2⟩:=Om ai J;have:hS d=arf:=by cases d<;>first|exact g1|cases g1
   exact ⟨rfl,by simp only[asb,this,g2,as3]⟩
  ·cases h
 | .inr p::l,d::ds,ws,h,⟨⟨cs,az,h1⟩,J⟩=>by
  simp only[sD] at h;split at h
  ·rename_i v pX aa ai;cases h;obtain ⟨rfl,g1⟩:=Ol aa h1;obtain ⟨rfl,g2⟩:=Om ai J;subst az;exact ⟨rfl,by simp only[asb,g2,Bool.and_true];exact g1⟩
  ·cases h
 |[],_::_,_,_,h=>h.elim
 |_::_,[],_,_,h=>h.elim
theorem XV {s:aN D} {v w:arh} (h:uM s=are w) (ao:rel X.G z vs s v):v=w/\aQ.flat w=arf:=by
 unfold uM at h;split at h
 ·obtain ⟨rfl,g⟩:=Oj h ao;refine ⟨rfl, ?_⟩;cases v<;>first|exact g|cases g
 ·split at h
  ·rename_i ds aw;cases h;obtain ⟨es,rfl,J⟩:=ao;obtain ⟨rfl,g⟩:=Ol aw J;exact ⟨rfl,g⟩
  ·cases h
 ·split at h
  ·rename_i ws aw;cases h;obtain ⟨es,rfl,J⟩:=ao;obtain ⟨rfl,g⟩:=Om aw J;exact ⟨rfl,g⟩
  ·cases h
 ·cases h
def Qz:Option (Nat×Nat)->List c7
 |none=>[]
 |some p=>[.o p.1 (.recv p.2)]
def aam:(c:Option (Nat×Nat))->s4 D c->dD D (Qz c)
 |none,_=>()
 |some _,r=>(r,())
theorem aoa (c:Option (Nat×Nat)) (r:s4 D c):dC X (Qz c) (aam c r)=pq X c r:=by cases c<;>rfl
theorem ald {c:Option (Nat×Nat)} {r:s4 D c} {n:Nat}:(match c with|none=>[]|some _=>[n]).length=(pq X c r).length:=by cases c<;>rfl
theorem ajS {d:bZ D} {r:s4 D d.h2}:(pq X d.h2 r).length=(xw d).length:=by
 unfold xw;rw[<-ald (X:=X) (r:=r) (n:=d.qd)]
def am6 (X:dk P D) (d:bZ D) (r:s4 D d.h2) (y:j3 D d.outs) (z:Nat->aV) (m:Mem) (kk:Option Nat) (bY:List arh) (ex:dF) (fr':Nat->arh) (m1:Mem):Prop:=
 (ex= .normal\/ex= .ret)/\∃ff,ov P fr' m1 d.kK (d.cv.map ff)/\∃z2 c3,cz m.next z z2/\bd X.G (jL X (xw d) (pq X d.h2 r) d.outs (eK _ y)) z2 m m1 kk (bY++c3)/\∀q∈fO X d.outs (eK _ y)++d.lD,rel X.G z2 (bY++c3) q.2 (ff q.1)
def D5 (X:dk P D) (B:Code) (d:bZ D) (F:d.F):Prop:=∀(r:s4 D d.h2) (x:dD D d.ins) (y:j3 D d.outs) {z:Nat->aV} {m:Mem} {kk:Option Nat} {bY:List arh} {fr:Nat->arh},
 F r x=are y->bd X.G (pq X d.h2 r) z m m kk bY->ef X z bY (fO X d.ins x++(d.fx++Dx d.h2)) fr->W P B (am6 X d r y z m kk bY) fr m
theorem ah2 {t:Nat} {a:aN D} {V:aN D} {v:arh} (au:bd X.G O z e m k vs) (ar:rel X.G z vs a v) (h:PQ P t a O=are V):∃b off w,v= .pointer (are ⟨b,off,ari⟩)/\rel X.G z vs V w/\∃d,P.underlying t=are d/\
  (if jz d=arf then ∃i cs,P.info? t=are i/\il m b off i.size=are cs/\w= .agg cs.toArray else m.load b off=are w):=by
 have fin:∀{b n:Nat} {cs:List (bC D)} {ds:List arh},(∀(j:Nat) (w:arh),ds[j]? =are w->m.load b (0+j)=are w)->a1 (db X.G z vs) cs ds->pj (P:=P) t cs n are=are V->∃w,rel X.G z vs V w/\∃d,P.underlying t=are d/\(if jz d=arf then ∃i cs,P.info? t=are i/\il m b n i.size=are cs/\w= .agg cs.toArray else m.load b n=are w):=by
  intro b n cs ds ad ao h;unfold pj at h;split at h
  ·cases h
  ·rename_i d aw;split at h
   ·rename_i vC;split at h
    ·cases h
    ·rename_i i af;split at h
     ·rename_i hlen;cases h;have nv:a1 (db X.G z vs) ((cs.drop n).take i.size) ((ds.drop n).take i.size):=a1.take _ (a1.drop _ ao);have gU:((ds.drop n).take i.size).length=i.size:=by rw[<-nv.length];exact hlen
      refine ⟨.agg ((ds.drop n).take i.size).toArray,⟨_,rfl,nv⟩,d,aw, ?_⟩;rw[if_pos vC];refine ⟨i,_,af,Hl _ _ _ gU fun j w ap=> ?_,rfl⟩;rw[asg] at ap;split at ap
      ·rw[asE] at ap;have:=ad _ w ap
       rwa [arE] at this
      ·cases ap
     ·cases h
   ·rename_i vC;split at h
    ·rename_i c gI;cases h;obtain ⟨w,hw,yM⟩:=ao.get n c gI;refine ⟨w,yM,d,aw, ?_⟩;rw[if_neg vC];have:=ad n w hw
     rwa [arE] at this
    ·cases h
 unfold PQ at h;split at h
 ·rename_i i off;obtain ⟨b,aa,U⟩:=ar;split at h
  ·rename_i u cs a6 bD hO;have bP:=au.obj i _ _ hO aa;cases a6 with
   |true=>obtain ⟨bV,ds,he,ad,ao⟩:=bP;cases he;obtain ⟨w,h1,J⟩:=fin (b:=b) (au.aR.se ad) ao h;exact ⟨b,off,w,U,h1,J⟩
   |false=>obtain ⟨bV,ds,he,ab,_,ao⟩:=bP;cases he;obtain ⟨w,h1,J⟩:=fin (b:=b) ab.se ao h;exact ⟨b,off,w,U,h1,J⟩
  ·rename_i u cs bD hO;obtain ⟨bV,ds,he,ab,ao⟩:=au.obj i _ _ hO aa;cases he;obtain ⟨w,h1,J⟩:=fin (b:=b) ab.se ao h;exact ⟨b,off,w,U,h1,J⟩
  ·cases h
 ·cases h
theorem Pv:∀{rs:List ResultVar} {n:Nat} {l:List (Nat×aN D)},xy P E O n rs=are l->∀x∈j6 n rs,x<mw\/n<=x
 |[],n,l,_,x,U=>by simp[j6] at U
 | .tmp d::rs,n,l,h,x,U=>by
  obtain ⟨h1,J⟩:=eA h;simp only[j6,arA] at U;rcases U with rfl|U
  ·exact .inl (by simpa[at0] using h1)
  ·rcases Pv J x U with h|h
   ·exact .inl h
   ·exact .inr (by omega)
 | .cell a t::rs,n,l,h,x,U=>by
  simp only[xy] at h;split at h
  ·rename_i V iW _ J;simp only[j6,arA] at U;rcases U with rfl|U
   ·exact .inr (ars _)
   ·rcases Pv J x U with h|h
    ·exact .inl h
    ·exact .inr (by omega)
  ·cases h
theorem Pw (au:bd X.G O z e m k vs) (aP:ef X z vs E fr):∀{rs:List ResultVar} {n:Nat} {l:List (Nat×aN D)},mw<=n->xy P E O n rs=are l->∃ff,(∀d,d<n->ff d=fr d)/\ef X z vs (l++E) ff/\ov P fr m rs ((j6 n rs).map ff)
 |[],n,l,_,h=>by cases h;exact ⟨fr,fun _ _=>rfl,aP,trivial⟩
 | .tmp d::rs,n,l,av,h=>by
  obtain ⟨h1,J⟩:=eA h;have aw:d<mw:=by simpa[at0] using h1
  obtain ⟨ff,g1,g2,g3⟩:=Pw au aP (Nat.le_succ_of_le av) J;exact ⟨ff,fun d aw=>g1 d (atT aw),g2,g1 d (atT (arT aw av)),g3⟩
 | .cell a t::rs,n,l,av,h=>by
  simp only[xy] at h;split at h
  ·rename_i V iW h1 J;cases h;obtain ⟨ff,g1,g2,g3⟩:=Pw au aP (Nat.le_succ_of_le av) J;obtain ⟨b,off,w,bD,dR,mi⟩:=ah2 au (aP a) h1;refine ⟨fun i=>if i=n then w else ff i,fun d aw=> ?_,fun i=> ?_, ?_⟩
   ·show (if d=n then w else ff d)=fr d;rw[if_neg (by omega)];exact g1 d (by omega)
   ·show rel X.G z vs (dQ ((n,V)::(iW++E)) i) (if i=n then w else ff i);simp only[dQ];split
    ·rename_i af;rw[if_pos (arB af).symm];exact dR
    ·rename_i af;rw[if_neg (by rintro rfl;simp at af)];exact g2 i
   ·have hm:(j6 (n+1) rs).map (fun i=>if i=n then w else ff i)=(j6 (n+1) rs).map ff:=by
     apply List.map_congr_left;intro x U;rw[if_neg];rintro rfl;rcases Pv J _ U with h|h<;>omega
    refine ⟨⟨b,off,bD, ?_⟩, ?_⟩
    ·show ∃d,_;simp only[if_true];exact mi
    ·show ov P fr m rs ((j6 (n+1) rs).map _);rw[hm];exact g3
  ·cases h
theorem D5.of (bI:fL X) {B:Code} {us:List (lg D)} {d:bZ D} {F:d.F} (r8:∀u∈us,0<u.path.length->pA X B u)
  (di:∀r x,hK X us calm arf [] B (fO X d.ins x++(d.fx++Dx d.h2)) (pq X d.h2 r) (aan X d)=F r x):D5 X B d F:=by
 intro r x y z m kk bY fr bM au aP;have h:=di r x;rw[bM] at h;refine (zI bI (L:=0) r8 B arf [] _ _ _ y (pe B) (by simp) (by simp) au aP h).mono ?_;rintro ex cd m1 ⟨bR,ja,jQ,bB,az,h1,J,aj,aJ,bk⟩;obtain ⟨U,bk⟩:=eA bk;obtain ⟨l,dT,dn⟩:=bind_some bk;obtain ⟨ff,cI,cL,eQ⟩:=Pw aj aJ (ars _) dT;have ai:(xw d).length=bY.length:=by rw[au.len,ajS]
 rw[ai] at dn;have ao:=aoa (X:=X) d.h2 r;obtain ⟨z2,c3,bm,br,dj⟩:=CT (ks:=xw d) (ins:=Qz d.h2) (x:=aam d.h2 r) (cw:=d.cw) (by rw[ao];exact az) J (by rw[ao];exact au.len) aj cL dn;rw[ao] at br;exact ⟨U,ff,eQ,z2,c3,h1.trans bm,br,dj⟩
end
end
end Go.aQ
end
section
namespace Go.aQ
noncomputable section
section
variable {P:arl} {D:Nat->Type} {X:dk P D} {z bR z2:Nat->aV} {e m m1:Mem} {k q:Option Nat} {vs:List arh} {fr:Nat->arh} {E:List (Nat×aN D)} {O bz:List (aG D)} {ae:Type} {r:ae}
theorem GN:∀{l:List (aN D)} {args:List arh} {i:Nat},a1 (rel X.G z vs) l args->(∀(j:Nat) (v:arh),args[j]? =are v->fr (i+j)=v)->ef X z vs (j5 i l) fr
 |[],[],i,_,_=>fun d=>trivial
 |s::l,a::args,i,⟨h1,J⟩,aK=>by
  refine (GN (i:=i+1) J fun j v ap=> ?_).cons ?_
  ·rw[show i+1+j=i+(j+1) by omega];exact aK (j+1) v ap
  ·have:=aK 0 a rfl;rw[ar3] at this;rw[this];exact h1
 |[],_::_,_,h,_=>h.elim
 |_::_,[],_,h,_=>h.elim
structure Jl (P:arl) (X:dk P D) (d:bZ D) (F:d.F):Prop where
 ex:∃fn c,P.funcs[d.f]? =are fn/\p8 P fn c/\kG P d.f=arf/\arF d.np fn.ntmps=arf/\fn.results.toList=d.kK/\D5 X c d F
 new:q6 d.outs=arf
 aq0:(d.fx.all fun p=>sP p.2)=arf
 aoh:(d.lD.all fun p=>sP p.2)=arf
 aoj:(d.fx.all fun p=>(Dz p.2).isNone)=arf
theorem NM {c:bC D} {w:arh} (h:Dn c=are w):db X.G z vs c w/\b7 w=arf/\hS w=arf/\aQ.flat w=arf:=by
 cases c<;>first|(cases h;done)|(cases h;exact ⟨rfl,rfl,rfl,rfl⟩)
theorem NN:∀{cs:List (bC D)} {ws:List arh},xp cs=are ws->a1 (db X.G z vs) cs ws/\ws.all b7=arf
 |[],_,h=>by cases h;exact ⟨trivial,rfl⟩
 |c::cs,ws,h=>by
  simp only[xp] at h;split at h
  ·rename_i v l aa ai;cases h;obtain ⟨g1,g2,_⟩:=NM (X:=X) (z:=z) (vs:=vs) aa;obtain ⟨g3,g4⟩:=NN ai;exact ⟨⟨g1,g3⟩,by simp only[asb,g2,g4,as3]⟩
  ·cases h
theorem NO:∀{l:List (bC D⊕(Nat×List (bC D)))} {ws:List arh},sD l=are ws->a1 (uY X.G z vs) l ws/\ws.all hS=arf
 |[],_,h=>by cases h;exact ⟨trivial,rfl⟩
 | .inl c::l,ws,h=>by
  simp only[sD] at h;split at h
  ·rename_i v pX aa ai;cases h;obtain ⟨g1,_,g2,_⟩:=NM (X:=X) (z:=z) (vs:=vs) aa;obtain ⟨g3,g4⟩:=NO ai;exact ⟨⟨g1,g3⟩,by simp only[asb,g2,g4,as3]⟩
  ·cases h
 | .inr p::l,ws,h=>by
  simp only[sD] at h;split at h
  ·rename_i v pX aa ai;cases h;obtain ⟨g1,g2⟩:=NN (X:=X) (z:=z) (vs:=vs) aa;obtain ⟨g3,g4⟩:=NO ai;exact ⟨⟨⟨v,rfl,g1⟩,g3⟩,by simp only[asb,g4,Bool.and_true];exact g2⟩
  ·cases h
theorem Wq {s:aN D} {w:arh} (h:uM s=are w):rel X.G z vs s w/\aQ.flat w=arf:=by
 unfold uM at h;split at h
 ·obtain ⟨g1,_,_,g2⟩:=NM (X:=X) (z:=z) (vs:=vs) h;exact ⟨g1,g2⟩
 ·split at h
  ·rename_i ds aw;cases h;obtain ⟨g1,g2⟩:=NN (X:=X) (z:=z) (vs:=vs) aw;exact ⟨⟨ds,rfl,g1⟩,g2⟩
  ·cases h
 ·split at h
  ·rename_i ws aw;cases h;obtain ⟨g1,g2⟩:=NO (X:=X) (z:=z) (vs:=vs) aw;exact ⟨⟨ws,rfl,g1⟩,g2⟩
  ·cases h
 ·cases h
theorem Inv.app (O N:List (aG D)):Inv O (O++N):=⟨by simp,fun i p af an _ _=>by rw[arQ af] at an;exact an⟩
theorem bd.nil (au:bd X.G O z e m k vs):bd X.G ([]:List (aG D)) z m m ari []:=⟨cu.start au.aR.a6 au.aR.dead,rfl,by simp,by simp⟩
theorem YL {kk:Option Nat} (h:cu bR e m k) (J:cu z2 m m1 kk) (hk:∀b,kk=are b->e.next<=b\/k=are b):cu z2 e m1 k/\eX m m1 kk:=
 ⟨⟨J.a6,J.dead,h.lX,arR h.next J.next,fun b ab av=>by
  rw[J.kept b (arT ab h.next) (fun ax=>by rcases hk b ax with aj|aj;omega;exact av aj)];exact h.kept b ab av⟩,⟨J.next,J.dead,J.kept⟩⟩
theorem OI {ins:List c7} {fx:List (Nat×aN D)} {bA jh:List (aN D)} {bB:List (aG D)} {x:dD D ins} {bY:List arh} (aP:ef X z vs (j5 0 bA) fr) (ar:xS X z vs fr ins jh) (ab:gl X [] bB ins jh []=are x)
  (U:(fx.all fun p=>tE [] p.2 (dQ (j5 0 bA) p.1))=arf):∀p∈fO X ins x++fx,rel X.G z bY p.2 (fr p.1):=by
 intro p an;rcases arO.1 an with an|an
 ·exact zQ (fun j i u ap _=>by simp at ap) ab ar p an
 ·have ak:=arz.1 U p an;have:=Pn (X:=X) (vs':=bY) id ak (aP p.1) (by simp)
  rwa [Hm] at this
theorem after {outs:List c7} {y:dD D outs} {lQ:List (aG D)} {bY c3:List arh} {kk:Option Nat} {cE rz:List (aG D)} {bN:Nat->Nat} (h1:bd X.G cE bR e m k vs) (aj:bd X.G rz z2 e m1 k vs) (az:bd X.G (lQ++dC X outs y) z2 m m1 kk (bY++c3)) (ai:bY.length=lQ.length) (av:q6 outs=arf)
  (aO:∀(j:Nat) (o:aG D) (v:arh),rz[j]? =are o->vs[j]? =are v->o.live=arf->∀b,cT v=are b->b<m.next) (afl:∀(j:Nat) (u:arh),(bY++c3)[j]? =are u->(vs++c3)[bN j]? =are u):bd X.G (rz++mkOr X bN outs y) z2 e m1 k (vs++c3):=by
 have hv:(dC X outs y).length=(mkOr X bN outs y).length:=by rw[k7,uv,ar9,ar9]
 have jE:c3.length=(dC X outs y).length:=by have:=az.len;simp only[arJ] at this;omega
 have up:∀(j:Nat) (o:aG D) (v:arh),(mkOr X bN outs y)[j]? =are o->c3[j]? =are v->∃q∈cos outs y,o=bt.eZ X bN q.c q.x arj/\(lQ++dC X outs y)[lQ.length+j]? =are (bt.mk X q.c q.x arj)/\(bY++c3)[lQ.length+j]? =are v:=by
  intro j o v ag aa;rw[uv,ar4] at ag;cases aF:(cos outs y)[j]? with
  |none=>rw[aF] at ag;cases ag
  |some q=>
   rw[aF] at ag;cases ag;refine ⟨q,arI aF,rfl, ?_, ?_⟩
   ·rw[arP (by omega),show lQ.length+j - lQ.length=j by omega,k7,ar4,aF];rfl
   ·rw[arP (by omega),ai,show lQ.length+j - lQ.length=j by omega];exact aa
 refine aj.abX (jE.trans hv) aO (fun j o v ag aa=> ?_) (fun i j o p v w cQ ag an aa hw=> ?_)
 ·obtain ⟨q,aF,rfl,g1,g2⟩:=up j o v ag aa;have bP:=az.obj _ _ v g1 g2;exact born (GB av aF) h1.aR.next (bt.yZ (mn:=bN) (vs':=vs++c3) arj bP fun n _ u hu=>afl n u hu)
 ·obtain ⟨q,aF,rfl,g1,g2⟩:=up i o v ag aa;obtain ⟨dL,BH,rfl,g3,g4⟩:=up j p w an hw;exact az.eu _ _ _ _ v w (by omega) g1 g3 bt.uf bt.uf g2 g4
theorem GC:∀{aC:List c7},q6 aC=arf->∀d c,c7.v d c∈aC->c.y3=arf
 | .v d c::aC,h,df,bg,hm=>by
  have h:=att.1 h;rcases arA.1 hm with he|hm
  ·cases he;exact h.1
  ·exact GC (aC:=aC) h.2 df bg hm
 | .u d c::aC,h,df,bg,hm=>by
  rcases arA.1 hm with he|hm
  ·cases he
  ·exact GC (aC:=aC) h df bg hm
 | .o d c::aC,h,df,bg,hm=>by
  rcases arA.1 hm with he|hm
  ·cases he
  ·refine GC (aC:=aC) ?_ df bg hm;cases c<;>first|exact h|cases h
theorem Zd {outs:List c7} {y:dD D outs} {lD:List (Nat×aN D)} {bY ja:List arh} {bN:Nat->Nat} (av:q6 outs=arf) (ag:(lD.all fun p=>sP p.2)=arf) (h:∀q∈fO X outs y++lD,rel X.G z bY q.2 (fr q.1)) (aa:∀(j:Nat) (u:arh),bY[j]? =are u->ja[bN j]? =are u):
  ef X z ja (fO X outs y++lD.map fun q=>(q.1,xx bN q.2)) fr:=by
 refine Dd fun q aF=> ?_;rcases arO.1 aF with aF|aF
 ·obtain ⟨d,c,a,aw,ad⟩:=zE aF;have:=h q (arO.2 (.inl aF));rw[ad] at this⊢;exact e5.M6 (GC av d c aw) this
 ·obtain ⟨l9,yJ,rfl⟩:=arC.1 aF;exact P7 (arz.1 ag l9 yJ) (h l9 (arO.2 (.inr yJ))) fun j u _ hu=>aa j u hu
theorem akp {t b:Nat} {o:aG D} {x:D t} (aM:zV X t (are o)=are x) (ag:fs X.G z e m k vs o (.pointer (are ⟨b,0,ari⟩))):
  o.live=arf/\(e.next<=b\/k=are b)/\(∀vs',fs X.G z m m (are b) vs' (.recv t (hB X t x) arj:aG D) (.pointer (are ⟨b,0,ari⟩)))/\
  (∀{z2:Nat->aV} {m1:Mem} {w:Bool} {a:D t} {ws:List arh},fs X.G z2 m m1 (are b) ws (.recv t (hB X t a) w:aG D) (.pointer (are ⟨b,0,ari⟩))->fs X.G z2 e m1 k vs (Dy t (hB X t a) o) (.pointer (are ⟨b,0,ari⟩))/\(o.clean=arf->a=x->fs X.G z2 e m1 k vs o (.pointer (are ⟨b,0,ari⟩)))):=by
 unfold zV at aM;split at aM
 ·rename_i cS cs w di;cases di;obtain ⟨ak,aM⟩:=eA aM;subst ak;obtain ⟨c,ds,h1,J,aj,aJ⟩:=ag;cases h1;refine ⟨rfl, .inl aj,fun vs'=>⟨b,ds,rfl,⟨J.ay,J.lt,J.dead, .inr rfl⟩,uI aM aJ⟩, ?_⟩;intro z2 m1 w a ws ao;obtain ⟨c,ng,g1,g2,g3⟩:=ao;cases g1;refine ⟨⟨b,ng,rfl,⟨g2.ay,g2.lt,g2.dead, .inl aj⟩,aj,sz g3⟩,fun ad ar=> ?_⟩;subst ar;rw[Ig aM ad];exact ⟨b,ng,rfl,⟨g2.ay,g2.lt,g2.dead, .inl aj⟩,aj,sz g3⟩
 ·rename_i cS cs w di;cases di;obtain ⟨ak,aM⟩:=eA aM;subst ak;obtain ⟨c,ds,h1,J,aJ⟩:=ag;cases h1;refine ⟨rfl,J.fresh,fun vs'=>⟨b,ds,rfl,⟨J.ay,J.lt,J.dead, .inr rfl⟩,uI aM aJ⟩, ?_⟩;intro z2 m1 w a ws ao;obtain ⟨c,ng,g1,g2,g3⟩:=ao;cases g1;refine ⟨⟨b,ng,rfl,⟨g2.ay,g2.lt,g2.dead,J.fresh⟩,sz g3⟩,fun ad ar=> ?_⟩;subst ar;rw[Ig aM ad];exact ⟨b,ng,rfl,⟨g2.ay,g2.lt,g2.dead,J.fresh⟩,sz g3⟩
 ·cases aM
def bZ.quiet (d:bZ D):Bool:=d.flat&&d.h2.isNone
def b8 (X:dk P D) (d:bZ D) (F:d.F):Prop:=∀(bA:List (aN D)) (O:List (aG D)) {ae:Type} (K:aN D->List (aG D)->Option ae) (r:ae) {z:Nat->aV} {e m:Mem} {k:Option Nat} {vs:List arh} (args:List arh),
 bd X.G O z e m k vs->a1 (rel X.G z vs) bA args->d.call X F bA O K=are r->fR P d.f args.toArray m fun v m'=>cF X O z e k vs K r v m'/\(d.quiet=arf->m'=m)/\∃q,eY m m' q/\nd vs (p2 bA) q
theorem eX.J4 {q:Option Nat} (h:eX m m1 q):eY m m1 q:=⟨h.next,h.ay⟩
theorem Xz {i off d:Nat}:∀{l:List (aN D)} {n:Nat},dQ (j5 n l) d= .box i off->i∈p2 l
 |[],n,h=>by cases h
 |s::l,n,h=>by
  simp only[j5,dQ] at h;split at h
  ·subst h;exact arS
  ·have:=Xz h;cases s<;>first|exact this|exact arK _ this
theorem Jl.call {d:bZ D} {F:d.F} (bM:Jl P X d F):b8 X d F:=by
 intro bA O ae K r z e m k vs args au b5 h;obtain ⟨fn,c,f1,f2,f3,f4,f5,dS⟩:=bM.ex;have iC:=bM.new;have U4:=bM.aoh;unfold bZ.call at h;obtain ⟨hlen,h⟩:=eA h;have hlen:=arB hlen;split at h
 ·rename_i jh bB aK;obtain ⟨U,h⟩:=eA h;split at h
  ·rename_i x ab;have bu:args.toArray.size<=fn.ntmps:=by
    rw[List.size_toArray,<-b5.length,hlen];exact arG f4
   have aP:∀fr:Nat->arh,(∀i v,args.toArray.toList[i]? =are v->fr i=v)->ef X z vs (j5 0 bA) fr:=fun fr fB=>GN b5 fun j v ap=>by rw[arE];exact fB j v (by simpa using ap)
   obtain ⟨f,np,ins,fx,h2,qd,outs,lD,kK,flat⟩:=d;cases h2 with
   |none=>
    obtain ⟨y,ah,h⟩:=bind_some h;split at h
    ·rename_i sv r7;have body:∀fr:Nat->arh,(∀i v,args.toArray.toList[i]? =are v->fr i=v)->W P c (fun ex cd m1=>(ex= .normal\/ex= .ret)/\∃bR z2 c3,Inv O bB/\cz e.next z bR/\bd X.G bB bR e m k vs/\cz m.next bR z2/\bd X.G (dC X outs (eK outs y)) z2 m m1 ari c3/\∃ff,ov P cd m1 kK ((j6 mw kK).map ff)/\(rel X.G z2 (vs++c3) sv (pack ((j6 mw kK).map ff))/\(((j6 mw kK).map ff).length=1\/∀x∈(j6 mw kK).map ff,storable x=arf))) fr m:=by
      intro fr fB;obtain ⟨bR,g0,g1,g2,g3⟩:=uz au (aP fr fB) aK;have BK:=OI (bY:=[]) ((aP fr fB).mono g1.le fun _ _ h=>h) g3 ab U;refine (dS () x y (z:=bR) (m:=m) (kk:=ari) (bY:=[]) ah g2.nil (Dd fun p an=>BK p (by simpa[Dx] using an))).mono ?_;rintro ex cd m1 ⟨he,ff,cI,z2,c3,bm,br,dj⟩;have br:bd X.G (dC X outs (eK outs y)) z2 m m1 ari c3:=br;refine ⟨he,bR,z2,c3,g0,g1,g2,bm,br,ff,cI,O7 (Zd (bY:=c3) iC U4 dj fun j u hu=> ?_) r7⟩;show (vs++c3)[bB.length+j]? =are u;rw[arP (by rw[g2.len];omega),g2.len,show bB.length+j - bB.length=j by omega];exact hu
     split at h
     ·split at h
      ·rename_i w hw;obtain ⟨bD,dR⟩:=Wq (X:=X) (z:=z) (vs:=vs) hw;refine (fR.flat (z:=z) f1 f2 f3 bu dR fun fr fB=>(body fr fB).mono ?_).mono ?_
       ·rintro ex cd m1 ⟨he,bR,z2,c3,_,_,_,_,br,ff,cI,dj,gk⟩;exact ⟨he,z2,br.aR,_,by rw[f5];exact cI,gk,(XV hw dj).1⟩
       ·rintro v m' ⟨rfl,rfl⟩;exact ⟨cF.here au bD h,fun _=>rfl,ari,eY.refl _, .inl rfl⟩
      ·cases h
     ·rename_i qI;refine fR.any f1 f2 f3 bu fun fr fB=>(body fr fB).mono ?_;rintro ex cd m1 ⟨he,bR,z2,c3,g0,g1,g2,bm,br,ff,cI,dj,gk⟩;obtain ⟨s1,s2⟩:=YL (e:=e) (k:=k) g2.aR br.aR (by simp);refine ⟨he,_,by rw[f5];exact cI,gk,⟨z2,vs++c3,sv,_,g0.trans (Inv.app _ _),g1.trans (bm.Eu au.aR.next),ih, ?_,dj,h⟩,fun aF=>absurd (by simpa[bZ.quiet] using aF) qI,ari,s2.J4, .inl rfl⟩;have aj:=g2.call bm s2 s1 rfl fun j o' ap=> .inl ⟨ap,fun _ v _=>dV.qX⟩;have aeg:∀(j:Nat) (u:arh),([]++c3)[j]? =are u->(vs++c3)[bB.length+j]? =are u:=fun j u hu=>by
       rw[arP (by rw[g2.len];omega),g2.len,show bB.length+j - bB.length=j by omega];exact hu
      exact after (lQ:=[]) (bY:=[]) g2 aj br rfl iC (fun j o v ag aa ai b ab=>((g2.obj j o v ag aa).lt ai b ab).1) aeg
    ·cases h
   |some p=>
    unfold CY at h;dsimp only at h;split at h
    ·rename_i i af;split at h
     ·rename_i o ag;obtain ⟨DB,Mz,h⟩:=bind_some h;obtain ⟨y,ah,h⟩:=bind_some h;split at h
      ·rename_i sv r7;refine fR.any f1 f2 f3 bu fun fr fB=> ?_;obtain ⟨bR,g0,g1,g2,g3⟩:=uz au (aP fr fB) aK;have BK:=fun bY=>OI (bY:=bY) ((aP fr fB).mono g1.le fun _ _ h=>h) g3 ab U;have an:=aP fr fB p.1;rw[af] at an;obtain ⟨b,fe,hg⟩:=an;have bP:=g2.obj i o _ ag fe;obtain ⟨gv,fQ,Qy,Dw⟩:=akp Mz bP;have acS:bd X.G (pq X (are p) DB) bR m m (are b) [.pointer (are ⟨b,0,ari⟩)]:=by
        refine ⟨cu.start g2.aR.a6 g2.aR.dead,rfl,fun j o' v ap aa=> ?_,fun a bV o' so v w eD ar ch=> ?_⟩
        ·cases j with
         |zero=>simp[pq] at ap aa;subst ap aa;exact Qy _
         |succ j=>simp[pq] at ap
        ·cases a with
         |zero=>cases bV with
          |zero=>exact absurd rfl eD
          |succ bV=>simp[pq] at ch
         |succ a=>simp[pq] at ar
       refine (dS DB x y (z:=bR) (m:=m) (kk:=are b) (bY:=[.pointer (are ⟨b,0,ari⟩)]) ah acS (Dd fun q aF=> ?_)).mono ?_
       ·rcases arO.1 aF with aF|aF
        ·exact BK _ q (arO.2 (.inl aF))
        ·rcases arO.1 aF with aF|aF
         ·exact BK _ q (arO.2 (.inr aF))
         ·simp only[Dx,arA,List.not_mem_nil,or_false] at aF;subst aF;exact ⟨b,rfl,hg⟩
       rintro ex cd m1 ⟨he,ff,cI,z2,c3,bm,br,dj⟩;obtain ⟨s1,s2⟩:=YL (e:=e) (k:=k) g2.aR br.aR (fun c ad=>by cases ad;exact fQ);have adI:i<bB.length:=(arp.1 ag).1;have n4:∀(j:Nat) (u:arh),([arh.pointer (are ⟨b,0,ari⟩)]++c3)[j]? =are u->(vs++c3)[wo i bB.length j]? =are u:=by
        intro j u hu;cases j with
        |zero=>simp at hu;subst hu;show (vs++c3)[i]? =_;exact ih _ _ fe
        |succ j=>simp at hu;show (vs++c3)[bB.length+(j+1 - 1)]? =_;rw[arP (by rw[g2.len];omega),g2.len,show bB.length+(j+1 - 1) - bB.length=j by omega];exact hu
       have pP:=O7 (Zd iC U4 dj n4) r7;have br:bd X.G (([if qd=1 then (.recv p.2 (hB X p.2 DB) arj:aG D) else if qd=2 then ik X wb outs (eK outs y) 0 else .dead]:List (aG D))++dC X outs (eK outs y)) z2 m m1 (are b) ([.pointer (are ⟨b,0,ari⟩)]++c3):=br;have ax:=br.obj 0 _ (.pointer (are ⟨b,0,ari⟩)) rfl rfl;have apart:∀(j:Nat) (o':aG D),j≠i->bB[j]? =are o'->o'.live=arf->∀v,vs[j]? =are v->dV (cT v) (are b):=fun j o' kg ap ai v aa=>g2.eu j i o' o v _ kg ap ag ai gv aa fe;have M3:∀(j:Nat) (o':aG D) (v:arh),bB[j]? =are o'->vs[j]? =are v->o'.live=arf->∀c,cT v=are c->c<m.next:=fun j o' v ag aa ai c ad=>((g2.obj j o' v ag aa).lt ai c ad).1;have fin:∀{rz:List (aG D)},Inv bB rz->bd X.G rz z2 e m1 k vs->(∀(j:Nat) (o':aG D) (v:arh),rz[j]? =are o'->vs[j]? =are v->o'.live=arf->∀c,cT v=are c->c<m.next)->K sv (rz++mkOr X (wo i bB.length) outs (eK outs y))=are r->cF X O z e k vs K r (pack ((j6 mw kK).map ff)) m1:=by intro rz Fl aj aO fA;exact ⟨z2,vs++c3,sv,_,(g0.trans Fl).trans (Inv.app _ _),g1.trans (bm.Eu au.aR.next),ih,after g2 aj br rfl iC aO n4,pP.1,fA⟩
       have mW:∀{si:aG D},si.la=arf->(∀v,vs[i]? =are v->fs X.G z2 e m1 k vs si v)->K sv (bB.set i si++mkOr X (wo i bB.length) outs (eK outs y))=are r->cF X O z e k vs K r (pack ((j6 mw kK).map ff)) m1:=by
        intro si ak aj fA;refine fin (Inv.set bB i (.inr ak)) (g2.call bm s2 s1 (by simp) fun j o' ap=> ?_) (fun j o' v ap aa ai c ad=> ?_) fA
        ·rw[arY] at ap;split at ap
         ·rename_i cQ;subst cQ;simp[adI] at ap;subst ap;exact .inr ⟨o,ag,gv,aj⟩
         ·rename_i cQ;exact .inl ⟨ap,fun ai v aa=>apart j o' (fun e=>cQ e.symm) ap ai v aa⟩
        ·rw[arY] at ap;split at ap
         ·rename_i cQ;subst cQ;exact M3 i o v ag aa gv c ad
         ·exact M3 j o' v ap aa ai c ad
       refine ⟨he,_,by rw[f5];exact cI,pP.2, ?_,fun aF=>absurd aF (by simp[bZ.quiet]),are b,s2.J4, .inr ⟨i,Xz af,_,fe,rfl⟩⟩;split at h
       ·rename_i rV;rw[if_neg (by omega),if_pos rV] at ax;split at h
        ·rename_i t cs w hu;obtain ⟨ak,h⟩:=eA h;rcases sw (X:=X) (aC:=outs) (x:=eK outs y) (j:=0) with aw|⟨_,bg,a',_,aw⟩
         ·rw[aw] at hu;cases hu
         ·cases bg with
          |recv cS=>
           have aw:=aw wb;have jU:=aw;rw[hu] at aw;simp only[bt.eZ] at aw;cases aw;subst ak;rw[jU] at ax;refine mW ?_ (fun v aa=> ?_) h
           ·unfold Dy;split<;>rfl
           ·rw[fe] at aa;cases aa;exact (Dw ax).1
          |_=>rw[aw] at hu;cases hu
        ·cases h
       ·obtain ⟨o0,h⟩:=eA h;rw[if_pos o0] at ax;split at h
        ·rename_i hv;refine fin (Inv.refl bB) (g2.call bm s2 s1 rfl fun j o' ap=> ?_) M3 h;by_cases kg:j=i
         ·subst kg;rw[ag] at ap;cases ap;exact .inr ⟨o,ag,gv,fun v aa=>by rw[fe] at aa;cases aa;exact (Dw ax).2 hv rfl⟩
         ·exact .inl ⟨ap,fun ai v aa=>apart j o' kg ap ai v aa⟩
        ·refine mW ?_ (fun v aa=> ?_) h
         ·unfold Dy;split<;>rfl
         ·rw[fe] at aa;cases aa;exact (Dw ax).1
      ·cases h
     ·cases h
    ·cases h
  ·cases h
 ·cases h
structure nP (D:Nat->Type) where
 d:bZ D
 F:d.F
def bZ.fits (X:dk P D) (d:bZ D) (bA:List (aN D)) (O:List (aG D)):Bool:=
 aru bA.length d.np&&match pH (j5 0 bA) d.ins O with
 |some (jh,bB)=>(d.fx.all fun p=>tE [] p.2 (dQ (j5 0 bA) p.1))&&(gl X [] bB d.ins jh []).isSome
 |none=>arj
def CJ (X:dk P D):List (nP D)->Nat->List (aN D)->List (aG D)->{ae:Type}->(aN D->List (aG D)->Option ae)->Option ae
 |[],_,_,_,_,_=>ari
 |x::l,f,bA,O,_,K=>if (aru x.d.f f&&x.d.fits X bA O)=arf then x.d.call X x.F bA O K else CJ X l f bA O K
def C6 (X:dk P D):List (nP D)->Nat->List (aN D)->List (aG D)->Bool
 |[],_,_,_=>arj
 |x::l,f,bA,O=>if (aru x.d.f f&&x.d.fits X bA O)=arf then x.d.quiet else C6 X l f bA O
structure ir (D:Nat->Type) where
 F:(f:Nat)->List (aN D)->List (aG D)->Bool
 dq:arm->Option arm->Option arm->Nat
 C:(f:Nat)->List (aN D)->List (aG D)->{ae:Type}->(aN D->List (aG D)->Option ae)->Option ae
 W:(f:Nat)->Bool
def dk.ey (X:dk P D) (q:ir D):dk P D:={X with C:=q.C,F:=q.F,dq:=q.dq,W:=q.W}
def dk.with (X:dk P D) (l:List (nP D)):dk P D:=X.ey ⟨C6 X l,X.dq,CJ X l,X.W⟩
def dk.oS (X:dk P D) (f:arm->Option arm->Option arm->Nat):dk P D:=X.ey ⟨X.F,f,X.C,X.W⟩
theorem ai5 (l:ir D) (t:Nat):tg (X.ey l) t=tg X t:=by
 cases cA:X.I t with
 |none=>have J:(X.ey l).I t=ari:=cA;unfold tg;rw[cA,J]
 |some ti=>have J:(X.ey l).I t=are ti:=cA;unfold tg;rw[cA,J]
theorem wC (l:ir D) (t:Nat) (x:D t):hB (X.ey l) t x=hB X t x:=by
 cases cA:X.I t with
 |none=>have J:(X.ey l).I t=ari:=cA;unfold hB;rw[cA,J]
 |some ti=>have J:(X.ey l).I t=are ti:=cA;unfold hB;rw[cA,J]
theorem uw (l:ir D) (t:Nat) (cs:List (bC D)):k6 (X.ey l) t cs=k6 X t cs:=by
 cases cA:X.I t with
 |none=>have J:(X.ey l).I t=ari:=cA;unfold k6;rw[cA,J]
 |some ti=>have J:(X.ey l).I t=are ti:=cA;unfold k6;rw[cA,J]
theorem Wt (l:ir D):∀(ts:List Nat) (x:ub D ts),sA (X.ey l) ts x=sA X ts x
 |[],_=>rfl
 |t::ts,x=>by show (t,hB (X.ey l) t x.1)::sA (X.ey l) ts x.2=(t,hB X t x.1)::sA X ts x.2;rw[Wt l ts x.2,wC l t x.1]
theorem Ws (l:ir D):∀(ts:List Nat) (x:List (Nat×List (bC D))),wW (X.ey l) ts x=wW X ts x
 |[],[]=>rfl
 |[],_::_=>rfl
 |_::_,[]=>rfl
 |t::ts,p::x=>by simp only[wW,Ws l ts x,uw]
theorem e5.M7 (l:ir D) (c:e5) (x:c.ty D):e5.mk (X.ey l) c x=e5.mk X c x:=by
 cases c with
 |fn f ts=>exact congrArg (aN.fn f) (Wt l ts x)
 |agg t=>exact congrArg (aN.agg t) (wC l t x)
 |gw t=>exact congrArg (fun cs=>aN.gw t cs 0) (wC l t x)
 |_=>rfl
theorem e5.EZ (l:ir D) (c:e5) (s:aN D):e5.get (X.ey l) c s=e5.get X c s:=by
 unfold e5.get;split
 ·rfl
 ·rfl
 ·rfl
 ·rfl
 ·rfl
 ·rfl
 ·rfl
 ·rename_i t cS cs;exact congrArg (fun q:Option (D t)=>if cS=t then q else ari) (uw l t cs)
 ·rename_i t cS cs off;exact congrArg (fun q:Option (D t)=>if cS=t/\off=0 then q else ari) (uw l t cs)
 ·rename_i f ts jS cs;exact congrArg (fun q:Option (ub D ts)=>if jS=f then q else ari) (Ws l ts cs)
 ·rfl
 ·rfl
theorem bt.FW (l:ir D) (bN:Nat->Nat) (c:bt) (x:c.ty D) (w:Bool):bt.eZ (X.ey l) bN c x w=bt.eZ X bN c x w:=by
 cases c with
 |box t=>exact congrArg (fun cs=>aG.box t cs arj w) (wC l t x)
 |recv t=>exact congrArg (fun cs=>aG.recv t cs w) (wC l t x)
 |eH t p=>exact congrArg (fun cs=>aG.box t (nD bN p 0 cs) arj w) (wC l t x)
 |_=>rfl
theorem bt.M7 (l:ir D) (c:bt) (x:c.ty D) (w:Bool):bt.mk (X.ey l) c x w=bt.mk X c x w:=bt.FW l _ c x w
theorem bt.EZ (l:ir D) (aX:List Nat) (c:bt) (o:aG D):bt.get (X.ey l) aX c o=bt.get X aX c o:=by
 unfold bt.get;split
 ·rfl
 ·rename_i t cS cs w;exact congrArg (fun q:Option (D t)=>if cS=t then q else ari) (uw l t cs)
 ·rename_i t cS cs w;exact congrArg (fun q:Option (D t)=>if cS=t then q else ari) (uw l t cs)
 ·rfl
 ·rfl
 ·rename_i t p cS cs w;rw[ai5];exact congrArg (fun q:Option (D t)=>if cS=t/\Dl aX cs p=arf then q else ari) (uw l t (pZ (tg X t) p 0 cs))
 ·rfl
 ·rfl
 ·rfl
theorem ahr (l:ir D) (t:Nat) (o:Option (aG D)):zV (X.ey l) t o=zV X t o:=by
 unfold zV;split
 ·rw[uw]
 ·rw[uw]
 ·rfl
theorem Cx (l:ir D) {eF:List Nat}:∀(aC:List c7) (jh:List (aN D)) (aX:List Nat),gl (X.ey l) eF O aC jh aX=gl X eF O aC jh aX
 |[],_,[]=>rfl
 |[],_,_::_=>by simp[gl]
 | .v _ _::_,[],_=>by simp[gl]
 | .o _ _::_,[],_=>by simp[gl]
 | .u _ _::_,[],_=>by simp[gl]
 | .v d c::aC,s::jh,aX=>by simp only[gl,e5.EZ,Cx l aC jh aX]
 | .o d c::aC,s::jh,[]=>rfl
 | .o d c::aC,s::jh,i::aX=>by simp only[gl,bt.EZ,Cx l aC jh aX]
 | .u d c::aC,s::jh,aX=>by simp only[gl,bt.EZ,Cx l aC jh aX]
theorem Ox (l:ir D):∀(aC:List c7) (x:dD D aC),dC (X.ey l) aC x=dC X aC x
 |[],_=>rfl
 | .v d c::aC,x=>Ox l aC x.2
 | .u d c::aC,x=>Ox l aC x.2
 | .o d c::aC,x=>by show bt.mk (X.ey l) c x.1 arj::dC (X.ey l) aC x.2=bt.mk X c x.1 arj::dC X aC x.2;rw[Ox l aC x.2];exact congrArg (fun q=>q::dC X aC x.2) (bt.M7 l c x.1 arj)
theorem zh (l:ir D) {bN:Nat->Nat}:∀(aC:List c7) (x:dD D aC),mkOr (X.ey l) bN aC x=mkOr X bN aC x
 |[],_=>rfl
 | .v d c::aC,x=>zh l aC x.2
 | .u d c::aC,x=>zh l aC x.2
 | .o d c::aC,x=>by show bt.eZ (X.ey l) bN c x.1 arj::mkOr (X.ey l) bN aC x.2=bt.eZ X bN c x.1 arj::mkOr X bN aC x.2;rw[zh l aC x.2];exact congrArg (fun q=>q::mkOr X bN aC x.2) (bt.FW l bN c x.1 arj)
theorem zt (l:ir D):∀(aC:List c7) (x:dD D aC),fO (X.ey l) aC x=fO X aC x
 |[],_=>rfl
 | .v d c::aC,x=>by show (d,e5.mk (X.ey l) c x.1)::fO (X.ey l) aC x.2=(d,e5.mk X c x.1)::fO X aC x.2;rw[zt l aC x.2];exact congrArg (fun q=>(d,q)::fO X aC x.2) (e5.M7 l c x.1)
 | .u d c::aC,x=>zt l aC x.2
 | .o d c::aC,x=>zt l aC x.2
theorem Cb (l:ir D) {bN:Nat->Nat}:∀(aC:List c7) (x:dD D aC) (j:Nat),ik (X.ey l) bN aC x j=ik X bN aC x j
 |[],_,_=>rfl
 | .v d c::aC,x,j=>Cb l aC x.2 j
 | .u d c::aC,x,j=>by show (if aru d j=arf then bt.eZ (X.ey l) bN c x.1 arf else ik (X.ey l) bN aC x.2 j)=(if aru d j=arf then bt.eZ X bN c x.1 arf else ik X bN aC x.2 j);rw[Cb l aC x.2 j];exact congrArg (fun q=>if aru d j=arf then q else ik X bN aC x.2 j) (bt.FW l bN c x.1 arf)
 | .o d c::aC,x,j=>Cb l aC x.2 j
theorem Cm (l:ir D) (d:bZ D) (F:d.F) (bA:List (aN D)) (O:List (aG D)) {ae:Type} (K:aN D->List (aG D)->Option ae):d.call (X.ey l) F bA O K=d.call X F bA O K:=by
 obtain ⟨f,np,ins,fx,h2,qd,outs,lD,cv,flat⟩:=d;unfold bZ.call;dsimp only;simp only[Cx];cases h2 with
 |none=>simp only[CY,zt,zh]
 |some p=>simp only[CY,zt,zh,Cb,ahr,wC]
theorem fL.oS {f:arm->Option arm->Option arm->Nat} (h:fL X):fL (X.oS f):=h
theorem b8.oS {f:arm->Option arm->Option arm->Nat} {d:bZ D} {F:d.F} (h:b8 (X.oS f) d F):b8 X d F:=by
 intro bA O ae K r z e m k vs args au b5 ad;rw[<-Cm ⟨X.F,f,X.C,X.W⟩] at ad;exact h bA O K r args au b5 ad
def dk.sub (X:dk P D) (x:nP D):dk P D:=X.ey ⟨fun f bA O=>if aru x.d.f f=arf then arj else X.F f bA O,X.dq,fun f bA O _ K=>if aru x.d.f f=arf then x.d.call X x.F bA O K else X.C f bA O K,X.W⟩
theorem fL.sub {x:nP D} (h:fL X) (U:b8 X x.d x.F):fL (X.sub x):=by
 intro f bA O ae K r z e m k vs args au b5 ad;have ad:(if aru x.d.f f=arf then x.d.call X x.F bA O K else X.C f bA O K)=are r:=ad;have bM:(X.sub x).F f bA O=if aru x.d.f f=arf then arj else X.F f bA O:=rfl
 rw[bM];split at ad
 ·rename_i aK;rw[if_pos aK];have aK:=arB aK;rw[<-aK];exact (U bA O K r args au b5 ad).mono fun v m' h=>⟨h.1,fun ax=>aut ax,fun _=>h.2.2⟩
 ·rename_i aK;rw[if_neg aK];exact h f bA O K r args au b5 ad
theorem b8.sub {x:nP D} {d:bZ D} {F:d.F} (h:b8 (X.sub x) d F):b8 X d F:=by
 intro bA O ae K r z e m k vs args au b5 ad;unfold dk.sub at h;rw[<-Cm ⟨fun f bA O=>if aru x.d.f f=arf then arj else X.F f bA O,X.dq,fun f bA O _ K=>if aru x.d.f f=arf then x.d.call X x.F bA O K else X.C f bA O K,X.W⟩] at ad;exact h bA O K r args au b5 ad
def F5 {al:Type} (a b:Option al):Option al:=match a with|some r=>are r|none=>b
theorem alD {al:Type} {a b:Option al} {y:al} (h:F5 a b=are y):a=are y\/b=are y:=by
 unfold F5 at h;split at h
 ·exact .inl h
 ·exact .inr h
theorem b8.or {d:bZ D} {F As Au:d.F} (ao:d.h2=ari) (bM:∀r x y,F r x=are y->As r x=are y\/Au r x=are y) (h1:b8 X d As) (J:b8 X d Au):b8 X d F:=by
 intro bA O ae K r z e m k vs args au b5 ad;have key:d.call X As bA O K=are r\/d.call X Au bA O K=are r:=by
  obtain ⟨f,np,ins,fx,h2,qd,outs,lD,kK,flat⟩:=d;unfold bZ.call at ad⊢;obtain ⟨av,ad⟩:=eA ad;rw[if_pos av,if_pos av];split at ad
  ·rename_i jh bB aK;obtain ⟨U,ad⟩:=eA ad;simp only[aK,if_pos U];split at ad
   ·rename_i x ab;simp only[ab];cases h2 with
    |none=>
     unfold CY at ad⊢;obtain ⟨y,ah,ad⟩:=bind_some ad;rcases bM () x y ah with g|g
     ·left;show ark (As () x) _=are r;rw[g];exact ad
     ·right;show ark (Au () x) _=are r;rw[g];exact ad
    |some p=>cases ao
   ·cases ad
  ·cases ad
 rcases key with hk|hk
 ·exact h1 bA O K r args au b5 hk
 ·exact J bA O K r args au b5 hk
theorem b8.up {l:List (nP D)} {d:bZ D} {F:d.F} (h:b8 X d F):b8 (X.with l) d F:=by
 intro bA O ae K r z e m k vs args au b5 ad;have ad:d.call (X.ey ⟨C6 X l,X.dq,CJ X l,X.W⟩) F bA O K=are r:=ad;rw[Cm] at ad;exact h bA O K r args au b5 ad
theorem Wr {f:Nat} {bA:List (aN D)} {K:aN D->List (aG D)->Option ae} {args:List arh} (au:bd X.G O z e m k vs) (b5:a1 (rel X.G z vs) bA args):∀{l:List (nP D)},(∀x∈l,b8 X x.d x.F)->CJ X l f bA O K=are r->fR P f args.toArray m fun v m'=>cF X O z e k vs K r v m'/\(C6 X l f bA O=arf->m'=m)/\∃q,eY m m' q/\nd vs (p2 bA) q
 |[],_,ad=>by cases ad
 |x::l,h,ad=>by
  unfold CJ at ad;unfold C6;split at ad
  ·rename_i U;rw[if_pos U];simp only[arq] at U;have:=arB U.1;subst this;exact h x arS bA O K r args au b5 ad
  ·rename_i U;rw[if_neg U];exact Wr au b5 (fun y ah=>h y (arK _ ah)) ad
theorem fL.of {l:List (nP D)} (h:∀x∈l,b8 X x.d x.F):fL (X.with l):=by
 intro f bA O ae K r z e m k vs args au b5 ad;exact (Wr (X:=X) au b5 h ad).mono fun v m' ax=>⟨ax.1,ax.2.1,fun _=>ax.2.2⟩
theorem agF {l:List (nP D)} {x:nP D} (h:b8 X x.d x.F) (ai:∀y∈l,b8 X y.d y.F):∀y∈x::l,b8 X y.d y.F:=by
 intro y ah;rcases arA.1 ah with rfl|ah
 ·exact h
 ·exact ai y ah
end
end
end Go.aQ
end
